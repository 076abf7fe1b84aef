/- The law's walk: JitterBounds. -/
import Derived.Test.YtgegjaoginmioaaJitLaws
namespace Go.Proofs.Ytgegjaoginmioaa
open Go.RowKit

theorem stepJ_between (y x : Int) (hy : 0 ≤ y) : (x ≤ 0 ∧ stepJ y x ≤ y ∧ 0 ≤ stepJ y x) ∨ (0 < x ∧ x ≤ y ∧ x ≤ stepJ y x ∧ stepJ y x ≤ y) ∨ (0 < x ∧ y < x ∧ y ≤ stepJ y x ∧ stepJ y x ≤ x) := by
  unfold stepJ; omega

set_option maxRecDepth 100000 in
set_option maxHeartbeats 4000000 in
theorem bounds_walk (a : Option Addr) (cap : Nat) (l : List Int) (w : World) (hr : Reads w .i64 a l) (hm : l.length ≤ maxLen) (hwf : ∀ x ∈ l, (Lit.int .i64 x).wf = true) :
    Calls Try.prog 6 #[.slice a l.length cap] w fun e w' => e = .returned (.bool true) ∧ Below w.heap.size w w' := by
  unfold maxLen at hm
  have HR := Lib.hid hr
  have HW := Lib.hid hwf
  clear hr hwf
  go_enter Try.func6, Try.ntmps6
  go_wp2_with fail
  refine (jnew_calls _).mono ?_
  rintro e w1 ⟨rfl, rfl⟩
  go_wp2_with fail
  refine (alive_calls _).mono ?_
  rintro e w1 ⟨rfl, rfl⟩
  have HB := Lib.hid (Blk.new w [.int .i64 0, .int .i64 0] 39)
  have HL := Lib.hid ((Below.refl w.heap.size w).alloc (Nat.le_refl _) (.cells [.int .i64 0, .int .i64 0].toArray 39))
  by_cases h500 : (500 : Int) < l.length
  · go_wp2_with fail
    refine (alive_calls _).mono ?_
    rintro e w1 ⟨rfl, rfl⟩
    go_wp2_with fail
    go_ret
    exact ⟨rfl, HL.out⟩
  · go_wp2_with fail
    go_loopw [4, 25] (fun v i wr => ∃ (k : Nat) (t y : Int), k ≤ l.length ∧ i = .int .i64 k ∧ v = .int .i64 t ∧ 0 ≤ y ∧ y ≤ t ∧ t ≤ 9223372036854775807 ∧ Blk wr w.heap.size [.int .i64 y, .int .i64 k] 39 ∧ Below w.heap.size w wr) (fun _ i _ => l.length - (intOf i).toNat)
    case atStart => exact ⟨0, 0, 0, Nat.zero_le _, rfl, rfl, by omega, by omega, by omega, HB.out, HL.out⟩
    case round =>
      obtain ⟨k, t, y, hk, rfl, rfl, hy0, hyt, htm, hb, hl⟩ := hrel
      by_cases hlt : k < l.length
      · obtain ⟨bb, off, rfl, hbb, hcell⟩ := HR.out (by omega)
        have hx := getD_bd l k HW.out
        have hc : wr.cell? ⟨bb, off + k, none⟩ = some (.int .i64 (l.getD k 0)) := (hl.cell (p := ⟨bb, off + k, none⟩) hbb).trans (hcell k hlt)
        clear hcell
        generalize l.getD k 0 = x at *
        have hb1 := Lib.hid hb
        have hl1 := Lib.hid hl
        clear hb hl
        have hbt := stepJ_between y x hy0
        go_wp2_with fail
        refine (now_calls _ _ _ _ hb1.out).mono ?_
        rintro e w3 ⟨rfl, rfl⟩
        go_wp2_with fail
        refine (add_calls _ _ y k x (by omega) (by omega) (by omega) (by omega) (by omega) (by omega) hb1.out).mono ?_
        rintro e w3 ⟨rfl, hb2, hl2⟩
        have hb3 := Lib.hid hb2
        have hl3 := Lib.hid (hl1.out.trans (hl2.below (B := w.heap.size) hl1.out.size (by rintro k rfl; omega)))
        clear hb2 hl2
        go_wp2_with fail
        refine (now_calls _ _ _ _ hb3.out).mono ?_
        rintro e w4 ⟨rfl, rfl⟩
        generalize stepJ y x = z at *
        rcases hbt with ⟨h1, h2, h3⟩ | ⟨h1, h2, h3, h4⟩ | ⟨h1, h2, h3, h4⟩
        all_goals
          go_wp2_with fail
          all_goals exact ⟨⟨k + 1, _, z, by omega, by go_num, rfl, by omega, by omega, by omega, hb3.out, hl3.out⟩, by simp [intOf]; omega⟩
      · go_wp2_with fail
        go_ret
        exact ⟨rfl, hl⟩

end Go.Proofs.Ytgegjaoginmioaa
