/- The law's walk: JitterAdds. -/
import Derived.Test.YtgegjaoginmioaaJitLaws
namespace Go.Proofs.Ytgegjaoginmioaa
open Go.RowKit

set_option maxRecDepth 100000 in
set_option maxHeartbeats 4000000 in
theorem adds_walk (a : Option Addr) (cap : Nat) (l : List Int) (w : World) (hr : Reads w .i64 a l) (hm : l.length ≤ maxLen) (hwf : ∀ x ∈ l, (Lit.int .i64 x).wf = true) :
    Calls Try.prog 7 #[.slice a l.length cap] w fun e w' => e = .returned (.bool true) ∧ Below w.heap.size w w' := by
  unfold maxLen at hm
  have HR := Lib.hid hr
  have HW := Lib.hid hwf
  clear hr hwf
  go_enter Try.func7, Try.ntmps7
  go_wp2_with fail
  refine (jnew_calls _).mono ?_
  rintro e w1 ⟨rfl, rfl⟩
  go_wp2_with fail
  refine (alive_calls _).mono ?_
  rintro e w1 ⟨rfl, rfl⟩
  go_wp2_with fail
  refine (add_nil _ _).mono ?_
  rintro e w1 ⟨rfl, K1⟩
  have b1 : Blk w1 w.heap.size [.int .i64 0, .int .i64 0] 39 := K1.blk (Blk.new w _ _) (fun h => h)
  have HK := Lib.hid K1
  have HB := Lib.hid b1
  have HL : Hid (Below w.heap.size w w1) := Lib.hid (((Below.refl _ w).alloc (Nat.le_refl _) _).trans (K1.below (B := w.heap.size) (by simp) (fun _ h => h.elim)))
  clear K1 b1
  go_wp2_with fail
  refine (now_nil _).mono ?_
  rintro e w2 ⟨rfl, rfl⟩
  go_wp2_with fail
  refine (count_nil _).mono ?_
  rintro e w2 ⟨rfl, rfl⟩
  go_wp2_with fail
  refine (now_calls _ _ _ _ HB.out).mono ?_
  rintro e w2 ⟨rfl, rfl⟩
  by_cases h500 : (500 : Int) < l.length
  · go_wp2_with fail
    refine (alive_calls _).mono ?_
    rintro e w1 ⟨rfl, rfl⟩
    go_wp2_with fail
    go_ret
    exact ⟨rfl, HL.out⟩
  · go_wp2_with fail
    go_loopw [5, 48] (fun v i wr => ∃ k : Nat, k ≤ l.length ∧ i = .int .i64 k ∧ v = .int .i64 (est (l.take k)) ∧ Blk wr w.heap.size [.int .i64 (est (l.take k)), .int .i64 k] 39 ∧ Below w.heap.size w wr) (fun _ i _ => l.length - (intOf i).toNat)
    case atStart => exact ⟨0, Nat.zero_le _, rfl, rfl, HB.out, HL.out⟩
    case round =>
      obtain ⟨k, hk, rfl, rfl, hb, hl⟩ := hrel
      have hbd := est_take_bd l k HW.out
      by_cases hlt : k < l.length
      · obtain ⟨bb, off, rfl, hbb, hcell⟩ := HR.out (by omega)
        have hx := getD_bd l k HW.out
        have hc : wr.cell? ⟨bb, off + k, none⟩ = some (.int .i64 (l.getD k 0)) := (hl.cell (p := ⟨bb, off + k, none⟩) hbb).trans (hcell k hlt)
        have hs := Lib.hid (est_take l k hlt)
        clear hcell
        generalize l.getD k 0 = x at *
        generalize est (l.take k) = y at *
        have hb1 := Lib.hid hb
        have hl1 := Lib.hid hl
        clear hb hl
        go_wp2_with fail
        refine (ref_calls y x _ (by omega) (by omega) (by omega) (by omega)).mono ?_
        rintro e w3 ⟨rfl, rfl⟩
        have hbd2 := stepJ_nonneg y x
        have hbd3 := stepJ_le y x (by omega) (by omega)
        go_wp2_with fail
        refine (add_calls _ _ y k x (by omega) (by omega) (by omega) (by omega) (by omega) (by omega) hb1.out).mono ?_
        rintro e w3 ⟨rfl, hb2, hl2⟩
        have hb3 := Lib.hid hb2
        have hl3 := Lib.hid (hl1.out.trans (hl2.below (B := w.heap.size) hl1.out.size (by rintro k rfl; omega)))
        clear hb2 hl2
        go_wp2_with fail
        refine (now_calls _ _ _ _ hb3.out).mono ?_
        rintro e w4 ⟨rfl, rfl⟩
        go_wp2_with fail
        refine (count_calls _ _ _ _ hb3.out).mono ?_
        rintro e w4 ⟨rfl, rfl⟩
        go_wp2_with fail
        refine ⟨⟨k + 1, by omega, by go_num, by rw [hs.out], by rw [hs.out]; exact hb3.out, hl3.out⟩, by simp [intOf]; omega⟩
      · go_wp2_with fail
        go_ret
        exact ⟨rfl, hl⟩

end Go.Proofs.Ytgegjaoginmioaa
