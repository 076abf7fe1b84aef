/- The law's walk: JitterSplits. -/
import Derived.Test.YtgegjaoginmioaaJitLaws
namespace Go.Proofs.Ytgegjaoginmioaa
open Go.RowKit

set_option maxRecDepth 100000 in
set_option maxHeartbeats 4000000 in
theorem splits_walk (a : Option Addr) (cap : Nat) (l : List Int) (n : Int) (w : World) (hr : Reads w .i64 a l) (hc : l.length ≤ cap) (_hm : cap ≤ maxLen) (hwf : ∀ x ∈ l, (Lit.int .i64 x).wf = true) (hn0 : 0 ≤ n) (hn : n ≤ 255) :
    Calls Try.prog 8 #[.slice a l.length cap, .int .u8 n] w fun e w' => e = .returned (.bool true) ∧ Below w.heap.size w w' := by
  have HR := Lib.hid hr
  have HW := Lib.hid hwf
  clear hr hwf
  go_enter Try.func8, Try.ntmps8
  go_wp2_with fail
  refine (jnew_calls _).mono ?_
  rintro e w1 ⟨rfl, rfl⟩
  go_wp2_with fail
  refine (alive_calls _).mono ?_
  rintro e w1 ⟨rfl, rfl⟩
  have HB := Lib.hid (Blk.new w [.int .i64 0, .int .i64 0] 39)
  have HL := Lib.hid ((Below.refl w.heap.size w).alloc (Nat.le_refl _) (.cells [.int .i64 0, .int .i64 0].toArray 39))
  by_cases h500 : (300 : Int) < l.length
  · go_wp2_with fail
    refine (alive_calls _).mono ?_
    rintro e w1 ⟨rfl, rfl⟩
    go_wp2_with fail
    go_ret
    exact ⟨rfl, HL.out⟩
  · have hq0 : 0 ≤ n % (↑l.length + 1) := Int.emod_nonneg _ (by omega)
    have hq1 : n % (↑l.length + 1) < ↑l.length + 1 := Int.emod_lt_of_pos _ (by omega)
    go_upto_region 5 with (fail)
    generalize n % (↑l.length + 1) = q at *
    obtain ⟨m, rfl⟩ : ∃ m : Nat, q = (m : Int) := ⟨q.toNat, by omega⟩
    have hml : m ≤ l.length := by omega
    clear hq0 hq1 hn0 hn
    go_wp2_with fail
    go_loopw [35] (fun i wr => ∃ k : Nat, k ≤ m ∧ i = .int .i64 k ∧ Blk wr w.heap.size [.int .i64 (est (l.take k)), .int .i64 k] 39 ∧ Below w.heap.size w wr) (fun i _ => m - (intOf i).toNat)
    case atStart => exact ⟨0, Nat.zero_le _, rfl, HB.out, HL.out⟩
    case round =>
      obtain ⟨k, hk, rfl, hb, hl⟩ := hrel
      have hbd := est_take_bd l k HW.out
      by_cases hlt : k < m
      · obtain ⟨bb, off, rfl, hbb, hcell⟩ := HR.out (by omega)
        have hx := getD_bd l k HW.out
        have hc : wr.cell? ⟨bb, off + k, none⟩ = some (.int .i64 (l.getD k 0)) := (hl.cell (p := ⟨bb, off + k, none⟩) hbb).trans (hcell k (by omega))
        have hs := Lib.hid (est_take l k (by omega))
        clear hcell
        generalize l.getD k 0 = x at *
        generalize est (l.take k) = y at *
        have hb1 := Lib.hid hb
        have hl1 := Lib.hid hl
        clear hb hl
        go_wp2_with fail
        refine (add_calls _ _ y k x (by omega) (by omega) (by omega) (by omega) (by omega) (by omega) hb1.out).mono ?_
        rintro e w3 ⟨rfl, hb2, hl2⟩
        have hb3 := Lib.hid hb2
        have hl3 := Lib.hid (hl1.out.trans (hl2.below (B := w.heap.size) hl1.out.size (by rintro k rfl; omega)))
        clear hb2 hl2
        go_wp2_with fail
        exact ⟨⟨k + 1, by omega, by go_num, by rw [hs.out]; exact hb3.out, hl3.out⟩, by simp [intOf]; omega⟩
      · obtain rfl : k = m := by omega
        have hb0 := Lib.hid hb
        have hl0 := Lib.hid hl
        clear hb hl
        have hkl : k ≤ l.length := by omega
        by_cases hkq : k = l.length
        · subst hkq
          by_cases hcm : cap = l.length
          all_goals
            go_wp2_with fail
            refine (now_calls _ _ _ _ hb0.out).mono ?_
            rintro e w4 ⟨rfl, rfl⟩
            go_wp2_with fail
            go_loopw [9, 49] (fun v i wr => i = .int .i64 0 ∧ wr = w4) (fun _ i _ => 0)
            case atStart => exact ⟨rfl, rfl⟩
            case round =>
              obtain ⟨rfl, rfl⟩ := hrel
              go_wp2_with fail
              refine (count_calls _ _ _ _ hb0.out).mono ?_
              rintro e w4 ⟨rfl, rfl⟩
              go_wp2_with fail
              go_ret
              exact ⟨rfl, hl0.out⟩
        · obtain ⟨bb, off, rfl, hbb, hcell0⟩ := HR.out (by omega)
          have HC := Lib.hid hcell0
          clear hcell0
          have hcm : ¬ cap = k := by omega
          have ea : ((⟨bb, off, none⟩ : Addr).add k) = ⟨bb, off + k, none⟩ := by unfold Addr.add; split <;> simp_all
          go_wp2_with fail
          refine (now_calls _ _ _ _ hb0.out).mono ?_
          rintro e w4 ⟨rfl, rfl⟩
          go_wp2_with fail
          go_loopw [9, 49] (fun v i wr => ∃ q : Nat, k + q ≤ l.length ∧ i = .int .i64 q ∧ v = .int .i64 (est (l.take (k + q))) ∧ Blk wr w.heap.size [.int .i64 (est (l.take (k + q))), .int .i64 ↑(k + q)] 39 ∧ Below w.heap.size w wr) (fun _ i _ => l.length - (intOf i).toNat)
          case atStart => exact ⟨0, hkl, rfl, rfl, hb0.out, hl0.out⟩
          case round =>
            obtain ⟨q, hq, rfl, rfl, hb, hl⟩ := hrel
            have hbd := est_take_bd l (k + q) HW.out
            by_cases hlt : k + q < l.length
            · have hx := getD_bd l (k + q) HW.out
              have hc : wr.cell? ⟨bb, off + k + q, none⟩ = some (.int .i64 (l.getD (k + q) 0)) := by
                have := (hl.cell (p := ⟨bb, off + (k + q), none⟩) hbb).trans (HC.out (k + q) (by omega))
                rw [Nat.add_assoc]; exact this
              have hs := Lib.hid (est_take l (k + q) (by omega))
              generalize l.getD (k + q) 0 = x at *
              generalize est (l.take (k + q)) = y at *
              have hb1 := Lib.hid hb
              have hl1 := Lib.hid hl
              clear hb hl
              go_wp2_with fail
              refine (step_calls y x _ (by omega) (by omega) (by omega) (by omega)).mono ?_
              rintro e w3 ⟨rfl, rfl⟩
              have hbd2 := stepJ_nonneg y x
              have hbd3 := stepJ_le y x (by omega) (by omega)
              go_wp2_with fail
              refine (add_calls _ _ y ↑(k + q) x (by omega) (by omega) (by omega) (by omega) (by omega) (by omega) hb1.out).mono ?_
              rintro e w3 ⟨rfl, hb2, hl2⟩
              have hb3 := Lib.hid hb2
              have hl3 := Lib.hid (hl1.out.trans (hl2.below (B := w.heap.size) hl1.out.size (by rintro k rfl; omega)))
              clear hb2 hl2
              go_wp2_with fail
              refine (now_calls _ _ _ _ hb3.out).mono ?_
              rintro e w4 ⟨rfl, rfl⟩
              go_wp2_with fail
              have e1 : ((↑(k + q) : Int) + 1) = ↑(k + (q + 1)) := by omega
              refine ⟨⟨q + 1, by omega, by go_num, by rw [show k + (q + 1) = k + q + 1 from rfl, hs.out], by rw [← e1, show k + (q + 1) = k + q + 1 from rfl, hs.out]; exact hb3.out, hl3.out⟩, by simp [intOf]; omega⟩
            · obtain rfl : q = l.length - k := by omega
              have eb : k + (l.length - k) = l.length := by omega
              rw [eb] at hb
              have hb1 := Lib.hid hb
              have hl1 := Lib.hid hl
              clear hb hl eb
              go_wp2_with fail
              refine (count_calls _ _ _ _ hb1.out).mono ?_
              rintro e w4 ⟨rfl, rfl⟩
              go_wp2_with fail
              go_ret
              exact ⟨rfl, hl1.out⟩
end Go.Proofs.Ytgegjaoginmioaa
