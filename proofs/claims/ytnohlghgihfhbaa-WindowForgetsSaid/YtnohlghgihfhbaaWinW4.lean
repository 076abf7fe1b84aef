/- The law's walk: WindowForgets. -/
import Derived.Test.YtnohlghgihfhbaaWinW3
namespace Go.Proofs.Ytnohlghgihfhbaa
open Go.RowKit

theorem lastN_append {α : Type} (m : Nat) (l t : List α) (h : m ≤ t.length) : lastN m (l ++ t) = lastN m t := by
  unfold lastN
  rw [List.length_append, List.drop_append, List.drop_eq_nil_of_le (by omega), List.nil_append]
  congr 1
  omega

set_option maxRecDepth 100000 in
set_option maxHeartbeats 4000000 in
theorem forgets_walk (n : Int) (a : Option Addr) (cap : Nat) (l : List Int) (a2 : Option Addr) (cap2 : Nat) (l2 : List Int) (w : World) (hr : Reads w .i64 a l) (hm : l.length ≤ maxLen) (hr2 : Reads w .i64 a2 l2) (hm2 : l2.length ≤ maxLen) :
    Calls Try.prog 6 #[.int .i64 n, .slice a l.length cap, .slice a2 l2.length cap2] w fun e w' => e = .returned (.bool true) ∧ Below w.heap.size w w' := by
  unfold maxLen at hm2
  have HR2 := Lib.hid hr2
  clear hr2
  unfold maxLen at hm
  have HR := Lib.hid hr
  clear hr
  have hmb := mostN_bd n
  go_enter Try.func6, Try.ntmps6
  go_wp2_with fail
  refine (most_calls n _).mono ?_
  rintro e w1 ⟨rfl, rfl⟩
  generalize hmm : mostN n = m at *
  have HM := Lib.hid hmm
  clear hmm
  go_wp2_with fail
  refine (Win64.new_good _ m (by omega) (by omega)).mono ?_
  rintro e w1 ⟨rfl, rfl⟩
  go_wp2_with fail
  refine (most_calls n _).mono ?_
  rintro e w1 ⟨rfl, rfl⟩
  rw [HM.out]
  go_wp2_with fail
  refine (Win64.new_good _ m (by omega) (by omega)).mono ?_
  rintro e w1 ⟨rfl, rfl⟩
  have HW0 := Lib.hid (Win64.two_new w m _ _ rfl rfl)
  have HL0 := Lib.hid (((Below.refl w.heap.size w).alloc (Nat.le_refl _) (.cells #[.int .i64 m, .slice none 0 0, .slice none 0 0, .slice none 0 0] 64)).alloc (by simp) (.cells #[.int .i64 m, .slice none 0 0, .slice none 0 0, .slice none 0 0] 64))
  go_wp2_with fail
  refine (alive_calls _).mono ?_
  rintro e w1 ⟨rfl, K1⟩
  have HW := Lib.hid (HW0.out.kept K1)
  have HL := Lib.hid (HL0.out.trans (K1.below (B := w.heap.size) HL0.out.size (fun _ h => h.elim)))
  clear K1 HW0 HL0
  by_cases h500 : (200 : Int) < l.length
  ·
    go_wp2_with fail
    refine (alive_calls _).mono ?_
    rintro e w2 ⟨rfl, K2⟩
    have HL2 := Lib.hid (HL.out.trans (K2.below (B := w.heap.size) HL.out.size (fun _ h => h.elim)))
    clear K2
    go_wp2_with fail
    go_ret
    exact ⟨rfl, HL2.out⟩
  · by_cases h501 : (200 : Int) < l2.length
    ·
      go_wp2_with fail
      refine (alive_calls _).mono ?_
      rintro e w2 ⟨rfl, K2⟩
      have HL2 := Lib.hid (HL.out.trans (K2.below (B := w.heap.size) HL.out.size (fun _ h => h.elim)))
      clear K2
      go_wp2_with fail
      go_ret
      exact ⟨rfl, HL2.out⟩
    · go_wp2_with fail
      go_loopw [66] (fun i wr => ∃ k : Nat, k ≤ l.length ∧ i = .int .i64 k ∧ Win64.Two w.heap.size wr w.heap.size (w.heap.size + 1) m (lastN m (l.take k)) (lastN m []) ∧ Below w.heap.size w wr) (fun i _ => l.length - (intOf i).toNat)
      case atStart => exact ⟨0, Nat.zero_le _, rfl, by rw [List.take_zero, lastN_nil]; exact HW.out, HL.out⟩
      case round =>
        obtain ⟨k, hk, rfl, hw, hl⟩ := hrel
        have HW1 := Lib.hid hw
        have HL1 := Lib.hid hl
        clear hw hl
        by_cases hlt : k < l.length
        · obtain ⟨bb, off, rfl, hbb, hcell⟩ := HR.out (by omega)
          have hc : wr.cell? ⟨bb, off + k, none⟩ = some (.int .i64 (l.getD k 0)) := (HL1.out.cell (p := ⟨bb, off + k, none⟩) hbb).trans (hcell k hlt)
          clear hcell
          have HT := Lib.hid (take_snocD l k hlt)
          generalize hx : l.getD k 0 = x at *
          have HX := Lib.hid hx
          clear hx
          go_wp2_with fail
          refine (Win64.two_add _ _ _ _ _ _ x _ hmb.1 hmb.2 HL1.out.size HW1.out).mono ?_
          rintro e w3 ⟨rfl, hw3, hl3⟩
          have HW3 := Lib.hid hw3
          have HL3 := Lib.hid (HL1.out.trans hl3)
          clear hw3 hl3
          go_wp2_with fail
          exact ⟨⟨k + 1, by omega, by go_num, by rw [HT.out]; exact HW3.out, HL3.out⟩, by simp [intOf]; omega⟩
        · obtain rfl : k = l.length := by omega
          go_wp2_with fail
          go_loopw [76] (fun i wr => ∃ k : Nat, k ≤ l2.length ∧ i = .int .i64 k ∧ Win64.Two w.heap.size wr w.heap.size (w.heap.size + 1) m (lastN m (l ++ l2.take k)) (lastN m (l2.take k)) ∧ Below w.heap.size w wr) (fun i _ => l2.length - (intOf i).toNat)
          case atStart => exact ⟨0, Nat.zero_le _, rfl, by rw [List.take_zero, List.append_nil]; have := HW1.out; rw [List.take_length] at this; exact this, HL1.out⟩
          case round =>
            obtain ⟨k, hk, rfl, hw, hl⟩ := hrel
            have HW2 := Lib.hid hw
            have HL2 := Lib.hid hl
            clear hw hl
            by_cases hlt : k < l2.length
            · obtain ⟨bb, off, rfl, hbb, hcell⟩ := HR2.out (by omega)
              have hc : wr.cell? ⟨bb, off + k, none⟩ = some (.int .i64 (l2.getD k 0)) := (HL2.out.cell (p := ⟨bb, off + k, none⟩) hbb).trans (hcell k hlt)
              clear hcell
              have HT := Lib.hid (take_snocD l2 k hlt)
              generalize hx : l2.getD k 0 = x at *
              have HX := Lib.hid hx
              clear hx
              go_wp2_with fail
              refine (Win64.two_add _ _ _ _ _ _ x _ hmb.1 hmb.2 HL2.out.size HW2.out).mono ?_
              rintro e w3 ⟨rfl, hw3, hl3⟩
              have HW3 := Lib.hid hw3.symm
              have HL3 := Lib.hid (HL2.out.trans hl3)
              clear hw3 hl3
              go_wp2_with fail
              refine (Win64.two_add _ _ _ _ _ _ x _ hmb.1 hmb.2 HL3.out.size HW3.out).mono ?_
              rintro e w4 ⟨rfl, hw4, hl4⟩
              rw [List.append_assoc, ← HT.out] at hw4
              have HW4 := Lib.hid hw4.symm
              have HL4 := Lib.hid (HL3.out.trans hl4)
              clear hw4 hl4
              go_wp2_with fail
              refine (most_calls n _).mono ?_
              rintro e w5 ⟨rfl, rfl⟩
              rw [HM.out]
              by_cases hkm : k + 1 < m
              · have hkm' : (k : Int) + 1 < (m : Int) := by omega
                go_wp2_with fail
                exact ⟨⟨k + 1, by omega, by go_num, HW4.out, HL4.out⟩, by simp [intOf]; omega⟩
              · have hkm' : ¬ (k : Int) + 1 < (m : Int) := by omega
                have eqL : lastN m (l ++ l2.take (k + 1)) = lastN m (l2.take (k + 1)) := lastN_append _ _ _ (by simp; omega)
                rw [eqL] at HW4
                have EQ := Lib.hid eqL
                clear eqL
                generalize hL : lastN m (l2.take (k + 1)) = L at *
                have HEQ := Lib.hid hL
                clear hL
                go_wp2_with fail
                refine (Win64.leastC _ _ _ _ _ HW4.out.one).mono ?_
                rintro e w5 ⟨rfl, rfl⟩
                go_wp2_with fail
                refine (Win64.leastC _ _ _ _ _ HW4.out.symm.one).mono ?_
                rintro e w5 ⟨rfl, rfl⟩
                go_wp2_with fail
                refine (Win64.greatestC _ _ _ _ _ HW4.out.one).mono ?_
                rintro e w5 ⟨rfl, rfl⟩
                go_wp2_with fail
                refine (Win64.greatestC _ _ _ _ _ HW4.out.symm.one).mono ?_
                rintro e w5 ⟨rfl, rfl⟩
                generalize Win64.least L = p1 at *
                generalize Win64.greatest L = p2 at *
                go_wp2_with fail
                refine (Win64.len_calls _ _ _ _ _ HW4.out.one).mono ?_
                rintro e w5 ⟨rfl, rfl⟩
                go_wp2_with fail
                refine (Win64.len_calls _ _ _ _ _ HW4.out.symm.one).mono ?_
                rintro e w5 ⟨rfl, rfl⟩
                go_wp2_with fail
                exact ⟨⟨k + 1, by omega, by go_num, by rw [EQ.out, HEQ.out]; exact HW4.out, HL4.out⟩, by simp [intOf]; omega⟩
            · go_wp2_with fail
              go_ret
              exact ⟨rfl, HL2.out⟩
end Go.Proofs.Ytnohlghgihfhbaa
