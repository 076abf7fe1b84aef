/- The law's walk: WindowAdds. -/
import Derived.Test.YtnohlghgihfhbaaWinW5
namespace Go.Proofs.Ytnohlghgihfhbaa
open Go.RowKit

theorem most_q (n : Int) (w : World) (k : Nat) : Calls Try.prog 10 #[.int .i64 n] (w.drewN k) fun e w'' => e = .returned (.int .i64 (mostN n)) ∧ ∃ m, w'' = w.drewN m :=
  (most_calls n _).mono fun _ _ h => ⟨h.1, k, h.2.symm⟩
theorem lastN_take (l : List Int) (k : Nat) (hk : k ≤ l.length) : (l.take k).length = k := by simp; omega
theorem lastN_at (m : Nat) (l : List Int) (k j : Nat) (hk : k ≤ l.length) (hj : j < (lastN m (l.take k)).length) : (lastN m (l.take k)).getD j 0 = l.getD (k - m + j) 0 := by
  have hl := lastN_take l k hk
  have hlen := lastN_len m (l.take k)
  rw [hl] at hlen
  simp only [lastN, hl, List.getD_eq_getElem?_getD, List.getElem?_drop, List.getElem?_take]
  rw [if_pos (by omega)]

/-- The document's answers on the first k+1 samples, wherever the draws stand. -/
theorem most_m {n : Int} {m : Nat} (h : mostN n = m) (W : World) (q : Nat) : Calls Try.prog 10 #[.int .i64 n] (W.drewN q) fun e w'' => e = .returned (.int .i64 m) ∧ ∃ z, w'' = W.drewN z :=
  h ▸ most_q n W q
theorem refL_q {bb off cap m k : Nat} {l : List Int} (hlk : (l.take (k + 1)).length = k + 1) (hk : k ≤ 900) (hc : k + 1 ≤ cap) (hcm : cap ≤ 9223372036854775807) (hm : 1 ≤ m ∧ m ≤ 64) (W : World)
    (hcell : ∀ i, i < (l.take (k + 1)).length → W.cell? ⟨bb, off + i, none⟩ = some (.int .i64 ((l.take (k + 1)).getD i 0))) (q : Nat) :
    Calls Try.prog 20 #[.slice (some ⟨bb, off, none⟩) (k + 1) cap, .int .i64 m] (W.drewN q) fun e w'' => e = .returned (.tuple #[.int .i64 (Win64.least (lastN m (l.take (k + 1)))), .bool true]) ∧ ∃ z, w'' = W.drewN z := by
  have := ref_least (W.drewN q) bb off cap m (l.take (k + 1)) (by omega) (by omega) (by omega) hcm hm.1 hm.2 hcell
  rw [hlk] at this
  exact Calls.quiet_of_same this
theorem refG_q {bb off cap m k : Nat} {l : List Int} (hlk : (l.take (k + 1)).length = k + 1) (hk : k ≤ 900) (hc : k + 1 ≤ cap) (hcm : cap ≤ 9223372036854775807) (hm : 1 ≤ m ∧ m ≤ 64) (W : World)
    (hcell : ∀ i, i < (l.take (k + 1)).length → W.cell? ⟨bb, off + i, none⟩ = some (.int .i64 ((l.take (k + 1)).getD i 0))) (q : Nat) :
    Calls Try.prog 21 #[.slice (some ⟨bb, off, none⟩) (k + 1) cap, .int .i64 m] (W.drewN q) fun e w'' => e = .returned (.tuple #[.int .i64 (Win64.greatest (lastN m (l.take (k + 1)))), .bool true]) ∧ ∃ z, w'' = W.drewN z := by
  have := ref_greatest (W.drewN q) bb off cap m (l.take (k + 1)) (by omega) (by omega) (by omega) hcm hm.1 hm.2 hcell
  rw [hlk] at this
  exact Calls.quiet_of_same this
theorem refT_q {bb off cap m k : Nat} (hk : k ≤ 900) (hc : k + 1 ≤ cap) (hcm : cap ≤ 9223372036854775807) (hm : 1 ≤ m ∧ m ≤ 64) (W : World) (q : Nat) :
    Calls Try.prog 22 #[.slice (some ⟨bb, off, none⟩) (k + 1) cap, .int .i64 m] (W.drewN q) fun e w'' => e = .returned (.slice (some ⟨bb, off + (k + 1 - m), none⟩) (min (k + 1) m) (cap - (k + 1 - m))) ∧ ∃ z, w'' = W.drewN z :=
  Calls.quiet_of_same (ref_last (W.drewN q) bb off (k + 1) cap m (by omega) (by omega) hc hcm hm.1 hm.2)

set_option maxRecDepth 100000 in
set_option maxHeartbeats 8000000 in
theorem adds_walk (n : Int) (a : Option Addr) (cap : Nat) (l : List Int) (w : World) (hr : Reads w .i64 a l) (hcap : l.length ≤ cap) (hcm : cap ≤ maxLen) :
    Calls Try.prog 7 #[.int .i64 n, .slice a l.length cap] w fun e w' => e = .returned (.bool true) ∧ Below w.heap.size w w' := by
  have hm : l.length ≤ maxLen := Nat.le_trans hcap hcm
  unfold maxLen at hcm
  unfold maxLen at hm
  have HR := Lib.hid hr
  clear hr
  have hmb := mostN_bd n
  go_enter Try.func7, Try.ntmps7
  go_wp2_with fail
  refine (most_calls n _).mono ?_
  rintro e w1 ⟨rfl, rfl⟩
  generalize hmm : mostN n = m at *
  have HM := Lib.hid hmm
  clear hmm
  go_wp2_with fail
  refine (Win64.new_good _ m (by omega) (by omega)).mono ?_
  rintro e w1 ⟨rfl, rfl⟩
  have HW0 := Lib.hid ((Win64.win_new w m).mono (fq := fun g => w.heap.size ≤ g) (fun g _ hg => by omega))
  have HL0 := Lib.hid ((Below.refl w.heap.size w).alloc (Nat.le_refl _) (.cells #[.int .i64 m, .slice none 0 0, .slice none 0 0, .slice none 0 0] 64))
  go_wp2_with fail
  refine (alive_calls _).mono ?_
  rintro e w1 ⟨rfl, K1⟩
  have HW := Lib.hid (HW0.out.kept K1 (fun _ _ h => h))
  have HL := Lib.hid (HL0.out.trans (K1.below (B := w.heap.size) HL0.out.size (fun _ h => h.elim)))
  clear K1 HW0 HL0
  by_cases h500 : (400 : Int) < l.length
  ·
    go_wp2_with fail
    refine (alive_calls _).mono ?_
    rintro e w2 ⟨rfl, K2⟩
    have HL2 := Lib.hid (HL.out.trans (K2.below (B := w.heap.size) HL.out.size (fun _ h => h.elim)))
    clear K2
    go_wp2_with fail
    go_ret
    exact ⟨rfl, HL2.out⟩
  · go_wp2_with fail
    refine (Win64.leastC _ _ _ _ _ HW.out).mono ?_
    rintro e w2 ⟨rfl, rfl⟩
    go_wp2_with fail
    refine (Win64.greatestC _ _ _ _ _ HW.out).mono ?_
    rintro e w2 ⟨rfl, rfl⟩
    go_wp2_with fail
    refine (Win64.len_calls _ _ _ _ _ HW.out).mono ?_
    rintro e w2 ⟨rfl, rfl⟩
    go_wp2_with fail
    go_loopw [75] (fun i wr => ∃ k : Nat, k ≤ l.length ∧ i = .int .i64 k ∧ Win64.Win wr w.heap.size (fun g => w.heap.size ≤ g) m (lastN m (l.take k)) ∧ Below w.heap.size w wr) (fun i _ => l.length - (intOf i).toNat)
    case atStart => exact ⟨0, Nat.zero_le _, rfl, by rw [List.take_zero, lastN_nil]; exact HW.out, HL.out⟩
    case round =>
      obtain ⟨k, hk, rfl, hw, hl⟩ := hrel
      have HW1 := Lib.hid hw
      have HL1 := Lib.hid hl
      clear hw hl
      by_cases hlt : k < l.length
      · obtain ⟨bb, off, rfl, hbb, hcell⟩ := HR.out (by omega)
        have hc : wr.cell? ⟨bb, off + k, none⟩ = some (.int .i64 (l.getD k 0)) := (HL1.out.cell (p := ⟨bb, off + k, none⟩) hbb).trans (hcell k hlt)
        have HC := Lib.hid hcell
        clear hcell
        have HT := Lib.hid (take_snocD l k hlt)
        generalize hx : l.getD k 0 = x at *
        have HX := Lib.hid hx
        clear hx
        go_wp2_with fail
        refine (Win64.addB _ _ _ _ _ x hmb.1 hmb.2 HL1.out.size HW1.out).mono ?_
        rintro e w3 ⟨rfl, hw3, hl3⟩
        rw [← HT.out] at hw3
        have HW3 := Lib.hid hw3
        have HL3 := Lib.hid (HL1.out.trans hl3)
        clear hw3 hl3
        have hlk : (l.take (k + 1)).length = k + 1 := by simp; omega
        have hne : (lastN m (l.take (k + 1))).isEmpty = false := by
          rw [HT.out, Win64.lastN_isEmpty hmb.1]; simp
        have HNE := Lib.hid hne
        have HLK := Lib.hid hlk
        have hcells : ∀ i, i < (l.take (k + 1)).length → w3.cell? ⟨bb, off + i, none⟩ = some (.int .i64 ((l.take (k + 1)).getD i 0)) := by
          intro i hi
          rw [hlk] at hi
          have e1 : (l.take (k + 1)).getD i 0 = l.getD i 0 := by simp [hi]
          rw [e1]
          exact (HL3.out.cell (p := ⟨bb, off + i, none⟩) hbb).trans (HC.out i (by omega))
        have HCS := Lib.hid hcells
        clear hne hlk hcells
        go_wp2_with fail
        refine (Win64.leastC _ _ _ _ _ HW3.out).mono ?_
        rintro e w4 ⟨rfl, rfl⟩
        rw [HNE.out]
        go_wp2_with fail
        refine (Win64.greatestC _ _ _ _ _ HW3.out).mono ?_
        rintro e w4 ⟨rfl, rfl⟩
        rw [HNE.out]
        generalize hA : Win64.least (lastN m (l.take (k + 1))) = lo at *
        generalize hB : Win64.greatest (lastN m (l.take (k + 1))) = hi at *
        have HA := Lib.hid hA
        have HB := Lib.hid hB
        clear hA hB
        have R0 := Lib.hid (fun (W : World) (q : Nat) => most_m HM.out W q)
        have w1 : IntKind.i64.wrap ((k : Int) + 1) = (k : Int) + 1 := IntWalk.i64_in _ (by omega)
        have w2 : 0 ≤ (k : Int) + 1 := by omega
        have w3' : ((k : Int) + 1).toNat = k + 1 := by omega
        have w4 : (k : Int) + 1 ≤ (cap : Int) := by omega
        go_wp2_with fail
        go_quiet (((first | (with_reducible exact R0.out _ _) | (with_reducible exact refL_q HLK.out (by omega) (by omega) hcm hmb _ HCS.out _))))
        rw [HA.out]
        go_upto_region 16 with (fail)
        refine at_world (fun W => Win64.Win W w.heap.size (fun g => w.heap.size ≤ g) m (lastN m (l.take (k + 1))) ∧ Below w.heap.size w W ∧ ∀ i, i < (l.take (k + 1)).length → W.cell? ⟨bb, off + i, none⟩ = some (.int .i64 ((l.take (k + 1)).getD i 0)))
          ⟨HW3.out.kept ((Kept.refl (fun _ => False) _).drewN _) (fun _ _ h => h), HL3.out.trans (Kept.below ((Kept.refl (fun _ => False) _).drewN _) HL3.out.size (fun _ h => h.elim)), HCS.out⟩ ?_
        rintro W4 ⟨hw, hl, hcs⟩
        have HW4 := Lib.hid hw
        have HL4 := Lib.hid hl
        have HCS4 := Lib.hid hcs
        clear hw hl hcs
        go_quiet (((first | (with_reducible exact R0.out _ _) | (with_reducible exact refG_q HLK.out (by omega) (by omega) hcm hmb _ HCS4.out _))))
        rw [HB.out]
        go_upto_region 17 with (fail)
        refine at_world (fun W => Win64.Win W w.heap.size (fun g => w.heap.size ≤ g) m (lastN m (l.take (k + 1))) ∧ Below w.heap.size w W ∧ ∀ i, i < (l.take (k + 1)).length → W.cell? ⟨bb, off + i, none⟩ = some (.int .i64 ((l.take (k + 1)).getD i 0)))
          ⟨HW4.out.kept ((Kept.refl (fun _ => False) _).drewN _) (fun _ _ h => h), HL4.out.trans (Kept.below ((Kept.refl (fun _ => False) _).drewN _) HL4.out.size (fun _ h => h.elim)), HCS4.out⟩ ?_
        rintro W5 ⟨hw, hl, hcs⟩
        have HW5 := Lib.hid hw
        have HL5 := Lib.hid hl
        have HCS5 := Lib.hid hcs
        clear hw hl hcs
        go_quiet (((first | (with_reducible exact R0.out _ _) | (with_reducible exact refT_q (by omega) (by omega) hcm hmb _ _))))
        have hll : (lastN m (l.take (k + 1))).length = min (k + 1) m := by rw [lastN_len, HLK.out, Nat.min_comm]
        have hlp : 0 < min (k + 1) m := by omega
        have hlp2 : min (k + 1) m ≤ 64 := by omega
        have hlp3 : min (k + 1) m ≤ cap - (k + 1 - m) := by omega
        generalize min (k + 1) m = q at *
        have HLL := Lib.hid hll
        clear hll w1 w2 w3' w4
        go_upto_region 18 with (fail)
        refine at_world (fun W => Win64.Win W w.heap.size (fun g => w.heap.size ≤ g) m (lastN m (l.take (k + 1))) ∧ Below w.heap.size w W ∧ ∀ i, i < (l.take (k + 1)).length → W.cell? ⟨bb, off + i, none⟩ = some (.int .i64 ((l.take (k + 1)).getD i 0)))
          ⟨HW5.out.kept ((Kept.refl (fun _ => False) _).drewN _) (fun _ _ h => h), HL5.out.trans (Kept.below ((Kept.refl (fun _ => False) _).drewN _) HL5.out.size (fun _ h => h.elim)), HCS5.out⟩ ?_
        rintro W6 ⟨hw, hl, hcs⟩
        have HW6 := Lib.hid hw
        have HL6 := Lib.hid hl
        have HCS6 := Lib.hid hcs
        clear hw hl hcs
        go_wp2_with fail
        refine (Win64.last_calls _ _ _ _ _ HW6.out (by rw [HLL.out]; exact hlp) (by rw [HLL.out]; omega)).mono ?_
        rintro e W7 ⟨g, goff, gcap, rfl, hg1, hg2, gcell, gk⟩
        rw [HLL.out] at hg1 ⊢
        have HW7 := Lib.hid (HW6.out.kept gk (fun _ _ h => h))
        have HL7 := Lib.hid (HL6.out.trans (gk.below (B := w.heap.size) HL6.out.size (fun _ h => h.elim)))
        have hgot : ∀ j, j < q → W7.cell? ⟨g, goff + j, none⟩ = some (.int .i64 ((lastN m (l.take (k + 1))).getD j 0)) := by
          intro j hj
          refine gcell j _ ?_
          have hj' : j < (lastN m (l.take (k + 1))).length := by rw [HLL.out]; exact hj
          rw [List.getElem?_map, List.getElem?_eq_getElem hj', getD_at _ _ hj']
          rfl
        have hwant : ∀ j, j < q → W7.cell? ⟨bb, off + (k + 1 - m) + j, none⟩ = some (.int .i64 ((lastN m (l.take (k + 1))).getD j 0)) := by
          intro j hj
          have hj' : j < (lastN m (l.take (k + 1))).length := by rw [HLL.out]; exact hj
          rw [lastN_at m l (k + 1) j (by omega) hj', Nat.add_assoc]
          refine (HL7.out.cell (p := ⟨bb, off + (k + 1 - m + j), none⟩) hbb).trans (HC.out (k + 1 - m + j) ?_)
          have := lastN_len m (l.take (k + 1))
          rw [HLL.out, HLK.out] at this
          omega
        have HG := Lib.hid hgot
        have HWT := Lib.hid hwant
        clear hgot hwant gcell gk
        unfold maxLen at hg2
        go_wp2_with fail
        refine (Win64.len_calls _ _ _ _ _ HW7.out).mono ?_
        rintro e w8 ⟨rfl, rfl⟩
        rw [HLL.out]
        go_wp2_with fail
        go_loopw [155] (fun i wr => ∃ j : Nat, j ≤ q ∧ i = .int .i64 j ∧ ∃ z, wr = W7.drewN z) (fun i _ => q - (intOf i).toNat)
        case atStart => exact ⟨0, Nat.zero_le _, rfl, 0, rfl⟩
        case round =>
          obtain ⟨j, hj, rfl, z, rfl⟩ := hrel
          by_cases hjl : j < q
          · have cg := HG.out j hjl
            have cw := HWT.out j hjl
            have hj0 : (0 : Int) ≤ (j : Int) := by omega
            have hj1 : (j : Int) < (q : Int) := by omega
            go_wp2_with fail
            go_quiet (fail)
            go_wp2_with fail
            exact ⟨⟨j + 1, by omega, by go_num, _, rfl⟩, by simp [intOf]; omega⟩
          · go_wp2_with fail
            exact ⟨⟨k + 1, by omega, by go_num, HW7.out.kept ((Kept.refl (fun _ => False) _).drewN _) (fun _ _ h => h), HL7.out.trans (Kept.below ((Kept.refl (fun _ => False) _).drewN _) HL7.out.size (fun _ h => h.elim))⟩, by simp [intOf]; omega⟩
      · go_wp2_with fail
        go_ret
        exact ⟨rfl, HL1.out⟩
end Go.Proofs.Ytnohlghgihfhbaa
