/- The law's walk: RingSeeks. -/
import Derived.Test.YtolgapcckbcmbaaRingLaw
namespace Go.Proofs.Ytolgapcckbcmbaa
open Go.RowKit

section
variable {l : List (Int × ByteArray)} {k : Int} {i : Nat} {y : Int × ByteArray}
theorem until_le : RingS.untilM l k ≤ l.length := by
  unfold RingS.untilM
  have := plc_le l k
  split
  · rename_i h
    obtain ⟨y, hy, -⟩ := RingS.there_some h
    have := (List.getElem?_eq_some_iff.1 hy).1
    omega
  · omega
theorem srt_lt {i j : Nat} {y z : Int × ByteArray} (hs : Srt l) (hij : i < j) (hy : l[i]? = some y) (hz : l[j]? = some z) : y.1 < z.1 := by
  obtain ⟨h1, rfl⟩ := List.getElem?_eq_some_iff.1 hy
  obtain ⟨h2, rfl⟩ := List.getElem?_eq_some_iff.1 hz
  exact List.pairwise_iff_getElem.1 hs i j h1 h2 hij
theorem until_iff (hs : Srt l) (hy : l[i]? = some y) : y.1 ≤ k ↔ i < RingS.untilM l k := by
  unfold RingS.untilM
  cases ht : there l k with
  | true =>
    obtain ⟨z, hz, hk⟩ := RingS.there_some ht
    simp only [if_true]
    rcases Nat.lt_trichotomy i (plc l k) with h | h | h
    · have := plc_lt l k i y h hy
      constructor <;> intro <;> omega
    · subst h
      rw [hz] at hy
      obtain rfl := Option.some.inj hy
      constructor <;> intro <;> omega
    · have := srt_lt hs h hz hy
      constructor <;> intro <;> omega
  | false =>
    simp only [Bool.false_eq_true, if_false]
    rcases Nat.lt_or_ge i (plc l k) with h | h
    · have := plc_lt l k i y h hy
      constructor <;> intro <;> omega
    · have h1 := plc_ge l k i y hs h hy
      have h2 : y.1 ≠ k := fun e => by
        have : there l k = true := (there_iff l k hs).2 ⟨y.2, by rw [← e]; exact List.mem_of_getElem? hy⟩
        rw [ht] at this
        cases this
      constructor <;> intro <;> omega
theorem until_zero (h : RingS.untilM l k = 0) : there l k = false := by
  unfold RingS.untilM at h
  cases ht : there l k with
  | true => rw [ht] at h; simp at h
  | false => rfl
theorem until_last (h0 : 0 < RingS.untilM l k) (hy : l[RingS.untilM l k - 1]? = some y) : there l k = decide (y.1 = k) := by
  unfold RingS.untilM at hy h0
  cases ht : there l k with
  | true =>
    rw [ht] at hy
    obtain ⟨z, hz, hk⟩ := RingS.there_some ht
    simp only [if_true, Nat.add_sub_cancel] at hy
    rw [hz] at hy
    obtain rfl := Option.some.inj hy
    simp [hk]
  | false =>
    rw [ht] at hy h0
    simp only [Bool.false_eq_true, if_false, Nat.add_zero] at hy h0
    have := plc_lt l k _ y (by omega) hy
    have h2 : ¬ y.1 = k := by omega
    simp [h2]
end

theorem kept_drewN {w w' : World} (h : ∃ n, w' = w.drewN n) : Kept (fun _ => False) w w' := by
  obtain ⟨n, rfl⟩ := h
  exact (Kept.refl _ _).drewN n

set_option maxRecDepth 100000 in
set_option maxHeartbeats 4000000 in
theorem seeks_walk (n : Int) (a : Option Addr) (cap : Nat) (l : List Int) (q : Int) (w : World) (hr : Reads w .i64 a l) (hm : l.length ≤ maxLen) :
    Calls Try.prog 6 #[.int .i64 n, .slice a l.length cap, .int .i64 q] w fun e w' => e = .returned (.bool true) ∧ Below w.heap.size w w' := by
  unfold maxLen at hm
  have HR := Lib.hid hr
  clear hr
  have hmb := mostN_bd n
  go_enter Try.func6, Try.ntmps6
  go_wp2_with fail
  refine (most_calls n _).mono ?_
  rintro e w1 ⟨rfl, rfl⟩
  generalize hmm : mostN n = m at *
  have HM := Lib.hid hmm
  clear hmm
  have hmi : ((m : Int)).toNat = m := by omega
  go_wp2_with fail
  refine (RingS.new_good _ m (by omega) (by omega)).mono ?_
  rintro e w1 ⟨rfl, hw0, hk0, hz0⟩
  rw [hmi] at hw0
  have HW0 : Hid (RingS.Ring w1 w.heap.size (fun g => w.heap.size ≤ g) m ⟨[], 0, false⟩) := Lib.hid (hw0.mono (fun g _ hg => by omega))
  have HL0 := Lib.hid (hk0.below (B := w.heap.size) (Nat.le_refl _) (fun _ h => h.elim))
  clear hw0 hk0 hz0
  go_wp2_with fail
  refine (alive_calls _).mono ?_
  rintro e w3 ⟨rfl, K1⟩
  have HW := Lib.hid (HW0.out.kept K1 (fun _ _ h => h))
  have HL := Lib.hid (HL0.out.trans (K1.below (B := w.heap.size) HL0.out.size (fun _ h => h.elim)))
  clear K1 HW0 HL0
  by_cases h500 : (200 : Int) < l.length
  ·
    go_wp2_with fail
    refine (alive_calls _).mono ?_
    rintro e w2 ⟨rfl, K2⟩
    have HL2 := Lib.hid (HL.out.trans (K2.below (B := w.heap.size) HL.out.size (fun _ h => h.elim)))
    clear K2
    go_wp2_with fail
    go_ret
    exact ⟨rfl, HL2.out⟩
  · go_wp2_with fail
    go_loopw [45] (fun i wr => ∃ (k : Nat) (r : RingM ByteArray), k ≤ l.length ∧ i = .int .i64 k ∧ RingS.Ring wr w.heap.size (fun g => w.heap.size ≤ g) m r ∧ Below w.heap.size w wr) (fun i _ => l.length - (intOf i).toNat)
    case atStart => exact ⟨0, _, Nat.zero_le _, rfl, HW.out, HL.out⟩
    case round =>
      obtain ⟨k, r, hk, rfl, hw, hl⟩ := hrel
      have HW1 := Lib.hid hw
      have HL1 := Lib.hid hl
      clear hw hl HW HL
      by_cases hlt : k < l.length
      · obtain ⟨bb, off, rfl, hbb, hcell⟩ := HR.out (by omega)
        have hc : wr.cell? ⟨bb, off + k, none⟩ = some (.int .i64 (l.getD k 0)) := (HL1.out.cell (p := ⟨bb, off + k, none⟩) hbb).trans (hcell k hlt)
        clear hcell
        generalize hx : l.getD k 0 = x at *
        go_wp2_with fail
        refine (RingS.layB _ w.heap.size w.heap.size _ m _ x ByteArray.empty hmb.2 HL1.out.size (fun _ h => h) HW1.out).mono ?_
        rintro e w4 ⟨rfl, hw4, hl4⟩
        have HW4 := Lib.hid hw4
        have HL4 := Lib.hid (HL1.out.trans hl4)
        clear hw4 hl4
        generalize layM m r x ByteArray.empty = R at *
        obtain ⟨r', num, b, err⟩ := R
        dsimp only at *
        go_wp2_with fail
        exact ⟨⟨k + 1, r', by omega, by go_num, HW4.out, HL4.out⟩, by simp [intOf]; omega⟩
      · go_wp2_with fail
        refine (RingS.until_calls _ _ _ _ _ q HW1.out hmb.2).mono ?_
        rintro e w4 ⟨rfl, hk4⟩
        have HW4 := Lib.hid (HW1.out.kept hk4 (fun _ _ h => h))
        have HL4 := Lib.hid (HL1.out.trans (hk4.below (B := w.heap.size) HL1.out.size (fun _ h => h.elim)))
        clear hk4 HW1 HL1
        have hcl := until_le (l := r.l) (k := q)
        have hrl := HW4.out.len
        have HS := Lib.hid HW4.out.srt
        have HIF : Hid (∀ (i : Nat) y, r.l[i]? = some y → (y.1 ≤ q ↔ i < RingS.untilM r.l q)) := Lib.hid (fun i y hy => until_iff HS.out hy)
        have HZ : Hid (RingS.untilM r.l q = 0 → there r.l q = false) := Lib.hid until_zero
        have HLA : Hid (∀ y, 0 < RingS.untilM r.l q → r.l[RingS.untilM r.l q - 1]? = some y → there r.l q = decide (y.1 = q)) := Lib.hid (fun y h0 hy => until_last h0 hy)
        have HG := Lib.hid (RingS.get_calls · w.heap.size (fun g => w.heap.size ≤ g) m r q · hmb.2)
        generalize RingS.untilM r.l q = c at *
        generalize RingS.getM r.l q = gv at *
        generalize there r.l q = gb at *
        generalize hN : r.l.length = N at *
        have HNN := Lib.hid hN
        clear hN
        go_wp2_with fail
        refine (RingS.len_calls _ _ _ _ _ HW4.out).mono ?_
        rintro e w6 ⟨rfl, rfl⟩
        rw [HNN.out]
        go_wp2_with fail
        refine (RingS.len_calls _ _ _ _ _ HW4.out).mono ?_
        rintro e w6 ⟨rfl, rfl⟩
        rw [HNN.out]
        go_wp2_with fail
        go_loopw [66] (fun i wx => ∃ j : Nat, j ≤ N ∧ i = .int .i64 j ∧ RingS.Ring wx w.heap.size (fun g => w.heap.size ≤ g) m r ∧ Below w.heap.size w wx) (fun i _ => N - (intOf i).toNat)
        case atStart => exact ⟨0, Nat.zero_le _, rfl, HW4.out, HL4.out⟩
        case round =>
          obtain ⟨j, hj, rfl, hw, hl⟩ := hrel
          have HW2 := Lib.hid hw
          have HL2 := Lib.hid hl
          clear hw hl HW4 HL4
          by_cases hjl : j < N
          · obtain ⟨y, hy⟩ : ∃ y, r.l[j]? = some y := ⟨_, List.getElem?_eq_getElem (by rw [HNN.out]; exact hjl)⟩
            have HY := Lib.hid hy
            have hif := HIF.out j y hy
            clear hy
            go_wp2_with fail
            refine (RingS.at_in _ _ _ _ _ HW2.out j y HY.out).mono ?_
            rintro e w7 ⟨rfl, hq⟩
            have hk : Kept (fun _ => False) _ w7 := kept_drewN hq
            have HW3 := Lib.hid (HW2.out.kept hk (fun _ _ h => h))
            have HL3 := Lib.hid (HL2.out.trans (hk.below HL2.out.size (fun _ h => h.elim)))
            clear hq hk
            have hbt : (!decide (y.1 ≤ q) == decide (j < c)) = false := by rw [decide_eq_decide.2 hif]; cases decide (j < c) <;> rfl
            clear hif
            go_wp2_with fail
            exact ⟨⟨j + 1, by omega, by go_num, HW3.out, HL3.out⟩, by simp [intOf]; omega⟩
          · go_wp2_with fail
            refine (HG.out _ HW2.out).mono ?_
            rintro e w7 ⟨rfl, hk⟩
            have HW3 := Lib.hid (HW2.out.kept hk (fun _ _ h => h))
            have HL3 := Lib.hid (HL2.out.trans (hk.below HL2.out.size (fun _ h => h.elim)))
            clear hk
            by_cases hc0 : c = 0
            · have hgb := HZ.out hc0
              subst hgb
              subst hc0
              go_wp2_with fail
              go_ret
              exact ⟨rfl, HL3.out⟩
            · obtain ⟨y, hy⟩ : ∃ y, r.l[c - 1]? = some y := ⟨_, List.getElem?_eq_getElem (by rw [HNN.out]; omega)⟩
              have hgb := HLA.out y (by omega) hy
              subst hgb
              have HY := Lib.hid hy
              clear hy
              have hc1 : ((c : Int) - 1) = ((c - 1 : Nat) : Int) := by omega
              have hcz : ¬ (c : Int) = 0 := by omega
              go_wp2_with fail
              refine (RingS.at_in _ _ _ _ _ HW3.out (c - 1) y HY.out).mono ?_
              rintro e w8 ⟨rfl, hq⟩
              have hk : Kept (fun _ => False) _ w8 := kept_drewN hq
              have HL4 := Lib.hid (HL3.out.trans (hk.below HL3.out.size (fun _ h => h.elim)))
              clear hq hk
              go_wp2_with fail
              go_ret
              exact ⟨ret_bool (by cases hz : (y.1 == q) <;> simp_all), HL4.out⟩
end Go.Proofs.Ytolgapcckbcmbaa
