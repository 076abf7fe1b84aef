/- The law's walk: WindowAdds; before it the document's own Last, Least, Greatest. -/
import Derived.Test.YtnohlghgihfhbaaWinW4
import Derived.Test.YtnohlghgihfhbaaWinLast64
import Derived.Deep.CutBlock
namespace Go.Proofs.Ytnohlghgihfhbaa
open Go.RowKit

theorem ref_last (w : World) (bb off k cap m : Nat) (hk : 1 ≤ k) (hk2 : k ≤ 1000) (hc : k ≤ cap) (hcm : cap ≤ 9223372036854775807) (hm : 1 ≤ m) (hm2 : m ≤ 64) :
    Calls Try.prog 22 #[.slice (some ⟨bb, off, none⟩) k cap, .int .i64 m] w fun e w' => e = .returned (.slice (some ⟨bb, off + (k - m), none⟩) (min k m) (cap - (k - m))) ∧ w' = w := by
  by_cases h : m < k
  · have e1 : min k m = m := Nat.min_eq_right (by omega)
    have e2 : ((k : Int) - (m : Int)).toNat = k - m := by omega
    have e3 : ¬ cap = k - m := by omega
    have e4 : k - (k - m) = m := by omega
    rw [e1]
    clear e1
    go_enter Try.func22, Try.ntmps22
    go_wp2
    go_ret
    exact ⟨rfl, rfl⟩
  · have e1 : min k m = k := Nat.min_eq_left (by omega)
    have e2 : k - m = 0 := by omega
    rw [e1, e2, Nat.sub_zero, Nat.add_zero]
    clear e1 e2
    go_enter Try.func22, Try.ntmps22
    go_wp2
    go_ret
    exact ⟨rfl, rfl⟩

theorem getD_at (l : List Int) (k : Nat) (h : k < l.length) : l.getD k 0 = l[k] := by simp [h]

theorem least_uniq {L : List Int} {c : Int} (h1 : c ∈ L) (h2 : ∀ y ∈ L, c ≤ y) : Win64.least L = c := by
  obtain ⟨h3, h4⟩ := Win64.least_spec (List.ne_nil_of_mem h1)
  have a1 := lt64t _ _ (h4 c h1)
  have a2 := h2 _ h3
  omega
theorem greatest_uniq {L : List Int} {c : Int} (h1 : c ∈ L) (h2 : ∀ y ∈ L, y ≤ c) : Win64.greatest L = c := by
  obtain ⟨h3, h4⟩ := Win64.greatest_spec (List.ne_nil_of_mem h1)
  have a1 := lt64t _ _ (h4 c h1)
  have a2 := h2 _ h3
  omega

set_option maxHeartbeats 1000000 in
theorem ref_least (w : World) (bb off cap m : Nat) (l : List Int) (hk : 1 ≤ l.length) (hk2 : l.length ≤ 1000) (hc : l.length ≤ cap) (hcm : cap ≤ 9223372036854775807) (hm : 1 ≤ m) (hm2 : m ≤ 64)
    (hcell : ∀ i, i < l.length → w.cell? ⟨bb, off + i, none⟩ = some (.int .i64 (l.getD i 0))) :
    Calls Try.prog 20 #[.slice (some ⟨bb, off, none⟩) l.length cap, .int .i64 m] w fun e w' => e = .returned (.tuple #[.int .i64 (Win64.least (lastN m l)), .bool true]) ∧ w' = w := by
  have hlen := lastN_len m l
  have hcl : ∀ i, i < (lastN m l).length → w.cell? ⟨bb, off + (l.length - m) + i, none⟩ = some (.int .i64 ((lastN m l).getD i 0)) := by
    intro i hi
    have := hcell (l.length - m + i) (by rw [hlen] at hi; omega)
    rw [Nat.add_assoc, this]
    congr 2
    simp [lastN, List.getElem?_drop]
  have hmin : min l.length m = (lastN m l).length := by rw [hlen, Nat.min_comm]
  have HC := Lib.hid hcl
  have HM := Lib.hid hmin
  have hpos : 1 ≤ (lastN m l).length := by rw [hlen]; omega
  have hle : (lastN m l).length ≤ 64 := by rw [hlen]; omega
  clear hcell hlen hcl hmin
  generalize hL : lastN m l = L at *
  have HL := Lib.hid hL
  clear hL
  have c0 : w.cell? ⟨bb, off + (l.length - m), none⟩ = some (.int .i64 (L.getD 0 0)) := HC.out 0 hpos
  go_enter Try.func20, Try.ntmps20
  go_wp2_with fail
  refine (ref_last _ bb off l.length cap m hk hk2 hc hcm hm hm2).mono ?_
  rintro e w1 ⟨rfl, rfl⟩
  rw [HM.out]
  generalize off + (l.length - m) = o2 at *
  generalize cap - (l.length - m) = cp2 at *
  go_wp2_with fail
  go_loopw [6, 7] (fun v i wr => ∃ (k : Nat) (c : Int), k ≤ L.length ∧ i = .int .i64 k ∧ v = .int .i64 c ∧ c ∈ L ∧ (∀ j, j < k → c ≤ L.getD j 0) ∧ w1 = wr) (fun _ i _ => L.length - (intOf i).toNat)
  case atStart => exact ⟨0, _, Nat.zero_le _, rfl, rfl, by have h0 := List.getElem_mem (l := L) (n := 0) (by omega); rw [← getD_at L 0 (by omega)] at h0; simpa using h0, fun j hj => by omega, rfl⟩
  case round =>
    obtain ⟨k, c, hk', rfl, rfl, hmem, hall, rfl⟩ := hrel
    have HA := Lib.hid hall
    have HE := Lib.hid hmem
    clear hall hmem
    by_cases hlt : k < L.length
    · have ck := HC.out k hlt
      have hin : L.getD k 0 ∈ L := by rw [getD_at _ _ hlt]; exact List.getElem_mem _
      have HI := Lib.hid hin
      clear hin
      generalize hy : L.getD k 0 = y at *
      have HY := Lib.hid hy
      clear hy
      by_cases hyc : y < c
      · go_wp2_with fail
        refine ⟨⟨k + 1, y, by omega, by go_num, rfl, HI.out, fun j hj => ?_, trivial⟩, by simp [intOf]; omega⟩
        rcases Nat.lt_succ_iff_lt_or_eq.1 hj with h | rfl
        · have := HA.out j h
          omega
        · rw [HY.out]; exact Int.le_refl _
      · go_wp2_with fail
        refine ⟨⟨k + 1, c, by omega, by go_num, rfl, HE.out, fun j hj => ?_, trivial⟩, by simp [intOf]; omega⟩
        rcases Nat.lt_succ_iff_lt_or_eq.1 hj with h | rfl
        · exact HA.out j h
        · rw [HY.out]; omega
    · obtain rfl : k = L.length := by omega
      have hfin : Win64.least L = c := least_uniq HE.out (fun y hy => by
        obtain ⟨j, hj, rfl⟩ := List.getElem_of_mem hy
        have := HA.out j hj
        rw [getD_at _ _ hj] at this
        exact this)
      have HF := Lib.hid hfin
      clear hfin
      go_wp2_with fail
      go_ret2
      rw [HF.out]
      exact ⟨rfl, rfl⟩

set_option maxHeartbeats 1000000 in
theorem ref_greatest (w : World) (bb off cap m : Nat) (l : List Int) (hk : 1 ≤ l.length) (hk2 : l.length ≤ 1000) (hc : l.length ≤ cap) (hcm : cap ≤ 9223372036854775807) (hm : 1 ≤ m) (hm2 : m ≤ 64)
    (hcell : ∀ i, i < l.length → w.cell? ⟨bb, off + i, none⟩ = some (.int .i64 (l.getD i 0))) :
    Calls Try.prog 21 #[.slice (some ⟨bb, off, none⟩) l.length cap, .int .i64 m] w fun e w' => e = .returned (.tuple #[.int .i64 (Win64.greatest (lastN m l)), .bool true]) ∧ w' = w := by
  have hlen := lastN_len m l
  have hcl : ∀ i, i < (lastN m l).length → w.cell? ⟨bb, off + (l.length - m) + i, none⟩ = some (.int .i64 ((lastN m l).getD i 0)) := by
    intro i hi
    have := hcell (l.length - m + i) (by rw [hlen] at hi; omega)
    rw [Nat.add_assoc, this]
    congr 2
    simp [lastN, List.getElem?_drop]
  have hmin : min l.length m = (lastN m l).length := by rw [hlen, Nat.min_comm]
  have HC := Lib.hid hcl
  have HM := Lib.hid hmin
  have hpos : 1 ≤ (lastN m l).length := by rw [hlen]; omega
  have hle : (lastN m l).length ≤ 64 := by rw [hlen]; omega
  clear hcell hlen hcl hmin
  generalize hL : lastN m l = L at *
  have HL := Lib.hid hL
  clear hL
  have c0 : w.cell? ⟨bb, off + (l.length - m), none⟩ = some (.int .i64 (L.getD 0 0)) := HC.out 0 hpos
  go_enter Try.func21, Try.ntmps21
  go_wp2_with fail
  refine (ref_last _ bb off l.length cap m hk hk2 hc hcm hm hm2).mono ?_
  rintro e w1 ⟨rfl, rfl⟩
  rw [HM.out]
  generalize off + (l.length - m) = o2 at *
  generalize cap - (l.length - m) = cp2 at *
  go_wp2_with fail
  go_loopw [6, 7] (fun v i wr => ∃ (k : Nat) (c : Int), k ≤ L.length ∧ i = .int .i64 k ∧ v = .int .i64 c ∧ c ∈ L ∧ (∀ j, j < k → L.getD j 0 ≤ c) ∧ w1 = wr) (fun _ i _ => L.length - (intOf i).toNat)
  case atStart => exact ⟨0, _, Nat.zero_le _, rfl, rfl, by have h0 := List.getElem_mem (l := L) (n := 0) (by omega); rw [← getD_at L 0 (by omega)] at h0; simpa using h0, fun j hj => by omega, rfl⟩
  case round =>
    obtain ⟨k, c, hk', rfl, rfl, hmem, hall, rfl⟩ := hrel
    have HA := Lib.hid hall
    have HE := Lib.hid hmem
    clear hall hmem
    by_cases hlt : k < L.length
    · have ck := HC.out k hlt
      have hin : L.getD k 0 ∈ L := by rw [getD_at _ _ hlt]; exact List.getElem_mem _
      have HI := Lib.hid hin
      clear hin
      generalize hy : L.getD k 0 = y at *
      have HY := Lib.hid hy
      clear hy
      by_cases hyc : c < y
      · go_wp2_with fail
        refine ⟨⟨k + 1, y, by omega, by go_num, rfl, HI.out, fun j hj => ?_, trivial⟩, by simp [intOf]; omega⟩
        rcases Nat.lt_succ_iff_lt_or_eq.1 hj with h | rfl
        · have := HA.out j h
          omega
        · rw [HY.out]; exact Int.le_refl _
      · go_wp2_with fail
        refine ⟨⟨k + 1, c, by omega, by go_num, rfl, HE.out, fun j hj => ?_, trivial⟩, by simp [intOf]; omega⟩
        rcases Nat.lt_succ_iff_lt_or_eq.1 hj with h | rfl
        · exact HA.out j h
        · rw [HY.out]; omega
    · obtain rfl : k = L.length := by omega
      have hfin : Win64.greatest L = c := greatest_uniq HE.out (fun y hy => by
        obtain ⟨j, hj, rfl⟩ := List.getElem_of_mem hy
        have := HA.out j hj
        rw [getD_at _ _ hj] at this
        exact this)
      have HF := Lib.hid hfin
      clear hfin
      go_wp2_with fail
      go_ret2
      rw [HF.out]
      exact ⟨rfl, rfl⟩

end Go.Proofs.Ytnohlghgihfhbaa
