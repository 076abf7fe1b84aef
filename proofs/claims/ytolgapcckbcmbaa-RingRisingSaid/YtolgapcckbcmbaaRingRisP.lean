/- Plain words on rings: laying numbers that rise. -/
import Derived.Test.YtolgapcckbcmbaaRingPure
namespace Go.Proofs.Ytolgapcckbcmbaa

theorem plc_top {α : Type} : ∀ (l : List (Int × α)) (k : Int), (∀ y ∈ l, y.1 < k) → plc l k = l.length
  | [], _, _ => rfl
  | y :: l, k, h => by
    rw [plc_cons, if_pos (h y List.mem_cons_self), plc_top l k (fun z hz => h z (List.mem_cons_of_mem _ hz)), List.length_cons]
theorem there_top {α : Type} (l : List (Int × α)) (k : Int) (h : ∀ y ∈ l, y.1 < k) : there l k = false := by
  unfold there
  rw [plc_top l k h, List.getElem?_eq_none (Nat.le_refl _)]
/-- A number above all others is laid last. -/
theorem layM_top {α : Type} {most : Nat} {r : RingM α} {k : Int} {x : α} (h : ∀ y ∈ r.l, y.1 < k) (hf : r.gone = true → r.floor < k) (hm : 1 ≤ most) :
    layM most r k x = if r.l.length + 1 ≤ most then (⟨r.l ++ [(k, x)], r.floor, r.gone⟩, (0 : Int), false, (0 : Int)) else
      match r.l ++ [(k, x)] with
      | [] => (r, (0 : Int), false, (0 : Int))
      | y :: t => (⟨t, y.1, true⟩, y.1, true, (0 : Int)) := by
  have e1 : insAt r.l k x = r.l ++ [(k, x)] := by
    unfold insAt
    rw [plc_top r.l k h, List.take_length, List.drop_length]
  have h1 : ((r.gone && decide (k ≤ r.floor)) || (decide (plc r.l k = 0) && decide (r.l.length = most))) = false := by
    rw [plc_top r.l k h]
    have h2 : (decide (r.l.length = 0) && decide (r.l.length = most)) = false := by
      by_cases h0 : r.l.length = 0
      · have : ¬ r.l.length = most := by omega
        simp [this]
      · simp [h0]
    rw [h2, Bool.or_false]
    cases hg : r.gone with
    | false => rfl
    | true =>
      have := hf hg
      have : ¬ k ≤ r.floor := by omega
      simp [this]
  unfold layM
  rw [if_neg (by rw [there_top r.l k h]; simp), if_neg (by rw [h1]; simp), e1]
  rfl

/-- The numbers that so many gaps give. -/
def psum (l : List Int) : Nat → Int
  | 0 => -100000
  | k + 1 => psum l k + (1 + l.getD k 0)
def numsL (l : List Int) (k : Nat) : List Int := (List.range k).map (fun i => psum l (i + 1))
def risL (l : List Int) (m k : Nat) : List (Int × Int) := ((List.range k).drop (k - m)).map (fun i => (psum l (i + 1), (i : Int)))
def risR (l : List Int) (m k : Nat) : RingM Int := ⟨risL l m k, if k ≤ m then 0 else psum l (k - m), decide (m < k)⟩

theorem psum_step (l : List Int) (k : Nat) : psum l (k + 1) = psum l k + (1 + l.getD k 0) := rfl
theorem psum_up (l : List Int) (h : ∀ x ∈ l, 0 ≤ x) (k : Nat) : psum l k < psum l (k + 1) := by
  rw [psum_step]
  have : 0 ≤ l.getD k 0 := by
    rcases Nat.lt_or_ge k l.length with h1 | h1
    · rw [List.getD_eq_getElem?_getD, List.getElem?_eq_getElem h1]; exact h _ (List.getElem_mem h1)
    · rw [List.getD_eq_getElem?_getD, List.getElem?_eq_none h1]; exact Int.le_refl _
  omega
theorem psum_mono (l : List Int) (h : ∀ x ∈ l, 0 ≤ x) {i j : Nat} (hij : i < j) : psum l i < psum l j := by
  induction j with
  | zero => omega
  | succ j ih =>
    have h1 := psum_up l h j
    rcases Nat.lt_or_ge i j with h2 | h2
    · have := ih h2; omega
    · obtain rfl : i = j := by omega
      exact h1
theorem psum_bd (l : List Int) (h : ∀ x ∈ l, 0 ≤ x ∧ x ≤ 65535) (k : Nat) : -100000 ≤ psum l k ∧ psum l k ≤ -100000 + 65536 * k := by
  induction k with
  | zero => exact ⟨Int.le_refl _, by simp [psum]⟩
  | succ k ih =>
    rw [psum_step]
    have : 0 ≤ l.getD k 0 ∧ l.getD k 0 ≤ 65535 := by
      rcases Nat.lt_or_ge k l.length with h1 | h1
      · rw [List.getD_eq_getElem?_getD, List.getElem?_eq_getElem h1]; exact h _ (List.getElem_mem h1)
      · rw [List.getD_eq_getElem?_getD, List.getElem?_eq_none h1]; simp
    omega
theorem numsL_len (l : List Int) (k : Nat) : (numsL l k).length = k := by simp [numsL]
theorem numsL_snoc (l : List Int) (k : Nat) : numsL l (k + 1) = numsL l k ++ [psum l (k + 1)] := by simp [numsL, List.range_succ]
theorem numsL_get (l : List Int) (k i : Nat) (h : i < k) : (numsL l k)[i]? = some (psum l (i + 1)) := by simp [numsL, h]
theorem risL_len (l : List Int) (m k : Nat) : (risL l m k).length = min m k := by simp [risL]; omega
theorem risL_get (l : List Int) (m k i : Nat) (h : i < min m k) : (risL l m k)[i]? = some (psum l (k - m + i + 1), ((k - m + i : Nat) : Int)) := by
  have h1 : k - m + i < k := by omega
  simp only [risL, List.getElem?_map, List.getElem?_drop, List.getElem?_range h1, Option.map_some]
theorem risL_mem (l : List Int) (m k : Nat) {y : Int × Int} (h : y ∈ risL l m k) : ∃ i, i < k ∧ y.1 = psum l (i + 1) := by
  simp only [risL, List.mem_map] at h
  obtain ⟨i, hi, rfl⟩ := h
  exact ⟨i, by simpa using List.mem_of_mem_drop hi, rfl⟩

theorem ris_lay (l : List Int) (h : ∀ x ∈ l, 0 ≤ x) (m k : Nat) (hm : 1 ≤ m) :
    layM m (risR l m k) (psum l (k + 1)) k = (risR l m (k + 1), if k < m then 0 else psum l (k - m + 1), decide (m ≤ k), 0) := by
  rw [layM_top (r := risR l m k) (fun y hy => by
    obtain ⟨i, hi, e⟩ := risL_mem l m k hy
    rw [e]
    exact psum_mono l h (by omega)) (fun hg => by
    have hk : m < k := by simpa [risR] using hg
    show (if k ≤ m then 0 else psum l (k - m)) < _
    rw [if_neg (by omega)]
    exact psum_mono l h (by omega)) hm]
  have hlen : (risR l m k).l.length = min m k := risL_len l m k
  have hl : (risR l m k).l = risL l m k := rfl
  rw [hlen, hl]
  by_cases hk : k < m
  · rw [if_pos (by omega)]
    have e1 : risL l m k ++ [(psum l (k + 1), (k : Int))] = risL l m (k + 1) := by
      unfold risL
      rw [show k - m = 0 from by omega, show k + 1 - m = 0 from by omega, List.drop_zero, List.drop_zero, List.range_succ, List.map_append]; rfl
    rw [e1, if_pos hk]
    unfold risR
    rw [if_pos (by omega), if_pos (by omega)]
    have d1 : decide (m < k) = false := by simp; omega
    have d2 : decide (m < k + 1) = false := by simp; omega
    have d3 : decide (m ≤ k) = false := by simp; omega
    rw [d1, d2, d3]
  · rw [if_neg (by omega)]
    have e1 : risL l m k ++ [(psum l (k + 1), (k : Int))] = (psum l (k - m + 1), ((k - m : Nat) : Int)) :: risL l m (k + 1) := by
      have e2 : List.range (k + 1) = List.range k ++ [k] := List.range_succ
      have e3 : (List.range k).drop (k - m) ++ [k] = (List.range (k + 1)).drop (k - m) := by
        rw [e2, List.drop_append_of_le_length (by simp)]
      have e4 : (List.range (k + 1)).drop (k - m) = (k - m) :: (List.range (k + 1)).drop (k + 1 - m) := by
        rw [show k + 1 - m = (k - m) + 1 from by omega, List.drop_eq_getElem_cons (by simp; omega)]
        simp
      unfold risL
      have e5 := congrArg (List.map (fun i : Nat => (psum l (i + 1), (i : Int)))) (e3.trans e4)
      rw [List.map_append, List.map_cons, List.map_cons, List.map_nil] at e5
      exact e5
    rw [e1, if_neg hk]
    dsimp only
    unfold risR
    rw [if_neg (by omega)]
    have d2 : decide (m < k + 1) = true := by simp; omega
    have d3 : decide (m ≤ k) = true := by simp; omega
    rw [d2, d3, show k + 1 - m = k - m + 1 from by omega]
end Go.Proofs.Ytolgapcckbcmbaa
