/- Joined texts. -/
import Derived.WalkKit
set_option linter.unusedVariables false
set_option linter.unusedSimpArgs false
/- Plain words on rings, without any program: a row of things by rising numbers, where a number stands or would, and what laying a thing does. -/
namespace Go.Proofs.YtekdkckgmleofaaGreat

section
variable {α : Type}
/-- The numbers rise. -/
def Srt (l : List (Int × α)) : Prop := l.Pairwise (fun a b => a.1 < b.1)
/-- Where a number stands, or would. -/
def plc (l : List (Int × α)) (k : Int) : Nat := (l.takeWhile (fun y => decide (y.1 < k))).length
/-- Is it there? -/
def there (l : List (Int × α)) (k : Int) : Bool := match l[plc l k]? with
  | some y => decide (y.1 = k)
  | none => false

theorem plc_le (l : List (Int × α)) (k : Int) : plc l k ≤ l.length := by
  unfold plc
  exact (List.takeWhile_sublist _).length_le
theorem plc_cons (y : Int × α) (l : List (Int × α)) (k : Int) : plc (y :: l) k = if y.1 < k then plc l k + 1 else 0 := by
  unfold plc
  rw [List.takeWhile_cons]
  by_cases h : y.1 < k
  · rw [if_pos (by simpa using h), if_pos h]; rfl
  · rw [if_neg (by simpa using h), if_neg h]; rfl
theorem plc_lt : ∀ (l : List (Int × α)) (k : Int) (t : Nat) (y : Int × α), t < plc l k → l[t]? = some y → y.1 < k
  | [], _, _, _, h, _ => by simp [plc] at h
  | z :: l, k, t, y, h, hy => by
    rw [plc_cons] at h
    by_cases hz : z.1 < k
    · rw [if_pos hz] at h
      cases t with
      | zero => simp at hy; subst hy; exact hz
      | succ t => exact plc_lt l k t y (by omega) (by simpa using hy)
    · rw [if_neg hz] at h; omega
theorem plc_ge : ∀ (l : List (Int × α)) (k : Int) (t : Nat) (y : Int × α), Srt l → plc l k ≤ t → l[t]? = some y → k ≤ y.1
  | [], _, _, _, _, _, hy => by simp at hy
  | z :: l, k, t, y, hs, h, hy => by
    rw [plc_cons] at h
    obtain ⟨hz, hl⟩ := List.pairwise_cons.1 hs
    by_cases hzk : z.1 < k
    · rw [if_pos hzk] at h
      cases t with
      | zero => omega
      | succ t => exact plc_ge l k t y hl (by omega) (by simpa using hy)
    · cases t with
      | zero => simp at hy; subst hy; omega
      | succ t =>
        have hm : y ∈ l := List.mem_of_getElem? (by simpa using hy)
        have := hz y hm
        omega
theorem plc_uniq (l : List (Int × α)) (k : Int) (i : Nat) (hs : Srt l) (hi : i ≤ l.length) (h1 : ∀ t y, t < i → l[t]? = some y → y.1 < k) (h2 : ∀ t y, i ≤ t → l[t]? = some y → k ≤ y.1) : i = plc l k := by
  have hp := plc_le l k
  rcases Nat.lt_trichotomy i (plc l k) with h | h | h
  · have a := plc_lt l k i l[i] h (List.getElem?_eq_getElem (by omega))
    have b := h2 i l[i] (Nat.le_refl _) (List.getElem?_eq_getElem (by omega))
    omega
  · exact h
  · have a := plc_ge l k (plc l k) l[plc l k] hs (Nat.le_refl _) (List.getElem?_eq_getElem (by omega))
    have b := h1 (plc l k) l[plc l k] h (List.getElem?_eq_getElem (by omega))
    omega
theorem there_iff (l : List (Int × α)) (k : Int) (hs : Srt l) : there l k = true ↔ ∃ x, (k, x) ∈ l := by
  unfold there
  constructor
  · intro h
    cases hp : l[plc l k]? with
    | none => rw [hp] at h; cases h
    | some y =>
      rw [hp] at h
      have : y.1 = k := by simpa using h
      exact ⟨y.2, by rw [← this]; exact List.mem_of_getElem? hp⟩
  · rintro ⟨x, hx⟩
    obtain ⟨t, ht, he⟩ := List.getElem_of_mem hx
    have h1 : plc l k ≤ t := by
      rcases Nat.lt_or_ge t (plc l k) with h | h
      · have := plc_lt l k t _ h (List.getElem?_eq_getElem ht)
        rw [he] at this; simp at this
      · exact h
    have hlt : plc l k < l.length := by omega
    have h2 := plc_ge l k (plc l k) _ hs (Nat.le_refl _) (List.getElem?_eq_getElem hlt)
    rw [List.getElem?_eq_getElem hlt]
    simp only [decide_eq_true_eq]
    rcases Nat.eq_or_lt_of_le h1 with h | h
    · subst h; rw [he]
    · have := List.pairwise_iff_getElem.1 hs (plc l k) t hlt ht h
      rw [he] at this
      simp at this; omega

/-- A thing laid at its place. -/
def insAt (l : List (Int × α)) (k : Int) (x : α) : List (Int × α) := l.take (plc l k) ++ (k, x) :: l.drop (plc l k)
theorem insAt_len (l : List (Int × α)) (k : Int) (x : α) : (insAt l k x).length = l.length + 1 := by
  have := plc_le l k
  simp [insAt]; omega
theorem mem_take_idx {l : List (Int × α)} {n : Nat} {y : Int × α} (h : y ∈ l.take n) : ∃ t, t < n ∧ l[t]? = some y := by
  obtain ⟨t, ht, he⟩ := List.getElem_of_mem h
  have : t < n ∧ t < l.length := by simp at ht; omega
  refine ⟨t, this.1, ?_⟩
  rw [List.getElem?_eq_getElem this.2, ← he]
  simp
theorem mem_drop_idx {l : List (Int × α)} {n : Nat} {y : Int × α} (h : y ∈ l.drop n) : ∃ t, n ≤ t ∧ l[t]? = some y := by
  obtain ⟨t, ht, he⟩ := List.getElem_of_mem h
  have : n + t < l.length := by simp at ht; omega
  refine ⟨n + t, by omega, ?_⟩
  rw [List.getElem?_eq_getElem this, ← he]
  simp
theorem there_false_ge (l : List (Int × α)) (k : Int) (hs : Srt l) (hn : there l k = false) : ∀ y ∈ l.drop (plc l k), k < y.1 := by
  intro y hy
  obtain ⟨t, ht, he⟩ := mem_drop_idx hy
  have h1 := plc_ge l k t y hs ht he
  have h2 : y.1 ≠ k := fun h => by
    have : there l k = true := (there_iff l k hs).2 ⟨y.2, by rw [← h]; exact List.mem_of_getElem? he⟩
    rw [hn] at this; cases this
  omega
theorem insAt_srt (l : List (Int × α)) (k : Int) (x : α) (hs : Srt l) (hn : there l k = false) : Srt (insAt l k x) := by
  have hge := there_false_ge l k hs hn
  have hlt : ∀ y ∈ l.take (plc l k), y.1 < k := fun y hy => by
    obtain ⟨t, ht, he⟩ := mem_take_idx hy
    exact plc_lt l k t y ht he
  unfold insAt Srt
  refine List.pairwise_append.2 ⟨hs.sublist (List.take_sublist _ _), List.pairwise_cons.2 ⟨hge, hs.sublist (List.drop_sublist _ _)⟩, ?_⟩
  intro a ha b hb
  rcases List.mem_cons.1 hb with rfl | hb
  · exact hlt a ha
  · have := hlt a ha
    have := hge b hb
    omega
theorem srt_tail {l : List (Int × α)} (hs : Srt l) : Srt l.tail := hs.sublist (List.tail_sublist _)

/-- A ring: the things, the greatest number that went, whether one did. -/
structure RingM (α : Type) where
  l : List (Int × α)
  floor : Int
  gone : Bool
/-- Lay: the ring, what it tells: the number that went, whether one did, the error. -/
def layM (most : Nat) (r : RingM α) (k : Int) (x : α) : RingM α × Int × Bool × Int :=
  if there r.l k then (r, 0, false, 12)
  else if (r.gone && decide (k ≤ r.floor)) || (decide (plc r.l k = 0) && decide (r.l.length = most)) then (r, 0, false, 13)
  else if r.l.length + 1 ≤ most then (⟨insAt r.l k x, r.floor, r.gone⟩, 0, false, 0)
  else
    match insAt r.l k x with
    | [] => (r, 0, false, 0)
    | y :: t => (⟨t, y.1, true⟩, y.1, true, 0)
end

/-- The cells of a row of things, so many each. -/
def cellsL {α : Type} (f : α → List Value) (l : List α) : List Value := l.flatMap f
section
variable {α : Type} {f : α → List Value} {s : Nat}
theorem cellsL_len (hf : ∀ x, (f x).length = s) : ∀ (l : List α), (cellsL f l).length = l.length * s
  | [] => by simp [cellsL]
  | x :: l => by
    have := cellsL_len hf l
    unfold cellsL at *
    rw [List.flatMap_cons, List.length_append, hf, this, List.length_cons, Nat.add_mul, Nat.one_mul, Nat.add_comm]
theorem cellsL_get (hf : ∀ x, (f x).length = s) : ∀ (l : List α) (t j : Nat) (x : α), l[t]? = some x → j < s → (cellsL f l)[t * s + j]? = (f x)[j]?
  | [], _, _, _, h, _ => by simp at h
  | y :: l, 0, j, x, h, hj => by
    simp at h
    subst h
    unfold cellsL
    rw [List.flatMap_cons, Nat.zero_mul, Nat.zero_add, List.getElem?_append_left (by rw [hf]; exact hj)]
  | y :: l, t + 1, j, x, h, hj => by
    have ih := cellsL_get hf l t j x (by simpa using h) hj
    unfold cellsL at *
    rw [List.flatMap_cons, List.getElem?_append_right (by rw [hf, Nat.add_mul]; omega), hf]
    rw [show (t + 1) * s + j - s = t * s + j from by rw [Nat.add_mul]; omega]
    exact ih
theorem cellsL_take (hf : ∀ x, (f x).length = s) (l : List α) (n : Nat) : (cellsL f l).take (n * s) = cellsL f (l.take n) := by
  rcases Nat.lt_or_ge l.length n with h | h
  · rw [List.take_of_length_le (by rw [cellsL_len hf]; exact Nat.mul_le_mul_right _ (by omega)), List.take_of_length_le (by omega)]
  · have e : cellsL f l = cellsL f (l.take n) ++ cellsL f (l.drop n) := by
      unfold cellsL; rw [← List.flatMap_append, List.take_append_drop]
    have hl : (cellsL f (l.take n)).length = n * s := by rw [cellsL_len hf, List.length_take, Nat.min_eq_left h]
    rw [e, ← hl, List.take_left]
theorem cellsL_drop (hf : ∀ x, (f x).length = s) (l : List α) (n : Nat) : (cellsL f l).drop (n * s) = cellsL f (l.drop n) := by
  rcases Nat.lt_or_ge l.length n with h | h
  · rw [List.drop_eq_nil_of_le (by rw [cellsL_len hf]; exact Nat.mul_le_mul_right _ (by omega)), List.drop_eq_nil_of_le (by omega)]; rfl
  · have e : cellsL f l = cellsL f (l.take n) ++ cellsL f (l.drop n) := by
      unfold cellsL; rw [← List.flatMap_append, List.take_append_drop]
    have hl : (cellsL f (l.take n)).length = n * s := by rw [cellsL_len hf, List.length_take, Nat.min_eq_left h]
    rw [e, ← hl, List.drop_left]
theorem cellsL_append (l m : List α) : cellsL f (l ++ m) = cellsL f l ++ cellsL f m := by
  unfold cellsL; rw [List.flatMap_append]
theorem cellsL_cons (x : α) (m : List α) : cellsL f (x :: m) = f x ++ cellsL f m := by
  unfold cellsL; rw [List.flatMap_cons]
end

end Go.Proofs.YtekdkckgmleofaaGreat

/- A snapshot as it is stored: its tick, its time, and the slice of its entities. -/
namespace Go.Proofs.YtekdkckgmleofaaGreat
structure SnapS where
  tick : Int
  time : Int
  a : Option Addr
  len : Nat
  cap : Nat
abbrev sv (x : SnapS) : Value := .agg #[.int .i64 x.tick, .int .i64 x.time, .slice x.a x.len x.cap]
abbrev zS : SnapS := ⟨0, 0, none, 0, 0⟩
end Go.Proofs.YtekdkckgmleofaaGreat
