/- Plain words on windows, without any program: of a row those elements that no later one is less than; what is laid behind them, and what falls out. -/
set_option linter.unusedVariables false
set_option linter.unusedSimpArgs false
namespace Go.Proofs.YtekdkckgmleofaaGreat

/-- A total order, told by a Bool. -/
structure Tot {α : Type} (lt : α → α → Bool) : Prop where
  irrefl : ∀ a, lt a a = false
  trans : ∀ a b c, lt a b = true → lt b c = true → lt a c = true
  tri : ∀ a b, lt a b = false → lt b a = false → a = b

theorem Tot.asymm {α : Type} {lt : α → α → Bool} (T : Tot lt) {a b : α} (h : lt a b = true) : lt b a = false := by
  cases h2 : lt b a with
  | false => rfl
  | true => have := T.trans a b a h h2; rw [T.irrefl] at this; cases this
theorem Tot.lt_of_lt_of_le {α : Type} {lt : α → α → Bool} (T : Tot lt) {a b c : α} (h : lt a b = true) (h2 : lt c b = false) : lt a c = true := by
  cases h3 : lt b c with
  | true => exact T.trans a b c h h3
  | false => rw [← T.tri _ _ h3 h2]; exact h
theorem Tot.flip {α : Type} {lt : α → α → Bool} (T : Tot lt) : Tot (fun a b => lt b a) :=
  ⟨T.irrefl, fun _ _ _ h1 h2 => T.trans _ _ _ h2 h1, fun a b h1 h2 => (T.tri b a h1 h2).symm⟩

section
variable {α : Type} (lt : α → α → Bool)

/-- Those that no later one is less than. -/
def minsL : List α → List α
  | [] => []
  | x :: l => if l.all (fun y => !lt y x) then x :: minsL l else minsL l

/-- A row without the last ones that are needless. -/
def popL (nd : α → Bool) (l : List α) : List α := (l.reverse.dropWhile nd).reverse

theorem popL_nil (nd : α → Bool) : popL nd [] = [] := rfl
theorem popL_snoc (nd : α → Bool) (l : List α) (y : α) : popL nd (l ++ [y]) = if nd y then popL nd l else l ++ [y] := by
  unfold popL
  rw [List.reverse_append]
  simp only [List.reverse_cons, List.reverse_nil, List.nil_append, List.singleton_append, List.dropWhile_cons]
  split <;> simp
theorem dropWhile_all (nd : α → Bool) : ∀ (l : List α), l.all nd = true → l.dropWhile nd = []
  | [], _ => rfl
  | x :: l, h => by
    simp only [List.all_cons, Bool.and_eq_true] at h
    rw [List.dropWhile_cons, if_pos h.1]; exact dropWhile_all nd l h.2
theorem popL_all (nd : α → Bool) (l : List α) (h : l.all nd = true) : popL nd l = [] := by
  unfold popL
  rw [dropWhile_all nd _ (by simpa using h)]; rfl
theorem dropWhile_snoc (nd : α → Bool) (y : α) (hy : nd y = false) : ∀ (l : List α), (l ++ [y]).dropWhile nd = l.dropWhile nd ++ [y]
  | [] => by simp [hy]
  | x :: l => by
    rw [List.cons_append, List.dropWhile_cons, List.dropWhile_cons]
    split
    · exact dropWhile_snoc nd y hy l
    · rfl
theorem popL_cons (nd : α → Bool) (y : α) (hy : nd y = false) (l : List α) : popL nd (y :: l) = y :: popL nd l := by
  unfold popL
  rw [List.reverse_cons, dropWhile_snoc nd y hy]
  simp

variable {lt}
theorem minsL_sub : ∀ (l : List α) (y : α), y ∈ minsL lt l → y ∈ l
  | [], _, h => h
  | x :: l, y, h => by
    simp only [minsL] at h
    split at h
    · rcases List.mem_cons.1 h with rfl | h
      · exact List.mem_cons_self
      · exact List.mem_cons_of_mem _ (minsL_sub l y h)
    · exact List.mem_cons_of_mem _ (minsL_sub l y h)
theorem minsL_ne {l : List α} (h : l ≠ []) : minsL lt l ≠ [] := by
  induction l with
  | nil => exact absurd rfl h
  | cons x l ih =>
    simp only [minsL]
    split
    · simp
    · rename_i hn
      refine ih fun he => hn ?_
      subst he; rfl
theorem minsL_snoc (T : Tot lt) (x : α) : ∀ (l : List α), minsL lt (l ++ [x]) = popL (fun y => lt x y) (minsL lt l) ++ [x]
  | [] => rfl
  | y :: l => by
    have ih := minsL_snoc T x l
    simp only [List.cons_append, minsL, List.all_append, List.all_cons, List.all_nil, Bool.and_true]
    by_cases h : l.all (fun z => !lt z y) = true
    · rw [h, if_pos rfl, Bool.true_and]
      cases hxy : lt x y with
      | false =>
        rw [if_pos (show (!false) = true from rfl), popL_cons _ _ hxy, ih]; rfl
      | true =>
        rw [if_neg (by simp), ih]
        have h1 : ∀ z ∈ minsL lt l, lt x z = true := fun z hz => by
          have := List.all_eq_true.1 h z (minsL_sub l z hz)
          exact T.lt_of_lt_of_le hxy (by simpa using this)
        rw [popL_all _ (minsL lt l) (List.all_eq_true.2 h1), popL_all _ (y :: minsL lt l) (by simp only [List.all_cons, hxy, Bool.true_and]; exact List.all_eq_true.2 h1)]
    · have h' : l.all (fun z => !lt z y) = false := by simpa using h
      rw [h', Bool.false_and, if_neg (by simp), if_neg (by simp), ih]
/-- The first of them is the least of all. -/
theorem minsL_head (T : Tot lt) : ∀ (l : List α) (h : α) (t : List α), minsL lt l = h :: t → h ∈ l ∧ ∀ y ∈ l, lt y h = false
  | [], _, _, he => by cases he
  | z :: l, h, t, he => by
    simp only [minsL] at he
    by_cases ha : l.all (fun y => !lt y z) = true
    · rw [if_pos ha] at he
      injection he with h1 h2
      subst h1
      refine ⟨List.mem_cons_self, fun y hy => ?_⟩
      rcases List.mem_cons.1 hy with rfl | hy
      · exact T.irrefl _
      · simpa using List.all_eq_true.1 ha y hy
    · rw [if_neg ha] at he
      obtain ⟨h1, h2⟩ := minsL_head T l h t he
      refine ⟨List.mem_cons_of_mem _ h1, fun y hy => ?_⟩
      rcases List.mem_cons.1 hy with rfl | hy
      · have : ∃ u ∈ l, lt u y = true := by
          have := ha
          simp only [List.all_eq_true, Bool.not_eq_true', Classical.not_forall] at this
          obtain ⟨u, hu, hn⟩ := this
          exact ⟨u, hu, by simpa using hn⟩
        obtain ⟨u, hu, hlt⟩ := this
        cases hyh : lt y h with
        | false => rfl
        | true => have := T.trans _ _ _ hlt hyh; rw [h2 u hu] at this; cases this
      · exact h2 y hy
/-- What falls out: it stands ahead, or isn't among them. -/
theorem minsL_tail (T : Tot lt) (x : α) (l : List α) : ∃ h t, minsL lt (x :: l) = h :: t ∧ ((h = x ∧ minsL lt l = t) ∨ (h ≠ x ∧ minsL lt l = h :: t)) := by
  by_cases ha : l.all (fun y => !lt y x) = true
  · exact ⟨x, minsL lt l, by simp only [minsL]; rw [if_pos ha], .inl ⟨rfl, rfl⟩⟩
  · have e : minsL lt (x :: l) = minsL lt l := by simp only [minsL]; rw [if_neg ha]
    have hu : ∃ u ∈ l, lt u x = true := by
      have := ha
      simp only [List.all_eq_true, Bool.not_eq_true', Classical.not_forall] at this
      obtain ⟨u, hu, hn⟩ := this
      exact ⟨u, hu, by simpa using hn⟩
    obtain ⟨u, hu, hlt⟩ := hu
    cases hm : minsL lt l with
    | nil => exact absurd hm (minsL_ne (by rintro rfl; cases hu))
    | cons h t =>
      have hh := (minsL_head T l h t hm).2 u hu
      refine ⟨h, t, by rw [e, hm], .inr ⟨?_, rfl⟩⟩
      rintro rfl
      rw [hlt] at hh; cases hh
theorem minsL_len_le : ∀ (l : List α), (minsL lt l).length ≤ l.length
  | [] => Nat.le_refl _
  | x :: l => by
    have := minsL_len_le l
    simp only [minsL]
    split <;> simp <;> omega
end

/-- The last so many. -/
def lastN {α : Type} (n : Nat) (l : List α) : List α := l.drop (l.length - n)
theorem lastN_len {α : Type} (n : Nat) (l : List α) : (lastN n l).length = min n l.length := by simp [lastN]; omega
theorem lastN_mem {α : Type} {n : Nat} {l : List α} {x : α} (h : x ∈ lastN n l) : x ∈ l := List.mem_of_mem_drop h
theorem lastN_nil {α : Type} (n : Nat) : lastN n ([] : List α) = [] := by simp [lastN]
theorem lastN_short {α : Type} {n : Nat} {l : List α} (h : l.length ≤ n) : lastN n l = l := by simp [lastN, show l.length - n = 0 from by omega]
theorem lastN_snoc {α : Type} {n : Nat} (l : List α) (x : α) (hn : 0 < n) :
    lastN n (l ++ [x]) = (if (lastN n l).length = n then (lastN n l).tail else lastN n l) ++ [x] := by
  rw [lastN_len]
  by_cases h : n ≤ l.length
  · rw [if_pos (by omega)]
    simp only [lastN, List.length_append, List.length_cons, List.length_nil]
    rw [List.drop_append_of_le_length (by omega), List.tail_drop]
    congr 2
    omega
  · rw [if_neg (by omega), lastN_short (by simp; omega), lastN_short (by omega)]

end Go.Proofs.YtekdkckgmleofaaGreat
