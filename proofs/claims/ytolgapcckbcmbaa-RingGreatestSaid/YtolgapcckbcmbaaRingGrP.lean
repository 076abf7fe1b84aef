/- Plain words on rings: what is there behind a thing that is laid, number by number. -/
import Derived.Test.YtolgapcckbcmbaaRingPure
namespace Go.Proofs.Ytolgapcckbcmbaa
section
variable {α : Type}
theorem insAt_in {l : List (Int × α)} {k : Int} {x : α} : (k, x) ∈ insAt l k x := by
  unfold insAt
  exact List.mem_append_right _ (List.mem_cons_self ..)
theorem insAt_old {l : List (Int × α)} {k : Int} {x : α} {y : Int × α} (h : y ∈ l) : y ∈ insAt l k x := by
  unfold insAt
  rw [← List.take_append_drop (plc l k) l] at h
  rcases List.mem_append.1 h with h | h
  · exact List.mem_append_left _ h
  · exact List.mem_append_right _ (List.mem_cons_of_mem _ h)
theorem insAt_cases {l : List (Int × α)} {k : Int} {x : α} {y : Int × α} (h : y ∈ insAt l k x) : y ∈ l ∨ y = (k, x) := by
  unfold insAt at h
  rcases List.mem_append.1 h with h | h
  · exact .inl (List.mem_of_mem_take h)
  · rcases List.mem_cons.1 h with h | h
    · exact .inr h
    · exact .inl (List.mem_of_mem_drop h)
theorem there_false {l : List (Int × α)} {k : Int} (hs : Srt l) (h : there l k = false) : ∀ y ∈ l, y.1 ≠ k := by
  intro y hy e
  have : there l k = true := (there_iff l k hs).2 ⟨y.2, by rw [← e]; exact hy⟩
  rw [h] at this
  cases this

/-- The greatest number that went is below all that are there. -/
def Over (r : RingM α) : Prop := r.gone = true → ∀ y ∈ r.l, r.floor < y.1

/-- What laying does, in cases. -/
theorem layM_cases (most : Nat) (r : RingM α) (k : Int) (x : α) (hs : Srt r.l) (ho : Over r) :
    (there r.l k = true ∧ layM most r k x = (r, 0, false, 12)) ∨ (there r.l k = false ∧ layM most r k x = (r, 0, false, 13)) ∨
    (there r.l k = false ∧ r.l.length + 1 ≤ most ∧ layM most r k x = (⟨insAt r.l k x, r.floor, r.gone⟩, 0, false, 0) ∧ Over ⟨insAt r.l k x, r.floor, r.gone⟩) ∨
    (there r.l k = false ∧ ∃ y t, insAt r.l k x = y :: t ∧ layM most r k x = (⟨t, y.1, true⟩, y.1, true, 0) ∧ Over ⟨t, y.1, true⟩) := by
  cases ht : there r.l k with
  | true => exact .inl ⟨rfl, by unfold layM; rw [if_pos ht]⟩
  | false =>
    refine .inr ?_
    by_cases h1 : ((r.gone && decide (k ≤ r.floor)) || (decide (plc r.l k = 0) && decide (r.l.length = most))) = true
    · exact .inl ⟨rfl, by unfold layM; rw [if_neg (by rw [ht]; simp), if_pos h1]⟩
    · refine .inr ?_
      by_cases hl : r.l.length + 1 ≤ most
      · refine .inl ⟨rfl, hl, by unfold layM; rw [if_neg (by rw [ht]; simp), if_neg h1, if_pos hl], fun hg y hy => ?_⟩
        have hg' : r.gone = true := hg
        rcases insAt_cases hy with h | h
        · exact ho hg y h
        · subst h
          rw [hg'] at h1
          simp at h1
          show r.floor < k
          omega
      · refine .inr ⟨rfl, ?_⟩
        have hsi := insAt_srt r.l k x hs ht
        cases hi : insAt r.l k x with
        | nil => have := insAt_len r.l k x; rw [hi] at this; simp at this
        | cons y t =>
          rw [hi] at hsi
          exact ⟨y, t, rfl, by unfold layM; rw [if_neg (by rw [ht]; simp), if_neg h1, if_neg hl, hi], fun _ z hz => (List.pairwise_cons.1 hsi).1 z hz⟩
end
end Go.Proofs.Ytolgapcckbcmbaa
