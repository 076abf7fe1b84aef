/- Plain words on rings: laying asks nothing of the things that are laid. -/
import Derived.Test.YtolgapcckbcmbaaRingPure
namespace Go.Proofs.Ytolgapcckbcmbaa

section
variable {α β : Type} (G : α → β)
def mapR (r : RingM α) : RingM β := ⟨r.l.map (fun y => (y.1, G y.2)), r.floor, r.gone⟩
theorem plc_map (l : List (Int × α)) (k : Int) : plc (l.map (fun y => (y.1, G y.2))) k = plc l k := by
  induction l with
  | nil => rfl
  | cons y l ih => rw [List.map_cons, plc_cons, plc_cons, ih]
theorem there_map (l : List (Int × α)) (k : Int) : there (l.map (fun y => (y.1, G y.2))) k = there l k := by
  unfold there
  rw [plc_map, List.getElem?_map]
  cases l[plc l k]? <;> rfl
theorem insAt_map (l : List (Int × α)) (k : Int) (x : α) : insAt (l.map (fun y => (y.1, G y.2))) k (G x) = (insAt l k x).map (fun y => (y.1, G y.2)) := by
  unfold insAt
  rw [plc_map, List.map_append, List.map_cons, List.map_take, List.map_drop]
/-- Laying asks nothing of the things. -/
theorem layM_map (most : Nat) (r : RingM α) (k : Int) (x : α) : layM most (mapR G r) k (G x) = (mapR G (layM most r k x).1, (layM most r k x).2) := by
  unfold layM mapR
  simp only [there_map, plc_map, List.length_map, insAt_map]
  split
  · rfl
  · split
    · rfl
    · split
      · rfl
      · cases insAt r.l k x <;> rfl
end
theorem insAt_mem {α : Type} {l : List (Int × α)} {k : Int} {x : α} {y : Int × α} (h : y ∈ insAt l k x) : y ∈ l ∨ y = (k, x) := by
  unfold insAt at h
  rcases List.mem_append.1 h with h | h
  · exact .inl (List.mem_of_mem_take h)
  · rcases List.mem_cons.1 h with h | h
    · exact .inr h
    · exact .inl (List.mem_of_mem_drop h)
theorem layM_mem {α : Type} {most : Nat} {r : RingM α} {k : Int} {x : α} {y : Int × α} (h : y ∈ (layM most r k x).1.l) : y ∈ r.l ∨ y = (k, x) := by
  unfold layM at h
  split at h
  · exact .inl h
  · split at h
    · exact .inl h
    · split at h
      · exact insAt_mem h
      · split at h
        · exact .inl h
        · rename_i y0 t e
          exact insAt_mem (by rw [e]; exact List.mem_cons_of_mem _ h)

end Go.Proofs.Ytolgapcckbcmbaa
