/- slices.Delete of the first thing at int. -/
import Derived.Test.YtolgapcckbcmbaaRinI
namespace Go.Proofs.Ytolgapcckbcmbaa.RingI
open Go.RowKit

def DelPost (w : World) (l : List (Int × Int)) (own : Option Nat) (e : Ending) (w' : World) : Prop :=
  ∃ v', e = .returned v' ∧ Sl w' v' 93 2 l.length (cellsL enc l) own ∧ Kept (fun k => own = some k) w w'

theorem take_app {α : Type} {a b : List α} {n : Nat} (h : a.length = n) : (a ++ b).take n = a := by subst h; simp

theorem del_cells (l : List (Int × Int)) (y : Int × Int) (Z R : List Value) :
    ((((cellsL enc (y :: l)).take (0 * 2) ++ cellsL enc l ++ (cellsL enc (y :: l)).drop ((0 + l.length) * 2)).take (l.length * 2) ++ Z ++ R).take (l.length * 2)) = cellsL enc l := by
  have h := cellsL_len enc_len l
  rw [Nat.zero_mul, List.take_zero, List.nil_append, take_app h, List.append_assoc, take_app h]


set_option maxHeartbeats 2000000 in
set_option maxRecDepth 100000 in
theorem delete_one (w : World) (own : Option Nat) (y : Int × Int) (g off : Nat) (ho : own = some g) (h : Sl w (.slice (some ⟨g, off, none⟩) 1 1) 93 2 1 (cellsL enc [y]) own) :
    Calls Try.prog 39 #[.slice (some ⟨g, off, none⟩) 1 1, .int .i64 0, .int .i64 1] w (DelPost w [] own) := by
  obtain ⟨i0, hi, hz0, hz1, hz2⟩ := info_parts infoE
  have HI := Lib.hid hi
  have HZ0 := Lib.hid hz0
  have HZ1 := Lib.hid hz1
  clear hi hz0 hz1 hz2
  have H := Lib.hid h
  clear h
  subst ho
  have HZC : Hid (∀ u ∈ (Value.agg #[.int .i64 0, Value.int .i64 0]).cells, u.oneCell' = true) := Lib.hid (fun u hu => enc_one [(0, 0)] u (by simpa [cellsL, enc, Value.cells] using hu))
  have HSQ : Hid (Src w (.slice (some ⟨g, off, none⟩) 0 0) 0 []) := Lib.hid (.inr ⟨_, 0, rfl, fun j u hu => by simp at hu⟩)
  go_enter Try.func39, Try.ntmps39
  go_wp2_with fail
  refine region_mix (fun w' => ∃ n, w' = w.drewN n) [] [0, 1, 2, 3, 4, 5] [6, 7] (by kernel_rfl) (by kernel_rfl) (fun _ _ d _ _ h => by cases d <;> exact h) ⟨1, rfl⟩ ?_
  simp only [pick, List.filterMap_cons, List.filterMap_nil, List.getElem?_toArray, List.getElem?_cons_zero, List.getElem?_cons_succ, floatPut, Act.put, Act.eval, List.setIfInBounds_toArray, List.set_cons_zero, List.set_cons_succ, Array.getD_eq_getD_getElem?, Option.getD_some]
  repeat (change wpQuiet _ _ _ _ (List.cons _ _) _; go_big_quiet_step (fail))
  refine wpQuiet_nil ?_
  rintro _ ⟨nr, rfl⟩
  have HW := Lib.hid (H.out.drewN nr)
  have HSw : Hid (Src (w.drewN nr) (.slice (some ⟨g, off, none⟩) 0 0) 0 []) := Lib.hid HSQ.out
  refine wpList_append_in _ rfl _ _ 88 rfl 93 i0 2 Try.underlying88 HI.out HZ1.out _ 1 0 _ _ _ (by exact rfl) HW.out (by omega) (.slice (some ⟨g, off, none⟩) 0 0) 0 [] (by exact rfl) HSw.out rfl (by simp) (by omega) ?_
  intro w2 hS2 hK2
  have SB := Lib.hid hS2
  have KB := Lib.hid hK2
  clear hS2 hK2
  go_wp2_with (refine wpList_clear_sl _ rfl _ 88 rfl 93 i0 (.agg #[.int .i64 0, Value.int .i64 0]) Try.underlying88 HI.out HZ0.out 2 HZ1.out rfl HZC.out (some ⟨g, off, none⟩) 1 1 (by exact rfl) _ 1 _ _ _ SB.out 0 (by omega) (by omega) ⟨g, off, rfl, by simp⟩ ?_; intro w3 hS3 hK3; have SD := Lib.hid hS3; have KD := Lib.hid hK3; clear hS3 hK3)
  all_goals
    go_ret
    refine ⟨_, rfl, ?_, ((((Kept.refl _ w).drewN nr).trans KB.out (fun _ h => .inl h)).trans KD.out (fun _ h => .inl h))⟩
    have := SD.out.take (k := 0) (by omega)
    simpa [cellsL] using this

set_option maxHeartbeats 2000000 in
set_option maxRecDepth 100000 in
theorem delete_calls (w : World) (v0 : Value) (l : List (Int × Int)) (own : Option Nat) (y : Int × Int) (h : Sl w v0 93 2 (l.length + 1) (cellsL enc (y :: l)) own) (hl : l.length ≤ 200) :
    Calls Try.prog 39 #[v0, .int .i64 0, .int .i64 1] w (DelPost w l own) := by
  obtain ⟨i0, hi, hz0, hz1, hz2⟩ := info_parts infoE
  have HI := Lib.hid hi
  have HZ0 := Lib.hid hz0
  have HZ1 := Lib.hid hz1
  clear hi hz0 hz1 hz2
  have H := Lib.hid h
  obtain ⟨g, off, cap, ho, rfl, hc, hm, -, -⟩ := H.out.some (by omega)
  clear h
  subst ho
  unfold maxLen at hm
  have HZC : Hid (∀ u ∈ (Value.agg #[.int .i64 0, Value.int .i64 0]).cells, u.oneCell' = true) := Lib.hid (fun u hu => enc_one [(0, 0)] u (by simpa [cellsL, enc, Value.cells] using hu))
  have n1 : ¬ cap = l.length := by omega
  by_cases n2 : cap = 1
  · have e0 : l = [] := List.eq_nil_of_length_eq_zero (by omega)
    subst e0
    subst n2
    exact delete_one w (some g) y g off rfl H.out
  · have N2 := Lib.hid n2
    have HSR := Lib.hid (H.out.drop (k := 1) (by omega)).src
    have H1C : Hid (∀ u ∈ cellsL enc l, u.oneCell' = true) := Lib.hid (enc_one l)
    have HLL : Hid ((cellsL enc l).length = l.length * 2) := Lib.hid (cellsL_len enc_len l)
    have HSQ : Hid (Src w (.slice (some ⟨g, off + 1 * 2, none⟩) l.length (cap - 1)) l.length (cellsL enc l)) := Lib.hid (by
      have := HSR.out
      rw [if_neg N2.out, Option.map_some, Addr.add_lit] at this
      rw [show (cellsL enc (y :: l)).drop (1 * 2) = cellsL enc l by rw [cellsL_drop enc_len]; rfl] at this
      simpa using this)
    clear HSR
    go_enter Try.func39, Try.ntmps39
    go_wp2_with fail
    refine region_mix (fun w' => ∃ n, w' = w.drewN n) [] [0, 1, 2, 3, 4, 5] [6, 7] (by kernel_rfl) (by kernel_rfl) (fun _ _ d _ _ h => by cases d <;> exact h) ⟨1, rfl⟩ ?_
    simp only [pick, List.filterMap_cons, List.filterMap_nil, List.getElem?_toArray, List.getElem?_cons_zero, List.getElem?_cons_succ, floatPut, Act.put, Act.eval, List.setIfInBounds_toArray, List.set_cons_zero, List.set_cons_succ, Array.getD_eq_getD_getElem?, Option.getD_some]
    repeat (change wpQuiet _ _ _ _ (List.cons _ _) _; go_big_quiet_step (fail))
    refine wpQuiet_nil ?_
    rintro _ ⟨nr, rfl⟩
    have HW := Lib.hid (H.out.drewN nr)
    have HSw : Hid (Src (w.drewN nr) (.slice (some ⟨g, off + 1 * 2, none⟩) l.length (cap - 1)) l.length (cellsL enc l)) := Lib.hid HSQ.out
    refine wpList_append_in _ rfl _ _ 88 rfl 93 i0 2 Try.underlying88 HI.out HZ1.out _ (l.length + 1) 0 _ _ _ (by exact rfl) HW.out (by omega) (.slice (some ⟨g, off + 1 * 2, none⟩) l.length (cap - 1)) l.length (cellsL enc l) (by exact rfl) HSw.out HLL.out H1C.out (by omega) ?_
    intro w2 hS2 hK2
    have SB := Lib.hid hS2
    have KB := Lib.hid hK2
    clear hS2 hK2
    go_wp2_with (refine wpList_clear_sl _ rfl _ 88 rfl 93 i0 (.agg #[.int .i64 0, Value.int .i64 0]) Try.underlying88 HI.out HZ0.out 2 HZ1.out rfl HZC.out (some ⟨g, off + l.length * 2, none⟩) 1 (cap - l.length) (by exact rfl) _ (l.length + 1) _ _ _ SB.out l.length (by omega) (by omega) ⟨g, off, rfl, rfl⟩ ?_; intro w3 hS3 hK3; have SD := Lib.hid hS3; have KD := Lib.hid hK3; clear hS3 hK3)
    all_goals
      go_ret
      refine ⟨_, rfl, ?_, ((((Kept.refl _ w).drewN nr).trans KB.out (fun _ h => .inl h)).trans KD.out (fun _ h => .inl h))⟩
      have := SD.out.take (k := l.length) (by omega)
      rw [del_cells] at this
      exact this
end Go.Proofs.Ytolgapcckbcmbaa.RingI
