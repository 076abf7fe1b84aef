/- Joined texts. -/
import Derived.Test.YtekdkckgmleofaaGreatXf25
import Derived.RangeFuncNested
import Derived.RangeFuncBound
import Derived.RangeFuncCalls
import Derived.RangeFuncLeaves
import Derived.RangeFuncBox
import Derived.Shelf.Abstract
import Derived.Shelf.RegionOpen
import Derived.WalkKit
import Derived.OwnWalkIn
import Derived.TacticsInMore
import Derived.LoopNIn
import Derived.LoopIn
import Derived.Maps.AppendAt
import Derived.Sort.MapsRangeIn
import Derived.Deep.AppendLies
import Derived.Test.YtekdkckgmleofaaGreatXf12
set_option linter.unusedVariables false
set_option linter.unusedSimpArgs false
/- maps.Values of a map of entities: whatever the loop's body does, the values come, each once, in some order. -/
namespace Go.Proofs.YtekdkckgmleofaaGreat
open Go.RowKit Go.MapKept Go.ChangeMaps
attribute [local go_sem] Oper.semAt_some

section
variable {F : Fence} {n : Nat} {P : Program} {w : World} {ops : Array Oper} {rest : List Oper} {o : Oper} {a : Act} {Q : Exit → Act → World → Prop}
theorem wpListIn_range_run (hg : o.guard = none) (m : Operand) (t : TypeId) (hop : o.op = Op.range t m) (mv r : Value) (w' : World) (hm : a.eval m = mv)
    (hrun : (Instr.range t mv).run P w = .ok r w') (hK : wpListIn F n P ops Q rest (a.put o.dst r) w') : wpListIn F n P ops Q (o :: rest) a w := by
  refine wpListIn_plain hg fun K' hK' => ?_
  unfold Oper.wpIn
  refine ⟨by simp [Oper.about, hop], ?_⟩
  rw [Oper.semAt_plain F _ _ (by rw [hop]; intro c hc'; cases hc')]
  simp [execOp, hop, hm, hrun, Result.andThen]
  exact hK' _ _ hK
theorem wpListIn_next_run (hg : o.guard = none) (it : Operand) (hop : o.op = Op.next it false) (iv r : Value) (w' : World) (hm : a.eval it = iv)
    (hrun : (Instr.next iv false o.type).run P w = .ok r w') (hK : wpListIn F n P ops Q rest (a.put o.dst r) w') : wpListIn F n P ops Q (o :: rest) a w := by
  refine wpListIn_plain hg fun K' hK' => ?_
  unfold Oper.wpIn
  refine ⟨by simp [Oper.about, hop], ?_⟩
  rw [Oper.semAt_plain F _ _ (by rw [hop]; intro c hc'; cases hc')]
  simp [execOp, hop, hm, hrun, Result.andThen]
  exact hK' _ _ hK
end

/-- The entity that a value is. -/
def decE (v : Value) : EntM := match v with
  | .agg cs => ⟨intOf (cs.getD 0 undef), intOf (cs.getD 1 undef), intOf (cs.getD 2 undef), intOf (cs.getD 3 undef), intOf (cs.getD 4 undef), intOf (cs.getD 5 undef), intOf (cs.getD 6 undef), (intOf (cs.getD 7 undef)).toNat, (intOf (cs.getD 8 undef)).toNat⟩
  | _ => ⟨0, 0, 0, 0, 0, 0, 0, 0, 0⟩
theorem decE_ent (x : EntM) : decE (entV x) = x := by
  cases x
  simp [decE, entV, intOf]
theorem perm_ent {l m : List EntM} (h : (l.map entV).Perm (m.map entV)) : l.Perm m := by
  have := h.map decE
  rw [List.map_map, List.map_map, show decE ∘ entV = id from funext decE_ent, List.map_id, List.map_id] at this
  exact this
theorem filter_perm {p : MapEntry → Bool} (e : MapEntry) : ∀ (l : List MapEntry), (l.map (·.born)).Nodup → e ∈ l → p e = true → (l.filter p).Perm (e :: l.filter fun x => p x && !(x.born == e.born))
  | y :: l, hn, he, hp => by
    have hn' : y.born ∉ l.map (·.born) ∧ (l.map (·.born)).Nodup := List.nodup_cons.1 hn
    rcases List.mem_cons.1 he with rfl | h
    · have hno : l.filter (fun x => p x && !(x.born == e.born)) = l.filter p := by
        apply List.filter_congr
        intro x hx
        have : (x.born == e.born) = false := by
          cases hc : x.born == e.born with
          | false => rfl
          | true => exact absurd (List.mem_map.2 ⟨x, hx, beq_iff_eq.1 hc⟩) hn'.1
        rw [this]; simp
      rw [List.filter_cons_of_pos hp, List.filter_cons_of_neg (by simp), hno]
    · have ih := filter_perm e l hn'.2 h hp
      have hy : (y.born == e.born) = false := by
        cases hc : y.born == e.born with
        | false => rfl
        | true => exact absurd (by rw [beq_iff_eq.1 hc]; exact List.mem_map.2 ⟨e, h, rfl⟩) hn'.1
      by_cases hpy : p y = true
      · rw [List.filter_cons_of_pos hpy, List.filter_cons_of_pos (by rw [hpy, hy]; rfl)]
        exact (ih.cons y).trans (List.Perm.swap e y _)
      · rw [List.filter_cons_of_neg hpy, List.filter_cons_of_neg (by simp [hpy])]
        exact ih
theorem left_perm {es : Array MapEntry} {seen : Array Nat} {e : MapEntry} (hn : (es.toList.map (·.born)).Nodup) (he : e ∈ (leftOf es seen).toList) : (leftOf es seen).toList.Perm (e :: (leftOf es (seen.push e.born)).toList) := by
  obtain ⟨h1, h2⟩ := mem_left he
  have := filter_perm (p := fun x => !seen.contains x.born) e es.toList hn h1 (by rw [h2]; rfl)
  have e1 : (leftOf es seen).toList = es.toList.filter (fun x => !seen.contains x.born) := by unfold leftOf; rw [Array.toList_filter]
  have e2 : (leftOf es (seen.push e.born)).toList = es.toList.filter (fun x => !seen.contains x.born && !(x.born == e.born)) := by
    unfold leftOf
    rw [Array.toList_filter]
    apply List.filter_congr
    intro x _
    rw [contains_push]
    cases seen.contains x.born <;> cases x.born == e.born <;> rfl
  rw [e1, e2]
  exact this

/-- The values come, one behind the other; what is left. -/
def CameE (xs : List EntM) (es : Array MapEntry) (seen : Array Nat) (ss : List EntM) : Prop := (ss.map entV ++ (leftOf es seen).toList.map (·.val)).Perm (xs.map entV)
theorem CameE.start {xs : List EntM} {es : Array MapEntry} (h : es.toList.map (·.val) = xs.map entV) : CameE xs es #[] [] := by
  unfold CameE leftOf
  rw [Array.toList_filter, List.filter_eq_self.2 (by simp), h]
  exact List.Perm.refl _
theorem CameE.len {xs ss : List EntM} {es : Array MapEntry} {seen : Array Nat} (h : CameE xs es seen ss) : ss.length + (leftOf es seen).size = xs.length := by
  have := List.Perm.length_eq h
  simpa using this
theorem CameE.all {xs ss : List EntM} {es : Array MapEntry} {seen : Array Nat} (h : CameE xs es seen ss) (h0 : (leftOf es seen).size = 0) : ss.Perm xs := by
  unfold CameE at h
  rw [Array.eq_empty_of_size_eq_zero h0] at h
  exact perm_ent (by simpa using h)
theorem CameE.step {xs ss : List EntM} {es : Array MapEntry} {seen : Array Nat} {e : MapEntry} {x : EntM} (h : CameE xs es seen ss) (hn : (es.toList.map (·.born)).Nodup) (he : e ∈ (leftOf es seen).toList) (hx : e.val = entV x) : CameE xs es (seen.push e.born) (ss ++ [x]) := by
  unfold CameE at *
  have h1 := (left_perm hn he).map (·.val)
  rw [List.map_cons, hx] at h1
  refine List.Perm.trans ?_ h
  rw [List.map_append, List.append_assoc]
  exact (List.Perm.append_left _ (by simpa using h1.symm))

set_option maxRecDepth 100000 in
set_option maxHeartbeats 2000000 in
theorem vals1_in (n : Nat) (hn : 1 ≤ n) (l Bm b : Nat) (es : Array MapEntry) (clock : Nat) (xs : List EntM) (J Jx : List EntM → World → Prop)
    (hY : ∀ pre x W, J pre W → pre.length < xs.length → YieldAt Fence.wide (n - 1) Tryz.prog l #[entV x] W fun e W' =>
      (e = .returned (.bool true) ∧ J (pre ++ [x]) W' ∧ KeepsWalks W W') ∨ (e = .returned (.bool false) ∧ Jx (pre ++ [x]) W'))
    (W : World) (hJ : AbidesFrom W.heap.size J) (hm : W.cell? ⟨Bm, 0, none⟩ = some (.map (some b))) (hb : W.heap[b]? = some (.map es clock)) (hst : Stamped es clock) (hes : es.toList.map (·.val) = xs.map entV) (h0 : J [] W) :
    CallsIn Fence.wide n Tryz.prog 156 #[.func (.yield l) #[] #[], .pointer (some ⟨Bm, 0, none⟩)] W fun e W' => (∃ v, e = .returned v) ∧
      ((∃ ss, List.Perm ss xs ∧ J ss W') ∨ (∃ pre, True ∧ Jx pre W')) := by
  have hbl : b < W.heap.size := (Array.getElem?_eq_some_iff.1 hb).1
  have HB := Lib.hid hb
  have HST := Lib.hid hst
  have HES := Lib.hid hes
  have HM := Lib.hid hm
  clear hb hst hes
  refine callsIn_of_wp Tryz.func156 rfl trivial ?_ rfl
  simp only [Tryz.ntmps156, List.size_toArray, List.length_cons, List.length_nil, Nat.reduceAdd, Nat.reduceSub, Array.replicate_succ, Array.replicate_zero, List.push_toArray, List.append_toArray, List.nil_append, List.cons_append]
  gi_wp2_with (first
    | (gi_at_range; refine wpListIn_range_run rfl _ _ rfl _ _ _ rfl (run_range_map _ _ _ _ _ _ _ Tryz.underlying133 HB.out) ?_)
    | gi_in)
  go_frame
  gi_loopw [4] (fun _ wr => ∃ (seen : Array Nat) (c0 : Nat) (ss : List EntM), wr.heap[b]? = some (.map es clock) ∧ wr.heap[W.heap.size]? = some (.mapIter (some b) clock seen c0) ∧ clock ≤ c0 ∧ CameE xs es seen ss ∧ J ss wr)
    (fun _ wr => wr.rangeLeft b W.heap.size)
  case atStart =>
    exact ⟨#[], clock, [], by rw [Below.heap_alloc _ _ _ hbl]; exact HB.out, heap_alloc_new W _, Nat.le_refl _, CameE.start HES.out, hJ [] W _ none h0 (World.grownBy_alloc W _ none) (fun r e => by cases e)⟩
  case round =>
    obtain ⟨seen, c0, ss, hb1, hr1, hc0, hC, hJs⟩ := hrel
    have hbr : b ≠ W.heap.size := by omega
    rcases run_next_at (P := Tryz.prog) wr 0 W.heap.size b clock c0 seen es clock hr1 hb1 HST.out.1 hc0 with ⟨hz, hrun⟩ | ⟨e, he, w1, hal, hrun⟩
    · have HR := Lib.hid hrun
      have HC := Lib.hid hC
      have HZ := Lib.hid hz
      clear hrun hC hz hb1 hr1
      gi_wp2_with (first
        | (gi_at_next; refine wpListIn_next_run rfl _ rfl _ _ _ rfl HR.out ?_)
        | gi_in)
      go_end0
      exact ⟨⟨_, rfl⟩, .inl ⟨ss, HC.out.all HZ.out, hJs⟩⟩
    · obtain ⟨hem, hes⟩ := mem_left he
      obtain ⟨x, hxm, hex⟩ : ∃ x, x ∈ xs ∧ e.val = entV x := by
        have : e.val ∈ xs.map entV := by rw [← HES.out]; exact List.mem_map.2 ⟨e, hem, rfl⟩
        obtain ⟨x, h1, h2⟩ := List.mem_map.1 this
        exact ⟨x, h1, h2.symm⟩
      have hw1 : w1.heap = wr.heap := by rcases hal with rfl | rfl <;> rfl
      have hr1' : w1.heap[W.heap.size]? = some (.mapIter (some b) clock seen c0) := by rw [hw1]; exact hr1
      have hset := MapKept.heap_set (o' := .mapIter (some b) clock (seen.push e.born) clock) hr1'
      obtain ⟨W2, hW2⟩ : ∃ W2, setBlock w1 W.heap.size (.mapIter (some b) clock (seen.push e.born) clock) = W2 := ⟨_, rfl⟩
      have hg2 : wr.grownBy W2 (some W.heap.size) := by
        rw [← hW2]
        rcases hal with rfl | rfl <;> exact ⟨rfl, rfl, rfl, by simp [setBlock], fun i _ hi => hset.2 i (fun e1 => hi (by rw [e1]))⟩
      have hr2 : W2.heap[W.heap.size]? = some (.mapIter (some b) clock (seen.push e.born) clock) := by rw [← hW2]; exact hset.1
      have hb2 : W2.heap[b]? = some (.map es clock) := by rw [← hW2]; exact (hset.2 b hbr).trans (by rw [hw1]; exact hb1)
      have hen := run_entry_at (P := Tryz.prog) W2 W.heap.size b clock seen es clock e hr2 hb2 hem HST.out.2.1
      rw [hex] at hen hrun
      rw [hW2] at hrun
      have hC2 := hC.step HST.out.2.1 he hex
      have hlen : ss.length < xs.length := by
        have h1 := hC.len
        have h2 : 0 < (leftOf es seen).size := by
          rcases Nat.eq_zero_or_pos (leftOf es seen).size with h0 | h0
          · rw [Array.eq_empty_of_size_eq_zero h0] at he; simp at he
          · exact h0
        omega
      have hJ2 : J ss W2 := hJ ss wr W2 (some W.heap.size) hJs hg2 (fun r e1 => by cases e1; exact ⟨Nat.le_refl _, _, hr1, rfl⟩)
      have hJ3 : J ss (W2.alloc (.cells #[.int .i64 x.id, .int .i64 x.p0, .int .i64 x.p1, .int .i64 x.p2, .int .i64 x.v0, .int .i64 x.v1, .int .i64 x.v2, .int .u16 x.ang, .int .u8 x.gen] 39)) := hJ ss W2 _ none hJ2 (World.grownBy_alloc W2 _ none) (fun r e1 => by cases e1)
      obtain ⟨fn, tmps, assign, body, hy, hR⟩ := hY ss x _ hJ3 hlen
      have hms : (leftOf es (seen.push e.born)).size < (leftOf es seen).size := left_shrinks es seen e he
      have HMS : Hid (∀ w' : World, w'.heap[b]? = some (.map es clock) → w'.heap[W.heap.size]? = some (.mapIter (some b) clock (seen.push e.born) clock) → w'.rangeLeft b W.heap.size < wr.rangeLeft b W.heap.size) := Lib.hid (fun w' h1 h2 => by
        simp only [World.rangeLeft, h1, h2, hb1, hr1]
        exact hms)
      have HR := Lib.hid hrun
      have HC2 := Lib.hid hC2
      have HB2 := Lib.hid hb2
      have HR2 := Lib.hid hr2
      have hbl2 : b < W2.heap.size := (Array.getElem?_eq_some_iff.1 hb2).1
      have hrl2 : W.heap.size < W2.heap.size := (Array.getElem?_eq_some_iff.1 hr2).1
      clear hrun hC hC2 hb1 hr1 hr1' hset hW2 hw1 hal he hes hem hex hJs hJ2 hJ3 hg2 hb2 hr2 hms hbr
      gi_wp2_with (first
        | (gi_at_next; refine wpListIn_next_run rfl _ rfl _ _ _ rfl HR.out ?_)
        | gi_in)
      refine hR.mono ?_
      rintro e W3 (⟨rfl, hJ3, hk3⟩ | ⟨rfl, hJx3⟩)
      · have b3 := hk3.same b _ (by rw [Below.heap_alloc _ _ _ hbl2]; exact HB2.out) rfl
        have r3 := hk3.same W.heap.size _ (by rw [Below.heap_alloc _ _ _ hrl2]; exact HR2.out) rfl
        have HB3 := Lib.hid b3
        have HR3 := Lib.hid r3
        clear b3 r3
        gi_wp2
        go_roundw
        case rel => exact ⟨_, clock, ss ++ [x], HB3.out, HR3.out, Nat.le_refl _, HC2.out, hJ3⟩
        case measure => exact HMS.out _ HB3.out HR3.out
      · gi_wp2
        refine bodyPost_ret (results_none rfl _ _ _) rfl ?_
        exact ⟨⟨_, rfl⟩, .inr ⟨_, trivial, hJx3⟩⟩
end Go.Proofs.YtekdkckgmleofaaGreat

/- slices.AppendSeq and Collect of the values of a map of entities. -/
namespace Go.Proofs.YtekdkckgmleofaaGreat
open Go.RowKit Go.MapKept Go.ChangeMaps
attribute [local go_sem] Oper.semAt_some

theorem infoEnt : (Tryz.prog.info? 39).map (fun i => (i.zero, i.size, i.bytes)) = some (some zentV, 9, 64) := by kernel_rfl
/-- Block b is a map of just these entities. -/
def MapE (w : World) (b : Nat) (xs : List EntM) : Prop := ∃ es clock, w.heap[b]? = some (.map es clock) ∧ Stamped es clock ∧ es.toList.map (fun e => (e.key, e.val)) = xs.map (fun x => (Value.int .i64 x.id, entV x))
theorem MapE.vals {es : Array MapEntry} {xs : List EntM} (h : es.toList.map (fun e => (e.key, e.val)) = xs.map (fun x => (Value.int .i64 x.id, entV x))) : es.toList.map (·.val) = xs.map entV := by
  have := congrArg (List.map Prod.snd) h
  rw [List.map_map, List.map_map] at this
  exact this
theorem vals_stops (n : Nat) (hn : 1 ≤ n) (Bm b : Nat) (xs : List EntM) (w : World) (hBm : Bm < w.heap.size) (hm : w.cell? ⟨Bm, 0, none⟩ = some (.map (some b))) (hb : MapE w b xs) :
    SeqStopsK Fence.wide n Tryz.prog 156 #[.pointer (some ⟨Bm, 0, none⟩)] (fun x => #[entV x]) KeepsWalks (fun ss => List.Perm ss xs) (fun _ => True) xs.length w := fun l J Jx W hW hJ _ hY h0 => by
  obtain ⟨es, clock, hb, hst, hes⟩ := hb
  exact vals1_in n hn l Bm b es clock xs J Jx hY W hJ ((hW.cell (p := ⟨Bm, 0, none⟩) hBm).trans hm) ((hW.block b (Array.getElem?_eq_some_iff.1 hb).1).trans hb) hst (MapE.vals hes) h0

def CollPost (xs : List EntM) (w : World) (e : Ending) (W' : World) : Prop :=
  ∃ v ss, e = .returned v ∧ List.Perm ss xs ∧ W'.ownsRow w.heap.size 39 9 v ss.length (cellsL entC ss) ∧ Below w.heap.size w W'
set_option maxRecDepth 100000 in
set_option maxHeartbeats 4000000 in
theorem appendSeq_in (n : Nat) (hn : 3 ≤ n) (Bm b : Nat) (xs : List EntM) (w : World) (hBm : Bm < w.heap.size) (hm : w.cell? ⟨Bm, 0, none⟩ = some (.map (some b))) (hb : MapE w b xs) (hlen : xs.length ≤ 100000) :
    CallsIn Fence.wide n Tryz.prog 186 #[.slice none 0 0, .func (.func 156) #[] #[.pointer (some ⟨Bm, 0, none⟩)]] w (CollPost xs w) := by
  have h1 : 1 ≤ n := by omega
  obtain ⟨i0, hi, hz0, hz1, hz2⟩ := info_parts infoEnt
  have hb1 : MapE (w.alloc (.cells #[.slice none 0 0] 40)) b xs := by
    obtain ⟨es, clock, hb, r⟩ := hb
    exact ⟨es, clock, by rw [Below.heap_alloc _ _ _ (Array.getElem?_eq_some_iff.1 hb).1]; exact hb, r⟩
  have hm1 : (w.alloc (.cells #[.slice none 0 0] 40)).cell? ⟨Bm, 0, none⟩ = some (.map (some b)) := ((Kept.refl (fun _ => False) w).alloc _).cell hm (fun h => h)
  have bO := Boxed.new w 40 (.slice none 0 0)
  have hB0 : Below w.heap.size w (w.alloc (.cells #[.slice none 0 0] 40)) := (Below.refl _ w).alloc (Nat.le_refl _) _
  refine callsIn_of_wp_marks Tryz.func186 rfl trivial ?_ rfl
  simp only [Tryz.ntmps186, List.size_toArray, List.length_cons, List.length_nil, Nat.reduceAdd, Nat.reduceSub, Array.replicate_succ, Array.replicate_zero, List.push_toArray, List.append_toArray, List.nil_append, List.cons_append]
  gi_wp2
  have hIow : OwnFrom (w.heap.size + 1) (fun (pre : List EntM) W => (∃ v, Boxed W w.heap.size 40 v ∧ W.ownsRow w.heap.size 39 9 v pre.length (cellsL entC pre) ∧ True) ∧ Below w.heap.size w W) :=
    OwnFrom.and (Own.from (holdsRow_own w.heap.size w.heap.size 40 39 9 (fun pre : List EntM => pre.length) (fun pre => cellsL entC pre) (fun _ _ => True)) _) (ownFrom_below (Nat.le_refl _) (by omega))
  have hs1 : (w.alloc (.cells #[.slice none 0 0] 40)).heap.size = w.heap.size + 1 := by simp
  refine wpIn_rangeFunc_ownH (w := w.alloc (.cells #[.slice none 0 0] 40)) rfl h1 (gf := 156) (lb := #[.pointer (some ⟨Bm, 0, none⟩)]) rfl trivial (enters_of Tryz.func156 (by kernel_rfl) rfl)
    (vals_stops (n - 1) (by omega) Bm b xs _ (by omega) hm1 hb1) walksK_t walksK_b (Below.refl _ _) (fun _ => rfl)
    (fun pre W => (∃ v, Boxed W w.heap.size 40 v ∧ W.ownsRow w.heap.size 39 9 v pre.length (cellsL entC pre) ∧ True) ∧ Below w.heap.size w W)
    (fun _ _ _ => False)
    (by rw [hs1]; exact hIow)
    (fun _ _ _ _ _ hs _ _ => hs)
    ⟨⟨_, bO, World.ownsRow_nil _ _ _ _, trivial⟩, hB0⟩
    (fun x a' W => ∃ Bx, Blk W Bx (entC x) 39 ∧ a' = { tmps := #[.slice none 0 0, .func (.func 156) #[] #[.pointer (some ⟨Bm, 0, none⟩)], .pointer (some ⟨w.heap.size, 0, none⟩), undef, .slice none 0 0, .pointer (some ⟨Bx, 0, none⟩), .func (.func 156) #[] #[.pointer (some ⟨Bm, 0, none⟩)], entV x, undef, undef, undef, undef, undef], defers := [] })
    (fun x a' => by
      rintro _ X Y row ⟨Bx, hB, rfl⟩ hg hr
      refine ⟨Bx, ?_, rfl⟩
      unfold Blk at *
      rw [hg.block Bx (Array.getElem?_eq_some_iff.1 hB).1 (fun e => ?_)]
      · exact hB
      · obtain ⟨-, o, ho, hc⟩ := hr Bx e.symm
        rw [hB] at ho
        cases ho
        cases hc) ?assign ?body ?done ?stop
  case assign =>
    rintro l pre x W K hi hK
    gi_wp2
    exact hK _ _ ((KeepsOthers.alloc _ _).from _) (KeepsWalks.alloc _ _) (hIow.alloc _ hi) ⟨W.heap.size, Blk.new W (entC x) _, rfl⟩
  case body =>
    rintro l pre x a' W hl ⟨r, hr⟩ ⟨⟨v, hv, hrow, -⟩, hB⟩ ⟨Bx, hX, rfl⟩ hlt
    have hc := hv.cell
    have x0 := hX.cell (i := 0) rfl
    have x1 := hX.cell (i := 1) rfl
    have x2 := hX.cell (i := 2) rfl
    have x3 := hX.cell (i := 3) rfl
    have x4 := hX.cell (i := 4) rfl
    have x5 := hX.cell (i := 5) rfl
    have x6 := hX.cell (i := 6) rfl
    have x7 := hX.cell (i := 7) rfl
    have x8 := hX.cell (i := 8) rfl
    have hXl := hX.lt
    clear hX hr
    have hone : ∀ u ∈ entC x, u.oneCell' = true := by simp [Value.oneCell']
    have HONE := Lib.hid hone
    clear hone
    gi_wp2_with (gi_at_builtin; refine wpListIn_append_own _ rfl _ _ 40 rfl w.heap.size 39 i0 zentV 9 64 Tryz.underlying40 hi hz0 hz1 hz2 rfl (by decide) _ _ _ rfl (hrow.alloc _) ⟨W.heap.size, 0, none⟩ 1 1 (entC x) rfl rfl (World.news_of_block (heap_alloc_new W _)) HONE.out (by unfold maxLen; omega) (by omega) (by have := hB.size; simp; omega) ?_; intro v' w1 hown' hgrow _; obtain ⟨g', cap', rfl⟩ := ownsRow_succ hown'; obtain ⟨hv1, hv2, hr2, hk2, hb2⟩ := hv.appended (by decide) hrow hB.size (Nat.le_refl _) hown' hgrow; have hc1 := hv1.cell; have hf1 := hv1.frozen)
    refine ⟨hk2.from _, hk2.walks, ⟨_, hv2, ?_, trivial⟩, hB.trans hb2⟩
    rw [cellsL_append, List.length_append]
    have : cellsL entC [x] = entC x := by simp [cellsL]
    rw [this]
    exact hr2
  case done =>
    rintro D ys W hD hS ⟨⟨v, hv, hrow, -⟩, hB⟩ hK
    have hc := hv.cell
    gi_wp2
    refine ⟨by simp, .inl ⟨_, _, rfl, run_takeDeferred hK, ?_⟩⟩
    exact ⟨_, results_tmp rfl _ _ _, v, ys, rfl, hS, ownsRow_putObj hrow _ hK rfl, hB.trans (belowK_b (w := w) (Nat.le_refl _) W D _ _ (by simp at hD; omega) hK rfl rfl)⟩
  case stop =>
    rintro D c pre W _ _ h _
    exact h.elim
end Go.Proofs.YtekdkckgmleofaaGreat

/- maps.Values, slices.Collect, and slices.SortedFunc at one entity. -/
namespace Go.Proofs.YtekdkckgmleofaaGreat
open Go.RowKit Go.MapKept

theorem owns_sl {w : World} {base : Nat} {e : TypeId} {s : Nat} {v : Value} {n : Nat} {xs : List Value} (h : w.ownsRow base e s v n xs) (hn : 0 < n) : ∃ g, Sl w v e s n xs (some g) ∧ base ≤ g := by
  rcases h.2 with ⟨-, h0⟩ | ⟨g, cap, cur, rfl, hb, hg, h1, h2, h3, h4⟩
  · omega
  · exact ⟨g, ⟨h.1, .inr ⟨g, 0, cap, cur, rfl, rfl, hg, h1, h2, by omega, by rw [List.drop_zero]; exact h4⟩⟩, hb⟩
abbrev seqV (Bm : Nat) : Value := .func (.func 156) #[] #[.pointer (some ⟨Bm, 0, none⟩)]
theorem values_calls (b : Nat) (w : World) :
    Calls Tryz.prog 120 #[.map (some b)] w fun e w' => e = .returned (seqV w.heap.size) ∧ w' = w.alloc (.cells #[.map (some b)] 133) := by
  have hmf : ∀ (fn : Fn) (first cap : Array Value) (w : World), (Instr.makeFunc fn first cap).run Tryz.prog w = .ok (.func fn first cap) w := fun _ _ _ _ => rfl
  go_enter Tryz.func120, Tryz.ntmps120
  go_wp2
  go_ret
  exact ⟨rfl, rfl⟩
theorem collect_calls (Bm b : Nat) (xs : List EntM) (w : World) (hBm : Bm < w.heap.size) (hm : w.cell? ⟨Bm, 0, none⟩ = some (.map (some b))) (hb : MapE w b xs) (hlen : xs.length ≤ 100000) :
    Calls Tryz.prog 154 #[seqV Bm] w (CollPost xs w) := by
  have HC := Lib.hid (callsIn_wide.1 (appendSeq_in 5 (by omega) Bm b xs w hBm hm hb hlen))
  clear hBm hm hb hlen
  go_enter Tryz.func154, Tryz.ntmps154
  go_wp2_with fail
  refine (HC.out).mono ?_
  rintro e w' ⟨v, ss, rfl, hP, hO, hB⟩
  have HP := Lib.hid hP
  have HO := Lib.hid hO
  have HB := Lib.hid hB
  clear hP hO hB
  go_wp2_with fail
  go_ret
  exact ⟨v, ss, rfl, HP.out, HO.out, HB.out⟩
def SortPost (x : EntM) (w : World) (e : Ending) (w' : World) : Prop :=
  ∃ v, e = .returned v ∧ OneP 39 9 (entC x) v w.heap.size w' ∧ Kept (fun _ => False) w w'
theorem sorted_one (x : EntM) (Bm b : Nat) (fn : Value) (w : World) (hBm : Bm < w.heap.size) (hm : w.cell? ⟨Bm, 0, none⟩ = some (.map (some b))) (hb : MapE w b [x]) :
    Calls Tryz.prog 119 #[seqV Bm, fn] w (SortPost x w) := by
  have HC := Lib.hid (collect_calls Bm b [x] w hBm hm hb (by simp))
  have HS := Lib.hid (fun a cap W => SortEntity.sort1 a cap fn W)
  clear hBm hm hb
  go_enter Tryz.func119, Tryz.ntmps119
  go_wp2_with fail
  refine (HC.out).mono ?_
  rintro e w1 ⟨v, ss, rfl, hP, hO, hB⟩
  obtain rfl : ss = [x] := List.perm_singleton.1 hP
  have hcx : cellsL entC [x] = entC x := by simp [cellsL]
  rw [hcx] at hO
  obtain ⟨g, hS, hg⟩ := owns_sl hO (by simp)
  obtain ⟨a, cap, rfl, -, -⟩ := hS.form
  have HSL := Lib.hid hS
  have HB := Lib.hid hB
  clear hP hO hB hS hcx
  go_wp2_with fail
  refine (HS.out _ _ _).mono ?_
  rintro e w2 ⟨rfl, rfl⟩
  go_wp2_with fail
  go_ret
  exact ⟨_, rfl, ⟨g, HSL.out, hg⟩, (Kept.of_below HB.out).mono (fun k hk h => by omega)⟩
end Go.Proofs.YtekdkckgmleofaaGreat

/- Contract of delta.Apply of a datagram that tells one new entity by none. -/
namespace Go.Proofs.YtekdkckgmleofaaGreat
open Go.RowKit Go.MapKept Go.ChangeMaps

section
variable {w : World} {b c : Nat}
theorem update_empty (hb : w.heap[b]? = some (.map #[] c)) (k : Int) (v : Value) : (Instr.mapUpdate 133 (.map (some b)) (.int .i64 k) v).run Tryz.prog w = .ok () (setBlock w b (.map #[{ key := .int .i64 k, val := v, born := c }] (c + 1))) := by
  simp [Instr.mapUpdate, run_underlying Tryz.underlying133, MapKept.run_getObj_map hb, MapKept.run_checkKey Tryz.underlying3 (show IsKey (.int .i64) (.int .i64 k) from rfl), MapKept.run_findKey Tryz.underlying3 (show Instr.findNow (.int .i64) (.int .i64 k) [] 0 = some none from rfl), MapKept.run_setObj_map _ hb, Result.andThen, setBlock]
theorem len_map {es : Array MapEntry} (hb : w.heap[b]? = some (.map es c)) (ty : TypeId) : (Builtin.len_ #[133] ty #[.map (some b)]).run Tryz.prog w = .ok (goInt es.size) w := by
  simp [Builtin.len_, Builtin.lenOf, run_underlying Tryz.underlying133, MapKept.run_getObj_map hb, Result.andThen]
theorem kept_setBlock {o o' : Obj} (hb : w.heap[b]? = some o) : Kept (· = b) w (setBlock w b o') :=
  ⟨rfl, rfl, rfl, by simp [setBlock], fun k _ hn => (MapKept.heap_set (o' := o') hb).2 k hn⟩
theorem setBlock_at {o o' : Obj} (hb : w.heap[b]? = some o) : (setBlock w b o').heap[b]? = some o' := (MapKept.heap_set (o' := o') hb).1
end
theorem MapE.kept {F : Nat → Prop} {w w' : World} {b : Nat} {xs : List EntM} (h : MapE w b xs) (k : Kept F w w') (hF : ¬ F b) : MapE w' b xs := by
  obtain ⟨es, clock, hb, r⟩ := h
  exact ⟨es, clock, by rw [k.block b (Array.getElem?_eq_some_iff.1 hb).1 hF]; exact hb, r⟩
def ApplyPost (tick time : Int) (x : EntM) (w : World) (e : Ending) (w' : World) : Prop :=
  ∃ v, e = .returned (.tuple #[snapV tick time v, .int .i64 0]) ∧ OneP 39 9 (entC x) v w.heap.size w' ∧ Kept (fun _ => False) w w'
set_option maxRecDepth 100000 in
set_option maxHeartbeats 4000000 in
theorem apply_calls (tick time : Int) (hs : SnapOk tick time) (x : EntM) (hx : x.Ok) (hgen : x.gen = 0) (w : World) (k0 k1 : Int) (cv rv : Value) (rb : Nat) (hr : Sl w rv 175 9 1 (recC (putR x)) (some rb)) :
    Calls Tryz.prog 72 #[snapV k0 k1 cv, gramV tick time (-1) rv] w (ApplyPost tick time x w) := by
  have HGC := Lib.hid (fun W v rb h => gcheck_calls tick time x hs hx W v rb h)
  have HVC := Lib.hid (fun b W => values_calls b W)
  have HSO := Lib.hid (fun Bm b fn W h1 h2 h3 => sorted_one x Bm b fn W h1 h2 h3)
  obtain ⟨g, off, cap, ho, rfl, hcap, hcm, hc, hf⟩ := hr.some (by omega)
  cases ho
  have hrb := hr.lt rfl
  have HR := Lib.hid hr
  have HC := Lib.hid hc
  have hmm := @run_makeMap Tryz.prog
  have HEV : Hid (.agg #[.int .i64 x.id, .int .i64 x.p0, .int .i64 x.p1, .int .i64 x.p2, .int .i64 x.v0, .int .i64 x.v1, .int .i64 x.v2, .int .u16 x.ang, .int .u8 0] = entV x) := Lib.hid (by simp [entV, entC, hgen])
  unfold SortPost at HSO
  clear hr hc hf hgen
  go_enter Tryz.func72, Tryz.ntmps72
  go_wp2_with fail
  have K0 := (((Kept.refl (fun _ => False) w).alloc (.cells (snapC k0 k1 cv).toArray 42)).alloc (.cells (gramC tick time (-1) (.slice (some ⟨rb, off, none⟩) 1 cap)).toArray 78)).alloc (.cells #[.int .i64 0, .int .i64 0, .slice none 0 0] 42)
  refine (HGC.out _ _ rb (HR.out.kept K0 (fun _ _ h => h))).mono ?_
  rintro e w1 ⟨rfl, hk1⟩
  have BG0 := hk1.blk ((Blk.new_at (w := w.alloc (.cells (snapC k0 k1 cv).toArray 42)) (n := w.heap.size + 1) (by simp) (gramC tick time (-1) (.slice (some ⟨rb, off, none⟩) 1 cap)) 78).alloc (.cells #[.int .i64 0, .int .i64 0, .slice none 0 0] 42)) (fun h => h)
  have BR0 := hk1.blk (Blk.new_at (w := (w.alloc (.cells (snapC k0 k1 cv).toArray 42)).alloc (.cells (gramC tick time (-1) (.slice (some ⟨rb, off, none⟩) 1 cap)).toArray 78)) (n := w.heap.size + 1 + 1) (by simp) [.int .i64 0, .int .i64 0, .slice none 0 0] 42) (fun h => h)
  have HBG := Lib.hid (BG0.alloc (.map #[] 0))
  have HBR := Lib.hid (BR0.alloc (.map #[] 0))
  have HK1 := Lib.hid ((K0.trans hk1 (fun _ h => h.elim)).alloc (.map #[] 0))
  have g2 := (BG0.alloc (.map #[] 0)).cell (i := 2) rfl
  have g3 := (BG0.alloc (.map #[] 0)).cell (i := 3) rfl
  have hm0 := heap_alloc_new w1 (.map #[] 0)
  have HM0 := Lib.hid hm0
  have hl1 := BR0.lt
  have hl2 : rb < w1.heap.size := by have := (K0.trans hk1 (fun _ h => h.elim) : Kept (fun _ => False) w w1).size; omega
  clear hk1 K0 BG0 BR0 hm0
  go_wp2_with fail
  go_loopw [42] (fun i wr => ∃ (k : Nat), i = .int .i64 k ∧ (k = 0 ∧ wr = w1.alloc (.map #[] 0) ∨ k = 1 ∧ MapE wr w1.heap.size [x] ∧ Kept (· = w1.heap.size) (w1.alloc (.map #[] 0)) wr)) (fun i _ => (1 - intOf i).toNat)
  case atStart => exact ⟨0, rfl, .inl ⟨rfl, rfl⟩⟩
  case round =>
    obtain ⟨k, rfl, hk⟩ := hrel
    rcases hk with ⟨rfl, rfl⟩ | ⟨rfl, hM, hK⟩
    · have c0 := HK1.out.cell (HC.out 0 _ rfl) (fun h => h)
      have c1 := HK1.out.cell (HC.out 1 _ rfl) (fun h => h)
      have c2 := HK1.out.cell (HC.out 2 _ rfl) (fun h => h)
      have c3 := HK1.out.cell (HC.out 3 _ rfl) (fun h => h)
      have c4 := HK1.out.cell (HC.out 4 _ rfl) (fun h => h)
      have c5 := HK1.out.cell (HC.out 5 _ rfl) (fun h => h)
      have c6 := HK1.out.cell (HC.out 6 _ rfl) (fun h => h)
      have c7 := HK1.out.cell (HC.out 7 _ rfl) (fun h => h)
      have c8 := HK1.out.cell (HC.out 8 _ rfl) (fun h => h)
      rw [Nat.add_zero] at c0
      obtain ⟨Wa, hWa⟩ : ∃ Wa, w1.alloc (.map #[] 0) = Wa := ⟨_, rfl⟩
      rw [hWa] at c0 c1 c2 c3 c4 c5 c6 c7 c8 HM0 g2 g3 ⊢
      have hml : w1.heap.size < Wa.heap.size := (Array.getElem?_eq_some_iff.1 HM0.out).1
      have hb1 : Hid (∀ o, (Wa.alloc o).heap[w1.heap.size]? = some (.map #[] 0)) := Lib.hid (fun o => by rw [Below.heap_alloc _ _ _ hml]; exact HM0.out)
      have HUP : Hid (∃ W2, (Instr.mapUpdate 133 (.map (some w1.heap.size)) (.int .i64 x.id) (entV x)).run Tryz.prog ((Wa.alloc (.cells #[.int .i64 0, .int .i64 x.id, .int .i64 x.p0, .int .i64 x.p1, .int .i64 x.p2, .int .i64 x.v0, .int .i64 x.v1, .int .i64 x.v2, .int .u16 x.ang] 175)).alloc (.cells #[.int .i64 0, .int .i64 0, .int .i64 0, .int .i64 0, .int .i64 0, .int .i64 0, .int .i64 0, .int .u16 0, .int .u8 0] 39)) = .ok () W2 ∧ MapE W2 w1.heap.size [x] ∧ Kept (· = w1.heap.size) Wa W2) := Lib.hid (by
        have hb2 : ((Wa.alloc (.cells #[.int .i64 0, .int .i64 x.id, .int .i64 x.p0, .int .i64 x.p1, .int .i64 x.p2, .int .i64 x.v0, .int .i64 x.v1, .int .i64 x.v2, .int .u16 x.ang] 175)).alloc (.cells #[.int .i64 0, .int .i64 0, .int .i64 0, .int .i64 0, .int .i64 0, .int .i64 0, .int .i64 0, .int .u16 0, .int .u8 0] 39)).heap[w1.heap.size]? = some (.map #[] 0) := by
          rw [Below.heap_alloc _ _ _ (by simp; omega)]; exact hb1.out _
        refine ⟨_, update_empty hb2 _ _, ⟨_, _, setBlock_at hb2, ?_, by simp⟩, (((Kept.refl _ Wa).alloc _).alloc _).trans (kept_setBlock hb2) (fun i h => .inl h)⟩
        exact stamped_push (stamped_empty 0) (by simp))
      rw [← HEV.out] at HUP
      obtain ⟨W2, hup, hM2, hK2⟩ := HUP.out
      have HU := Lib.hid hup
      have HM2 := Lib.hid hM2
      have HK2 := Lib.hid hK2
      clear hup hM2 hK2 HUP
      go_wp2_with (first
        | (at_lookup; refine wpList_lookup_run rfl _ _ _ _ rfl _ _ _ rfl rfl (look_empty (hb1.out _) _) ?_)
        | (at_mapUpdate; refine wpList_mapUpdate_run rfl _ _ _ _ rfl _ _ _ _ rfl rfl rfl HU.out ?_; intro d))
      exact ⟨⟨1, by simp, .inr ⟨rfl, HM2.out, hWa ▸ HK2.out⟩⟩, by simp [intOf]⟩
    · obtain ⟨es, cl, hme, hst, hes⟩ := id hM
      have hsz : es.size = 1 := by have := congrArg List.length hes; simpa using this
      have HLN := Lib.hid (len_map hme)
      rw [hsz] at HLN
      have HM := Lib.hid hM
      have hmr : w1.heap.size < wr.heap.size := (Array.getElem?_eq_some_iff.1 hme).1
      have BG := hK.blk HBG.out (by omega)
      have BR := hK.blk HBR.out (by omega)
      have HKr := Lib.hid (HK1.out.trans hK (fun i h => .inr (by omega)))
      have HBG2 := Lib.hid BG
      have HBR2 := Lib.hid BR
      clear hM hK BG BR hme hst hes g2 g3
      go_wp2_with (at_len; refine wpList_len_run rfl _ _ rfl _ _ rfl (HLN.out _) ?_)
      refine (HVC.out _ _).mono ?_
      rintro e w2 ⟨rfl, hw2⟩
      have hK2 : Kept (fun _ => False) wr w2 := by rw [hw2]; exact (Kept.refl _ _).alloc _
      have hB2 : wr.heap.size < w2.heap.size := by rw [hw2]; simp
      have hC2 : w2.cell? ⟨wr.heap.size, 0, none⟩ = some (.map (some w1.heap.size)) := by
        rw [hw2]; exact (Blk.new wr [.map (some w1.heap.size)] 133).cell (i := 0) rfl
      have HSC := Lib.hid (fun fn => HSO.out wr.heap.size w1.heap.size fn w2 hB2 hC2 (HM.out.kept hK2 (fun h => h)))
      have HK2 := Lib.hid hK2
      clear hw2 hK2 hB2 hC2
      go_wp2_with fail
      refine (HSC.out _).mono ?_
      rintro e w3 ⟨v, rfl, hP, hk3⟩
      obtain ⟨gv, hS, hgv⟩ := hP
      obtain ⟨av, cpv, rfl, -, -⟩ := hS.form
      have HS := Lib.hid hS
      have KK := HKr.out.trans (HK2.out.trans hk3 (fun _ h => h.elim)) (fun _ h => h.elim)
      have KS0 : Kept (fun _ => False) wr w3 := HK2.out.trans hk3 (fun _ h => h.elim)
      have BG := KS0.blk HBG2.out (fun h => h)
      have BR := KS0.blk HBR2.out (fun h => h)
      have HBR3 := Lib.hid BR
      have HKK := Lib.hid KK
      have hz := HK2.out.size
      have g0 := BG.cell (i := 0) rfl
      have g1 := BG.cell (i := 1) rfl
      have r0 := BR.cell (i := 0) rfl
      have r1 := BR.cell (i := 1) rfl
      have r2 := BR.cell (i := 2) rfl
      have f0 := BR.free 0
      have f1 := BR.free 1
      have f2 := BR.free 2
      clear hS hk3 KK KS0 BG BR
      go_wp2_with fail
      have hf2 := (((HBR3.out.set 0 (.int .i64 tick)).set 1 (.int .i64 time)).set 2 (.slice av 1 cpv))
      have KS := (((Kept.refl (· = w.heap.size + 1 + 1) w3).setCell (a := ⟨w.heap.size + 1 + 1, 0, none⟩) (.inl rfl) (.int .i64 tick)).setCell (a := ⟨w.heap.size + 1 + 1, 1, none⟩) (.inl rfl) (.int .i64 time)).setCell (a := ⟨w.heap.size + 1 + 1, 2, none⟩) (.inl rfl) (.slice av 1 cpv)
      have d0 := hf2.cell (i := 0) rfl
      have d1 := hf2.cell (i := 1) rfl
      have d2 := hf2.cell (i := 2) rfl
      refine bodyPost_ret (v := .tuple #[snapV tick time (.slice av 1 cpv), .int .i64 0]) (by simp [results, Tryz.f72, Tryz.results72, go_sem, d0, d1, d2]) rfl ⟨_, rfl, ?_, HKK.out.trans KS (fun i hi => .inr (by omega))⟩
      exact ⟨gv, HS.out.kept KS (fun g' e => by cases e; omega), by omega⟩
end Go.Proofs.YtekdkckgmleofaaGreat

/- The map of entities, whatever it holds: lookup, update, delete, len. -/
namespace Go.Proofs.YtekdkckgmleofaaGreat
open Go.RowKit Go.MapKept Go.ChangeMaps
theorem mapE_keys {es : Array MapEntry} {xs : List EntM} (h : es.toList.map (fun e => (e.key, e.val)) = xs.map (fun x => (Value.int .i64 x.id, entV x))) : ∀ e ∈ es.toList, IsKey (.int .i64) e.key := by
  intro e he
  have h2 : (e.key, e.val) ∈ xs.map (fun x => (Value.int .i64 x.id, entV x)) := by rw [← h]; exact List.mem_map.2 ⟨e, he, rfl⟩
  obtain ⟨x, -, hx⟩ := List.mem_map.1 h2
  have := congrArg Prod.fst hx
  simp only at this
  rw [← this]
  rfl
theorem mapE_at {es : Array MapEntry} {xs : List EntM} (h : es.toList.map (fun e => (e.key, e.val)) = xs.map (fun x => (Value.int .i64 x.id, entV x))) {j : Nat} {e : MapEntry} (he : es.toList[j]? = some e) : ∃ x, xs[j]? = some x ∧ e.key = .int .i64 x.id ∧ e.val = entV x := by
  have h2 := congrArg (fun l => l[j]?) h
  simp only [List.getElem?_map, he, Option.map_some] at h2
  cases hx : xs[j]? with
  | none => rw [hx] at h2; cases h2
  | some x =>
    rw [hx] at h2
    have h3 := Option.some.inj h2
    exact ⟨x, rfl, congrArg Prod.fst h3, congrArg Prod.snd h3⟩
theorem look_any {w : World} {b : Nat} {xs : List EntM} (h : MapE w b xs) (k : Int) :
    (∃ x ∈ xs, x.id = k ∧ (Instr.lookup 133 (.map (some b)) (.int .i64 k) true).run Tryz.prog w = .ok (.tuple #[entV x, .bool true]) w) ∨
    ((∀ x ∈ xs, x.id ≠ k) ∧ (Instr.lookup 133 (.map (some b)) (.int .i64 k) true).run Tryz.prog w = .ok (.tuple #[zentV, .bool false]) w) := by
  obtain ⟨es, clock, hb, hs, hes⟩ := h
  have hk : IsKey (.int .i64) (.int .i64 k) := rfl
  rcases findNow_spec hk es.toList 0 (mapE_keys hes) with ⟨h1, h2⟩ | ⟨j, e, h1, h2, h3⟩
  · refine .inr ⟨fun x hx e => ?_, ?_⟩
    · obtain ⟨i, hi, hxi⟩ := List.mem_iff_getElem.1 hx
      have hl := congrArg List.length hes
      simp only [List.length_map] at hl
      have hei : es.toList[i]? = some es.toList[i] := List.getElem?_eq_getElem (by omega)
      obtain ⟨y, hy, hy1, hy2⟩ := mapE_at hes hei
      rw [List.getElem?_eq_getElem hi, hxi] at hy
      cases hy
      exact h2 _ (List.mem_of_getElem? hei) (by rw [hy1, e])
    · simp [Instr.lookup, run_underlying Tryz.underlying133, MapKept.run_getObj_map hb, MapKept.run_checkKey Tryz.underlying3 hk, MapKept.run_findKey Tryz.underlying3 h1, Result.andThen, zent_run]
  · obtain ⟨x, hx, hx1, hx2⟩ := mapE_at hes h2
    refine .inl ⟨x, List.mem_of_getElem? hx, ?_, ?_⟩
    · rw [h3] at hx1
      injection hx1 with _ e
      exact e.symm
    · simp [Instr.lookup, run_underlying Tryz.underlying133, MapKept.run_getObj_map hb, MapKept.run_checkKey Tryz.underlying3 hk, MapKept.run_findKey Tryz.underlying3 h1, Result.andThen, hx2]
theorem map_erase {α β : Type} (f : α → β) : ∀ (l : List α) (j : Nat), (l.eraseIdx j).map f = (l.map f).eraseIdx j
  | [], _ => rfl
  | _ :: _, 0 => rfl
  | a :: l, j + 1 => by simp [List.eraseIdx, map_erase f l j]
def UpPost (xs : List EntM) (x : EntM) (b : Nat) (w w' : World) : Prop := ∃ xs', MapE w' b xs' ∧ Kept (· = b) w w' ∧ (∀ y ∈ xs', y ∈ xs ∨ y = x) ∧ xs'.length ≤ xs.length + 1
theorem update_any {w : World} {b : Nat} {xs : List EntM} (h : MapE w b xs) (x : EntM) :
    ∃ w', (Instr.mapUpdate 133 (.map (some b)) (.int .i64 x.id) (entV x)).run Tryz.prog w = .ok () w' ∧ UpPost xs x b w w' := by
  obtain ⟨es, clock, hb, hs, hes⟩ := h
  have hk : IsKey (.int .i64) (.int .i64 x.id) := rfl
  rcases findNow_spec hk es.toList 0 (mapE_keys hes) with ⟨h1, h2⟩ | ⟨j, e, h1, h2, h3⟩
  · refine ⟨setBlock w b (.map (es.push { key := .int .i64 x.id, val := entV x, born := clock }) (clock + 1)), ?_, xs ++ [x], ⟨_, _, setBlock_at hb, stamped_push hs h2, ?_⟩, kept_setBlock hb, ?_, by simp⟩
    · simp [Instr.mapUpdate, run_underlying Tryz.underlying133, MapKept.run_getObj_map hb, MapKept.run_checkKey Tryz.underlying3 hk, MapKept.run_findKey Tryz.underlying3 h1, MapKept.run_setObj_map _ hb, Result.andThen, setBlock]
    · simp only [Array.toList_push, List.map_append, hes, List.map_cons, List.map_nil]
    · intro y hy
      rcases List.mem_append.1 hy with hy | hy
      · exact .inl hy
      · exact .inr (List.mem_singleton.1 hy)
  · have hj : es[j]? = some e := by simpa using h2
    obtain ⟨x0, hx0, hx1, hx2⟩ := mapE_at hes h2
    have hkey : ∀ e', es[j]? = some e' → ({ e' with key := .int .i64 x.id, val := entV x } : MapEntry).key = e'.key := fun e' he' => by rw [hj] at he'; cases he'; exact h3.symm
    refine ⟨setBlock w b (.map (es.modify j fun e' => { e' with key := .int .i64 x.id, val := entV x }) clock), ?_, xs.set j x, ⟨_, _, setBlock_at hb, stamped_modify hs _ _ (fun _ _ => rfl) (fun e' _ he' => hkey e' he'), ?_⟩, kept_setBlock hb, ?_, by simp⟩
    · simp [Instr.mapUpdate, run_underlying Tryz.underlying133, MapKept.run_getObj_map hb, MapKept.run_checkKey Tryz.underlying3 hk, MapKept.run_findKey Tryz.underlying3 h1, hj, h3, run_keyThatStays hk, MapKept.run_setObj_map _ hb, Result.andThen, setBlock]
    · apply List.ext_getElem?
      intro i
      have hi := congrArg (fun l => l[i]?) hes
      simp only [List.getElem?_map] at hi
      rw [List.getElem?_map, List.getElem?_map, Array.toList_modify, List.getElem?_modify, List.getElem?_set]
      by_cases hij : j = i
      · subst hij
        have hjl : j < xs.length := (List.getElem?_eq_some_iff.1 hx0).1
        simp [h2, hjl]
      · simp only [hij, if_false]
        cases he : es.toList[i]? with
        | none => rw [he] at hi; simpa using hi
        | some e' => rw [he] at hi; simpa using hi
    · intro y hy
      rcases List.mem_or_eq_of_mem_set hy with hy | hy
      · exact .inl hy
      · exact .inr hy
def DelPost (xs : List EntM) (b : Nat) (w w' : World) : Prop := ∃ xs', MapE w' b xs' ∧ Kept (· = b) w w' ∧ xs'.Sublist xs
theorem delete_any {w : World} {b : Nat} {xs : List EntM} (h : MapE w b xs) (k : Int) (ty : TypeId) :
    ∃ w', (Builtin.delete_ #[133, 3] ty #[.map (some b), .int .i64 k]).run Tryz.prog w = .ok (.tuple #[]) w' ∧ DelPost xs b w w' := by
  obtain ⟨es, clock, hb, hs, hes⟩ := h
  have hk : IsKey (.int .i64) (.int .i64 k) := rfl
  rcases findNow_spec hk es.toList 0 (mapE_keys hes) with ⟨h1, h2⟩ | ⟨j, e, h1, h2, h3⟩
  · refine ⟨setBlock w b (.map es clock), ?_, xs, ⟨_, _, setBlock_at hb, hs, hes⟩, kept_setBlock hb, List.Sublist.refl _⟩
    simp [Builtin.delete_, run_underlying Tryz.underlying133, MapKept.run_getObj_map hb, MapKept.run_checkKey Tryz.underlying3 hk, MapKept.run_findKey Tryz.underlying3 h1, MapKept.run_setObj_map _ hb, Result.andThen, setBlock]
  · have hj : j < es.size := by have := (List.getElem?_eq_some_iff.1 h2).1; simpa using this
    refine ⟨setBlock w b (.map (es.eraseIdxIfInBounds j) clock), ?_, xs.eraseIdx j, ⟨_, _, setBlock_at hb, stamped_erase hs _, ?_⟩, kept_setBlock hb, List.eraseIdx_sublist _ _⟩
    · simp [Builtin.delete_, run_underlying Tryz.underlying133, MapKept.run_getObj_map hb, MapKept.run_checkKey Tryz.underlying3 hk, MapKept.run_findKey Tryz.underlying3 h1, MapKept.run_setObj_map _ hb, Result.andThen, setBlock]
    · unfold Array.eraseIdxIfInBounds
      rw [dif_pos hj, Array.toList_eraseIdx]
      rw [map_erase, hes, ← map_erase]
theorem len_any {w : World} {b : Nat} {xs : List EntM} (h : MapE w b xs) (ty : TypeId) : (Builtin.len_ #[133] ty #[.map (some b)]).run Tryz.prog w = .ok (.int .i64 xs.length) w := by
  obtain ⟨es, clock, hb, hs, hes⟩ := h
  have hl := congrArg List.length hes
  simp only [List.length_map, Array.length_toList] at hl
  rw [len_map hb, hl]
  rfl
theorem mapE_ids {w : World} {b : Nat} {xs : List EntM} (h : MapE w b xs) : xs.Pairwise (fun x y => x.id ≠ y.id) := by
  obtain ⟨es, clock, hb, hs, hes⟩ := h
  have h2 := ((stamped_iff es clock).1 hs).2.2
  have h3 : (es.toList.map (fun e => (e.key, e.val))).Pairwise (fun a b => a.1 ≠ b.1) := by
    rw [List.pairwise_map]; exact h2
  rw [hes, List.pairwise_map] at h3
  exact h3.imp (fun hne e => hne (by rw [e]))
end Go.Proofs.YtekdkckgmleofaaGreat
