/- Joined texts. -/
import Derived.Test.YtekdkckgmleofaaGreatXf24
import Derived.MapKept
import Derived.Laws.IdiomRangeMap
import Derived.Maps.OwnOps
import Derived.Maps.OwnSet
import Derived.Maps.RangeWalk
import Derived.Test.YtekdkckgmleofaaGreatXf12
set_option linter.unusedVariables false
set_option linter.unusedSimpArgs false
/- The map of entities: what an empty one does, and one with one entry. -/
namespace Go.Proofs.YtekdkckgmleofaaGreat
open Go.RowKit Go.MapKept

abbrev zentC : List Value := [.int .i64 0, .int .i64 0, .int .i64 0, .int .i64 0, .int .i64 0, .int .i64 0, .int .i64 0, .int .u16 0, .int .u8 0]
abbrev zentV : Value := .agg zentC.toArray
section
variable {P : Program} {w : World} {ops : Array Oper} {rest : List Oper} {o : Oper} {a : Act} {Q : Exit → Act → World → Prop}
theorem wpList_lookup_run (hg : o.guard = none) (m x : Operand) (t : TypeId) (ok : Bool) (hop : o.op = Op.lookup t m x ok) (mv xv r : Value) (hm : a.eval m = mv) (hx : a.eval x = xv)
    (hrun : (Instr.lookup t mv xv ok).run P w = .ok r w) (hK : wpList P ops Q rest (a.put o.dst r) w) : wpList P ops Q (o :: rest) a w := by
  refine wpList_plain hg fun K' hK' => ?_
  unfold Oper.wp
  simp [execOp, hop, hm, hx, hrun, Result.andThen]
  exact hK' _ _ hK
theorem wpList_mapUpdate_run (hg : o.guard = none) (m x v : Operand) (t : TypeId) (hop : o.op = Op.mapUpdate t m x v) (mv xv vv : Value) (w' : World) (hm : a.eval m = mv) (hx : a.eval x = xv) (hv : a.eval v = vv)
    (hrun : (Instr.mapUpdate t mv xv vv).run P w = .ok () w') (hK : ∀ d, wpList P ops Q rest (a.put o.dst d) w') : wpList P ops Q (o :: rest) a w := by
  refine wpList_plain hg fun K' hK' => ?_
  unfold Oper.wp
  simp [execOp, hop, hm, hx, hv, hrun, Result.andThen]
  exact hK' _ _ (hK _)
theorem wpList_range_run (hg : o.guard = none) (m : Operand) (t : TypeId) (hop : o.op = Op.range t m) (mv r : Value) (w' : World) (hm : a.eval m = mv)
    (hrun : (Instr.range t mv).run P w = .ok r w') (hK : wpList P ops Q rest (a.put o.dst r) w') : wpList P ops Q (o :: rest) a w := by
  refine wpList_plain hg fun K' hK' => ?_
  unfold Oper.wp
  simp [execOp, hop, hm, hrun, Result.andThen]
  exact hK' _ _ hK
theorem wpList_next_run (hg : o.guard = none) (it : Operand) (hop : o.op = Op.next it false) (iv r : Value) (w' : World) (hm : a.eval it = iv)
    (hrun : (Instr.next iv false o.type).run P w = .ok r w') (hK : wpList P ops Q rest (a.put o.dst r) w') : wpList P ops Q (o :: rest) a w := by
  refine wpList_plain hg fun K' hK' => ?_
  unfold Oper.wp
  simp [execOp, hop, hm, hrun, Result.andThen]
  exact hK' _ _ hK
theorem wpList_delete_run (hg : o.guard = none) (m x : Operand) (t k : TypeId) (hop : o.op = Op.call { callee := Callee.builtin Builtin.delete, args := #[m, x], argTypes := #[t, k] }) (mv xv : Value) (w' : World) (hm : a.eval m = mv) (hx : a.eval x = xv)
    (hrun : (Builtin.delete_ #[t, k] o.type #[mv, xv]).run P w = .ok (.tuple #[]) w') (hK : wpList P ops Q rest (a.put o.dst (.tuple #[])) w') : wpList P ops Q (o :: rest) a w := by
  refine wpList_plain hg fun K' hK' => ?_
  unfold Oper.wp execOp
  simp only [hop, resolve, invoke, builtin, Sem.run_bind, Sem.run_pure, Result.andThen_ok, List.map_toArray, List.map_cons, List.map_nil, hm, hx, hrun]
  exact hK' _ _ hK
theorem wpList_len_run (hg : o.guard = none) (m : Operand) (t : TypeId) (hop : o.op = Op.call { callee := Callee.builtin Builtin.len, args := #[m], argTypes := #[t] }) (mv r : Value) (hm : a.eval m = mv)
    (hrun : (Builtin.len_ #[t] o.type #[mv]).run P w = .ok r w) (hK : wpList P ops Q rest (a.put o.dst r) w) : wpList P ops Q (o :: rest) a w := by
  refine wpList_plain hg fun K' hK' => ?_
  unfold Oper.wp execOp
  simp only [hop, resolve, invoke, builtin, Sem.run_bind, Sem.run_pure, Result.andThen_ok, List.map_toArray, List.map_cons, List.map_nil, hm, hrun]
  exact hK' _ _ hK
end
theorem zent_run (w : World) : (zeroValue 39).run Tryz.prog w = .ok zentV w := by kernel_rfl
theorem set_same {α : Type} (xs : Array α) (i : Nat) (x : α) (h : xs[i]? = some x) : xs.setIfInBounds i x = xs := by
  apply Array.ext_getElem?
  intro j
  rw [Array.getElem?_setIfInBounds]
  split
  · rename_i e
    subst e
    rw [h]
    simp [(Array.getElem?_eq_some_iff.1 h).1]
  · rfl
section
variable {w : World} {b : Nat} {c : Nat}
theorem look_empty (hb : w.heap[b]? = some (.map #[] c)) (k : Int) : (Instr.lookup 133 (.map (some b)) (.int .i64 k) true).run Tryz.prog w = .ok (.tuple #[zentV, .bool false]) w := by
  simp [Instr.lookup, run_underlying Tryz.underlying133, MapKept.run_getObj_map hb, MapKept.run_checkKey Tryz.underlying3 (show IsKey (.int .i64) (.int .i64 k) from rfl), MapKept.run_findKey Tryz.underlying3 (show Instr.findNow (.int .i64) (.int .i64 k) [] 0 = some none from rfl), zent_run, Result.andThen]
theorem delete_empty (hb : w.heap[b]? = some (.map #[] c)) (k : Int) (ty : TypeId) : (Builtin.delete_ #[133, 3] ty #[.map (some b), .int .i64 k]).run Tryz.prog w = .ok (.tuple #[]) w := by
  simp [Builtin.delete_, run_underlying Tryz.underlying133, MapKept.run_getObj_map hb, MapKept.run_checkKey Tryz.underlying3 (show IsKey (.int .i64) (.int .i64 k) from rfl), MapKept.run_findKey Tryz.underlying3 (show Instr.findNow (.int .i64) (.int .i64 k) [] 0 = some none from rfl), MapKept.run_setObj_map _ hb, Result.andThen]
  rw [set_same _ _ _ hb]
theorem next_empty (hb : w.heap[b]? = some (.map #[] c)) (since c0 : Nat) (hsc : since ≤ c0) (ty : TypeId) : (Instr.next (.pointer (some ⟨w.heap.size, 0, none⟩)) false ty).run Tryz.prog (w.alloc (.mapIter (some b) since #[] c0)) = .ok (.tuple #[.bool false]) (w.alloc (.mapIter (some b) since #[] c0)) := by
  rcases run_next_map (P := Tryz.prog) w ty b since c0 #[] #[] c hb (by simp) hsc with ⟨-, h⟩ | ⟨e, he, -⟩
  · exact h
  · simp [leftOf] at he
end
end Go.Proofs.YtekdkckgmleofaaGreat

/- Contracts of package delta's functions: tell of one new entity, Full. -/
namespace Go.Proofs.YtekdkckgmleofaaGreat
open Go.RowKit

theorem ent_cells {w : World} {v : Value} {x : EntM} {own : Option Nat} (h : Sl w v 39 9 1 (entC x) own) : ∃ g off cap, own = some g ∧ v = .slice (some ⟨g, off, none⟩) 1 cap ∧ g < w.heap.size ∧
    ∀ j u, (entC x)[j]? = some u → w.cell? ⟨g, off + j, none⟩ = some u := by
  obtain ⟨g, off, cap, ho, hv, -, -, hc, -⟩ := h.some (by omega)
  exact ⟨g, off, cap, ho, hv, h.lt ho, hc⟩
def TellPost (x : EntM) (w : World) (e : Ending) (w' : World) : Prop :=
  ∃ v, e = .returned (.tuple #[v, .int .i64 0]) ∧ OneP 175 9 (recC (putR x)) v w.heap.size w' ∧ Kept (fun _ => False) w w'
set_option maxRecDepth 100000 in
set_option maxHeartbeats 2000000 in
theorem tell_calls (x : EntM) (hx : x.Ok) (hgen : x.gen = 0) (w : World) (b c : Nat) (hb : w.heap[b]? = some (.map #[] c)) (v : Value) (own : Option Nat) (hv : Sl w v 39 9 1 (entC x) own) :
    Calls Tryz.prog 53 #[.map (some b), v] w (TellPost x w) := by
  obtain ⟨g, off, cap, ho, rfl, hgl, hc⟩ := ent_cells hv
  have HC := Lib.hid hc
  have HG := Lib.hid hgen
  have hbl : b < w.heap.size := (Array.getElem?_eq_some_iff.1 hb).1
  have HB := Lib.hid hb
  obtain ⟨j0, hi, hz0, hz1, hz2⟩ := info_parts infoRec
  have HI := Lib.hid hi
  have HZ0 := Lib.hid hz0
  have HZ1 := Lib.hid hz1
  have HZ2 := Lib.hid hz2
  have HSO := Lib.hid (fun a cap fn W => SortRecord.sort1 a cap fn W)
  clear hi hz0 hz1 hz2 hv hc hgen hb
  go_enter Tryz.func53, Tryz.ntmps53
  go_wp2_with fail
  go_loopw [6, 17] (fun l i wr => ∃ (k : Nat) (y : Value), i = .int .i64 k ∧ l = y ∧ (k = 0 ∧ y = .slice none 0 0 ∧ wr = w ∨ k = 1 ∧ OneP 175 9 (recC (putR x)) y w.heap.size wr ∧ Kept (fun _ => False) w wr)) (fun _ i _ => (1 - intOf i).toNat)
  case atStart => exact ⟨0, _, rfl, rfl, .inl ⟨rfl, rfl, rfl⟩⟩
  case round =>
    obtain ⟨k, y, rfl, hy, hk⟩ := hrel
    have hy2 := hy.symm
    clear hy
    subst hy2
    rcases hk with ⟨rfl, rfl, rfl⟩ | ⟨rfl, hP, hK⟩
    · have c0 := HC.out 0 _ rfl
      have c1 := HC.out 1 _ rfl
      have c2 := HC.out 2 _ rfl
      have c3 := HC.out 3 _ rfl
      have c4 := HC.out 4 _ rfl
      have c5 := HC.out 5 _ rfl
      have c6 := HC.out 6 _ rfl
      have c7 := HC.out 7 _ rfl
      have c8 := HC.out 8 _ rfl
      rw [HG.out] at c8
      rw [Nat.add_zero] at c0
      have hbm : Hid (∀ o, (wr.alloc o).heap[b]? = some (.map #[] c)) := Lib.hid (fun o => by rw [Below.heap_alloc _ _ _ hbl]; exact HB.out)
      have hbm2 : Hid (∀ o o', ((wr.alloc o).alloc o').heap[b]? = some (.map #[] c)) := Lib.hid (fun o o' => by rw [Below.heap_alloc _ _ _ (by simp; omega)]; exact hbm.out o)
      have HSR : Hid (∀ o o', Src (((wr.alloc o).alloc o').alloc (.cells #[.int .i64 0, .int .i64 x.id, .int .i64 x.p0, .int .i64 x.p1, .int .i64 x.p2, .int .i64 x.v0, .int .i64 x.v1, .int .i64 x.v2, .int .u16 x.ang] 175)) (.slice (some ⟨wr.heap.size + 1 + 1, 0, none⟩) 1 1) 1 (recC (putR x))) := Lib.hid (fun o o' => by
        have := (Sl.made ((wr.alloc o).alloc o') (recC (putR x)) 175 9 1 rfl (by decide)).src
        rw [size_alloc, size_alloc] at this
        exact this)
      have HO : Hid (∀ u ∈ recC (putR x), u.oneCell' = true) := Lib.hid (by simp [Value.oneCell'])
      go_wp2_with (first
        | (at_lookup; refine wpList_lookup_run rfl _ _ _ _ rfl _ _ _ rfl rfl (look_empty (hbm.out _) _) ?_)
        | (at_delete; refine wpList_delete_run rfl _ _ _ _ rfl _ _ _ rfl rfl (delete_empty (hbm2.out _ _) _ _) ?_)
        | (at_builtin; refine wpList_append_sl _ rfl _ _ 76 rfl 175 j0 (.agg zrec.toArray) 9 72 Tryz.underlying76 HI.out HZ0.out HZ1.out HZ2.out rfl _ 0 [] none rfl (Sl.nil _ _ _) _ 1 (recC (putR x)) rfl (HSR.out _ _) rfl HO.out (by decide) (by decide) ?_; intro v3 w3 own3 hS3 ho3 hK3; have SA := Lib.hid hS3; have OA := Lib.hid ho3; have KA := Lib.hid hK3; clear hS3 ho3 hK3))
      have HF : Hid (OneP 175 9 (recC (putR x)) v3 wr.heap.size w3 ∧ Kept (fun _ => False) wr w3) := Lib.hid (by
        have KW := ((((Kept.refl (fun _ => False) wr).alloc _).alloc _).alloc _).trans KA.out (fun _ h => by cases h)
        refine ⟨?_, KW⟩
        rcases OA.out with e | e
        · have := SA.out
          rw [e] at this
          rcases this.2 with ⟨hh, h2, _⟩ | ⟨_, _, _, _, hh, _⟩
          · cases h2
          · cases hh
        · have := SA.out
          rw [e] at this
          exact ⟨_, this, by simp; omega⟩)
      exact ⟨⟨1, _, by simp, rfl, .inr ⟨rfl, HF.out.1, HF.out.2⟩⟩, by simp [intOf]⟩
    · have HP := Lib.hid hP
      have HK := Lib.hid hK
      have hbw : wr.heap[b]? = some (.map #[] c) := by rw [hK.block b hbl (fun h => h)]; exact HB.out
      have HBW := Lib.hid hbw
      obtain ⟨gr, hSr, hgr⟩ := hP
      obtain ⟨ar, cr, hyr, -, -⟩ := hSr.form
      subst hyr
      clear hK hbw hSr
      go_wp2_with (at_range; refine wpList_range_run rfl _ _ rfl _ _ _ rfl (run_range_map _ _ _ _ _ _ _ Tryz.underlying133 HBW.out) ?_)
      go_frame
      go_loopw [6] (fun l wl => l = .slice ar 1 cr ∧ wl = wr.alloc (.mapIter (some b) c #[] c)) (fun _ _ => 0)
      case atStart => exact ⟨rfl, rfl⟩
      case round =>
        obtain ⟨rfl, rfl⟩ := hrel
        go_wp2_with (at_next; refine wpList_next_run rfl _ rfl _ _ _ rfl (next_empty HBW.out c c (Nat.le_refl _) _) ?_)
        refine (HSO.out _ _ _ _).mono ?_
        rintro e w4 ⟨rfl, rfl⟩
        go_wp2_with fail
        go_ret2
        refine ⟨_, rfl, HP.out.kept ((Kept.refl (fun _ => False) wr).alloc _) (fun _ _ h => h), HK.out.alloc _⟩
end Go.Proofs.YtekdkckgmleofaaGreat

/- Contracts: delta.Full, and the statement's own full, of a snapshot of one entity. -/
namespace Go.Proofs.YtekdkckgmleofaaGreat
open Go.RowKit

def FullPost (tick time : Int) (x : EntM) (w : World) (e : Ending) (w' : World) : Prop :=
  ∃ v, e = .returned (.tuple #[gramV tick time (-1) v, .int .i64 0]) ∧ OneP 175 9 (recC (putR x)) v w.heap.size w' ∧ Kept (fun _ => False) w w'
theorem entsOk_one {x : EntM} (h : x.Ok) : EntsOk [x] := ⟨by simp, by simpa using h, by simp⟩
set_option maxRecDepth 100000 in
set_option maxHeartbeats 2000000 in
theorem full_calls (tick time : Int) (hs : SnapOk tick time) (x : EntM) (hx : x.Ok) (hgen : x.gen = 0) (w : World) (v : Value) (own : Option Nat) (hv : Sl w v 39 9 1 (entC x) own) :
    Calls Tryz.prog 23 #[snapV tick time v] w (FullPost tick time x w) := by
  have HCK := Lib.hid (fun W v own h => snapcheck_calls tick time hs [x] (entsOk_one hx) W v own h)
  have HTL := Lib.hid (fun W b c hb v own h => tell_calls x hx hgen W b c hb v own h)
  obtain ⟨a, cap, rfl, -, -⟩ := hv.form
  have HV := Lib.hid hv
  unfold TellPost at HTL
  clear hv
  have hmm := @run_makeMap Tryz.prog
  go_enter Tryz.func23, Tryz.ntmps23
  go_wp2_with fail
  have K0 := ((Kept.refl (fun _ => False) w).alloc (.cells (snapC tick time (.slice a 1 cap)).toArray 42)).alloc (.cells #[.int .i64 0, .int .i64 0, .int .i64 0, .slice none 0 0] 78)
  refine (HCK.out _ _ _ (HV.out.kept K0 (fun _ _ h => h))).mono ?_
  rintro e w1 ⟨rfl, hk1⟩
  have BS := hk1.blk ((Blk.new w (snapC tick time (.slice a 1 cap)) 42).alloc (.cells #[.int .i64 0, .int .i64 0, .int .i64 0, .slice none 0 0] 78)) (fun h => h)
  have BG := hk1.blk (Blk.new_at (w := w.alloc (.cells (snapC tick time (.slice a 1 cap)).toArray 42)) (n := w.heap.size + 1) (by simp) [.int .i64 0, .int .i64 0, .int .i64 0, .slice none 0 0] 78) (fun h => h)
  have HK1 := Lib.hid (K0.trans hk1 (fun _ h => h.elim))
  have HBS := Lib.hid BS
  have HBG := Lib.hid BG
  have s2 := (BS.alloc (.map #[] 0)).cell (i := 2) rfl
  have n1 : w.heap.size ≠ w1.heap.size := Nat.ne_of_lt BS.lt
  have n2 : w.heap.size + 1 ≠ w1.heap.size := Nat.ne_of_lt BG.lt
  have hl1 := BG.lt
  clear hk1 K0 BS BG
  go_wp2_with fail
  have hS1 := (HV.out.kept HK1.out (fun _ _ h => h)).alloc (.map #[] 0)
  refine (HTL.out _ w1.heap.size 0 (heap_alloc_new w1 _) _ _ hS1).mono ?_
  clear hS1
  rintro e w2 ⟨rv, rfl, hP, hk2⟩
  obtain ⟨gr, hSr, hgr⟩ := hP
  obtain ⟨ar, cr, rfl, -, -⟩ := hSr.form
  have HSR := Lib.hid hSr
  have hgr2 : w.heap.size + 1 < gr := by simp at hgr; omega
  have BS := hk2.blk (HBS.out.alloc (.map #[] 0)) (fun h => h)
  have BG := hk2.blk (HBG.out.alloc (.map #[] 0)) (fun h => h)
  have HK2 := Lib.hid ((HK1.out.alloc (.map #[] 0)).trans hk2 (fun _ h => h.elim))
  have HBG2 := Lib.hid BG
  have r0 := BS.cell (i := 0) rfl
  have r1 := BS.cell (i := 1) rfl
  have c0 := BG.cell (i := 0) rfl
  have c1 := BG.cell (i := 1) rfl
  have c2 := BG.cell (i := 2) rfl
  have c3 := BG.cell (i := 3) rfl
  have f0 := BG.free 0
  have f1 := BG.free 1
  have f2 := BG.free 2
  have f3 := BG.free 3
  clear hk2 BS BG hSr s2 hgr n1 n2 hmm
  go_wp2_with fail
  have hf := (((HBG2.out.set 0 (.int .i64 tick)).set 1 (.int .i64 time)).set 2 (.int .i64 (-1))).set 3 (.slice ar 1 cr)
  have KS := ((((Kept.refl (· = w.heap.size + 1) w2).setCell (a := ⟨w.heap.size + 1, 0, none⟩) (.inl rfl) (.int .i64 tick)).setCell (a := ⟨w.heap.size + 1, 1, none⟩) (.inl rfl) (.int .i64 time)).setCell (a := ⟨w.heap.size + 1, 2, none⟩) (.inl rfl) (.int .i64 (-1))).setCell (a := ⟨w.heap.size + 1, 3, none⟩) (.inl rfl) (.slice ar 1 cr)
  have d0 := hf.cell (i := 0) rfl
  have d1 := hf.cell (i := 1) rfl
  have d2 := hf.cell (i := 2) rfl
  have d3 := hf.cell (i := 3) rfl
  refine bodyPost_ret (v := .tuple #[gramV tick time (-1) (.slice ar 1 cr), .int .i64 0]) (by simp [results, Tryz.f23, Tryz.results23, go_sem, d0, d1, d2, d3]) rfl ⟨_, rfl, ?_, HK2.out.trans KS (fun i hi => .inr (by omega))⟩
  exact ⟨gr, HSR.out.kept KS (fun g' e => by cases e; omega), by omega⟩
set_option maxRecDepth 100000 in
theorem tfull_calls (tick time : Int) (hs : SnapOk tick time) (x : EntM) (hx : x.Ok) (hgen : x.gen = 0) (w : World) (v : Value) (own : Option Nat) (hv : Sl w v 39 9 1 (entC x) own) :
    Calls Tryz.prog 9 #[snapV tick time v] w (RowPost (gramL tick time x) w) := by
  have HF := Lib.hid (fun W v own h => full_calls tick time hs x hx hgen W v own h)
  have HW := Lib.hid (fun W v rb h => gwrite_calls tick time x hs hx W v rb h)
  obtain ⟨a, cap, rfl, -, -⟩ := hv.form
  have HV := Lib.hid hv
  unfold FullPost at HF
  unfold RowPost2 at HW
  clear hv
  go_enter Tryz.func9, Tryz.ntmps9
  go_wp2_with fail
  have K0 := ((Kept.refl (fun _ => False) w).alloc (.cells (snapC tick time (.slice a 1 cap)).toArray 42))
  refine (HF.out _ _ _ (HV.out.kept K0 (fun _ _ h => h))).mono ?_
  rintro e w1 ⟨rv, rfl, hP, hk1⟩
  obtain ⟨gr, hSr, hgr⟩ := hP
  obtain ⟨ar, cr, rfl, -, -⟩ := hSr.form
  have HSR := Lib.hid hSr
  have HK1 := Lib.hid (K0.trans hk1 (fun _ h => h.elim))
  clear hSr hk1 K0
  go_wp2_with fail
  have K2 := (Kept.refl (fun _ => False) w1).alloc (.cells (gramC tick time (-1) (.slice ar 1 cr)).toArray 78)
  refine (HW.out _ _ _ (HSR.out.kept K2 (fun _ _ h => h))).mono ?_
  rintro e w2 ⟨bv, gb, rfl, hSb, hgb, hk2⟩
  have HSB := Lib.hid hSb
  have HK2 := Lib.hid ((HK1.out.trans K2 (fun _ h => h.elim)).trans hk2 (fun _ h => h.elim))
  have hgb2 : w1.heap.size ≤ gb := by simp at hgb; omega
  clear hSb hk2 K2 hgb
  go_wp2_with fail
  go_ret
  exact ⟨bv, gb, rfl, HSB.out, by have := HK1.out.size; omega, HK2.out⟩
end Go.Proofs.YtekdkckgmleofaaGreat
