/- A config and an entity that came in, as the statement's row reads them. -/
import Derived.Test.YtekdkckgmleofaaGreatXf31
import Derived.Test.YtekdkckgmleofaaGreatXf18
import Derived.Test.YtekdkckgmleofaaGreatRows
import Derived.Deep.Slices
import Derived.Deep.Strs
import Derived.ChangeArms
import Derived.Laws.IdiomArrays
set_option linter.unusedVariables false
set_option linter.unusedSimpArgs false
namespace Go.Proofs.YtekdkckgmleofaaGreat
open Go.RowKit Go.Deep Go.ChangeShapes
theorem list9 {α : Type} {l : List α} (h : l.length = 9) : ∃ c0 c1 c2 c3 c4 c5 c6 c7 c8, l = [c0, c1, c2, c3, c4, c5, c6, c7, c8] := by
  match l, h with
  | [c0, c1, c2, c3, c4, c5, c6, c7, c8], _ => exact ⟨c0, c1, c2, c3, c4, c5, c6, c7, c8, rfl⟩
theorem list11 {α : Type} {l : List α} (h : l.length = 11) : ∃ c0 c1 c2 c3 c4 c5 c6 c7 c8 c9 c10, l = [c0, c1, c2, c3, c4, c5, c6, c7, c8, c9, c10] := by
  match l, h with
  | [c0, c1, c2, c3, c4, c5, c6, c7, c8, c9, c10], _ => exact ⟨c0, c1, c2, c3, c4, c5, c6, c7, c8, c9, c10, rfl⟩
section
variable {H : Type} {enc : TypeId × Value → H} {w : World} {base : Nat} {spare : Nat → Bool} {held : Bool} {n : Nat} {cs : List Value}
theorem fld {P : Program} {fs : Array Field} {xs : List (DataW H × List MemPlace)} (hf : ∀ (i : Nat) (f : Field), fs[i]? = some f → DataW.trod enc P w base spare held n f.type ((cs.drop f.offset).take (P.cellsOf f.type)) = xs[i]?) (hl : xs.length = fs.size) (i : Nat) (f : Field) (hi : fs[i]? = some f) :
    ∃ y, DataW.trod enc P w base spare held n f.type ((cs.drop f.offset).take (P.cellsOf f.type)) = some y := by
  have h := hf i f hi
  have hil : i < fs.size := (Array.getElem?_eq_some_iff.1 hi).1
  rw [h, List.getElem?_eq_getElem (by omega)]
  exact ⟨_, rfl⟩
theorem wf_i64 {a : Int} (h : (Lit.int .i64 a).wf = true) : I64 a := by
  have := wf_bd h
  unfold I64
  omega
theorem cfg_of_trod {x : DataW H × List MemPlace} (h : DataW.trod enc Tryz.prog w base spare held n 26 cs = some x) : ∃ c : Cfg, cs = cfgC c := by
  obtain ⟨xs, m, -, -, hl, hxl, hf⟩ := DataW.trod_struct Tryz.underlying26 h
  have kc : Tryz.prog.cellsOf 26 = 11 := by kernel_rfl
  have ki : Tryz.prog.cellsOf 3 = 1 := by kernel_rfl
  have kj : Tryz.prog.cellsOf 2 = 1 := by kernel_rfl
  have kb : Tryz.prog.cellsOf 4 = 1 := by kernel_rfl
  obtain ⟨y0, h0⟩ := fld hf hxl 0 _ rfl
  obtain ⟨y1, h1⟩ := fld hf hxl 1 _ rfl
  obtain ⟨y2, h2⟩ := fld hf hxl 2 _ rfl
  obtain ⟨y3, h3⟩ := fld hf hxl 3 _ rfl
  obtain ⟨y4, h4⟩ := fld hf hxl 4 _ rfl
  obtain ⟨y5, h5⟩ := fld hf hxl 5 _ rfl
  obtain ⟨y6, h6⟩ := fld hf hxl 6 _ rfl
  obtain ⟨y7, h7⟩ := fld hf hxl 7 _ rfl
  obtain ⟨y8, h8⟩ := fld hf hxl 8 _ rfl
  obtain ⟨y9, h9⟩ := fld hf hxl 9 _ rfl
  obtain ⟨y10, h10⟩ := fld hf hxl 10 _ rfl
  obtain ⟨n0, e0, -, -⟩ := DataW.trod_int Tryz.underlying3 h0
  obtain ⟨n1, e1, -, -⟩ := DataW.trod_int Tryz.underlying3 h1
  obtain ⟨n2, e2, -, -⟩ := DataW.trod_int Tryz.underlying2 h2
  obtain ⟨n3, e3, -, -⟩ := DataW.trod_int Tryz.underlying2 h3
  obtain ⟨n4, e4, -, -⟩ := DataW.trod_int Tryz.underlying2 h4
  obtain ⟨n5, e5, -, -⟩ := DataW.trod_int Tryz.underlying2 h5
  obtain ⟨n6, e6, -, -⟩ := DataW.trod_int Tryz.underlying2 h6
  obtain ⟨n7, e7, -, -⟩ := DataW.trod_int Tryz.underlying2 h7
  obtain ⟨n8, e8, -, -⟩ := DataW.trod_int Tryz.underlying2 h8
  obtain ⟨n9, e9, -, -⟩ := DataW.trod_int Tryz.underlying2 h9
  obtain ⟨b10, e10, -⟩ := DataW.trod_bool Tryz.underlying4 h10
  have g0 : (cs.drop 0).take (Tryz.prog.cellsOf 3) = [.int .i64 n0] := e0
  rw [ki] at g0
  have g1 : (cs.drop 1).take (Tryz.prog.cellsOf 3) = [.int .i64 n1] := e1
  rw [ki] at g1
  have g2 : (cs.drop 2).take (Tryz.prog.cellsOf 2) = [.int .i64 n2] := e2
  rw [kj] at g2
  have g3 : (cs.drop 3).take (Tryz.prog.cellsOf 2) = [.int .i64 n3] := e3
  rw [kj] at g3
  have g4 : (cs.drop 4).take (Tryz.prog.cellsOf 2) = [.int .i64 n4] := e4
  rw [kj] at g4
  have g5 : (cs.drop 5).take (Tryz.prog.cellsOf 2) = [.int .i64 n5] := e5
  rw [kj] at g5
  have g6 : (cs.drop 6).take (Tryz.prog.cellsOf 2) = [.int .i64 n6] := e6
  rw [kj] at g6
  have g7 : (cs.drop 7).take (Tryz.prog.cellsOf 2) = [.int .i64 n7] := e7
  rw [kj] at g7
  have g8 : (cs.drop 8).take (Tryz.prog.cellsOf 2) = [.int .i64 n8] := e8
  rw [kj] at g8
  have g9 : (cs.drop 9).take (Tryz.prog.cellsOf 2) = [.int .i64 n9] := e9
  rw [kj] at g9
  have g10 : (cs.drop 10).take (Tryz.prog.cellsOf 4) = [.bool b10] := e10
  rw [kb] at g10
  rw [kc] at hl
  clear e0 h0 e1 h1 e2 h2 e3 h3 e4 h4 e5 h5 e6 h6 e7 h7 e8 h8 e9 h9 e10 h10 h hf hxl kc ki kj kb
  obtain ⟨c0, c1, c2, c3, c4, c5, c6, c7, c8, c9, c10, rfl⟩ := list11 hl
  simp only [List.drop_zero, List.drop_succ_cons, List.take_succ_cons, List.take_zero, List.cons.injEq, and_true] at g0 g1 g2 g3 g4 g5 g6 g7 g8 g9 g10
  exact ⟨⟨n0, n1, n2, n3, n4, n5, n6, n7, n8, n9, b10⟩, by rw [g0, g1, g2, g3, g4, g5, g6, g7, g8, g9, g10]; rfl⟩
theorem trod3 {x : DataW H × List MemPlace} {c0 c1 c2 : Value} (h : DataW.trod enc Tryz.prog w base spare held n 36 [c0, c1, c2] = some x) : ∃ p q r, c0 = .int .i64 p ∧ c1 = .int .i64 q ∧ c2 = .int .i64 r ∧ I64 p ∧ I64 q ∧ I64 r := by
  obtain ⟨y0, y1, y2, m, -, h0, h1, h2⟩ := trod_array3 Tryz.underlying36 (by kernel_rfl) h
  obtain ⟨p, e0, -, w0⟩ := DataW.trod_int Tryz.underlying2 h0
  obtain ⟨q, e1, -, w1⟩ := DataW.trod_int Tryz.underlying2 h1
  obtain ⟨r, e2, -, w2⟩ := DataW.trod_int Tryz.underlying2 h2
  simp only [List.cons.injEq, and_true] at e0 e1 e2
  exact ⟨p, q, r, e0, e1, e2, wf_i64 w0, wf_i64 w1, wf_i64 w2⟩
structure EntIn (x : EntM) : Prop where
  id : I64 x.id
  p0 : I64 x.p0
  p1 : I64 x.p1
  p2 : I64 x.p2
  ang : x.ang ≤ 65535
theorem ent_of_trod {x : DataW H × List MemPlace} (h : DataW.trod enc Tryz.prog w base spare held n 39 cs = some x) : ∃ e : EntM, cs = entC e ∧ EntIn e := by
  obtain ⟨xs, m, -, -, hl, hxl, hf⟩ := DataW.trod_struct Tryz.underlying39 h
  have kc : Tryz.prog.cellsOf 39 = 9 := by kernel_rfl
  have ki : Tryz.prog.cellsOf 3 = 1 := by kernel_rfl
  have k3 : Tryz.prog.cellsOf 36 = 3 := by kernel_rfl
  have ka : Tryz.prog.cellsOf 37 = 1 := by kernel_rfl
  have kg : Tryz.prog.cellsOf 5 = 1 := by kernel_rfl
  obtain ⟨y0, h0⟩ := fld hf hxl 0 _ rfl
  obtain ⟨y1, h1⟩ := fld hf hxl 1 _ rfl
  obtain ⟨y2, h2⟩ := fld hf hxl 2 _ rfl
  obtain ⟨y3, h3⟩ := fld hf hxl 3 _ rfl
  obtain ⟨y4, h4⟩ := fld hf hxl 4 _ rfl
  obtain ⟨n0, e0, -, w0⟩ := DataW.trod_int Tryz.underlying3 h0
  obtain ⟨n3, e3, -, w3⟩ := DataW.trod_int Tryz.underlying37 h3
  obtain ⟨n4, e4, -, w4⟩ := DataW.trod_int Tryz.underlying5 h4
  have g0 : (cs.drop 0).take (Tryz.prog.cellsOf 3) = [.int .i64 n0] := e0
  have g3 : (cs.drop 7).take (Tryz.prog.cellsOf 37) = [.int .u16 n3] := e3
  have g4 : (cs.drop 8).take (Tryz.prog.cellsOf 5) = [.int .u8 n4] := e4
  have g1 : DataW.trod enc Tryz.prog w base spare held m 36 ((cs.drop 1).take (Tryz.prog.cellsOf 36)) = some y1 := h1
  have g2 : DataW.trod enc Tryz.prog w base spare held m 36 ((cs.drop 4).take (Tryz.prog.cellsOf 36)) = some y2 := h2
  rw [ki] at g0
  rw [ka] at g3
  rw [kg] at g4
  rw [k3] at g1 g2
  rw [kc] at hl
  clear e0 e3 e4 h0 h1 h2 h3 h4 h hf hxl kc ki k3 ka kg
  obtain ⟨c0, c1, c2, c3, c4, c5, c6, c7, c8, rfl⟩ := list9 hl
  simp only [List.drop_zero, List.drop_succ_cons, List.take_succ_cons, List.take_zero, List.cons.injEq, and_true] at g0 g1 g2 g3 g4
  obtain ⟨p0, p1, p2, rfl, rfl, rfl, b0, b1, b2⟩ := trod3 g1
  obtain ⟨v0, v1, v2, rfl, rfl, rfl, -, -, -⟩ := trod3 g2
  have a3 := u16_bd w3
  have a4 := u8_bd w4
  refine ⟨⟨n0, p0, p1, p2, v0, v1, v2, n3.toNat, n4.toNat⟩, ?_, ⟨wf_i64 w0, b0, b1, b2, by show n3.toNat ≤ 65535; omega⟩⟩
  have t3 : ((n3.toNat : Nat) : Int) = n3 := by omega
  have t4 : ((n4.toNat : Nat) : Int) = n4 := by omega
  simp only [entC, t3, t4]
  rw [g0, g3, g4]
end
end Go.Proofs.YtekdkckgmleofaaGreat
