/- Four small numbers that came in, as the statement's row reads them. -/
import Derived.Test.YtekdkckgmleofaaGreatXf42
import Derived.WideShapes
import Derived.Lib.SmallJoins
set_option linter.unusedVariables false
set_option linter.unusedSimpArgs false
namespace Go.Proofs.YtekdkckgmleofaaGreat
open Go.RowKit Go.Deep Go.ChangeShapes Go.WideShapes
theorem okWide_arr {P : Program} {w : World} {r : Reach} {base : Nat} {t : TypeId} {v : Value} {n : Nat} {e : TypeId} (ht : P.underlying t = some (.array n e)) (h : Value.okWide P w r base t v) : ∃ cs, v = .agg cs ∧ cs.size = P.cellsOf t := by
  simp only [Value.okWide, ht] at h
  obtain ⟨cs, h1, h2, _⟩ := h
  exact ⟨cs, h1, h2⟩
theorem list4 {α : Type} {l : List α} (h : l.length = 4) : ∃ c0 c1 c2 c3, l = [c0, c1, c2, c3] := by
  match l, h with
  | [c0, c1, c2, c3], _ => exact ⟨c0, c1, c2, c3, rfl⟩
theorem four_of_trod {H : Type} {enc : TypeId × Value → H} {w : World} {base : Nat} {spare : Nat → Bool} {held : Bool} {n : Nat} {cs : List Value} {x : DataW H × List MemPlace} (hl : cs.length = 4) (h : DataW.trod enc Tryz.prog w base spare held n 22 cs = some x) :
    ∃ p q r s : Int, cs = [.int .u8 p, .int .u8 q, .int .u8 r, .int .u8 s] ∧ (0 ≤ p ∧ p ≤ 255) ∧ (0 ≤ q ∧ q ≤ 255) ∧ (0 ≤ r ∧ r ≤ 255) ∧ (0 ≤ s ∧ s ≤ 255) := by
  obtain ⟨c0, c1, c2, c3, rfl⟩ := list4 hl
  obtain ⟨y0, y1, y2, y3, m, -, h0, h1, h2, h3⟩ := trod_array4 Tryz.underlying22 (by kernel_rfl) h
  obtain ⟨p, e0, -, w0⟩ := DataW.trod_int Tryz.underlying5 h0
  obtain ⟨q, e1, -, w1⟩ := DataW.trod_int Tryz.underlying5 h1
  obtain ⟨r, e2, -, w2⟩ := DataW.trod_int Tryz.underlying5 h2
  obtain ⟨s, e3, -, w3⟩ := DataW.trod_int Tryz.underlying5 h3
  simp only [List.cons.injEq, and_true] at e0 e1 e2 e3
  exact ⟨p, q, r, s, by rw [e0, e1, e2, e3], u8_bd w0, u8_bd w1, u8_bd w2, u8_bd w3⟩
end Go.Proofs.YtekdkckgmleofaaGreat
