/- A slice of calls on a ring that came in, each number such as fits. -/
import Derived.Test.YtolgapcckbcmbaaBase
import Derived.Test.YtolgapcckbcmbaaRows
import Derived.Deep.Slices
import Derived.Deep.Strs
import Derived.ChangeArms
namespace Go.Proofs.Ytolgapcckbcmbaa
open Go.RowKit Go.Deep

/-- A call: what, at which number, which text. -/
structure Act where
  kind : Int
  key : Int
  x : ByteArray

/-- Where there are calls they lie one behind the other, three cells each. -/
def ReadsB (w : World) (a : Option Addr) (l : List Act) : Prop :=
  0 < l.length → ∃ b off, a = some ⟨b, off, none⟩ ∧ b < w.heap.size ∧ ∀ i y, l[i]? = some y →
    w.cell? ⟨b, off + i * 3, none⟩ = some (.int .i64 y.kind) ∧ w.cell? ⟨b, off + i * 3 + 1, none⟩ = some (.int .i64 y.key) ∧ w.cell? ⟨b, off + i * 3 + 2, none⟩ = some (.string y.x) ∧ (Lit.int .i64 y.key).wf = true

theorem add_add' (a : Addr) (i j : Nat) : (a.add i).add j = a.add (i + j) := by
  unfold Addr.add
  by_cases hi : i = 0
  · subst hi; simp
  · by_cases hj : j = 0
    · subst hj; simp
    · rw [if_neg hj, if_neg hi, if_neg (by omega), Nat.add_assoc]

theorem cells3 {H : Type} {enc : TypeId × Value → H} {w : World} {base : Nat} {spare : Nat → Bool} {held : Bool} {n : Nat} {cs : List Value} {x : DataW H × List MemPlace}
    (h : DataW.trod enc Try.prog w base spare held n 53 cs = some x) : ∃ y : Act, cs = [.int .i64 y.kind, .int .i64 y.key, .string y.x] ∧ (Lit.int .i64 y.key).wf = true := by
  obtain ⟨y0, y1, y2, m, -, hl, h0, h1, h2⟩ := trod_struct3 Try.underlying53 h
  obtain ⟨n0, e0, -, -⟩ := DataW.trod_int Try.underlying3 h0
  obtain ⟨n1, e1, -, W1⟩ := DataW.trod_int Try.underlying2 h1
  obtain ⟨s2, e2, -, -⟩ := DataW.trod_string Try.underlying9 h2
  have k3 : Try.prog.cellsOf 53 = 3 := by kernel_rfl
  have ki : Try.prog.cellsOf 3 = 1 := by kernel_rfl
  have kj : Try.prog.cellsOf 2 = 1 := by kernel_rfl
  have ks : Try.prog.cellsOf 9 = 1 := by kernel_rfl
  have g0 : (cs.drop 0).take (Try.prog.cellsOf 3) = [.int .i64 n0] := e0
  have g1 : (cs.drop 1).take (Try.prog.cellsOf 2) = [.int .i64 n1] := e1
  have g2 : (cs.drop 2).take (Try.prog.cellsOf 9) = [.string s2] := e2
  rw [ki] at g0
  rw [kj] at g1
  rw [ks] at g2
  rw [k3] at hl
  clear e0 e1 e2 h0 h1 h2 h k3 ki kj ks
  match cs, hl with
  | [c0, c1, c2], _ =>
    simp at g0 g1 g2
    exact ⟨⟨n0, n1, s2⟩, by rw [g0, g1, g2], W1⟩

/-- The calls that are read out of an argument. -/
theorem ReadsB.of_trod {H : Type} {enc : TypeId × Value → H} {w : World} {base : Nat} {spare : Nat → Bool} {held : Bool} {n : Nat} {a : Option Addr} {len cap : Nat} {x : DataW H × List MemPlace}
    (h : DataW.trod enc Try.prog w base spare held n 50 (Value.slice a len cap).cells.toList = some x) : ∃ l : List Act, len = l.length ∧ l.length ≤ cap ∧ cap ≤ maxLen ∧ ReadsB w a l := by
  rcases open_slice Try.underlying50 h with ⟨hcs, -⟩ | ⟨ad, len', cap', m, n', D, Pl, hcs, hb, hl, hm, hmm, -, hel⟩
  · simp [Value.cells] at hcs
    obtain ⟨rfl, rfl, rfl⟩ := hcs
    exact ⟨[], rfl, Nat.zero_le _, Nat.zero_le _, fun h => absurd h (Nat.lt_irrefl _)⟩
  · simp [Value.cells] at hcs
    obtain ⟨rfl, rfl, rfl⟩ := hcs
    have hlm : len ≤ m := by rw [hmm]; split <;> omega
    have hy : ∀ i, ∃ y : Act, i < len → w.cell? (ad.add (i * 3 + 0)) = some (.int .i64 y.kind) ∧ w.cell? (ad.add (i * 3 + 1)) = some (.int .i64 y.key) ∧ w.cell? (ad.add (i * 3 + 2)) = some (.string y.x) ∧ (Lit.int .i64 y.key).wf = true := by
      intro i
      by_cases hi : i < len
      · obtain ⟨cs', hc, ht⟩ := hel i (by omega)
        obtain ⟨y, rfl, hw⟩ := cells3 ht
        obtain ⟨-, -, hcell⟩ := World.cells?_some hc
        rw [show Try.prog.cellsOf 53 = 3 by kernel_rfl] at hcell
        refine ⟨y, fun _ => ?_⟩
        have q0 := hcell 0 (by omega)
        have q1 := hcell 1 (by omega)
        have q2 := hcell 2 (by omega)
        rw [add_add'] at q0 q1 q2
        exact ⟨q0, q1, q2, hw⟩
      · exact ⟨⟨0, 0, ByteArray.empty⟩, fun h => absurd h hi⟩
    have hch : ∃ f : Nat → Act, ∀ i, i < len → w.cell? (ad.add (i * 3 + 0)) = some (.int .i64 (f i).kind) ∧ w.cell? (ad.add (i * 3 + 1)) = some (.int .i64 (f i).key) ∧ w.cell? (ad.add (i * 3 + 2)) = some (.string (f i).x) ∧ (Lit.int .i64 (f i).key).wf = true :=
      ⟨fun i => (hy i).choose, fun i => (hy i).choose_spec⟩
    obtain ⟨f, hf⟩ := hch
    refine ⟨(List.range len).map f, by simp, by simp; exact hl, hm, fun h0 => ?_⟩
    simp at h0
    have c0 := (hf 0 h0).1
    have e0 : ad.add (0 * 3 + 0) = ad := by simp [Addr.add]
    rw [e0] at c0
    have hs := spot_of_cell c0
    have hb' := lt_of_cell c0
    obtain ⟨b, off, spot⟩ := ad
    simp only at hs hb'
    subst hs
    refine ⟨b, off, rfl, hb', fun i y hi => ?_⟩
    have hil : i < len := by
      rcases Nat.lt_or_ge i len with h | h
      · exact h
      · rw [List.getElem?_eq_none (by simp; exact h)] at hi; cases hi
    obtain rfl : f i = y := by simpa [hil] using hi
    have := hf i hil
    simpa [Addr.add_lit, Nat.add_assoc] using this
end Go.Proofs.Ytolgapcckbcmbaa
