/- A slice of texts that came in. -/
import Derived.Test.YtnohlghgihfhbaaBase
namespace Go.Proofs.Ytnohlghgihfhbaa
open Go.RowKit

/-- A slice of texts: where there are any they lie one behind the other. -/
def ReadsS (w : World) (a : Option Addr) (l : List ByteArray) : Prop :=
  0 < l.length → ∃ b off, a = some ⟨b, off, none⟩ ∧ b < w.heap.size ∧ ∀ i, i < l.length → w.cell? ⟨b, off + i, none⟩ = some (.string (l.getD i ByteArray.empty))
theorem ReadsS.of_row {w : World} {a : Option Addr} {len cap : Nat} {zs : List ByteArray}
    (h : (a = none ∧ len = 0 ∧ cap = 0 ∧ zs = []) ∨ ∃ x, a = some x ∧ len ≤ cap ∧ cap ≤ maxLen ∧ zs.length = cap ∧ (∀ i, i < zs.length → w.cell? (x.add i) = some (.string (zs.getD i ByteArray.empty)))) :
    ∃ l : List ByteArray, len = l.length ∧ l.length ≤ cap ∧ cap ≤ maxLen ∧ ReadsS w a l := by
  rcases h with ⟨rfl, rfl, rfl, rfl⟩ | ⟨x, rfl, hl, hm, hz, hc⟩
  · exact ⟨[], rfl, Nat.zero_le _, Nat.zero_le _, fun h => absurd h (Nat.lt_irrefl _)⟩
  · refine ⟨zs.take len, by simp [hz]; omega, by simp [hz]; omega, hm, fun h0 => ?_⟩
    have hlen : (zs.take len).length = len := by simp [hz]; omega
    rw [hlen] at h0
    have c0 := hc 0 (by omega)
    have e0 : x.add 0 = x := by simp [Addr.add]
    rw [e0] at c0
    have hs := spot_of_cell c0
    have hb := lt_of_cell c0
    obtain ⟨b, off, spot⟩ := x
    simp only at hs hb
    subst hs
    refine ⟨b, off, rfl, hb, fun i hi => ?_⟩
    rw [hlen] at hi
    have ci := hc i (by omega)
    have ei : (⟨b, off, none⟩ : Addr).add i = ⟨b, off + i, none⟩ := by unfold Addr.add; split <;> simp_all
    rw [ei] at ci
    rw [ci]
    congr 2
    simp [hi]
end Go.Proofs.Ytnohlghgihfhbaa
