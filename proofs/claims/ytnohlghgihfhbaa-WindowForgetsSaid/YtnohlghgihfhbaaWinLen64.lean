/- The contract of (*Window[int64]).Len. -/
import Derived.Test.YtnohlghgihfhbaaWinAdd64
namespace Go.Proofs.Ytnohlghgihfhbaa.Win64
open Go.RowKit

theorem len_nil (w : World) : Calls Try.prog 19 #[.pointer none] w fun e w' => e = .returned (.int .i64 0) ∧ w' = w := by
  go_enter Try.func19, Try.ntmps19
  go_wp2
  go_ret
  exact ⟨rfl, rfl⟩
theorem len_calls (w : World) (p : Nat) (fp : Nat → Prop) (most : Nat) (last : List Int) (h : Win w p fp most last) :
    Calls Try.prog 19 #[.pointer (some ⟨p, 0, none⟩)] w fun e w' => e = .returned (.int .i64 last.length) ∧ w = w' := by
  obtain ⟨v1, v2, v3, o1, o2, o3, hb, h1, h2, h3, hp, d1, d2, d3⟩ := h
  obtain ⟨a, cap, rfl, -, -⟩ := h1.form
  have hc := hb.cell (i := 1) rfl
  clear hb h1 h2 h3 d1 d2 d3
  go_enter Try.func19, Try.ntmps19
  go_wp2
  go_ret
  exact ⟨rfl, rfl⟩
end Go.Proofs.Ytnohlghgihfhbaa.Win64
