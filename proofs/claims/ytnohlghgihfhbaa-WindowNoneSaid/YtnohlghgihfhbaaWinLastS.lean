/- The contracts of (*Window[string]).Last at nil. -/
import Derived.Test.YtnohlghgihfhbaaWinAddS
import Derived.WalkSpells
namespace Go.Proofs.Ytnohlghgihfhbaa.WinS
open Go.RowKit

theorem last_nil (w : World) : Calls Try.prog 25 #[.pointer none] w fun e w' => e = .returned (.slice none 0 0) ∧ w' = w := by
  go_enter Try.func25, Try.ntmps25
  go_wp2
  go_ret
  exact ⟨rfl, rfl⟩

end Go.Proofs.Ytnohlghgihfhbaa.WinS
