/- Joined texts. -/
import Derived.Test.YtekdkckgmleofaaGreatXf01
import Derived.Test.YtekdkckgmleofaaGreatXf08
import Derived.Test.YtekdkckgmleofaaGreatProg
set_option linter.unusedVariables false
set_option linter.unusedSimpArgs false
/- slices.SortFunc at one Entity: nothing turns. -/
namespace Go.Proofs.YtekdkckgmleofaaGreat.SortEntity
open Go.RowKit
theorem ins1 (v fn : Value) (w : World) :
    Calls Tryz.prog 198 #[v, .int .i64 0, .int .i64 1, fn] w fun e w' => e = .returned (.tuple #[]) ∧ w = w' := by
  go_enter Tryz.func198, Tryz.ntmps198
  go_wp2
  go_loopw [8] (fun i wr => i = .int .i64 1 ∧ wr = w) (fun _ _ => 0)
  case atStart => exact ⟨rfl, rfl⟩
  case round =>
    obtain ⟨rfl, rfl⟩ := hrel
    go_wp2
    go_end0
    exact ⟨rfl, rfl⟩
set_option maxRecDepth 100000 in
theorem pdq1 (v fn : Value) (lim : Int) (w : World) :
    Calls Tryz.prog 187 #[v, .int .i64 0, .int .i64 1, .int .i64 lim, fn] w fun e w' => e = .returned (.tuple #[]) ∧ w = w' := by
  have HI := Lib.hid (ins1 v fn w)
  go_enter Tryz.func187, Tryz.ntmps187
  go_wp2_with fail
  go_loopw [1, 2] (fun b c wr => b = .int .i64 0 ∧ c = .int .i64 1 ∧ wr = w) (fun _ _ _ => 0)
  case atStart => exact ⟨rfl, rfl, rfl⟩
  case round =>
    obtain ⟨rfl, rfl, rfl⟩ := hrel
    go_wp2_with fail
    refine (HI.out).mono ?_
    rintro e w' ⟨rfl, rfl⟩
    go_wp2_with fail
    refine bodyPost_ret (results_none rfl _ _ _) rfl ?_
    exact ⟨rfl, rfl⟩
theorem sort1 (a : Option Addr) (cap : Nat) (fn : Value) (w : World) :
    Calls Tryz.prog 155 #[.slice a 1 cap, fn] w fun e w' => e = .returned (.tuple #[]) ∧ w = w' := by
  have HI := Lib.hid (fun lim W => pdq1 (.slice a 1 cap) fn lim W)
  have HB := Lib.hid (fun W => Tryz.bits_Len 1 W (by omega) (by omega))
  go_enter Tryz.func155, Tryz.ntmps155
  go_wp2_with fail
  refine (HB.out _).mono ?_
  rintro e w' ⟨rfl, hw⟩
  subst hw
  go_wp2_with fail
  refine (HI.out _ _).mono ?_
  rintro e w' ⟨rfl, rfl⟩
  go_wp2_with fail
  go_end0
  exact ⟨rfl, rfl⟩
end Go.Proofs.YtekdkckgmleofaaGreat.SortEntity

/- slices.SortFunc at one Record: nothing turns. -/
namespace Go.Proofs.YtekdkckgmleofaaGreat.SortRecord
open Go.RowKit
theorem ins1 (v fn : Value) (w : World) :
    Calls Tryz.prog 158 #[v, .int .i64 0, .int .i64 1, fn] w fun e w' => e = .returned (.tuple #[]) ∧ w = w' := by
  go_enter Tryz.func158, Tryz.ntmps158
  go_wp2
  go_loopw [8] (fun i wr => i = .int .i64 1 ∧ wr = w) (fun _ _ => 0)
  case atStart => exact ⟨rfl, rfl⟩
  case round =>
    obtain ⟨rfl, rfl⟩ := hrel
    go_wp2
    go_end0
    exact ⟨rfl, rfl⟩
set_option maxRecDepth 100000 in
theorem pdq1 (v fn : Value) (lim : Int) (w : World) :
    Calls Tryz.prog 127 #[v, .int .i64 0, .int .i64 1, .int .i64 lim, fn] w fun e w' => e = .returned (.tuple #[]) ∧ w = w' := by
  have HI := Lib.hid (ins1 v fn w)
  go_enter Tryz.func127, Tryz.ntmps127
  go_wp2_with fail
  go_loopw [1, 2] (fun b c wr => b = .int .i64 0 ∧ c = .int .i64 1 ∧ wr = w) (fun _ _ _ => 0)
  case atStart => exact ⟨rfl, rfl, rfl⟩
  case round =>
    obtain ⟨rfl, rfl, rfl⟩ := hrel
    go_wp2_with fail
    refine (HI.out).mono ?_
    rintro e w' ⟨rfl, rfl⟩
    go_wp2_with fail
    refine bodyPost_ret (results_none rfl _ _ _) rfl ?_
    exact ⟨rfl, rfl⟩
theorem sort1 (a : Option Addr) (cap : Nat) (fn : Value) (w : World) :
    Calls Tryz.prog 85 #[.slice a 1 cap, fn] w fun e w' => e = .returned (.tuple #[]) ∧ w = w' := by
  have HI := Lib.hid (fun lim W => pdq1 (.slice a 1 cap) fn lim W)
  have HB := Lib.hid (fun W => Tryz.bits_Len 1 W (by omega) (by omega))
  go_enter Tryz.func85, Tryz.ntmps85
  go_wp2_with fail
  refine (HB.out _).mono ?_
  rintro e w' ⟨rfl, hw⟩
  subst hw
  go_wp2_with fail
  refine (HI.out _ _).mono ?_
  rintro e w' ⟨rfl, rfl⟩
  go_wp2_with fail
  go_end0
  exact ⟨rfl, rfl⟩
end Go.Proofs.YtekdkckgmleofaaGreat.SortRecord
