/- The words that all laws over windows use: how many are looked at, and the document's example. -/
import Derived.Test.YtnohlghgihfhbaaWinBI
namespace Go.Proofs.Ytnohlghgihfhbaa
open Go.RowKit

def mostN (n : Int) : Nat := (1 + n % 64).toNat
theorem mostN_bd (n : Int) : 1 ≤ mostN n ∧ mostN n ≤ 64 := by unfold mostN; omega
theorem mostN_int (n : Int) : (mostN n : Int) = 1 + n % 64 := by unfold mostN; omega

theorem most_calls (n : Int) (w : World) :
    Calls Try.prog 10 #[.int .i64 n] w fun e w' => e = .returned (.int .i64 (mostN n)) ∧ w = w' := by
  rw [mostN_int]
  go_enter Try.func10, Try.ntmps10
  go_wp2
  go_ret
  have e1 : IntKind.u64.wrap n = n % 18446744073709551616 := by simp [IntKind.wrap, IntKind.bits, IntKind.signed]
  rw [e1, Int.tmod_eq_emod_of_nonneg (by omega)]
  exact ⟨ret_int (by unfold wrap64; omega), rfl⟩

set_option maxRecDepth 100000 in
set_option maxHeartbeats 2000000 in
theorem alive_calls (w : World) : Calls Try.prog 11 #[] w fun e w' => e = .returned (.bool true) ∧ Kept (fun _ => False) w w' := by
  go_enter Try.func11, Try.ntmps11
  go_wp2_with fail
  refine (WinI.new_good _ 2 (by omega) (by omega)).mono ?_
  rintro e w1 ⟨rfl, rfl⟩
  have HW := Lib.hid ((WinI.win_new w 2).mono (fq := fun g => w.heap.size ≤ g) (fun g _ hg => by omega))
  have HL := Lib.hid ((Below.refl w.heap.size w).alloc (Nat.le_refl _) (.cells #[.int .i64 2, .slice none 0 0, .slice none 0 0, .slice none 0 0] 73))
  go_wp2_with fail
  refine (WinI.addB _ w.heap.size w.heap.size 2 [] 5 (by omega) (by omega) HL.out.size HW.out).mono ?_
  rintro e w2 ⟨rfl, hw, hl⟩
  have HW2 := Lib.hid hw
  have HL2 := Lib.hid (HL.out.trans hl)
  clear hw hl HW HL
  have HW := HW2
  have HL := HL2
  clear HW2 HL2
  go_wp2_with fail
  refine (WinI.addB _ w.heap.size w.heap.size 2 [5] 3 (by omega) (by omega) HL.out.size HW.out).mono ?_
  rintro e w2 ⟨rfl, hw, hl⟩
  have HW2 := Lib.hid hw
  have HL2 := Lib.hid (HL.out.trans hl)
  clear hw hl HW HL
  have HW := HW2
  have HL := HL2
  clear HW2 HL2
  go_wp2_with fail
  refine (WinI.addB _ w.heap.size w.heap.size 2 [5, 3] 4 (by omega) (by omega) HL.out.size HW.out).mono ?_
  rintro e w2 ⟨rfl, hw, hl⟩
  have HW2 := Lib.hid hw
  have HL2 := Lib.hid (HL.out.trans hl)
  clear hw hl HW HL
  have HW := HW2
  have HL := HL2
  clear HW2 HL2
  go_wp2_with fail
  refine (WinI.leastC _ _ _ _ _ HW.out).mono ?_
  rintro e w3 ⟨rfl, rfl⟩
  rw [show WinI.least (lastN 2 ([5, 3] ++ [4])) = 3 from by decide, show (lastN 2 (([5, 3] ++ [4]) : List Int)).isEmpty = false from by decide]
  go_wp2_with fail
  refine (WinI.greatestC _ _ _ _ _ HW.out).mono ?_
  rintro e w3 ⟨rfl, rfl⟩
  rw [show WinI.greatest (lastN 2 ([5, 3] ++ [4])) = 4 from by decide, show (lastN 2 (([5, 3] ++ [4]) : List Int)).isEmpty = false from by decide]
  go_wp2_with fail
  refine (WinI.addB _ w.heap.size w.heap.size 2 [5, 3, 4] 9 (by omega) (by omega) HL.out.size HW.out).mono ?_
  rintro e w2 ⟨rfl, hw, hl⟩
  have HW2 := Lib.hid hw
  have HL2 := Lib.hid (HL.out.trans hl)
  clear hw hl HW HL
  have HW := HW2
  have HL := HL2
  clear HW2 HL2
  go_wp2_with fail
  refine (WinI.leastC _ _ _ _ _ HW.out).mono ?_
  rintro e w3 ⟨rfl, rfl⟩
  rw [show WinI.least (lastN 2 ([5, 3, 4] ++ [9])) = 4 from by decide, show (lastN 2 (([5, 3, 4] ++ [9]) : List Int)).isEmpty = false from by decide]
  go_wp2_with fail
  refine (WinI.greatestC _ _ _ _ _ HW.out).mono ?_
  rintro e w3 ⟨rfl, rfl⟩
  rw [show WinI.greatest (lastN 2 ([5, 3, 4] ++ [9])) = 9 from by decide, show (lastN 2 (([5, 3, 4] ++ [9]) : List Int)).isEmpty = false from by decide]
  go_wp2_with fail
  go_ret
  exact ⟨rfl, (Kept.of_below HL.out).mono (fun k hk h => by omega)⟩
end Go.Proofs.Ytnohlghgihfhbaa
