/- The words that all laws over rings use: how many things there may be, and the document's example. -/
import Derived.Test.YtolgapcckbcmbaaRingLayS
import Derived.Test.YtolgapcckbcmbaaRingGetS
namespace Go.Proofs.Ytolgapcckbcmbaa
open Go.RowKit

def mostN (n : Int) : Nat := (1 + n % 64).toNat
theorem mostN_bd (n : Int) : 1 ≤ mostN n ∧ mostN n ≤ 64 := by unfold mostN; omega
theorem mostN_int (n : Int) : (mostN n : Int) = 1 + n % 64 := by unfold mostN; omega

theorem most_calls (n : Int) (w : World) :
    Calls Try.prog 10 #[.int .i64 n] w fun e w' => e = .returned (.int .i64 (mostN n)) ∧ w = w' := by
  rw [mostN_int]
  go_enter Try.func10, Try.ntmps10
  go_wp2
  go_ret
  have e1 : IntKind.u64.wrap n = n % 18446744073709551616 := by simp [IntKind.wrap, IntKind.bits, IntKind.signed]
  rw [e1, Int.tmod_eq_emod_of_nonneg (by omega)]
  exact ⟨ret_int (by unfold wrap64; omega), rfl⟩

def tA : ByteArray := ⟨#[97]⟩
def tB : ByteArray := ⟨#[98]⟩
def tC : ByteArray := ⟨#[99]⟩
def tD : ByteArray := ⟨#[100]⟩
def tE : ByteArray := ⟨#[101]⟩
theorem tA_list : tA.toList = [97] := by kernel_rfl
theorem ex1 : layM 2 (⟨[], 0, false⟩ : RingM ByteArray) 5 tA = (⟨[(5, tA)], 0, false⟩, 0, false, 0) := rfl
theorem ex2 : layM 2 (⟨[(5, tA)], 0, false⟩ : RingM ByteArray) 3 tB = (⟨[(3, tB), (5, tA)], 0, false⟩, 0, false, 0) := rfl
theorem ex3 : layM 2 (⟨[(3, tB), (5, tA)], 0, false⟩ : RingM ByteArray) 4 tC = (⟨[(4, tC), (5, tA)], 3, true⟩, 3, true, 0) := rfl
theorem ex4 : layM 2 (⟨[(4, tC), (5, tA)], 3, true⟩ : RingM ByteArray) 3 tD = (⟨[(4, tC), (5, tA)], 3, true⟩, 0, false, 13) := rfl
theorem ex5 : layM 2 (⟨[(4, tC), (5, tA)], 3, true⟩ : RingM ByteArray) 5 tE = (⟨[(4, tC), (5, tA)], 3, true⟩, 0, false, 12) := rfl
theorem ex6 : RingS.getM [(4, tC), (5, tA)] 5 = tA := rfl
theorem ex7 : there [(4, tC), (5, tA)] 5 = true := rfl


set_option maxRecDepth 100000 in
set_option maxHeartbeats 2000000 in
theorem alive_calls (w : World) : Calls Try.prog 12 #[] w fun e w' => e = .returned (.bool true) ∧ Kept (fun _ => False) w w' := by
  go_enter Try.func12, Try.ntmps12
  go_wp2_with fail
  refine (RingS.new_good _ 2 (by omega) (by omega)).mono ?_
  rintro e w1 ⟨rfl, hw, hk, hsz⟩
  have HW : Hid (RingS.Ring w1 w.heap.size (fun g => w.heap.size ≤ g) 2 ⟨[], 0, false⟩) := Lib.hid (hw.mono (fun g _ hg => by omega))
  have HL := Lib.hid (hk.below (Nat.le_refl _) (fun _ h => h.elim))
  clear hw hk hsz
  go_wp2_with fail
  refine (RingS.layB _ w.heap.size w.heap.size _ 2 _ 5 tA (by omega) HL.out.size (fun _ h => h) HW.out).mono ?_
  rintro e w2 ⟨rfl, hw, hl⟩
  rw [ex1] at hw ⊢
  have HW2 := Lib.hid hw
  have HL2 := Lib.hid (HL.out.trans hl)
  clear hw hl HW HL
  have HW := HW2
  have HL := HL2
  clear HW2 HL2
  go_wp2_with fail
  refine (RingS.layB _ w.heap.size w.heap.size _ 2 _ 3 tB (by omega) HL.out.size (fun _ h => h) HW.out).mono ?_
  rintro e w2 ⟨rfl, hw, hl⟩
  rw [ex2] at hw ⊢
  have HW2 := Lib.hid hw
  have HL2 := Lib.hid (HL.out.trans hl)
  clear hw hl HW HL
  have HW := HW2
  have HL := HL2
  clear HW2 HL2
  go_wp2_with fail
  refine (RingS.layB _ w.heap.size w.heap.size _ 2 _ 4 tC (by omega) HL.out.size (fun _ h => h) HW.out).mono ?_
  rintro e w2 ⟨rfl, hw, hl⟩
  rw [ex3] at hw ⊢
  have HW2 := Lib.hid hw
  have HL2 := Lib.hid (HL.out.trans hl)
  clear hw hl HW HL
  have HW := HW2
  have HL := HL2
  clear HW2 HL2
  go_wp2_with fail
  refine (RingS.layB _ w.heap.size w.heap.size _ 2 _ 3 tD (by omega) HL.out.size (fun _ h => h) HW.out).mono ?_
  rintro e w2 ⟨rfl, hw, hl⟩
  rw [ex4] at hw ⊢
  have HW2 := Lib.hid hw
  have HL2 := Lib.hid (HL.out.trans hl)
  clear hw hl HW HL
  have HW := HW2
  have HL := HL2
  clear HW2 HL2
  go_wp2_with fail
  refine (RingS.layB _ w.heap.size w.heap.size _ 2 _ 5 tE (by omega) HL.out.size (fun _ h => h) HW.out).mono ?_
  rintro e w2 ⟨rfl, hw, hl⟩
  rw [ex5] at hw ⊢
  have HW2 := Lib.hid hw
  have HL2 := Lib.hid (HL.out.trans hl)
  clear hw hl HW HL
  have HW := HW2
  have HL := HL2
  clear HW2 HL2
  go_wp2_with fail
  refine (RingS.get_calls _ _ _ _ _ 5 HW.out (by omega)).mono ?_
  rintro e w3 ⟨rfl, hk⟩
  have HL3 := Lib.hid (HL.out.trans (hk.below HL.out.size (fun _ h => h.elim)))
  clear hk HL HW
  rw [ex6, ex7]
  have htA := tA_list
  go_wp2_with fail
  go_ret
  exact ⟨rfl, (Kept.of_below HL3.out).mono (fun k hk h => by omega)⟩
end Go.Proofs.Ytolgapcckbcmbaa
