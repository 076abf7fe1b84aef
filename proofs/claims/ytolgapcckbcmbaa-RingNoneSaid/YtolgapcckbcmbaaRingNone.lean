/- The law's walk: RingNone. -/
import Derived.Test.YtolgapcckbcmbaaRingLaw
import Derived.Test.YtolgapcckbcmbaaRingFloorS
namespace Go.Proofs.Ytolgapcckbcmbaa
open Go.RowKit

def tX : ByteArray := ⟨#[120]⟩
def fN : FuncId := 8

set_option maxRecDepth 100000 in
set_option maxHeartbeats 4000000 in
theorem none_walk (n i k : Int) (w : World) :
    Calls Try.prog 8 #[.int .i64 n, .int .i64 i, .int .i64 k] w fun e w' => e = .returned (.bool true) ∧ Below w.heap.size w w' := by
  go_enter Try.func8, Try.ntmps8
  go_wp2_with fail
  refine (RingS.lay_nil _ _ tX).mono ?_
  rintro e w1 ⟨rfl, hq⟩
  replace hq := hq.symm
  subst hq
  go_wp2_with fail
  refine (RingS.get_nil _ _).mono ?_
  rintro e w2 ⟨rfl, hq⟩
  replace hq := hq.symm
  subst hq
  go_wp2_with fail
  refine (RingS.at_nil _ _).mono ?_
  rintro e w2 ⟨rfl, hq⟩
  replace hq := hq.symm
  subst hq
  go_wp2_with fail
  refine (RingS.floor_nil _).mono ?_
  rintro e w2 ⟨rfl, hq⟩
  replace hq := hq.symm
  subst hq
  go_wp2_with fail
  refine (RingS.until_nil _ _).mono ?_
  rintro e w2 ⟨rfl, hq⟩
  replace hq := hq.symm
  subst hq
  go_wp2_with fail
  refine (RingS.len_nil _).mono ?_
  rintro e w2 ⟨rfl, hq⟩
  replace hq := hq.symm
  subst hq
  go_wp2_with fail
  by_cases hb : n < 1 ∨ 64 < n
  · refine (RingI.new_bad _ n hb).mono ?_
    rintro e w2 ⟨rfl, hq⟩
    replace hq := hq.symm
    subst hq
    rcases hb with hb | hb
    · go_wp2_with fail
      refine (alive_calls _).mono ?_
      rintro e w4 ⟨rfl, hk⟩
      have HL := Lib.hid (hk.below (B := w.heap.size) (Nat.le_refl _) (fun _ h => h.elim))
      clear hk
      go_wp2_with fail
      go_ret
      exact ⟨rfl, HL.out⟩
    · have hb' : ¬ n < 1 := by omega
      go_wp2_with fail
      refine (alive_calls _).mono ?_
      rintro e w4 ⟨rfl, hk⟩
      have HL := Lib.hid (hk.below (B := w.heap.size) (Nat.le_refl _) (fun _ h => h.elim))
      clear hk
      go_wp2_with fail
      go_ret
      exact ⟨rfl, HL.out⟩
  · have h1 : 1 ≤ n := by omega
    have h2 : n ≤ 64 := by omega
    have h3 : ¬ n < 1 := by omega
    have h4 : ¬ 64 < n := by omega
    have hnn : n.toNat ≤ 64 := by omega
    refine (RingI.new_good _ n h1 h2).mono ?_
    rintro e w1 ⟨rfl, hw, hk, hsz⟩
    have HW : Hid (RingI.Ring w1 w.heap.size (fun g => w.heap.size ≤ g) n.toNat ⟨[], 0, false⟩) := Lib.hid (hw.mono (fun g _ hg => by omega))
    have HL := Lib.hid (hk.below (B := w.heap.size) (Nat.le_refl _) (fun _ h => h.elim))
    clear hw hk hsz hb
    go_wp2_with fail
    refine (RingI.layB _ w.heap.size w.heap.size _ n.toNat _ k 77 hnn HL.out.size (fun _ h => h) HW.out).mono ?_
    rintro e w2 ⟨rfl, hw, hl⟩
    have ex : layM n.toNat (⟨[], 0, false⟩ : RingM Int) k 77 = (⟨[(k, 77)], 0, false⟩, 0, false, 0) := by
      have : ¬ (0 : Nat) = n.toNat := by omega
      have : 1 ≤ n.toNat := by omega
      simp [layM, there, plc, insAt, *]
    rw [ex] at hw ⊢
    have HW2 := Lib.hid hw
    have HL2 := Lib.hid (HL.out.trans hl)
    clear hw hl HW HL ex
    go_wp2_with fail
    by_cases h0 : i = 0
    · subst h0
      refine (RingI.at_in _ _ _ _ _ HW2.out 0 (k, 77) rfl).mono ?_
      rintro e w3 ⟨rfl, nq, rfl⟩
      have HL3 := Lib.hid (HL2.out.trans (((Kept.refl (fun _ => False) _).drewN nq).below HL2.out.size (fun _ h => h.elim)))
      clear HL2 HW2
      go_wp2_with fail
      refine (alive_calls _).mono ?_
      rintro e w4 ⟨rfl, hk⟩
      have HL := Lib.hid (HL3.out.trans (hk.below (B := w.heap.size) HL3.out.size (fun _ h => h.elim)))
      clear hk
      go_wp2_with fail
      go_ret
      exact ⟨rfl, HL.out⟩
    · have hi : i < 0 ∨ ((1 : Nat) : Int) ≤ i := by omega
      refine (RingI.at_out _ _ _ _ _ HW2.out i hi).mono ?_
      rintro e w3 ⟨rfl, rfl⟩
      go_wp2_with fail
      refine (alive_calls _).mono ?_
      rintro e w4 ⟨rfl, hk⟩
      have HL := Lib.hid (HL2.out.trans (hk.below (B := w.heap.size) HL2.out.size (fun _ h => h.elim)))
      clear hk
      go_wp2_with fail
      go_ret
      exact ⟨rfl, HL.out⟩
end Go.Proofs.Ytolgapcckbcmbaa
