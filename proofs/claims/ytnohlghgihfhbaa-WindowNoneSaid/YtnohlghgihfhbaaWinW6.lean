/- The law's walk: WindowNone. -/
import Derived.Test.YtnohlghgihfhbaaWinLaw
import Derived.Test.YtnohlghgihfhbaaWinBS
import Derived.Test.YtnohlghgihfhbaaWinLastS
import Derived.Test.YtnohlghgihfhbaaWinLenS
namespace Go.Proofs.Ytnohlghgihfhbaa
open Go.RowKit

set_option maxRecDepth 100000 in
set_option maxHeartbeats 4000000 in
theorem none_walk (n : Int) (x : ByteArray) (w : World) :
    Calls Try.prog 8 #[.int .i64 n, .string x] w fun e w' => e = .returned (.bool true) ∧ Below w.heap.size w w' := by
  go_enter Try.func8, Try.ntmps8
  go_wp2_with fail
  refine (WinS.least_nil _).mono ?_
  rintro e w ⟨rfl, rfl⟩
  go_wp2_with fail
  refine (WinS.greatest_nil _).mono ?_
  rintro e w ⟨rfl, rfl⟩
  go_wp2_with fail
  refine (WinS.add_nil _ _).mono ?_
  rintro e w ⟨rfl, rfl⟩
  go_wp2_with fail
  refine (WinS.len_nil _).mono ?_
  rintro e w ⟨rfl, rfl⟩
  go_wp2_with fail
  refine (WinS.last_nil _).mono ?_
  rintro e w ⟨rfl, rfl⟩
  by_cases hbad : n < 1 ∨ 64 < n
  · go_wp2_with fail
    refine (WinS.new_bad _ n hbad).mono ?_
    rintro e w ⟨rfl, rfl⟩
    have hd : (n < 1 ∧ n < 1) ∨ (¬ n < 1 ∧ 64 < n) := by omega
    clear hbad
    rcases hd with ⟨h1, -⟩ | ⟨h1, h2⟩
    all_goals
      go_wp2_with fail
      refine (alive_calls _).mono ?_
      rintro e w2 ⟨rfl, K2⟩
      have HK := Lib.hid (K2.below (Nat.le_refl _) (fun _ h => h.elim))
      clear K2
      go_wp2_with fail
      go_ret
      exact ⟨rfl, HK.out⟩
  · have h1 : ¬ n < 1 := by omega
    have h2 : ¬ 64 < n := by omega
    obtain ⟨m, rfl⟩ := Int.eq_ofNat_of_zero_le (show 0 ≤ n by omega)
    clear hbad
    go_wp2_with fail
    refine (WinS.new_good _ m (by omega) (by omega)).mono ?_
    rintro e w1 ⟨rfl, rfl⟩
    have HW := Lib.hid ((WinS.win_new w m).mono (fq := fun g => w.heap.size ≤ g) (fun g _ hg => by omega))
    have HL := Lib.hid ((Below.refl w.heap.size w).alloc (Nat.le_refl _) (.cells #[.int .i64 m, .slice none 0 0, .slice none 0 0, .slice none 0 0] 51))
    have e0 : lastN m ([] : List ByteArray) = [] := lastN_nil m
    have HW0 : Hid (WinS.Win (w.alloc (.cells #[.int .i64 m, .slice none 0 0, .slice none 0 0, .slice none 0 0] 51)) w.heap.size (fun g => w.heap.size ≤ g) m (lastN m [])) := Lib.hid (by rw [e0]; exact HW.out)
    have e1 : Hid (lastN m ([] ++ [x]) = [x]) := Lib.hid (lastN_short (by simp; omega))
    clear e0 HW
    go_wp2_with fail
    refine (WinS.addB _ _ w.heap.size m [] x (by omega) (by omega) HL.out.size HW0.out).mono ?_
    rintro e w2 ⟨rfl, hw, hl⟩
    rw [e1.out] at hw
    have HW2 := Lib.hid hw
    have HL2 := Lib.hid (HL.out.trans hl)
    clear hw hl
    go_wp2_with fail
    refine (WinS.leastC _ _ _ _ _ HW2.out).mono ?_
    rintro e w3 ⟨rfl, rfl⟩
    rw [show WinS.least [x] = x from rfl, show [x].isEmpty = false from rfl]
    go_wp2_with fail
    refine (alive_calls _).mono ?_
    rintro e w3 ⟨rfl, K3⟩
    have HW3 := Lib.hid (HW2.out.kept K3 (fun _ _ h => h))
    have HL3 := Lib.hid (HL2.out.trans (K3.below (B := w.heap.size) HL2.out.size (fun _ h => h.elim)))
    clear K3
    have hxx : (x.toList == x.toList) = true := by simp
    go_wp2_with fail
    refine (WinS.len_calls _ _ _ _ _ HW3.out).mono ?_
    rintro e w4 ⟨rfl, rfl⟩
    go_wp2_with fail
    go_ret
    exact ⟨rfl, HL3.out⟩
end Go.Proofs.Ytnohlghgihfhbaa
