/- Contracts of package store's functions: Len, stale. -/
import Derived.Test.YtekdkckgmleofaaGreatXf33
import Derived.Deep.RegionHeld3
import Derived.Deep.RegionWith
import Derived.Deep.QuietTactic
import Derived.BigQuiet
set_option linter.unusedVariables false
set_option linter.unusedSimpArgs false
namespace Go.Proofs.YtekdkckgmleofaaGreat
open Go.RowKit

theorem slen_calls (w : World) (s p : Nat) (fr fe : Nat → Prop) (most : Nat) (r : RingM SnapS) (cs : List Int) (P : Int → Int → List EntM → Prop) (h : Sto w s p fr fe most r cs P) :
    Calls Tryz.prog 63 #[.pointer (some ⟨s, 0, none⟩)] w fun e w' => e = .returned (.int .i64 r.l.length) ∧ w = w' := by
  have HL := Lib.hid (RingN.len_calls w p fr most r h.ring)
  have s0 := h.blk.cell (i := 0) rfl
  clear h
  go_enter Tryz.func63, Tryz.ntmps63
  go_wp2_with fail
  refine (HL.out).mono ?_
  rintro e w1 ⟨rfl, rfl⟩
  go_wp2_with fail
  go_ret
  exact ⟨rfl, rfl⟩
/-- Is a tick too old? -/
def staleM (most : Nat) (r : RingM SnapS) (tick : Int) : Bool := (r.gone && decide (tick ≤ r.floor)) || (decide (r.l.length = most) && decide (RingN.untilM r.l tick = 0))
set_option maxRecDepth 100000 in
set_option maxHeartbeats 8000000 in
theorem stale_calls (tick : Int) (w : World) (s p : Nat) (fr fe : Nat → Prop) (most : Nat) (r : RingM SnapS) (cs : List Int) (P : Int → Int → List EntM → Prop) (h : Sto w s p fr fe most r cs P) :
    Calls Tryz.prog 71 #[.pointer (some ⟨s, 0, none⟩), .int .i64 tick] w fun e w' => e = .returned (.bool (staleM most r tick)) ∧ Kept (fun _ => False) w w' := by
  have HF := Lib.hid (RingN.floor_calls w p fr most r h.ring)
  have HL := Lib.hid (fun W (k : Kept (fun _ => False) w W) => RingN.len_calls W p fr most r (h.ring.kept k (fun _ _ h => h)))
  have HU := Lib.hid (fun W (k : Kept (fun _ => False) w W) => RingN.until_calls W p fr most r tick (h.ring.kept k (fun _ _ h => h)) h.m2)
  have s0 := h.blk.cell (i := 0) rfl
  have s1 := h.blk.cell (i := 1) rfl
  have hm2 := h.m2
  have hlm := h.ring.len
  have HB := Lib.hid h.blk
  clear h
  by_cases hA : r.gone = true ∧ tick ≤ r.floor
  · obtain ⟨hA1, hA2⟩ := hA
    have HM : Hid (staleM most r tick = true) := Lib.hid (by unfold staleM; simp [hA1, hA2])
    rw [hA1] at HF
    clear hA1 HL HU
    generalize r.floor = fl at *
    have hd : decide (tick ≤ fl) = true := decide_eq_true hA2
    go_enter Tryz.func71, Tryz.ntmps71
    go_wp2_with fail
    refine (HF.out).mono ?_
    rintro e w1 ⟨rfl, n1, rfl⟩
    have s0' : (w.drewN n1).cell? ⟨s, 0, none⟩ = some (.pointer (some ⟨p, 0, none⟩)) := s0
    have s1' : (w.drewN n1).cell? ⟨s, 1, none⟩ = some (.int .i64 most) := s1
    go_wp2_with fail
    go_quiet (fail)
    go_wp2_with fail
    go_ret
    exact ⟨by rw [HM.out]; rfl, ((Kept.refl _ w).drewN _).drewN _⟩
  · have hA' : (r.gone && decide (tick ≤ r.floor)) = false := by
      cases hg : r.gone with
      | false => rfl
      | true => simp [hg] at hA; simp; exact hA
    have HM : Hid (staleM most r tick = (decide (r.l.length = most) && decide (RingN.untilM r.l tick = 0))) := Lib.hid (by unfold staleM; rw [hA']; rfl)
    generalize staleM most r tick = res at *
    generalize RingN.untilM r.l tick = u at *
    generalize r.l.length = n at *
    generalize r.floor = fl at *
    generalize r.gone = gn at *
    have hcase : (gn = false ∨ (gn = true ∧ decide (tick ≤ fl) = false)) := by
      cases gn
      · exact .inl rfl
      · exact .inr ⟨rfl, hA'⟩
    by_cases hn : n = most
    · have hn1 : ((n : Int) == (most : Int)) = true := by simp [hn]
      have hn3 : decide (n = most) = true := by simp [hn]
      have hn4 : (n == most) = true := by simp [hn]
      have hR : Hid (res = ((u : Int) == 0)) := Lib.hid (by rw [HM.out]; by_cases e : u = 0 <;> simp [hn, e])
      clear hA hA' HM hn
      rcases hcase with rfl | ⟨rfl, hd⟩
      all_goals
        go_enter Tryz.func71, Tryz.ntmps71
        go_wp2_with fail
        refine (HF.out).mono ?_
        rintro e w1 ⟨rfl, n1, rfl⟩
        have s0' : (w.drewN n1).cell? ⟨s, 0, none⟩ = some (.pointer (some ⟨p, 0, none⟩)) := s0
        have s1' : (w.drewN n1).cell? ⟨s, 1, none⟩ = some (.int .i64 most) := s1
        have HK1 := Lib.hid ((Kept.refl (fun _ => False) w).drewN (n1 + 1))
        go_wp2_with fail
        refine region_tail 23 (by kernel_rfl) (by kernel_rfl) ?_
        simp only [List.take_succ_cons, List.take_zero, List.drop_succ_cons, List.drop_zero]
        repeat still_step
        still_call ((HL.out _ HK1.out).mono (fun _ _ h => ⟨h.1, h.2.symm⟩))
        repeat still_step
        refine wpStill_nil ?_
        go_wp2_with fail
        refine (HU.out _ HK1.out).mono ?_
        rintro e w3 ⟨rfl, hk2⟩
        have HK2 := Lib.hid (HK1.out.trans hk2 (fun _ h => .inl h))
        clear hk2
        go_wp2_with fail
        go_ret
        exact ⟨by rw [hR.out]; rfl, HK2.out⟩
    · have hn1 : ((n : Int) == (most : Int)) = false := by simp; omega
      have hn3 : decide (n = most) = false := by simp [hn]
      have hn4 : (n == most) = false := by simp [hn]
      have hR : Hid (res = false) := Lib.hid (by rw [HM.out]; simp [hn])
      have hne : ¬ n = most := hn
      clear hA hA' HM hn
      rcases hcase with rfl | ⟨rfl, hd⟩
      all_goals
        go_enter Tryz.func71, Tryz.ntmps71
        go_wp2_with fail
        refine (HF.out).mono ?_
        rintro e w1 ⟨rfl, n1, rfl⟩
        have s0' : (w.drewN n1).cell? ⟨s, 0, none⟩ = some (.pointer (some ⟨p, 0, none⟩)) := s0
        have s1' : (w.drewN n1).cell? ⟨s, 1, none⟩ = some (.int .i64 most) := s1
        have HK1 := Lib.hid ((Kept.refl (fun _ => False) w).drewN (n1 + 1))
        go_wp2_with fail
        refine region_tail 23 (by kernel_rfl) (by kernel_rfl) ?_
        simp only [List.take_succ_cons, List.take_zero, List.drop_succ_cons, List.drop_zero]
        repeat still_step
        still_call ((HL.out _ HK1.out).mono (fun _ _ h => ⟨h.1, h.2.symm⟩))
        repeat still_step
        refine wpStill_nil ?_
        go_wp2_with fail
        go_ret
        exact ⟨by rw [hR.out]; rfl, HK1.out⟩
end Go.Proofs.YtekdkckgmleofaaGreat
