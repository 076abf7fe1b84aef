/- Contracts of package slew's functions. -/
import Derived.Test.YtekdkckgmleofaaGreatXs10
set_option linter.unusedVariables false
set_option linter.unusedSimpArgs false
namespace Go.Proofs.YtekdkckgmleofaaGreat
open Go.RowKit

theorem scheck_good (num den : Int) (w : World) (h1 : 1 ≤ num) (h2 : 1 ≤ den) (h3 : num ≤ 1048576) (h4 : den ≤ 1048576) :
    Calls Tryz.prog 33 #[.int .i64 num, .int .i64 den] w fun e w' => e = .returned (.int .i64 0) ∧ w = w' := by
  have hm : ¬ min num den < 1 := by omega
  have hx : ¬ 1048576 < max num den := by omega
  go_enter Tryz.func33, Tryz.ntmps33
  go_wp2
  go_ret
  exact ⟨rfl, rfl⟩
theorem scheck_bad (num den : Int) (w : World) (h : min num den < 1 ∨ 1048576 < max num den) :
    Calls Tryz.prog 33 #[.int .i64 num, .int .i64 den] w fun e w' => e = .returned (.int .i64 3) ∧ w = w' := by
  by_cases hm : min num den < 1
  · go_enter Tryz.func33, Tryz.ntmps33
    go_wp2
    go_ret
    exact ⟨rfl, rfl⟩
  · have hx : 1048576 < max num den := by omega
    go_enter Tryz.func33, Tryz.ntmps33
    go_wp2
    go_ret
    exact ⟨rfl, rfl⟩

/-- How far a clock may go on. -/
def roomM (adv num den : Nat) : Int := min ((adv * num / den : Nat) : Int) 9223372036854775806 + 1
theorem roomM_bd (a n d : Nat) : 1 ≤ roomM a n d ∧ roomM a n d ≤ 9223372036854775807 := by unfold roomM; have := Int.natCast_nonneg (a * n / d); generalize ((a * n / d : Nat) : Int) = x at *; omega

theorem roomM_zero (n d : Nat) : roomM 0 n d = 1 := by unfold roomM; rw [Nat.zero_mul, Nat.zero_div]; rfl
theorem room_great {p den : Nat} (h : den ≤ p / 18446744073709551616) (hd : 0 < den) : 18446744073709551616 ≤ p / den := by
  rw [Nat.le_div_iff_mul_le hd]
  have := Nat.mul_le_mul_left 18446744073709551616 h
  have h2 := Nat.mul_div_le p 18446744073709551616
  omega

set_option maxHeartbeats 1000000 in
theorem room_calls (adv num den : Nat) (w : World) (ha : adv ≤ 9223372036854775807) (h1 : 1 ≤ num) (h2 : 1 ≤ den) (h3 : num ≤ 1048576) (h4 : den ≤ 1048576) :
    Calls Tryz.prog 14 #[.int .i64 adv, .int .i64 num, .int .i64 den] w fun e w' => e = .returned (.tuple #[.int .i64 (roomM adv num den), .int .i64 0]) ∧ ∃ n, w' = w.drewN n := by
  have HC := Lib.hid (fun W => scheck_good num den W (by omega) (by omega) (by omega) (by omega))
  have HM := Lib.hid (fun W => Tryz.bits_Mul64 adv num (by omega) (by omega) W)
  have hpl : adv * num ≤ 9223372036854775807 * 1048576 := Nat.mul_le_mul ha h3
  have hmx : max (0 : Int) (adv : Int) = (adv : Int) := by omega
  have hR : Hid (roomM adv num den = min ((adv * num / den : Nat) : Int) 9223372036854775806 + 1) := Lib.hid rfl
  generalize roomM adv num den = R at *
  generalize adv * num = p at *
  by_cases hbig : den ≤ p / 18446744073709551616
  · have hg := room_great hbig (by omega)
    have HRE : Hid (R = 9223372036854775807) := Lib.hid (by rw [hR.out]; omega)
    have hbi : ((den : Int)) ≤ (p : Int) / 18446744073709551616 := by omega
    clear hg hbig
    go_enter Tryz.func14, Tryz.ntmps14
    go_wp2_with fail
    refine (HC.out _).mono ?_
    rintro e w' ⟨rfl, rfl⟩
    go_wp2_with fail
    refine (HM.out _).mono ?_
    rintro e w' ⟨rfl, rfl⟩
    go_wp2_with fail
    go_ret2
    exact ⟨by rw [HRE.out]; rfl, 0, rfl⟩
  · have hbi : (p : Int) / 18446744073709551616 < (den : Int) := by omega
    have HQ : Hid (∀ W, Calls Tryz.prog 35 #[.int .u64 ((p : Int) / 18446744073709551616), .int .u64 ((p : Int) % 18446744073709551616), .int .u64 den] W fun e w' => ∃ r : Int, e = .returned (.tuple #[.int .u64 ((p / den : Nat) : Int), .int .u64 r]) ∧ ∃ n, w' = W.drewN n) := Lib.hid (by
      intro W
      rcases Nat.eq_zero_or_pos (p / 18446744073709551616) with h | h
      · have e1 : (p : Int) / 18446744073709551616 = 0 := by omega
        have e2 : (p : Int) % 18446744073709551616 = (p : Int) := by omega
        rw [e1, e2]
        refine (div_low p den W (by omega) (by omega) (by omega)).mono ?_
        rintro e w' ⟨he, hw⟩
        exact ⟨_, he, hw⟩
      · have e1 : (p : Int) / 18446744073709551616 = ((p / 18446744073709551616 : Nat) : Int) := by omega
        have e2 : (p : Int) % 18446744073709551616 = ((p % 18446744073709551616 : Nat) : Int) := by omega
        rw [e1, e2]
        refine (div64_calls (p / 18446744073709551616) (p % 18446744073709551616) den W h (by omega) (by omega) (by omega)).mono ?_
        rintro e w' ⟨he, hw⟩
        rw [show p / 18446744073709551616 * 18446744073709551616 + p % 18446744073709551616 = p by omega] at he
        exact ⟨_, he, 0, hw.symm⟩)
    have hQ0 := Int.natCast_nonneg (p / den)
    have hQ1 : ((p / den : Nat) : Int) ≤ 18446744073709551615 := by
      have h := Nat.div_lt_of_lt_mul (m := p) (n := den) (k := 18446744073709551616) (by omega)
      omega
    generalize ((p / den : Nat) : Int) = Q at *
    have HR1 := hR
    clear hbig hR
    go_enter Tryz.func14, Tryz.ntmps14
    go_wp2_with fail
    refine (HC.out _).mono ?_
    rintro e w' ⟨rfl, rfl⟩
    go_wp2_with fail
    refine (HM.out _).mono ?_
    rintro e w' ⟨rfl, rfl⟩
    go_wp2_with fail
    refine (HQ.out _).mono ?_
    rintro e w' ⟨r, rfl, nd, rfl⟩
    go_wp2_with fail
    go_ret2
    refine ⟨?_, _, rfl⟩
    rw [HR1.out]
    rfl

theorem snew_bad (num den : Int) (w : World) (h : min num den < 1 ∨ 1048576 < max num den) :
    Calls Tryz.prog 39 #[.int .i64 num, .int .i64 den] w fun e w' => e = .returned (.tuple #[.pointer none, .int .i64 3]) ∧ w = w' := by
  have HC := Lib.hid (fun W => scheck_bad num den W h)
  clear h
  go_enter Tryz.func39, Tryz.ntmps39
  go_wp2_with fail
  refine (HC.out _).mono ?_
  rintro e w' ⟨rfl, rfl⟩
  go_wp2_with fail
  go_ret2
  exact ⟨rfl, rfl⟩
theorem snew_good (num den : Int) (w : World) (h1 : 1 ≤ num) (h2 : 1 ≤ den) (h3 : num ≤ 1048576) (h4 : den ≤ 1048576) :
    Calls Tryz.prog 39 #[.int .i64 num, .int .i64 den] w fun e w' => e = .returned (.tuple #[.pointer (some ⟨w.heap.size, 0, none⟩), .int .i64 0]) ∧
      w' = w.alloc (.cells #[.int .i64 num, .int .i64 den, .int .i64 0, .int .i64 0, .int .i64 0] 151) := by
  have HC := Lib.hid (fun W => scheck_good num den W h1 h2 h3 h4)
  go_enter Tryz.func39, Tryz.ntmps39
  go_wp2_with fail
  refine (HC.out _).mono ?_
  rintro e w' ⟨rfl, rfl⟩
  go_wp2_with fail
  go_ret2
  exact ⟨rfl, rfl⟩

/-- A clock: where it stands, the greatest reading, whether it was begun. -/
structure SlewM where
  at_ : Int
  last : Int
  begun : Bool
/-- A clock at block p. -/
def Slew (w : World) (p : Nat) (num den : Nat) (c : SlewM) : Prop := Blk w p [.int .i64 num, .int .i64 den, .int .i64 c.at_, .int .i64 c.last, .int .i64 (if c.begun then 1 else 0)] 151 ∧ I64 c.at_ ∧ I64 c.last
/-- Where it begins, at a first reading. -/
def baseM (c : SlewM) (reading want : Int) : SlewM := if c.begun then c else ⟨want, reading, true⟩
/-- How far it may go on. -/
def roomOf (num den : Nat) (c : SlewM) (reading : Int) : Int := roomM (satI (max reading c.last - c.last)).toNat num den
/-- It goes on. -/
def toM (num den : Nat) (c : SlewM) (reading want : Int) : SlewM :=
  ⟨max (baseM c reading want).at_ (min want (satI ((baseM c reading want).at_ + roomOf num den (baseM c reading want) reading))), max (baseM c reading want).last reading, true⟩

theorem roomOf_bd (num den : Nat) (c : SlewM) (r : Int) : 1 ≤ roomOf num den c r ∧ roomOf num den c r ≤ 9223372036854775807 := roomM_bd _ _ _

theorem max_I64 {a b : Int} (ha : I64 a) (hb : I64 b) : I64 (max a b) := by unfold I64 at *; omega
theorem min_I64 {a b : Int} (ha : I64 a) (hb : I64 b) : I64 (min a b) := by unfold I64 at *; omega

set_option maxHeartbeats 2000000 in
set_option maxRecDepth 100000 in
theorem to_begun (w : World) (p : Nat) (num den : Nat) (a l r want : Int) (h : Slew w p num den ⟨a, l, true⟩) (hr : I64 r) (hw : I64 want) (h1 : 1 ≤ num) (h2 : 1 ≤ den) (h3 : num ≤ 1048576) (h4 : den ≤ 1048576) :
    Calls Tryz.prog 57 #[.pointer (some ⟨p, 0, none⟩), .int .i64 r, .int .i64 want] w fun e w' => e = .returned (.tuple #[.int .i64 (toM num den ⟨a, l, true⟩ r want).at_, .int .i64 0]) ∧
      Slew w' p num den (toM num den ⟨a, l, true⟩ r want) ∧ Kept (· = p) w w' := by
  obtain ⟨hb, ha, hl⟩ := h
  dsimp only at hb ha hl
  have HB := Lib.hid hb
  have c0 := hb.cell (i := 0) rfl
  have c1 := hb.cell (i := 1) rfl
  have c2 := hb.cell (i := 2) rfl
  have c3 := hb.cell (i := 3) rfl
  have c4 := hb.cell (i := 4) rfl
  have f2 := hb.free 2
  have f3 := hb.free 3
  have f4 := hb.free 4
  clear hb
  have HADV : Hid (∃ adv : Nat, satI (max r l - l) = (adv : Int) ∧ adv ≤ 9223372036854775807 ∧ (satI (max r l - l)).toNat = adv) := Lib.hid (by
    have h1 := satI_bd (max r l - l)
    have h2 : 0 ≤ satI (max r l - l) := by unfold satI; split <;> (try split) <;> omega
    unfold I64 at h1
    exact ⟨(satI (max r l - l)).toNat, by omega, by omega, rfl⟩)
  obtain ⟨adv, hadv, hadv2, hadv3⟩ := HADV.out
  have HA3 := Lib.hid hadv3
  have hIM : I64 (max r l) := max_I64 hr hl
  have HS := Lib.hid (fun W => fsub_calls (max r l) l W hIM hl)
  have HRM := Lib.hid (fun W => room_calls adv num den W hadv2 h1 h2 h3 h4)
  have HRB := roomM_bd adv num den
  have HAD := Lib.hid (fun W => fadd_calls a (roomM adv num den) W ha ⟨by omega, by omega⟩)
  clear hadv3 hadv2 HADV hIM
  generalize hRR : roomM adv num den = R at *
  have HRR := Lib.hid hRR
  clear hRR
  go_enter Tryz.func57, Tryz.ntmps57
  go_wp2_with fail
  go_quiet ((first | (go_at_call 15; exact Calls.quiet_of_same ((HS.out _).mono (fun _ _ h => ⟨h.1, h.2.symm⟩))) | (go_at_call 14; exact Calls.quiet_of (HRM.out _))))
  go_wp2_with fail
  refine region_tail 16 (by kernel_rfl) (by kernel_rfl) ?_
  simp only [List.take_succ_cons, List.take_zero, List.drop_succ_cons, List.drop_zero]
  repeat still_step
  still_call ((HAD.out _).mono (fun _ _ h => ⟨h.1, h.2.symm⟩))
  repeat still_step
  refine wpStill_nil ?_
  go_wp2
  have HM : Hid (toM num den ⟨a, l, true⟩ r want = ⟨max a (min want (satI (a + R))), max l r, true⟩) := Lib.hid (by unfold toM baseM roomOf; simp only [if_true]; rw [HA3.out, HRR.out])
  rw [HM.out]
  go_ret2
  exact ⟨rfl, ⟨((HB.out.set 4 _).set 3 _).set 2 _, max_I64 ha (min_I64 hw (satI_bd _)), max_I64 hl hr⟩, (((((Kept.refl (· = p) w).drewN _).setCell (a := ⟨p, 4, none⟩) (.inl rfl) _).setCell (a := ⟨p, 3, none⟩) (.inl rfl) _).setCell (a := ⟨p, 2, none⟩) (.inl rfl) _).drew⟩

set_option maxHeartbeats 2000000 in
set_option maxRecDepth 100000 in
theorem to_first (w : World) (p : Nat) (num den : Nat) (a l r want : Int) (h : Slew w p num den ⟨a, l, false⟩) (hr : I64 r) (hw : I64 want) (h1 : 1 ≤ num) (h2 : 1 ≤ den) (h3 : num ≤ 1048576) (h4 : den ≤ 1048576) :
    Calls Tryz.prog 57 #[.pointer (some ⟨p, 0, none⟩), .int .i64 r, .int .i64 want] w fun e w' => e = .returned (.tuple #[.int .i64 (toM num den ⟨a, l, false⟩ r want).at_, .int .i64 0]) ∧
      Slew w' p num den (toM num den ⟨a, l, false⟩ r want) ∧ Kept (· = p) w w' := by
  obtain ⟨hb, ha, hl⟩ := h
  dsimp only at hb ha hl
  have HB := Lib.hid hb
  have c0 := hb.cell (i := 0) rfl
  have c1 := hb.cell (i := 1) rfl
  have c2 := hb.cell (i := 2) rfl
  have c3 := hb.cell (i := 3) rfl
  have c4 := hb.cell (i := 4) rfl
  have f2 := hb.free 2
  have f3 := hb.free 3
  have f4 := hb.free 4
  clear hb
  have HS : Hid (∀ W, Calls Tryz.prog 15 #[.int .i64 r, .int .i64 r] W fun e w' => e = .returned (.int .i64 0) ∧ w' = W) := Lib.hid (fun W => (fsub_calls r r W hr hr).mono (fun e w' h => ⟨by rw [h.1, Int.sub_self]; rfl, h.2.symm⟩))
  have HRM : Hid (∀ W, Calls Tryz.prog 14 #[.int .i64 0, .int .i64 num, .int .i64 den] W fun e w' => e = .returned (.tuple #[.int .i64 1, .int .i64 0]) ∧ ∃ n, w' = W.drewN n) := Lib.hid (fun W => (room_calls 0 num den W (by omega) h1 h2 h3 h4).mono (fun e w' h => ⟨by rw [h.1, roomM_zero], h.2⟩))
  have HAD := Lib.hid (fun W => fadd_calls want 1 W hw ⟨by omega, by omega⟩)
  go_enter Tryz.func57, Tryz.ntmps57
  go_wp2_with fail
  go_quiet ((first | (go_at_call 15; exact Calls.quiet_of_same (HS.out _)) | (go_at_call 14; exact Calls.quiet_of (HRM.out _))))
  go_wp2_with fail
  refine region_tail 16 (by kernel_rfl) (by kernel_rfl) ?_
  simp only [List.take_succ_cons, List.take_zero, List.drop_succ_cons, List.drop_zero]
  repeat still_step
  still_call ((HAD.out _).mono (fun _ _ h => ⟨h.1, h.2.symm⟩))
  repeat still_step
  refine wpStill_nil ?_
  go_wp2
  have HM : Hid (toM num den ⟨a, l, false⟩ r want = ⟨max want (min want (satI (want + 1))), r, true⟩) := Lib.hid (by
    unfold toM baseM roomOf
    simp only [Bool.false_eq_true, if_false, Int.max_self, Int.sub_self]
    rw [show (satI 0).toNat = 0 from rfl, roomM_zero])
  rw [HM.out]
  go_ret2
  exact ⟨rfl, ⟨((((HB.out.set 2 _).set 3 _).set 4 _).set 3 _).set 2 _, max_I64 hw (min_I64 hw (satI_bd _)), hr⟩, (((((((Kept.refl (· = p) w).setCell (a := ⟨p, 2, none⟩) (.inl rfl) _).setCell (a := ⟨p, 3, none⟩) (.inl rfl) _).drewN _).setCell (a := ⟨p, 4, none⟩) (.inl rfl) _).setCell (a := ⟨p, 3, none⟩) (.inl rfl) _).setCell (a := ⟨p, 2, none⟩) (.inl rfl) _).drew⟩
end Go.Proofs.YtekdkckgmleofaaGreat
