/- Joined texts. -/
import Derived.Test.YtekdkckgmleofaaGreatXf01
import Derived.Test.YtekdkckgmleofaaGreatXf08
import Derived.Test.YtekdkckgmleofaaGreatRows
import Derived.IntWalk
import Derived.Deep.QuietTactic
import Derived.BigQuiet
import Derived.Deep.Cut
import Derived.Laws.Bits64b
set_option linter.unusedVariables false
set_option linter.unusedSimpArgs false
/- Contracts of package fix's functions: numbers that stop at their ends. -/
namespace Go.Proofs.YtekdkckgmleofaaGreat
open Go.RowKit

/-- A number that fits. -/
def I64 (x : Int) : Prop := -9223372036854775808 ≤ x ∧ x ≤ 9223372036854775807
/-- What stops at the ends. -/
def satI (x : Int) : Int := if x < -9223372036854775808 then -9223372036854775808 else if 9223372036854775807 < x then 9223372036854775807 else x
theorem satI_bd (x : Int) : I64 (satI x) := by unfold satI I64; split <;> (try split) <;> omega
theorem satI_in {x : Int} (h : I64 x) : satI x = x := by unfold I64 at h; unfold satI; rw [if_neg (by omega), if_neg (by omega)]
theorem satI_lo {x : Int} (h : x < -9223372036854775808) : satI x = -9223372036854775808 := by unfold satI; rw [if_pos h]
theorem satI_hi {x : Int} (h : 9223372036854775807 < x) : satI x = 9223372036854775807 := by unfold satI; rw [if_neg (by omega), if_pos h]

theorem stop_true (w : World) : Calls Tryz.prog 36 #[.bool true] w fun e w' => e = .returned (.int .i64 (-9223372036854775808)) ∧ w = w' := by
  go_enter Tryz.func36, Tryz.ntmps36
  go_wp2
  go_ret
  exact ⟨rfl, rfl⟩
theorem stop_false (w : World) : Calls Tryz.prog 36 #[.bool false] w fun e w' => e = .returned (.int .i64 9223372036854775807) ∧ w = w' := by
  go_enter Tryz.func36, Tryz.ntmps36
  go_wp2
  go_ret
  exact ⟨rfl, rfl⟩

theorem fadd_calls (a b : Int) (w : World) (ha : I64 a) (hb : I64 b) :
    Calls Tryz.prog 16 #[.int .i64 a, .int .i64 b] w fun e w' => e = .returned (.int .i64 (satI (a + b))) ∧ w = w' := by
  unfold I64 at ha hb
  by_cases h1 : I64 (a + b)
  · rw [satI_in h1]
    unfold I64 at h1
    by_cases h2 : a < 0
    · by_cases h3 : b < 0
      · have hs : a + b < 0 := by omega
        go_enter Tryz.func16, Tryz.ntmps16
        go_wp2
        go_ret
        exact ⟨rfl, rfl⟩
      ·
        go_enter Tryz.func16, Tryz.ntmps16
        go_wp2
        go_ret
        exact ⟨rfl, rfl⟩
    · by_cases h3 : b < 0
      ·
        go_enter Tryz.func16, Tryz.ntmps16
        go_wp2
        go_ret
        exact ⟨rfl, rfl⟩
      · have hs : ¬ a + b < 0 := by omega
        go_enter Tryz.func16, Tryz.ntmps16
        go_wp2
        go_ret
        exact ⟨rfl, rfl⟩
  · unfold I64 at h1
    by_cases h2 : a < 0
    · rw [satI_lo (by omega)]
      have h3 : b < 0 := by omega
      have hw : wrap64 (a + b) = a + b + 18446744073709551616 := by unfold wrap64; omega
      have hs : ¬ a + b + 18446744073709551616 < 0 := by omega
      go_enter Tryz.func16, Tryz.ntmps16
      go_wp2_with (refine (stop_true _).mono ?_; rintro e w' ⟨rfl, rfl⟩)
      go_ret
      exact ⟨rfl, rfl⟩
    · rw [satI_hi (by omega)]
      have h3 : ¬ b < 0 := by omega
      have hw : wrap64 (a + b) = a + b - 18446744073709551616 := by unfold wrap64; omega
      have hs : a + b - 18446744073709551616 < 0 := by omega
      go_enter Tryz.func16, Tryz.ntmps16
      go_wp2_with (refine (stop_false _).mono ?_; rintro e w' ⟨rfl, rfl⟩)
      go_ret
      exact ⟨rfl, rfl⟩
theorem fsub_calls (a b : Int) (w : World) (ha : I64 a) (hb : I64 b) :
    Calls Tryz.prog 15 #[.int .i64 a, .int .i64 b] w fun e w' => e = .returned (.int .i64 (satI (a - b))) ∧ w = w' := by
  unfold I64 at ha hb
  by_cases h1 : I64 (a - b)
  · rw [satI_in h1]
    unfold I64 at h1
    by_cases h2 : a < 0
    · by_cases h3 : b < 0
      ·
        go_enter Tryz.func15, Tryz.ntmps15
        go_wp2
        go_ret
        exact ⟨rfl, rfl⟩
      · have hs : a - b < 0 := by omega
        go_enter Tryz.func15, Tryz.ntmps15
        go_wp2
        go_ret
        exact ⟨rfl, rfl⟩
    · by_cases h3 : b < 0
      · have hs : ¬ a - b < 0 := by omega
        go_enter Tryz.func15, Tryz.ntmps15
        go_wp2
        go_ret
        exact ⟨rfl, rfl⟩
      ·
        go_enter Tryz.func15, Tryz.ntmps15
        go_wp2
        go_ret
        exact ⟨rfl, rfl⟩
  · unfold I64 at h1
    by_cases h2 : a < 0
    · rw [satI_lo (by omega)]
      have h3 : ¬ b < 0 := by omega
      have hw : wrap64 (a - b) = a - b + 18446744073709551616 := by unfold wrap64; omega
      have hs : ¬ a - b + 18446744073709551616 < 0 := by omega
      go_enter Tryz.func15, Tryz.ntmps15
      go_wp2_with (refine (stop_true _).mono ?_; rintro e w' ⟨rfl, rfl⟩)
      go_ret
      exact ⟨rfl, rfl⟩
    · rw [satI_hi (by omega)]
      have h3 : b < 0 := by omega
      have hw : wrap64 (a - b) = a - b - 18446744073709551616 := by unfold wrap64; omega
      have hs : a - b - 18446744073709551616 < 0 := by omega
      go_enter Tryz.func15, Tryz.ntmps15
      go_wp2_with (refine (stop_false _).mono ?_; rintro e w' ⟨rfl, rfl⟩)
      go_ret
      exact ⟨rfl, rfl⟩

theorem fsize_calls (a : Int) (w : World) (ha : I64 a) :
    Calls Tryz.prog 145 #[.int .i64 a] w fun e w' => e = .returned (.int .u64 (a.natAbs : Int)) ∧ w = w' := by
  unfold I64 at ha
  by_cases h : a < 0
  · have hw : ((a.natAbs : Nat) : Int) = -a := by omega
    have hu : IntKind.u64.wrap a = a + 18446744073709551616 := by rw [IntKind.wrap_u64]; omega
    have hv : IntKind.u64.wrap (-(a + 18446744073709551616)) = -a := by rw [IntKind.wrap_u64]; omega
    rw [hw]
    clear hw
    go_enter Tryz.func145, Tryz.ntmps145
    go_wp2
    go_ret
    exact ⟨rfl, rfl⟩
  · have hw : ((a.natAbs : Nat) : Int) = a := by omega
    rw [hw]
    clear hw
    go_enter Tryz.func145, Tryz.ntmps145
    go_wp2
    go_ret
    exact ⟨rfl, rfl⟩

theorem floor_pos (n : Int) (more : Bool) (w : World) (h0 : 0 ≤ n) (h1 : n ≤ 18446744073709551615) :
    Calls Tryz.prog 146 #[.int .u64 n, .bool more, .bool false] w fun e w' => e = .returned (.int .i64 (satI n)) ∧ w = w' := by
  by_cases h : 9223372036854775807 < n
  · rw [satI_hi h]
    go_enter Tryz.func146, Tryz.ntmps146
    go_wp2_with (refine (stop_false _).mono ?_; rintro e w' ⟨rfl, rfl⟩)
    go_ret
    exact ⟨rfl, rfl⟩
  · rw [satI_in ⟨by omega, by omega⟩]
    go_enter Tryz.func146, Tryz.ntmps146
    go_wp2
    go_ret
    exact ⟨rfl, rfl⟩
theorem floor_neg0 (n : Int) (w : World) (h0 : 0 ≤ n) (h1 : n ≤ 18446744073709551615) :
    Calls Tryz.prog 146 #[.int .u64 n, .bool false, .bool true] w fun e w' => e = .returned (.int .i64 (satI (-n))) ∧ w = w' := by
  by_cases h : 9223372036854775808 < n
  · rw [satI_lo (by omega)]
    go_enter Tryz.func146, Tryz.ntmps146
    go_wp2_with (refine (stop_true _).mono ?_; rintro e w' ⟨rfl, rfl⟩)
    go_ret
    exact ⟨rfl, rfl⟩
  · rw [satI_in ⟨by omega, by omega⟩]
    by_cases hz : n = 0
    · have e1 : IntKind.u64.wrap (-(n)) = 0 := by rw [IntKind.wrap_u64]; omega
      have e2 : -(n) = 0 := by omega
      go_enter Tryz.func146, Tryz.ntmps146
      go_wp2
      go_ret
      first | exact ⟨rfl, rfl⟩ | exact ⟨by rw [e2], rfl⟩
    · have e1 : IntKind.u64.wrap (-(n)) = 18446744073709551616 - n := by rw [IntKind.wrap_u64]; omega
      have e2 : wrap64 (18446744073709551616 - n) = -(n) := by unfold wrap64; omega
      go_enter Tryz.func146, Tryz.ntmps146
      go_wp2
      go_ret
      exact ⟨rfl, rfl⟩
theorem floor_neg1a (n : Int) (w : World) (h0 : 0 ≤ n) (h1 : n < 18446744073709551615) :
    Calls Tryz.prog 146 #[.int .u64 n, .bool true, .bool true] w fun e w' => e = .returned (.int .i64 (satI (-(n + 1)))) ∧ w = w' := by
  have hne : (n != 18446744073709551615) = true := by simp; omega
  by_cases h : 9223372036854775808 < (n + 1)
  · rw [satI_lo (by omega)]
    go_enter Tryz.func146, Tryz.ntmps146
    go_wp2_with (refine (stop_true _).mono ?_; rintro e w' ⟨rfl, rfl⟩)
    go_ret
    exact ⟨rfl, rfl⟩
  · rw [satI_in ⟨by omega, by omega⟩]
    by_cases hz : (n + 1) = 0
    · have e1 : IntKind.u64.wrap (-((n + 1))) = 0 := by rw [IntKind.wrap_u64]; omega
      have e2 : -((n + 1)) = 0 := by omega
      go_enter Tryz.func146, Tryz.ntmps146
      go_wp2
      go_ret
      first | exact ⟨rfl, rfl⟩ | exact ⟨by rw [e2], rfl⟩
    · have e1 : IntKind.u64.wrap (-((n + 1))) = 18446744073709551616 - (n + 1) := by rw [IntKind.wrap_u64]; omega
      have e2 : wrap64 (18446744073709551616 - (n + 1)) = -((n + 1)) := by unfold wrap64; omega
      go_enter Tryz.func146, Tryz.ntmps146
      go_wp2
      go_ret
      exact ⟨rfl, rfl⟩
theorem floor_neg1b (w : World) : Calls Tryz.prog 146 #[.int .u64 18446744073709551615, .bool true, .bool true] w fun e w' => e = .returned (.int .i64 (-9223372036854775808)) ∧ w = w' := by
  go_enter Tryz.func146, Tryz.ntmps146
  go_wp2_with (refine (stop_true _).mono ?_; rintro e w' ⟨rfl, rfl⟩)
  go_ret
  exact ⟨rfl, rfl⟩
theorem floor_neg1 (n : Int) (w : World) (h0 : 0 ≤ n) (h1 : n ≤ 18446744073709551615) :
    Calls Tryz.prog 146 #[.int .u64 n, .bool true, .bool true] w fun e w' => e = .returned (.int .i64 (satI (-(n + 1)))) ∧ w = w' := by
  by_cases h : n = 18446744073709551615
  · subst h
    exact floor_neg1b w
  · exact floor_neg1a n w h0 (by omega)

/-- The product of two numbers of the game. -/
def mulF (a b : Int) : Int := satI (a * b / 65536)
theorem mulF_bd (a b : Int) : I64 (mulF a b) := satI_bd _

theorem abs_mul_cases (a b : Int) : (a * b = ((a.natAbs * b.natAbs : Nat) : Int) ∧ (decide (a < 0) != decide (b < 0)) = false) ∨ (a * b = -((a.natAbs * b.natAbs : Nat) : Int) ∧ (decide (a < 0) != decide (b < 0)) = true) := by
  have hm : ((a.natAbs * b.natAbs : Nat) : Int) = (a.natAbs : Int) * (b.natAbs : Int) := Int.natCast_mul _ _
  by_cases h1 : a < 0
  · have e1 : (a.natAbs : Int) = -a := by omega
    by_cases h2 : b < 0
    · have e2 : (b.natAbs : Int) = -b := by omega
      exact .inl ⟨by rw [hm, e1, e2, Int.neg_mul_neg], by simp [h1, h2]⟩
    · have e2 : (b.natAbs : Int) = b := by omega
      exact .inr ⟨by rw [hm, e1, e2, Int.neg_mul, Int.neg_neg], by simp [h1, h2]⟩
  · have e1 : (a.natAbs : Int) = a := by omega
    by_cases h2 : b < 0
    · have e2 : (b.natAbs : Int) = -b := by omega
      exact .inr ⟨by rw [hm, e1, e2, Int.mul_neg, Int.neg_neg], by simp [h1, h2]⟩
    · have e2 : (b.natAbs : Int) = b := by omega
      exact .inl ⟨by rw [hm, e1, e2], by simp [h1, h2]⟩

theorem natAbs_mul_le {a b : Int} (ha : I64 a) (hb : I64 b) : a.natAbs * b.natAbs ≤ 85070591730234615865843651857942052864 := by
  unfold I64 at ha hb
  exact Nat.mul_le_mul (show a.natAbs ≤ 9223372036854775808 by omega) (show b.natAbs ≤ 9223372036854775808 by omega)

theorem mul_or (p : Nat) (h : p < 1208925819614629174706176) : bits .or .u64 ((p : Int) / 18446744073709551616 * 281474976710656) ((p : Int) % 18446744073709551616 / 65536) = ((p / 65536 : Nat) : Int) := by
  have e1 : (p : Int) / 18446744073709551616 * 281474976710656 = ((281474976710656 * (p / 18446744073709551616) : Nat) : Int) := by omega
  have e2 : (p : Int) % 18446744073709551616 / 65536 = ((p % 18446744073709551616 / 65536 : Nat) : Int) := by omega
  rw [e1, e2, bits_or_u64_nat _ _ (by omega) (by omega)]
  have := Nat.two_pow_add_eq_or_of_lt (i := 48) (b := p % 18446744073709551616 / 65536) (by omega) (p / 18446744073709551616)
  have e3 : (2 : Nat) ^ 48 = 281474976710656 := by decide
  rw [e3] at this
  rw [← this]
  omega
theorem mul_more (p : Nat) : (IntKind.u64.wrap ((p : Int) % 18446744073709551616 * 281474976710656) != 0) = decide (p % 65536 ≠ 0) := by
  rw [IntKind.wrap_u64]
  by_cases h : p % 65536 = 0
  · have : ((p : Int) % 18446744073709551616 * 281474976710656) % 18446744073709551616 = 0 := by omega
    simp [h, this]
  · have : ¬ ((p : Int) % 18446744073709551616 * 281474976710656) % 18446744073709551616 = 0 := by omega
    simp [h, this]
theorem mul_pos {p : Nat} {x : Int} (h : x = (p : Int)) : satI (x / 65536) = satI ((p / 65536 : Nat) : Int) := by subst h; congr 1
theorem mul_neg0 {p : Nat} {x : Int} (h : x = -(p : Int)) (hm : p % 65536 = 0) : satI (x / 65536) = satI (-((p / 65536 : Nat) : Int)) := by
  subst h
  congr 1
  omega
theorem mul_neg1 {p : Nat} {x : Int} (h : x = -(p : Int)) (hm : p % 65536 ≠ 0) : satI (x / 65536) = satI (-(((p / 65536 : Nat) : Int) + 1)) := by
  subst h
  congr 1
  omega

set_option maxHeartbeats 1000000 in
theorem fmul_calls (a b : Int) (w : World) (ha : I64 a) (hb : I64 b) :
    Calls Tryz.prog 106 #[.int .i64 a, .int .i64 b] w fun e w' => e = .returned (.int .i64 (mulF a b)) ∧ w = w' := by
  have hp := natAbs_mul_le ha hb
  have hc := abs_mul_cases a b
  have hS1 := fun W => fsize_calls a W ha
  have hS2 := fun W => fsize_calls b W hb
  have hM := fun W => Tryz.bits_Mul64 a.natAbs b.natAbs (by unfold I64 at ha; omega) (by unfold I64 at hb; omega) W
  have HC := Lib.hid hc
  have HS1 := Lib.hid hS1
  have HS2 := Lib.hid hS2
  have HM := Lib.hid hM
  clear hc hS1 hS2 hM
  unfold I64 at ha hb
  generalize a.natAbs * b.natAbs = p at *
  by_cases h1 : a < 0
  · by_cases h2 : b < 0
    ·
      have hd1 : decide (a < 0) = true := by simp; omega
      have hd2 : decide (b < 0) = true := by simp; omega
      have HX : Hid (a * b = (p : Int)) := Lib.hid (by rcases HC.out with h | h; exact h.1; rw [hd1, hd2] at h; exact absurd h.2 (by decide))
      clear HC
      go_enter Tryz.func106, Tryz.ntmps106
      go_wp2_with fail
      refine (HS1.out _).mono ?_
      rintro e w' ⟨rfl, rfl⟩
      go_wp2_with fail
      refine (HS2.out _).mono ?_
      rintro e w' ⟨rfl, rfl⟩
      go_wp2_with fail
      refine (HM.out _).mono ?_
      rintro e w' ⟨rfl, rfl⟩
      have hp1 : p / 18446744073709551616 ≤ 4611686018427387904 := by omega
      have hp2 : p % 18446744073709551616 < 18446744073709551616 := by omega
      go_upto_if 23 with (fail)
      by_cases hb0 : 1208925819614629174706176 ≤ p
      · have hnz : (((p : Int) / 18446744073709551616 / 65536) != 0) = true := by simp; omega
        go_wp2_with fail
        refine (stop_false _).mono ?_
        rintro e w' ⟨rfl, rfl⟩
        go_wp2_with fail
        go_ret
        refine ⟨?_, rfl⟩
        rw [show mulF a b = 9223372036854775807 by unfold mulF; rw [mul_pos HX.out]; exact satI_hi (by omega)]
        rfl
      · have hnz : (((p : Int) / 18446744073709551616 / 65536) != 0) = false := by simp; omega
        go_wp2_with fail
        rw [mul_or p (by omega), mul_more]
        refine (floor_pos _ _ _ (by omega) (by omega)).mono ?_
        rintro e w' ⟨rfl, rfl⟩
        go_wp2_with fail
        go_ret
        refine ⟨?_, rfl⟩
        rw [show mulF a b = satI ((p / 65536 : Nat) : Int) by unfold mulF; rw [mul_pos HX.out]]
        rfl
    ·
      have hd1 : decide (a < 0) = true := by simp; omega
      have hd2 : decide (b < 0) = false := by simp; omega
      have HX : Hid (a * b = -(p : Int)) := Lib.hid (by rcases HC.out with h | h; rw [hd1, hd2] at h; exact absurd h.2 (by decide); exact h.1)
      clear HC
      go_enter Tryz.func106, Tryz.ntmps106
      go_wp2_with fail
      refine (HS1.out _).mono ?_
      rintro e w' ⟨rfl, rfl⟩
      go_wp2_with fail
      refine (HS2.out _).mono ?_
      rintro e w' ⟨rfl, rfl⟩
      go_wp2_with fail
      refine (HM.out _).mono ?_
      rintro e w' ⟨rfl, rfl⟩
      have hp1 : p / 18446744073709551616 ≤ 4611686018427387904 := by omega
      have hp2 : p % 18446744073709551616 < 18446744073709551616 := by omega
      go_upto_if 23 with (fail)
      by_cases hb0 : 1208925819614629174706176 ≤ p
      · have hnz : (((p : Int) / 18446744073709551616 / 65536) != 0) = true := by simp; omega
        go_wp2_with fail
        refine (stop_true _).mono ?_
        rintro e w' ⟨rfl, rfl⟩
        go_wp2_with fail
        go_ret
        refine ⟨?_, rfl⟩
        rw [show mulF a b = -9223372036854775808 by unfold mulF; rw [HX.out]; exact satI_lo (by omega)]
        rfl
      · have hnz : (((p : Int) / 18446744073709551616 / 65536) != 0) = false := by simp; omega
        go_wp2_with fail
        rw [mul_or p (by omega), mul_more]
        by_cases hm : p % 65536 = 0
        · rw [show decide (p % 65536 ≠ 0) = false by simp [hm]]
          refine (floor_neg0 _ _ (by omega) (by omega)).mono ?_
          rintro e w' ⟨rfl, rfl⟩
          go_wp2_with fail
          go_ret
          refine ⟨?_, rfl⟩
          rw [show mulF a b = satI (-((p / 65536 : Nat) : Int)) by unfold mulF; rw [mul_neg0 HX.out hm]]
          rfl
        · rw [show decide (p % 65536 ≠ 0) = true by simp [hm]]
          refine (floor_neg1 _ _ (by omega) (by omega)).mono ?_
          rintro e w' ⟨rfl, rfl⟩
          go_wp2_with fail
          go_ret
          refine ⟨?_, rfl⟩
          rw [show mulF a b = satI (-(((p / 65536 : Nat) : Int) + 1)) by unfold mulF; rw [mul_neg1 HX.out hm]]
          rfl
  · by_cases h2 : b < 0
    ·
      have hd1 : decide (a < 0) = false := by simp; omega
      have hd2 : decide (b < 0) = true := by simp; omega
      have HX : Hid (a * b = -(p : Int)) := Lib.hid (by rcases HC.out with h | h; rw [hd1, hd2] at h; exact absurd h.2 (by decide); exact h.1)
      clear HC
      go_enter Tryz.func106, Tryz.ntmps106
      go_wp2_with fail
      refine (HS1.out _).mono ?_
      rintro e w' ⟨rfl, rfl⟩
      go_wp2_with fail
      refine (HS2.out _).mono ?_
      rintro e w' ⟨rfl, rfl⟩
      go_wp2_with fail
      refine (HM.out _).mono ?_
      rintro e w' ⟨rfl, rfl⟩
      have hp1 : p / 18446744073709551616 ≤ 4611686018427387904 := by omega
      have hp2 : p % 18446744073709551616 < 18446744073709551616 := by omega
      go_upto_if 23 with (fail)
      by_cases hb0 : 1208925819614629174706176 ≤ p
      · have hnz : (((p : Int) / 18446744073709551616 / 65536) != 0) = true := by simp; omega
        go_wp2_with fail
        refine (stop_true _).mono ?_
        rintro e w' ⟨rfl, rfl⟩
        go_wp2_with fail
        go_ret
        refine ⟨?_, rfl⟩
        rw [show mulF a b = -9223372036854775808 by unfold mulF; rw [HX.out]; exact satI_lo (by omega)]
        rfl
      · have hnz : (((p : Int) / 18446744073709551616 / 65536) != 0) = false := by simp; omega
        go_wp2_with fail
        rw [mul_or p (by omega), mul_more]
        by_cases hm : p % 65536 = 0
        · rw [show decide (p % 65536 ≠ 0) = false by simp [hm]]
          refine (floor_neg0 _ _ (by omega) (by omega)).mono ?_
          rintro e w' ⟨rfl, rfl⟩
          go_wp2_with fail
          go_ret
          refine ⟨?_, rfl⟩
          rw [show mulF a b = satI (-((p / 65536 : Nat) : Int)) by unfold mulF; rw [mul_neg0 HX.out hm]]
          rfl
        · rw [show decide (p % 65536 ≠ 0) = true by simp [hm]]
          refine (floor_neg1 _ _ (by omega) (by omega)).mono ?_
          rintro e w' ⟨rfl, rfl⟩
          go_wp2_with fail
          go_ret
          refine ⟨?_, rfl⟩
          rw [show mulF a b = satI (-(((p / 65536 : Nat) : Int) + 1)) by unfold mulF; rw [mul_neg1 HX.out hm]]
          rfl
    ·
      have hd1 : decide (a < 0) = false := by simp; omega
      have hd2 : decide (b < 0) = false := by simp; omega
      have HX : Hid (a * b = (p : Int)) := Lib.hid (by rcases HC.out with h | h; exact h.1; rw [hd1, hd2] at h; exact absurd h.2 (by decide))
      clear HC
      go_enter Tryz.func106, Tryz.ntmps106
      go_wp2_with fail
      refine (HS1.out _).mono ?_
      rintro e w' ⟨rfl, rfl⟩
      go_wp2_with fail
      refine (HS2.out _).mono ?_
      rintro e w' ⟨rfl, rfl⟩
      go_wp2_with fail
      refine (HM.out _).mono ?_
      rintro e w' ⟨rfl, rfl⟩
      have hp1 : p / 18446744073709551616 ≤ 4611686018427387904 := by omega
      have hp2 : p % 18446744073709551616 < 18446744073709551616 := by omega
      go_upto_if 23 with (fail)
      by_cases hb0 : 1208925819614629174706176 ≤ p
      · have hnz : (((p : Int) / 18446744073709551616 / 65536) != 0) = true := by simp; omega
        go_wp2_with fail
        refine (stop_false _).mono ?_
        rintro e w' ⟨rfl, rfl⟩
        go_wp2_with fail
        go_ret
        refine ⟨?_, rfl⟩
        rw [show mulF a b = 9223372036854775807 by unfold mulF; rw [mul_pos HX.out]; exact satI_hi (by omega)]
        rfl
      · have hnz : (((p : Int) / 18446744073709551616 / 65536) != 0) = false := by simp; omega
        go_wp2_with fail
        rw [mul_or p (by omega), mul_more]
        refine (floor_pos _ _ _ (by omega) (by omega)).mono ?_
        rintro e w' ⟨rfl, rfl⟩
        go_wp2_with fail
        go_ret
        refine ⟨?_, rfl⟩
        rw [show mulF a b = satI ((p / 65536 : Nat) : Int) by unfold mulF; rw [mul_pos HX.out]]
        rfl
end Go.Proofs.YtekdkckgmleofaaGreat

/- Contracts of package fix's functions, the second: keeping between two, and parts of a way. -/
namespace Go.Proofs.YtekdkckgmleofaaGreat
open Go.RowKit

theorem clamp_calls (x lo hi : Int) (w : World) : Calls Tryz.prog 144 #[.int .i64 x, .int .i64 lo, .int .i64 hi] w fun e w' => e = .returned (.int .i64 (min (max x lo) hi)) ∧ w = w' := by
  go_enter Tryz.func144, Tryz.ntmps144
  go_wp2
  go_ret
  exact ⟨rfl, rfl⟩
theorem fclamp_calls (x a b : Int) (w : World) : Calls Tryz.prog 105 #[.int .i64 x, .int .i64 a, .int .i64 b] w fun e w' => e = .returned (.int .i64 (min (max x (min a b)) (max a b))) ∧ w = w' := by
  go_enter Tryz.func105, Tryz.ntmps105
  go_wp2_with (refine (clamp_calls _ _ _ _).mono ?_; rintro e w' ⟨rfl, rfl⟩)
  go_ret
  exact ⟨rfl, rfl⟩

theorem fcheck_good (num den : Int) (w : World) (h0 : 0 ≤ num) (h1 : num ≤ den) (h2 : 1 ≤ den) (h3 : den ≤ 4611686018427387904) :
    Calls Tryz.prog 177 #[.int .i64 num, .int .i64 den] w fun e w' => e = .returned (.int .i64 0) ∧ w = w' := by
  have hm : min (max num 0) den = num := by omega
  go_enter Tryz.func177, Tryz.ntmps177
  go_wp2_with fail
  refine (clamp_calls _ _ _ _).mono ?_
  rintro e w' ⟨rfl, rfl⟩
  rw [hm]
  go_wp2
  go_ret
  exact ⟨rfl, rfl⟩

set_option maxRecDepth 100000 in
theorem div_low (lo y : Nat) (w : World) (h0 : 0 < y) (h1 : y < 18446744073709551616) (h2 : lo < 18446744073709551616) :
    Calls Tryz.prog 35 #[.int .u64 0, .int .u64 lo, .int .u64 y] w fun e w' => e = .returned (.tuple #[.int .u64 ((lo : Int) / y), .int .u64 ((lo : Int) % y)]) ∧ ∃ n, w' = w.drewN n := by
  have hy : (0 : Int) < (y : Int) := by omega
  have hy1 : ¬ (y : Int) = 0 := by omega
  have hy2 : ¬ (y : Int) ≤ 0 := by omega
  have hl := Nat.div_le_self lo y
  have hl0 : (lo : Int) / (y : Int) = ((lo / y : Nat) : Int) := (Int.natCast_ediv _ _).symm
  have hwr : IntKind.u64.wrap ((lo : Int) / y) = (lo : Int) / y := by rw [hl0, IntKind.wrap_u64]; exact (show ∀ q : Nat, q ≤ lo → (q : Int) % 18446744073709551616 = q by omega) _ hl
  clear hl hl0
  go_enter Tryz.func35, Tryz.ntmps35
  go_wp2_with fail
  go_quiet (fail)
  go_wp2_with fail
  go_ret2
  exact ⟨rfl, _, rfl⟩

theorem part_low (n num den : Nat) (w : World) (h0 : 0 < den) (h1 : den ≤ 4611686018427387904) (h2 : num ≤ den) (h3 : n * num < 18446744073709551616) (h4 : n < 18446744073709551616) :
    Calls Tryz.prog 178 #[.int .u64 n, .int .i64 num, .int .i64 den] w fun e w' => e = .returned (.tuple #[.int .u64 (((n * num : Nat) : Int) / den), .bool (((n * num : Nat) : Int) % den != 0)]) ∧ ∃ n, w' = w.drewN n := by
  have hM := Lib.hid (fun W => Tryz.bits_Mul64 n num h4 (by omega) W)
  have HN : Hid (n * num / 18446744073709551616 = 0) := Lib.hid (Nat.div_eq_of_lt h3)
  have HR : Hid (n * num % 18446744073709551616 = n * num) := Lib.hid (Nat.mod_eq_of_lt h3)
  generalize n * num = p at *
  go_enter Tryz.func178, Tryz.ntmps178
  go_wp2_with fail
  refine (hM.out _).mono ?_
  rintro e w' ⟨rfl, rfl⟩
  rw [HN.out, HR.out]
  go_wp2_with fail
  refine (div_low p den _ h0 (by omega) h3).mono ?_
  rintro e w' ⟨rfl, nd, rfl⟩
  go_wp2_with fail
  go_ret2
  exact ⟨rfl, _, rfl⟩

/-- A part of the way up. -/
theorem lerp_up (a : Int) (d n k : Nat) (w : World) (h0 : 0 < k) (h1 : k ≤ 4611686018427387904) (h2 : n ≤ k) (h3 : d * n < 9223372036854775808) (hd : d < 9223372036854775808) (ha : I64 a) (hb : I64 (a + d)) :
    Calls Tryz.prog 141 #[.int .i64 a, .int .i64 (a + d), .int .i64 n, .int .i64 k] w fun e w' => e = .returned (.tuple #[.int .i64 (a + ((d * n / k : Nat) : Int)), .int .i64 0]) ∧ ∃ n, w' = w.drewN n := by
  unfold I64 at ha hb
  have hq : d * n / k ≤ d := by
    rcases Nat.eq_zero_or_pos d with h | h
    · subst h; simp
    · exact Nat.div_le_of_le_mul (by rw [Nat.mul_comm d n]; exact Nat.mul_le_mul_right d h2)
  have HP := Lib.hid (fun W => part_low d n k W h0 h1 h2 (by omega) (by omega))
  have HC := Lib.hid (fun W => fcheck_good n k W (by omega) (by omega) (by omega) (by omega))
  have hle : a ≤ a + (d : Int) := by omega
  have hsub : a + (d : Int) - a = (d : Int) := by omega
  have hqi : ((d * n : Nat) : Int) / (k : Int) = ((d * n / k : Nat) : Int) := (Int.natCast_ediv _ _).symm
  generalize d * n / k = Q at *
  generalize d * n = p at *
  have hw : wrap64 (Q : Int) = (Q : Int) := by unfold wrap64; omega
  go_enter Tryz.func141, Tryz.ntmps141
  go_wp2_with fail
  refine (HC.out _).mono ?_
  rintro e w' ⟨rfl, rfl⟩
  go_wp2_with fail
  refine (HP.out _).mono ?_
  rintro e w' ⟨rfl, nd, rfl⟩
  go_wp2_with fail
  go_ret2
  exact ⟨rfl, _, rfl⟩
theorem fpart_low (n k : Nat) (w : World) (h0 : 0 < k) (h1 : k ≤ 4611686018427387904) (h2 : n ≤ k) (h3 : n < 281474976710656) :
    Calls Tryz.prog 237 #[.int .i64 n, .int .i64 k] w fun e w' => e = .returned (.tuple #[.int .i64 ((65536 * n / k : Nat) : Int), .int .i64 0]) ∧ ∃ n, w' = w.drewN n := by
  have HP := Lib.hid (fun W => part_low 65536 n k W h0 h1 h2 (by omega) (by omega))
  have HC := Lib.hid (fun W => fcheck_good n k W (by omega) (by omega) (by omega) (by omega))
  have hqi : ((65536 * n : Nat) : Int) / (k : Int) = ((65536 * n / k : Nat) : Int) := (Int.natCast_ediv _ _).symm
  have hq : 65536 * n / k ≤ 65536 := Nat.div_le_of_le_mul (by rw [Nat.mul_comm k 65536]; exact Nat.mul_le_mul_left 65536 h2)
  generalize 65536 * n / k = Q at *
  generalize 65536 * n = p at *
  have hw : wrap64 (Q : Int) = (Q : Int) := by unfold wrap64; omega
  go_enter Tryz.func237, Tryz.ntmps237
  go_wp2_with fail
  refine (HC.out _).mono ?_
  rintro e w' ⟨rfl, rfl⟩
  go_wp2_with fail
  refine (HP.out _).mono ?_
  rintro e w' ⟨rfl, nd, rfl⟩
  go_wp2_with fail
  go_ret2
  exact ⟨rfl, _, rfl⟩
end Go.Proofs.YtekdkckgmleofaaGreat

/- Contracts of package angle's functions, where both angles are one. -/
namespace Go.Proofs.YtekdkckgmleofaaGreat
open Go.RowKit
theorem lerp_same (a : Int) (n k : Nat) (w : World) (h0 : 0 < k) (h1 : k ≤ 4611686018427387904) (h2 : n ≤ k) (ha : I64 a) :
    Calls Tryz.prog 141 #[.int .i64 a, .int .i64 a, .int .i64 n, .int .i64 k] w fun e w' => e = .returned (.tuple #[.int .i64 a, .int .i64 0]) ∧ ∃ n, w' = w.drewN n := by
  have h := lerp_up a 0 n k w h0 h1 h2 (by omega) (by omega) ha (by simpa using ha)
  simpa using h
theorem ato_same (a : Nat) (w : World) : Calls Tryz.prog 179 #[.int .u16 a, .int .u16 a] w fun e w' => e = .returned (.int .i64 0) ∧ w = w' := by
  go_enter Tryz.func179, Tryz.ntmps179
  go_wp2_with fail
  go_ret
  exact ⟨rfl, rfl⟩
theorem aby_same (a : Nat) (w : World) (ha : a ≤ 65535) : Calls Tryz.prog 180 #[.int .u16 a, .int .i64 0] w fun e w' => e = .returned (.int .u16 a) ∧ w = w' := by
  go_enter Tryz.func180, Tryz.ntmps180
  go_wp2_with fail
  go_ret
  exact ⟨rfl, rfl⟩
theorem adiff_same (a : Nat) (w : World) : Calls Tryz.prog 142 #[.int .u16 a, .int .u16 a] w fun e w' => e = .returned (.int .i64 0) ∧ w = w' := by
  go_enter Tryz.func142, Tryz.ntmps142
  go_wp2_with (refine (ato_same _ _).mono ?_; rintro e w' ⟨rfl, rfl⟩)
  go_ret
  exact ⟨rfl, rfl⟩
theorem aturn_same (a : Nat) (w : World) (ha : a ≤ 65535) : Calls Tryz.prog 143 #[.int .u16 a, .int .i64 0] w fun e w' => e = .returned (.int .u16 a) ∧ w = w' := by
  go_enter Tryz.func143, Tryz.ntmps143
  go_wp2_with (refine (aby_same _ _ ha).mono ?_; rintro e w' ⟨rfl, rfl⟩)
  go_ret
  exact ⟨rfl, rfl⟩
theorem alerp_same (a n k : Nat) (w : World) (h0 : 0 < k) (h1 : k ≤ 4611686018427387904) (h2 : n ≤ k) (ha : a ≤ 65535) :
    Calls Tryz.prog 100 #[.int .u16 a, .int .u16 a, .int .i64 n, .int .i64 k] w fun e w' => e = .returned (.tuple #[.int .u16 a, .int .i64 0]) ∧ ∃ n, w' = w.drewN n := by
  have HD := Lib.hid (fun W => adiff_same a W)
  have HL := Lib.hid (fun W => lerp_same 0 n k W h0 h1 h2 (by unfold I64; omega))
  have HT := Lib.hid (fun W => aturn_same a W ha)
  go_enter Tryz.func100, Tryz.ntmps100
  go_wp2_with fail
  refine (HD.out _).mono ?_
  rintro e w1 ⟨rfl, rfl⟩
  go_wp2_with fail
  refine (HL.out _).mono ?_
  rintro e w1 ⟨rfl, n1, rfl⟩
  go_wp2_with fail
  refine (HT.out _).mono ?_
  rintro e w1 ⟨rfl, rfl⟩
  go_wp2_with fail
  go_ret2
  exact ⟨rfl, _, rfl⟩
end Go.Proofs.YtekdkckgmleofaaGreat
