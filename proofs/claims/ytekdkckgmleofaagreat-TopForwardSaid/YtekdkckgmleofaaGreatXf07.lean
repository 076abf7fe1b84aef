/- Plain words on long division by halves of 32 bits. -/
import Derived.Lib.BitFns
import Derived.WalkKit
set_option linter.unusedVariables false
set_option linter.unusedSimpArgs false
namespace Go.Proofs.YtekdkckgmleofaaGreat

theorem bitLen_bounds : ∀ (f x : Nat), x < 2 ^ f → f ≤ 64 → 0 < x → 2 ^ (Lib.bitLen x) ≤ 2 * x ∧ x < 2 ^ (Lib.bitLen x)
  | 0, x, h, _, h0 => by simp at h; omega
  | f + 1, x, h, hf, h0 => by
    have h64 : x < 2 ^ 64 := Nat.lt_of_lt_of_le h (Nat.pow_le_pow_right (by omega) hf)
    rw [Lib.bitLen_half x (by omega) h64]
    by_cases h1 : x / 2 = 0
    · have : x = 1 := by omega
      subst this
      decide
    · have hh : x / 2 < 2 ^ f := by rw [Nat.pow_succ] at h; omega
      have ih := bitLen_bounds f (x / 2) hh (by omega) (by omega)
      rw [Nat.pow_add]
      omega

/-- What is left of the way of one half: q is no less than the quotient; where it is too great it is more. -/
theorem half_step {Y YH YL U N q r d : Nat} (hY : Y = YH * 4294967296 + YL) (hu : q * YH + r = U) (hN : N = U * 4294967296 + d) : q * Y + (r * 4294967296 + d) = N + q * YL := by
  subst hY
  subst hN
  subst hu
  rw [Nat.mul_add, Nat.add_mul, Nat.mul_assoc]
  omega
theorem half_more {Y YH YL U N q r d : Nat} (hY : Y = YH * 4294967296 + YL) (hu : q * YH + r = U) (hN : N = U * 4294967296 + d) (hgt : r * 4294967296 + d < q * YL) : N / Y < q := by
  have h := half_step hY hu hN
  have : N < q * Y := by omega
  exact Nat.div_lt_of_lt_mul (by rw [Nat.mul_comm]; exact this)
theorem half_done {Y YH YL U N q r d : Nat} (h0 : 0 < Y) (hY : Y = YH * 4294967296 + YL) (hu : q * YH + r = U) (hN : N = U * 4294967296 + d) (hle : q * YL ≤ r * 4294967296 + d) (hq : N / Y ≤ q) : q = N / Y := by
  have h := half_step hY hu hN
  have : q * Y ≤ N := by omega
  have := (Nat.le_div_iff_mul_le h0).2 this
  omega
theorem half_big {Y YH YL U q r : Nat} (hY : Y = YH * 4294967296 + YL) (hYL : YL < 4294967296) (hu : q * YH + r = U) (hU : U < Y) (hq : 4294967296 ≤ q) : r < 4294967296 := by
  have : 4294967296 * YH ≤ q * YH := Nat.mul_le_mul_right _ hq
  omega
theorem half_lt {Y U N d : Nat} (hN : N = U * 4294967296 + d) (hd : d < 4294967296) (hU : U < Y) : N / Y < 4294967296 := by
  refine Nat.div_lt_of_lt_mul ?_
  have : (U + 1) * 4294967296 ≤ Y * 4294967296 := Nat.mul_le_mul_right _ hU
  omega
theorem half_start {Y YH YL U N d : Nat} (h0 : 0 < Y) (h1 : 0 < YH) (hY : Y = YH * 4294967296 + YL) (hN : N = U * 4294967296 + d) (hd : d < 4294967296) : N / Y ≤ U / YH := by
  have h2 := Nat.div_add_mod U YH
  have h3 := Nat.mod_lt U h1
  have : N < (U / YH + 1) * Y := by
    subst hY
    subst hN
    have : (U / YH + 1) * (YH * 4294967296 + YL) = (YH * (U / YH) + YH) * 4294967296 + (U / YH + 1) * YL := by
      rw [Nat.mul_add, Nat.add_mul, Nat.one_mul, ← Nat.mul_assoc, Nat.add_mul, Nat.mul_comm (U / YH) YH]
      omega
    have : U + 1 ≤ YH * (U / YH) + YH := by omega
    have : (U + 1) * 4294967296 ≤ (YH * (U / YH) + YH) * 4294967296 := Nat.mul_le_mul_right _ this
    omega
  have := Nat.div_lt_of_lt_mul (by rw [Nat.mul_comm]; exact this)
  omega
/-- Two halves. -/
theorem halvesB {Y U L B : Nat} (h0 : 0 < Y) : (U * (B * B) + L) / Y = (U * B + L / B) / Y * B + ((U * B + L / B) % Y * B + L % B) / Y ∧
    (U * (B * B) + L) % Y = ((U * B + L / B) % Y * B + L % B) % Y := by
  have h1 := Nat.div_add_mod (U * B + L / B) Y
  have h2 := Nat.div_add_mod L B
  generalize (U * B + L / B) / Y = Q at *
  generalize (U * B + L / B) % Y = R at *
  generalize L / B = L1 at *
  generalize L % B = L0 at *
  have e : U * (B * B) + L = Y * (Q * B) + (R * B + L0) := by
    have : (Y * Q + R) * B = (U * B + L1) * B := by rw [h1]
    rw [Nat.add_mul, Nat.add_mul, Nat.mul_assoc, Nat.mul_assoc] at this
    rw [← h2, Nat.mul_comm B L1]
    omega
  rw [e]
  exact ⟨by rw [Nat.mul_add_div h0], by rw [Nat.mul_add_mod]⟩
end Go.Proofs.YtekdkckgmleofaaGreat
