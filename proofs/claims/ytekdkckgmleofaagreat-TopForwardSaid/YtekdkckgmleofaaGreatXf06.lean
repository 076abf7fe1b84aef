/- Plain laws of bit operations at 64 bits; the plain words of package varint. No program in sight. -/
import Derived.RowKit
import Derived.Laws.BitsLemmas
import Derived.Laws.Bits64
import Derived.Laws.Bits64b
import Derived.Lib.ItoaNum
set_option linter.unusedVariables false
set_option linter.unusedSimpArgs false
namespace Go.Proofs.YtekdkckgmleofaaGreat
open Go.RowKit

theorem bx_nat (a b : Nat) (ha : a < 18446744073709551616) (k : IntKind) (hk : k.bits = 64) (x : Int) (hx : x % 18446744073709551616 = a) : (BitVec.ofInt k.bits x).toNat = a := by
  rw [hk, BitVec.toNat_ofInt]
  simp only [Nat.reducePow]
  omega
theorem xor_zero_64 (x : Int) : (BitVec.ofInt 64 x ^^^ BitVec.ofInt 64 0).toNat = (x % 18446744073709551616).toNat := by
  rw [show BitVec.ofInt 64 0 = 0#64 from rfl, BitVec.xor_zero, BitVec.toNat_ofInt]; rfl
theorem xor_ones_64 (x y : Int) (hy : y = -1 ∨ y = 18446744073709551615) : (BitVec.ofInt 64 x ^^^ BitVec.ofInt 64 y).toNat = ((-1 - x) % 18446744073709551616).toNat := by
  have e : BitVec.ofInt 64 y = BitVec.allOnes 64 := by rcases hy with rfl | rfl <;> rfl
  rw [e, BitVec.xor_allOnes, BitVec.toNat_not, BitVec.toNat_ofInt]
  simp only [Nat.reducePow]
  omega
theorem bxor_zero_u64 (x : Int) : bits .xor .u64 x 0 = x % 18446744073709551616 := by
  show IntKind.u64.wrap ((BitVec.ofInt 64 x ^^^ BitVec.ofInt 64 0).toNat : Int) = _
  rw [xor_zero_64, IntKind.wrap_u64]; omega
theorem bxor_ones_u64 (x : Int) : bits .xor .u64 x 18446744073709551615 = (-1 - x) % 18446744073709551616 := by
  show IntKind.u64.wrap ((BitVec.ofInt 64 x ^^^ BitVec.ofInt 64 18446744073709551615).toNat : Int) = _
  rw [xor_ones_64 x _ (.inr rfl), IntKind.wrap_u64]; omega
theorem bxor_zero_i64 (x : Int) (h1 : -9223372036854775808 ≤ x) (h2 : x ≤ 9223372036854775807) : bits .xor .i64 x 0 = x := by
  show IntKind.i64.wrap ((BitVec.ofInt 64 x ^^^ BitVec.ofInt 64 0).toNat : Int) = _
  rw [xor_zero_64, IntKind.wrap_i64]; omega
theorem bxor_ones_i64 (x : Int) (h1 : -9223372036854775808 ≤ x) (h2 : x ≤ 9223372036854775807) : bits .xor .i64 x (-1) = -1 - x := by
  show IntKind.i64.wrap ((BitVec.ofInt 64 x ^^^ BitVec.ofInt 64 (-1)).toNat : Int) = _
  rw [xor_ones_64 x _ (.inl rfl), IntKind.wrap_i64]; omega
theorem band_one_u64 (x : Int) (h1 : 0 ≤ x) (h2 : x ≤ 18446744073709551615) : bits .and .u64 x 1 = x % 2 := by
  obtain ⟨a, rfl⟩ := Int.eq_ofNat_of_zero_le h1
  have := bits_and_u64_nat a 1 (by omega) (by omega)
  rw [show ((1 : Nat) : Int) = 1 from rfl] at this
  rw [this, Nat.and_one_is_mod]; omega

/-- The folded number of package varint, and its other way. -/
def zigM (n : Int) : Int := if 0 ≤ n then 2 * n else -2 * n - 1
def zagM (x : Int) : Int := if x % 2 = 0 then x / 2 else -(x / 2) - 1
theorem zigM_bd (n : Int) (h1 : -9223372036854775808 ≤ n) (h2 : n ≤ 9223372036854775807) : 0 ≤ zigM n ∧ zigM n ≤ 18446744073709551615 := by unfold zigM; split <;> omega
theorem zag_zig (n : Int) : zagM (zigM n) = n := by unfold zagM zigM; split <;> split <;> omega
theorem zig_run (n : Int) (h1 : -9223372036854775808 ≤ n) (h2 : n ≤ 9223372036854775807) :
    bits .xor .u64 (IntKind.u64.wrap (wrap64 (n * 2))) (IntKind.u64.wrap (n / 9223372036854775808)) = zigM n := by
  rw [IntKind.wrap_u64, IntKind.wrap_u64]
  have hw : wrap64 (n * 2) % 18446744073709551616 = (n * 2) % 18446744073709551616 := by
    unfold wrap64; omega
  rw [hw]
  unfold zigM
  split
  · rw [show n / 9223372036854775808 = 0 by omega, show (0 : Int) % 18446744073709551616 = 0 from rfl, bxor_zero_u64]; omega
  · rw [show n / 9223372036854775808 = -1 by omega, show (-1 : Int) % 18446744073709551616 = 18446744073709551615 from rfl, bxor_ones_u64]; omega
theorem zag_run (x : Int) (h1 : 0 ≤ x) (h2 : x ≤ 18446744073709551615) : bits .xor .i64 (x / 2) (wrap64 (-wrap64 (bits .and .u64 x 1))) = zagM x := by
  rw [band_one_u64 x h1 h2]
  unfold zagM
  rcases (by omega : x % 2 = 0 ∨ x % 2 = 1) with h | h
  · rw [h, if_pos rfl, show wrap64 (-wrap64 0) = 0 from rfl, bxor_zero_i64 _ (by omega) (by omega)]
  · rw [h, if_neg (by omega), show wrap64 (-wrap64 1) = -1 from rfl, bxor_ones_i64 _ (by omega) (by omega)]; omega

/-- How many bytes Put writes. -/
def sizeM (x : Nat) : Nat := (max 1 (Lib.bitLen x) + 6) / 7
theorem pow128 (k : Nat) : 128 ^ k = 2 ^ (7 * k) := by rw [Nat.pow_mul]
theorem sizeM_bd (x : Nat) (h : x < 18446744073709551616) : 1 ≤ sizeM x ∧ sizeM x ≤ 10 ∧ x < 128 ^ sizeM x ∧ (1 < sizeM x → 128 ^ (sizeM x - 1) ≤ x) := by
  by_cases h0 : x = 0
  · subst h0; exact ⟨by decide, by decide, by decide, by decide⟩
  · obtain ⟨b1, b2, b3⟩ := Lib.bitLenAux_bounds 64 x (by omega) h0
    have b4 : Lib.bitLen x ≤ 64 := Lib.bitLen_le x 64 (by omega) (by omega)
    change 1 ≤ Lib.bitLen x at b1
    change 2 ^ (Lib.bitLen x - 1) ≤ x at b2
    change x < 2 ^ Lib.bitLen x at b3
    unfold sizeM
    generalize Lib.bitLen x = b at *
    refine ⟨by omega, by omega, ?_, fun h1 => ?_⟩
    · rw [pow128]; exact Nat.lt_of_lt_of_le b3 (Nat.pow_le_pow_right (by omega) (by omega))
    · rw [pow128]; exact Nat.le_trans (Nat.pow_le_pow_right (by omega) (by omega)) b2
def dig (x i : Nat) : Nat := x / 128 ^ i % 128
def putB (x i : Nat) : Nat := dig x i + (if i + 1 < sizeM x then 128 else 0)
def putL (x : Nat) : List Nat := (List.range (sizeM x)).map (putB x)
theorem dig_lt (x i : Nat) : dig x i < 128 := Nat.mod_lt _ (by omega)
theorem putL_len (x : Nat) : (putL x).length = sizeM x := by simp [putL]
theorem putL_get (x i : Nat) (h : i < sizeM x) : (putL x)[i]? = some (putB x i) := by simp [putL, h]
theorem bor128_u8 (a : Nat) (h : a < 256) : bits .or .u8 (a : Int) 128 = ((a % 128 + 128 : Nat) : Int) := by
  have := (bits_nat .u8 8 (by decide) wraps_u8 a 128 (by omega) (by omega)).2
  rw [show ((128 : Nat) : Int) = 128 from rfl] at this
  rw [this]
  congr 1
  exact (by decide +kernel : ∀ a : Fin 256, a.val ||| 128 = a.val % 128 + 128) ⟨a, h⟩
theorem put_byte (x k : Nat) : bits .or .u8 ((x : Int) / 2 ^ (7 * k) % 256) 128 = ((dig x k + 128 : Nat) : Int) := by
  have e : ((x : Int) / 2 ^ (7 * k) % 256) = ((x / 128 ^ k % 256 : Nat) : Int) := by rw [pow128]; simp
  rw [e, bor128_u8 _ (Nat.mod_lt _ (by omega))]
  unfold dig
  congr 2
  omega
theorem andnot_byte (d : Nat) (h : d < 128) : bits .andNot .u8 ((d + 128 : Nat) : Int) 128 = (d : Int) := by
  have := (by decide +kernel : ∀ a : Fin 128, bits .andNot .u8 ((a.val + 128 : Nat) : Int) 128 = (a.val : Int)) ⟨d, h⟩
  exact this
theorem get_step (x k : Nat) (hx : x < 18446744073709551616) :
    ∃ q : Nat, IntKind.u64.wrap (dig x k : Int) = (dig x k : Int) ∧ IntKind.u64.wrap ((dig x k : Int) * 2 ^ (7 * k)) = (q : Int) ∧ (q : Int) / 2 ^ (7 * k) = (dig x k : Int) ∧ bits .or .u64 ((x % 128 ^ k : Nat) : Int) (q : Int) = ((x % 128 ^ (k + 1) : Nat) : Int) := by
  have hp : 0 < 128 ^ k := Nat.pow_pos (by omega)
  have hq : dig x k * 128 ^ k < 18446744073709551616 := by
    refine Nat.lt_of_le_of_lt ?_ hx
    exact Nat.le_trans (Nat.mul_le_mul_right _ (Nat.mod_le _ _)) (Nat.div_mul_le_self _ _)
  have hd := dig_lt x k
  refine ⟨dig x k * 128 ^ k, ?_, ?_, ?_, ?_⟩
  · rw [IntKind.wrap_u64]; omega
  · have e : ((dig x k : Int) * 2 ^ (7 * k)) = ((dig x k * 128 ^ k : Nat) : Int) := by rw [pow128]; simp
    rw [e, IntKind.wrap_u64]; omega
  · have e : (((dig x k * 128 ^ k : Nat) : Int) / 2 ^ (7 * k)) = ((dig x k * 128 ^ k / 128 ^ k : Nat) : Int) := by rw [pow128]; simp
    rw [e, Nat.mul_div_cancel _ hp]
  · have hr : x % 128 ^ k < 128 ^ k := Nat.mod_lt _ hp
    have hr2 : x % 128 ^ k < 18446744073709551616 := Nat.lt_of_le_of_lt (Nat.mod_le _ _) hx
    rw [bits_or_u64_nat _ _ hr2 hq, Nat.or_comm]
    congr 1
    have e := Nat.two_pow_add_eq_or_of_lt (b := x % 128 ^ k) (i := 7 * k) (by rw [← pow128]; exact hr) (dig x k)
    rw [← pow128, Nat.mul_comm] at e
    rw [← e, Nat.pow_succ, Nat.mod_mul]
    unfold dig
    rw [Nat.mul_comm (x / 128 ^ k % 128), Nat.add_comm]
theorem dig_last (x n : Nat) (hn : 1 ≤ n) (h : x < 128 ^ n) (h2 : 1 < n → 128 ^ (n - 1) ≤ x) : 1 < n → ¬ dig x (n - 1) = 0 := by
  intro h1 e
  have h3 := h2 h1
  have h4 : x / 128 ^ (n - 1) < 128 := by
    rw [Nat.div_lt_iff_lt_mul (Nat.pow_pos (by omega))]
    have : 128 ^ n = 128 ^ (n - 1) * 128 := by rw [← Nat.pow_succ, Nat.succ_eq_add_one, Nat.sub_add_cancel hn]
    rw [this, Nat.mul_comm] at h; exact h
  have h5 : 1 ≤ x / 128 ^ (n - 1) := (Nat.le_div_iff_mul_le (Nat.pow_pos (by omega))).2 (by omega)
  unfold dig at e
  rw [Nat.mod_eq_of_lt h4] at e
  omega
theorem andnot_byte2 (d : Nat) (h : d < 128) : bits .andNot .u8 (d : Int) 128 = (d : Int) := by
  have := (by decide +kernel : ∀ a : Fin 128, bits .andNot .u8 (a.val : Int) 128 = (a.val : Int)) ⟨d, h⟩
  exact this
end Go.Proofs.YtekdkckgmleofaaGreat
