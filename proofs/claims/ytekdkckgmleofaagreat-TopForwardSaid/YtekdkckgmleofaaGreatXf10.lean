/- Joined texts. -/
import Derived.Test.YtekdkckgmleofaaGreatXf09
import Derived.Test.YtekdkckgmleofaaGreatXf07
import Derived.Deep.Cut
import Derived.Deep.CutBlock
import Derived.Deep.CutRange
import Derived.Deep.LoopGhost
set_option linter.unusedVariables false
set_option linter.unusedSimpArgs false
/- The contract of bits.Div64. -/
namespace Go.Proofs.YtekdkckgmleofaaGreat
open Go.RowKit

theorem wrap_nat (x : Int) : ∃ A : Nat, IntKind.u64.wrap x = (A : Int) ∧ (A : Int) < 18446744073709551616 ∧ ∃ k : Int, x = (A : Int) + 18446744073709551616 * k := by
  rw [IntKind.wrap_u64]
  exact ⟨(x % 18446744073709551616).toNat, by omega, by omega, x / 18446744073709551616, by omega⟩
set_option maxRecDepth 100000 in
set_option maxHeartbeats 4000000 in
theorem div64_norm (hi lo y s Y YH YL U L L1 L0 : Nat) (w : World) (h0 : 0 < hi) (h1 : hi < y) (h2 : y < 18446744073709551616) (hs : s ≤ 63) (hz : (64 : Int) - (Lib.bitLen y : Int) = (s : Int))
    (hY : IntKind.u64.wrap ((y : Int) * 2 ^ s) = (Y : Int)) (hU : bits .or .u64 (IntKind.u64.wrap ((hi : Int) * 2 ^ s)) ((lo : Int) / 2 ^ (64 - s)) = (U : Int)) (hL : IntKind.u64.wrap ((lo : Int) * 2 ^ s) = (L : Int))
    (hYL : bits .and .u64 (Y : Int) 4294967295 = (YL : Int)) (hYH : (Y : Int) / 4294967296 = (YH : Int)) (hL1 : (L : Int) / 4294967296 = (L1 : Int)) (hL0 : bits .and .u64 (L : Int) 4294967295 = (L0 : Int))
    (b0 : 9223372036854775808 ≤ Y) (b1 : Y < 18446744073709551616) (b2 : U < Y) (b3 : L1 < 4294967296) (b4 : L0 < 4294967296) (b5 : Y = YH * 4294967296 + YL) (b6 : YL < 4294967296)
    (Q R1 Q0 R0 : Nat) (hQ : (U * 4294967296 + L1) / Y = Q) (hR1 : (U * 4294967296 + L1) % Y = R1) (hQ0 : (R1 * 4294967296 + L0) / Y = Q0) (hR0 : (R1 * 4294967296 + L0) % Y = R0) :
    Calls Tryz.prog 35 #[.int .u64 hi, .int .u64 lo, .int .u64 y] w fun e w' => e = .returned (.tuple #[.int .u64 ((Q : Int) * 4294967296 + (Q0 : Int)), .int .u64 ((R0 : Int) / 2 ^ s)]) ∧ w = w' := by
  have HZ := Lib.hid (fun W => Tryz.bits_LeadingZeros64 y W (by omega) (by omega))
  have HB5 := Lib.hid b5
  have bYH : 2147483648 ≤ YH := by omega
  have bYH2 : YH < 4294967296 := by omega
  clear b5
  obtain ⟨q0, hq0⟩ : ∃ q0 : Nat, (U : Int) / (YH : Int) = (q0 : Int) := ⟨U / YH, (Int.natCast_ediv _ _).symm⟩
  obtain ⟨m0, hm0⟩ : ∃ m0 : Nat, (q0 : Int) * (YH : Int) = (m0 : Int) := ⟨q0 * YH, (Int.natCast_mul _ _).symm⟩
  have hq0n : q0 = U / YH := by have e : (U : Int) / (YH : Int) = ((U / YH : Nat) : Int) := (Int.natCast_ediv _ _).symm; rw [e] at hq0; omega
  have hm0n : m0 = q0 * YH := by have e := Int.natCast_mul q0 YH; rw [hm0] at e; exact Int.ofNat.inj (by exact e.symm)
  have hdm := Nat.div_add_mod U YH
  have hml := Nat.mod_lt U (show 0 < YH by omega)
  rw [← hq0n, Nat.mul_comm, ← hm0n] at hdm
  obtain ⟨r0, hr0⟩ : ∃ r0 : Nat, (U : Int) - (m0 : Int) = (r0 : Int) := ⟨U % YH, by omega⟩
  have hr1 : r0 < 4294967296 := by omega
  have hm1 : m0 ≤ U := by omega
  have hq1 : q0 ≤ U := by rw [hq0n]; exact Nat.div_le_self _ _
  have HQ1 : Hid (Q ≤ q0) := Lib.hid (by rw [← hQ, hq0n]; exact half_start (by omega) (by omega) HB5.out rfl b3)
  have HI0 : Hid (q0 * YH + r0 = U) := Lib.hid (by rw [← hm0n]; omega)
  have HLT : Hid (Q < 4294967296) := Lib.hid (by rw [← hQ]; exact half_lt rfl b3 b2)
  clear hq0n hm0n hdm hml
  have HQ := Lib.hid hQ
  have HR1 := Lib.hid hR1
  have HQ0 := Lib.hid hQ0
  have HR0 := Lib.hid hR0
  clear hQ hR1 hQ0 hR0
  go_enter Tryz.func35, Tryz.ntmps35
  go_wp2_with fail
  refine (HZ.out _).mono ?_
  rintro e w' ⟨rfl, rfl⟩
  rw [Int.toNat_natCast, hz]
  go_upto_block 0 with (fail)
  go_cut [15] from 67 (fun s15 wx => s15 = .int .u64 Q ∧ w' = wx)
  case first =>
    clear hq0 hm0 hr0 hY hU hL hYL hYH hL1 hL0 hz HZ h0 h1 h2 hs
    go_wp2_with fail
    go_loopg [15, 16] (q0) (fun gk a b wr => ∃ q r : Nat, a = .int .u64 q ∧ b = .int .u64 r ∧ q ≤ gk ∧ Q ≤ q ∧ q * YH + r = U ∧ r < 4294967296 ∧ w' = wr)
    case atStart => exact ⟨q0, r0, rfl, rfl, Nat.le_refl _, HQ1.out, HI0.out, hr1, rfl⟩
    case round =>
      obtain ⟨q, r, rfl, rfl, hg, hQq, hinv, hr, rfl⟩ := hrel
      have HI := Lib.hid hinv
      have hqu : (q : Int) ≤ 18446744073709551615 := by have h1 : q ≤ q * YH := Nat.le_mul_of_pos_right q (by omega); omega
      clear hinv
      by_cases hbig : (4294967296 : Int) ≤ (q : Int)
      · have hlt : Q < q := by have := HLT.out; omega
        obtain ⟨k, hk⟩ : ∃ k : Nat, (q : Int) - 1 = (k : Int) := ⟨q - 1, by omega⟩
        have hkq : q = k + 1 := by omega
        have HIK : Hid (k * YH + (r + YH) = U) := Lib.hid (by have := HI.out; rw [hkq, Nat.add_mul, Nat.one_mul] at this; omega)
        have HKQ := Lib.hid hkq
        clear hkq
        have hQk : Q ≤ k := by have := HKQ.out; omega
        have hkg : k < gk := by have := HKQ.out; omega
        by_cases hover : (4294967296 : Int) ≤ (r : Int) + (YH : Int)
        · have heq : k = Q := by
            have hk32 : k < 4294967296 := by
              rcases Nat.lt_or_ge k 4294967296 with h | h
              · exact h
              · have := half_big HB5.out b6 HIK.out b2 h; omega
            rw [← HQ.out]
            refine half_done (by omega) HB5.out HIK.out rfl ?_ (by rw [HQ.out]; exact hQk)
            have h1 : k * YL ≤ 4294967295 * 4294967295 := Nat.mul_le_mul (by omega) (by omega)
            have h2 : 4294967296 * 4294967296 ≤ (r + YH) * 4294967296 := Nat.mul_le_mul_right _ (by omega)
            omega
          subst heq
          go_wp2_with fail
          go_meet
          exact ⟨rfl, rfl⟩
        · go_wp2_with fail
          go_roundg (gk - 1)
          case measure => omega
          case rel => exact ⟨k, r + YH, rfl, by go_num, by omega, hQk, HIK.out, by omega, rfl⟩
      · obtain ⟨pq, hpq⟩ : ∃ pq : Nat, (q : Int) * (YL : Int) = (pq : Int) := ⟨q * YL, (Int.natCast_mul _ _).symm⟩
        have hpn : pq = q * YL := by have e := Int.natCast_mul q YL; rw [hpq] at e; exact Int.ofNat.inj (by exact e.symm)
        have hpl : (pq : Int) ≤ 18446744065119617025 := by have h1 : q * YL ≤ 4294967295 * 4294967295 := Nat.mul_le_mul (by omega) (by omega); omega
        have HPN := Lib.hid hpn
        clear hpn
        by_cases hgt : (4294967296 : Int) * (r : Int) + (L1 : Int) < (pq : Int)
        · have hlt : Q < q := by rw [← HQ.out]; exact half_more HB5.out HI.out rfl (by rw [← HPN.out]; omega)
          obtain ⟨k, hk⟩ : ∃ k : Nat, (q : Int) - 1 = (k : Int) := ⟨q - 1, by omega⟩
          have hkq : q = k + 1 := by omega
          have HIK : Hid (k * YH + (r + YH) = U) := Lib.hid (by have := HI.out; rw [hkq, Nat.add_mul, Nat.one_mul] at this; omega)
          have HKQ := Lib.hid hkq
          clear hkq
          have hQk : Q ≤ k := by have := HKQ.out; omega
          have hkg : k < gk := by have := HKQ.out; omega
          by_cases hover : (4294967296 : Int) ≤ (r : Int) + (YH : Int)
          · have heq : k = Q := by
              have hk32 : k < 4294967296 := by
                rcases Nat.lt_or_ge k 4294967296 with h | h
                · exact h
                · have := half_big HB5.out b6 HIK.out b2 h; omega
              rw [← HQ.out]
              refine half_done (by omega) HB5.out HIK.out rfl ?_ (by rw [HQ.out]; exact hQk)
              have h1 : k * YL ≤ 4294967295 * 4294967295 := Nat.mul_le_mul (by omega) (by omega)
              have h2 : 4294967296 * 4294967296 ≤ (r + YH) * 4294967296 := Nat.mul_le_mul_right _ (by omega)
              omega
            subst heq
            go_wp2_with fail
            go_meet
            exact ⟨rfl, rfl⟩
          · go_wp2_with fail
            go_roundg (gk - 1)
            case measure => omega
            case rel => exact ⟨k, r + YH, rfl, by go_num, by omega, hQk, HIK.out, by omega, rfl⟩
        · have heq : q = Q := by rw [← HQ.out]; exact half_done (by omega) HB5.out HI.out rfl (by rw [← HPN.out]; omega) (by rw [HQ.out]; exact hQq)
          subst heq
          go_wp2_with fail
          go_meet
          exact ⟨rfl, rfl⟩
  case rest =>
    obtain ⟨rfl, rfl⟩ := hcut
    have hNQ := Nat.div_add_mod (U * 4294967296 + L1) Y
    rw [HQ.out, HR1.out] at hNQ
    have hR1Y : R1 < Y := by rw [← HR1.out]; exact Nat.mod_lt _ (by omega)
    obtain ⟨z, hzz⟩ : ∃ z : Nat, (Q : Int) * (Y : Int) = (z : Int) := ⟨Q * Y, (Int.natCast_mul _ _).symm⟩
    have hzn : z = Y * Q := by have e := Int.natCast_mul Q Y; rw [hzz] at e; rw [Nat.mul_comm]; exact Int.ofNat.inj (by exact e.symm)
    rw [← hzn] at hNQ
    obtain ⟨A, hA, hA2, ka, hka⟩ := wrap_nat ((U : Int) * 4294967296)
    obtain ⟨B, hB, hB2, kb, hkb⟩ := wrap_nat ((A : Int) + (L1 : Int))
    obtain ⟨C, hC, hC2, kc, hkc⟩ := wrap_nat (z : Int)
    have hD : IntKind.u64.wrap ((B : Int) - (C : Int)) = (R1 : Int) := by rw [IntKind.wrap_u64]; omega
    clear hNQ hzn hka hkb hkc
    obtain ⟨p0, hp0⟩ : ∃ p0 : Nat, (R1 : Int) / (YH : Int) = (p0 : Int) := ⟨R1 / YH, (Int.natCast_ediv _ _).symm⟩
    obtain ⟨n0, hn0⟩ : ∃ n0 : Nat, (p0 : Int) * (YH : Int) = (n0 : Int) := ⟨p0 * YH, (Int.natCast_mul _ _).symm⟩
    have hp0n : p0 = R1 / YH := by have e : (R1 : Int) / (YH : Int) = ((R1 / YH : Nat) : Int) := (Int.natCast_ediv _ _).symm; rw [e] at hp0; omega
    have hn0n : n0 = p0 * YH := by have e := Int.natCast_mul p0 YH; rw [hn0] at e; exact Int.ofNat.inj (by exact e.symm)
    have hdm := Nat.div_add_mod R1 YH
    have hml := Nat.mod_lt R1 (show 0 < YH by omega)
    rw [← hp0n, Nat.mul_comm, ← hn0n] at hdm
    obtain ⟨s0, hs0⟩ : ∃ s0 : Nat, (R1 : Int) - (n0 : Int) = (s0 : Int) := ⟨R1 % YH, by omega⟩
    have hs1 : s0 < 4294967296 := by omega
    have hn1 : (n0 : Int) ≤ (R1 : Int) := by omega
    have hp1 : p0 ≤ R1 := by rw [hp0n]; exact Nat.div_le_self _ _
    have HQ2 : Hid (Q0 ≤ p0) := Lib.hid (by rw [← HQ0.out, hp0n]; exact half_start (by omega) (by omega) HB5.out rfl b4)
    have HI2 : Hid (p0 * YH + s0 = R1) := Lib.hid (by rw [← hn0n]; omega)
    have HLT2 : Hid (Q0 < 4294967296) := Lib.hid (by rw [← HQ0.out]; exact half_lt rfl b4 hR1Y)
    clear hp0n hn0n hdm hml
    go_upto_block 2 with (fail)
    go_cut [18] from 102 (fun s18 wx => s18 = .int .u64 Q0 ∧ w' = wx)
    case first =>
      clear hY hU hL hYL hYH hL1 hL0 hz HZ hzz hA hB hC hD
      go_wp2_with fail
      go_loopg [18, 16] (p0) (fun gk a b wr => ∃ q r : Nat, a = .int .u64 q ∧ b = .int .u64 r ∧ q ≤ gk ∧ Q0 ≤ q ∧ q * YH + r = R1 ∧ r < 4294967296 ∧ w' = wr)
      case atStart => exact ⟨p0, s0, rfl, rfl, Nat.le_refl _, HQ2.out, HI2.out, hs1, rfl⟩
      case round =>
        obtain ⟨q, r, rfl, rfl, hg, hQq, hinv, hr, rfl⟩ := hrel
        have HI := Lib.hid hinv
        have hqu : (q : Int) ≤ 18446744073709551615 := by have h1 : q ≤ q * YH := Nat.le_mul_of_pos_right q (by omega); omega
        clear hinv
        by_cases hbig : (4294967296 : Int) ≤ (q : Int)
        · have hlt : Q0 < q := by have := HLT2.out; omega
          obtain ⟨k, hk⟩ : ∃ k : Nat, (q : Int) - 1 = (k : Int) := ⟨q - 1, by omega⟩
          have hkq : q = k + 1 := by omega
          have HIK : Hid (k * YH + (r + YH) = R1) := Lib.hid (by have := HI.out; rw [hkq, Nat.add_mul, Nat.one_mul] at this; omega)
          have HKQ := Lib.hid hkq
          clear hkq
          have hQk : Q0 ≤ k := by have := HKQ.out; omega
          have hkg : k < gk := by have := HKQ.out; omega
          by_cases hover : (4294967296 : Int) ≤ (r : Int) + (YH : Int)
          · have heq : k = Q0 := by
              have hk32 : k < 4294967296 := by
                rcases Nat.lt_or_ge k 4294967296 with h | h
                · exact h
                · have := half_big HB5.out b6 HIK.out hR1Y h; omega
              rw [← HQ0.out]
              refine half_done (by omega) HB5.out HIK.out rfl ?_ (by rw [HQ0.out]; exact hQk)
              have h1 : k * YL ≤ 4294967295 * 4294967295 := Nat.mul_le_mul (by omega) (by omega)
              have h2 : 4294967296 * 4294967296 ≤ (r + YH) * 4294967296 := Nat.mul_le_mul_right _ (by omega)
              omega
            subst heq
            go_wp2_with fail
            go_meet
            exact ⟨rfl, rfl⟩
          · go_wp2_with fail
            go_roundg (gk - 1)
            case measure => omega
            case rel => exact ⟨k, r + YH, rfl, by go_num, by omega, hQk, HIK.out, by omega, rfl⟩
        · obtain ⟨pq, hpq⟩ : ∃ pq : Nat, (q : Int) * (YL : Int) = (pq : Int) := ⟨q * YL, (Int.natCast_mul _ _).symm⟩
          have hpn : pq = q * YL := by have e := Int.natCast_mul q YL; rw [hpq] at e; exact Int.ofNat.inj (by exact e.symm)
          have hpl : (pq : Int) ≤ 18446744065119617025 := by have h1 : q * YL ≤ 4294967295 * 4294967295 := Nat.mul_le_mul (by omega) (by omega); omega
          have HPN := Lib.hid hpn
          clear hpn
          by_cases hgt : (4294967296 : Int) * (r : Int) + (L0 : Int) < (pq : Int)
          · have hlt : Q0 < q := by rw [← HQ0.out]; exact half_more HB5.out HI.out rfl (by rw [← HPN.out]; omega)
            obtain ⟨k, hk⟩ : ∃ k : Nat, (q : Int) - 1 = (k : Int) := ⟨q - 1, by omega⟩
            have hkq : q = k + 1 := by omega
            have HIK : Hid (k * YH + (r + YH) = R1) := Lib.hid (by have := HI.out; rw [hkq, Nat.add_mul, Nat.one_mul] at this; omega)
            have HKQ := Lib.hid hkq
            clear hkq
            have hQk : Q0 ≤ k := by have := HKQ.out; omega
            have hkg : k < gk := by have := HKQ.out; omega
            by_cases hover : (4294967296 : Int) ≤ (r : Int) + (YH : Int)
            · have heq : k = Q0 := by
                have hk32 : k < 4294967296 := by
                  rcases Nat.lt_or_ge k 4294967296 with h | h
                  · exact h
                  · have := half_big HB5.out b6 HIK.out hR1Y h; omega
                rw [← HQ0.out]
                refine half_done (by omega) HB5.out HIK.out rfl ?_ (by rw [HQ0.out]; exact hQk)
                have h1 : k * YL ≤ 4294967295 * 4294967295 := Nat.mul_le_mul (by omega) (by omega)
                have h2 : 4294967296 * 4294967296 ≤ (r + YH) * 4294967296 := Nat.mul_le_mul_right _ (by omega)
                omega
              subst heq
              go_wp2_with fail
              go_meet
              exact ⟨rfl, rfl⟩
            · go_wp2_with fail
              go_roundg (gk - 1)
              case measure => omega
              case rel => exact ⟨k, r + YH, rfl, by go_num, by omega, hQk, HIK.out, by omega, rfl⟩
          · have heq : q = Q0 := by rw [← HQ0.out]; exact half_done (by omega) HB5.out HI.out rfl (by rw [← HPN.out]; omega) (by rw [HQ0.out]; exact hQq)
            subst heq
            go_wp2_with fail
            go_meet
            exact ⟨rfl, rfl⟩
    case rest =>
      obtain ⟨rfl, rfl⟩ := hcut
      have hNQ := Nat.div_add_mod (R1 * 4294967296 + L0) Y
      rw [HQ0.out, HR0.out] at hNQ
      have hR0Y : R0 < Y := by rw [← HR0.out]; exact Nat.mod_lt _ (by omega)
      obtain ⟨z2, hz2⟩ : ∃ z2 : Nat, (Q0 : Int) * (Y : Int) = (z2 : Int) := ⟨Q0 * Y, (Int.natCast_mul _ _).symm⟩
      have hzn : z2 = Y * Q0 := by have e := Int.natCast_mul Q0 Y; rw [hz2] at e; rw [Nat.mul_comm]; exact Int.ofNat.inj (by exact e.symm)
      rw [← hzn] at hNQ
      obtain ⟨A2, hA2', hA22, ka2, hka2⟩ := wrap_nat ((R1 : Int) * 4294967296)
      obtain ⟨B2, hB2', hB22, kb2, hkb2⟩ := wrap_nat ((A2 : Int) + (L0 : Int))
      obtain ⟨C2, hC2', hC22, kc2, hkc2⟩ := wrap_nat (z2 : Int)
      have hD2 : IntKind.u64.wrap ((B2 : Int) - (C2 : Int)) = (R0 : Int) := by rw [IntKind.wrap_u64]; omega
      have hq32 : (Q : Int) < 4294967296 := by have := HLT.out; omega
      have hq33 : (Q0 : Int) < 4294967296 := by have := HLT2.out; omega
      clear hNQ hzn hka2 hkb2 hkc2 hA hB hC hD
      go_wp2_with fail
      go_ret2
      exact ⟨rfl, rfl⟩
end Go.Proofs.YtekdkckgmleofaaGreat

/- The contract of bits.Div64, at every numbers at which it does not panic. -/
namespace Go.Proofs.YtekdkckgmleofaaGreat
open Go.RowKit

theorem norm_pure {hi lo y P T M : Nat} (hP : 0 < P) (hT : 0 < T) (hM : M = T * P) (h : hi < y) (hlo : lo < M) :
    (hi * P + lo / T) * M + lo * P % M = (hi * M + lo) * P ∧ hi * P + lo / T < y * P ∧ lo / T < P := by
  subst hM
  have e1 : lo * P / (T * P) = lo / T := Nat.mul_div_mul_right lo T hP
  have e2 := Nat.div_add_mod (lo * P) (T * P)
  rw [e1] at e2
  have h1 : lo / T < P := Nat.div_lt_of_lt_mul hlo
  refine ⟨?_, ?_, h1⟩
  · rw [Nat.add_mul, Nat.add_mul, Nat.mul_comm (lo / T) (T * P), Nat.add_assoc, e2, Nat.mul_assoc hi P, Nat.mul_assoc hi (T * P), Nat.mul_comm P (T * P)]
  · have : (hi + 1) * P ≤ y * P := Nat.mul_le_mul_right P h
    rw [Nat.add_mul, Nat.one_mul] at this
    omega

theorem div64_calls (hi lo y : Nat) (w : World) (h0 : 0 < hi) (h1 : hi < y) (h2 : y < 18446744073709551616) (h3 : lo < 18446744073709551616) :
    Calls Tryz.prog 35 #[.int .u64 hi, .int .u64 lo, .int .u64 y] w fun e w' =>
      e = .returned (.tuple #[.int .u64 (((hi * 18446744073709551616 + lo) / y : Nat) : Int), .int .u64 (((hi * 18446744073709551616 + lo) % y : Nat) : Int)]) ∧ w = w' := by
  have hb := bitLen_bounds 64 y (by omega) (by omega) (by omega)
  have hbl : Lib.bitLen y ≤ 64 := Lib.bitLen_le y 64 (by omega) (by omega)
  have hb0 : 0 < Lib.bitLen y := by
    rcases Nat.eq_zero_or_pos (Lib.bitLen y) with h | h
    · rw [h] at hb; omega
    · exact h
  obtain ⟨s, hs⟩ : ∃ s, Lib.bitLen y + s = 64 := ⟨64 - Lib.bitLen y, by omega⟩
  have hs63 : s ≤ 63 := by omega
  have hP : 0 < 2 ^ s := Nat.two_pow_pos s
  have hT : 0 < 2 ^ (64 - s) := Nat.two_pow_pos _
  have hM : (18446744073709551616 : Nat) = 2 ^ (64 - s) * 2 ^ s := by rw [← Nat.pow_add, show 64 - s + s = 64 by omega]
  have hyP : 2 ^ (Lib.bitLen y) * 2 ^ s = 18446744073709551616 := by rw [← Nat.pow_add, hs]
  have y1 : 18446744073709551616 ≤ 2 * (y * 2 ^ s) := by
    have := Nat.mul_le_mul_right (2 ^ s) hb.1
    rw [hyP, Nat.mul_assoc] at this
    exact this
  have y2 : y * 2 ^ s < 18446744073709551616 := by
    have := Nat.mul_lt_mul_of_pos_right hb.2 hP
    rw [hyP] at this
    exact this
  obtain ⟨e1, e2, e3⟩ := norm_pure (hi := hi) (lo := lo) (y := y) hP hT hM h1 h3
  have ed := halvesB (Y := y * 2 ^ s) (U := hi * 2 ^ s + lo / 2 ^ (64 - s)) (L := lo * 2 ^ s % 18446744073709551616) (B := 4294967296) (by omega)
  rw [show 4294967296 * 4294967296 = 18446744073709551616 by decide, e1, Nat.mul_div_mul_right _ _ hP, Nat.mul_mod_mul_right] at ed
  have hL : lo * 2 ^ s % 18446744073709551616 < 18446744073709551616 := Nat.mod_lt _ (by omega)
  have cP : ((2 : Int) ^ s) = ((2 ^ s : Nat) : Int) := by simp
  have cT : ((2 : Int) ^ (64 - s)) = ((2 ^ (64 - s) : Nat) : Int) := by simp
  generalize hy : y * 2 ^ s = Y at *
  generalize hl : lo * 2 ^ s % 18446744073709551616 = L at *
  generalize hu : hi * 2 ^ s + lo / 2 ^ (64 - s) = U at *
  have r1 : IntKind.u64.wrap ((y : Int) * 2 ^ s) = (Y : Int) := by rw [cP, ← Int.natCast_mul, hy, IntKind.wrap_u64]; omega
  have hhi : hi * 2 ^ s < 18446744073709551616 := Nat.lt_of_le_of_lt (Nat.le_add_right _ (lo / 2 ^ (64 - s))) (by rw [hu]; omega)
  have r2 : bits .or .u64 (IntKind.u64.wrap ((hi : Int) * 2 ^ s)) ((lo : Int) / 2 ^ (64 - s)) = (U : Int) := by
    have c1 : IntKind.u64.wrap ((hi : Int) * 2 ^ s) = ((2 ^ s * hi : Nat) : Int) := by rw [cP, ← Int.natCast_mul, Nat.mul_comm (2 ^ s) hi, IntKind.wrap_u64]; omega
    have c2 : (lo : Int) / 2 ^ (64 - s) = ((lo / 2 ^ (64 - s) : Nat) : Int) := by rw [cT, Int.natCast_ediv]
    rw [c1, c2, bits_or_u64_nat _ _ (by rw [Nat.mul_comm]; exact hhi) (by omega), ← Nat.two_pow_add_eq_or_of_lt e3 hi, Nat.mul_comm (2 ^ s) hi, hu]
  have r3 : IntKind.u64.wrap ((lo : Int) * 2 ^ s) = (L : Int) := by rw [cP, ← Int.natCast_mul, ← hl, IntKind.wrap_u64]; omega
  have am : ∀ x : Nat, x < 18446744073709551616 → bits .and .u64 (x : Int) 4294967295 = ((x % 4294967296 : Nat) : Int) := fun x hx => by
    have h := bits_and_u64_nat x 4294967295 hx (by omega)
    have e : x &&& 4294967295 = x % 4294967296 := Nat.and_two_pow_sub_one_eq_mod x 32
    rw [e] at h
    exact h
  refine (div64_norm hi lo y s Y (Y / 4294967296) (Y % 4294967296) U L (L / 4294967296) (L % 4294967296) w h0 h1 h2 hs63 (by omega) r1 r2 r3 (am Y y2) (by omega) (by omega) (am L hL) (by omega) y2 e2 (by omega) (by omega) (by omega) (by omega) _ _ _ _ rfl rfl rfl rfl).mono ?_
  rintro e w' ⟨rfl, rfl⟩
  refine ⟨?_, rfl⟩
  rw [← ed.2, cP, Int.natCast_mul, Int.mul_ediv_cancel _ (by omega), ed.1]
  rfl
end Go.Proofs.YtekdkckgmleofaaGreat

/- Contracts of package fix's functions at any part of a way. -/
namespace Go.Proofs.YtekdkckgmleofaaGreat
open Go.RowKit
theorem div64_any (p den : Nat) (hp : p < 18446744073709551616 * den) (h0 : 0 < den) (h1 : den < 18446744073709551616) (W : World) :
    Calls Tryz.prog 35 #[.int .u64 ((p : Int) / 18446744073709551616), .int .u64 ((p : Int) % 18446744073709551616), .int .u64 den] W fun e w' => e = .returned (.tuple #[.int .u64 ((p / den : Nat) : Int), .int .u64 ((p % den : Nat) : Int)]) ∧ ∃ n, w' = W.drewN n := by
  rcases Nat.eq_zero_or_pos (p / 18446744073709551616) with h | h
  · have e1 : (p : Int) / 18446744073709551616 = 0 := by omega
    have e2 : (p : Int) % 18446744073709551616 = (p : Int) := by omega
    rw [e1, e2]
    refine (div_low p den W (by omega) (by omega) (by omega)).mono ?_
    rintro e w' ⟨he, hw⟩
    rw [← Int.natCast_ediv, ← Int.natCast_emod] at he
    exact ⟨he, hw⟩
  · have e1 : (p : Int) / 18446744073709551616 = ((p / 18446744073709551616 : Nat) : Int) := by omega
    have e2 : (p : Int) % 18446744073709551616 = ((p % 18446744073709551616 : Nat) : Int) := by omega
    rw [e1, e2]
    have hd : p / 18446744073709551616 < den := Nat.div_lt_of_lt_mul hp
    refine (div64_calls (p / 18446744073709551616) (p % 18446744073709551616) den W h hd h1 (by omega)).mono ?_
    rintro e w' ⟨he, hw⟩
    rw [show p / 18446744073709551616 * 18446744073709551616 + p % 18446744073709551616 = p by omega] at he
    exact ⟨he, 0, hw.symm⟩
/-- Is a rest left? -/
def moreB (p den : Nat) : Bool := (((p % den : Nat) : Int) != 0)
theorem part_any (n num den : Nat) (w : World) (h0 : 0 < den) (h1 : den ≤ 4611686018427387904) (h2 : num ≤ den) (h4 : n < 18446744073709551616) :
    Calls Tryz.prog 178 #[.int .u64 n, .int .i64 num, .int .i64 den] w fun e w' => e = .returned (.tuple #[.int .u64 ((n * num / den : Nat) : Int), .bool (moreB (n * num) den)]) ∧ ∃ n, w' = w.drewN n := by
  have hM := Lib.hid (fun W => Tryz.bits_Mul64 n num h4 (by omega) W)
  have hp : n * num < 18446744073709551616 * den := Nat.lt_of_le_of_lt (Nat.mul_le_mul_left n h2) (Nat.mul_lt_mul_of_pos_right h4 h0)
  have HQ := Lib.hid (fun W => div64_any (n * num) den hp h0 (by omega) W)
  have HB : Hid (moreB (n * num) den = (((n * num % den : Nat) : Int) != 0)) := Lib.hid rfl
  generalize moreB (n * num) den = mb at *
  generalize hq : n * num / den = Q at *
  generalize hr : n * num % den = R at *
  generalize n * num = p at *
  clear hq hr hp
  go_enter Tryz.func178, Tryz.ntmps178
  go_wp2_with fail
  refine (hM.out _).mono ?_
  rintro e w' ⟨rfl, rfl⟩
  go_wp2_with fail
  refine (HQ.out _).mono ?_
  rintro e w' ⟨rfl, nd, rfl⟩
  go_wp2_with fail
  go_ret2
  exact ⟨by rw [HB.out]; rfl, _, rfl⟩
theorem fpart_any (n k : Nat) (w : World) (h0 : 0 < k) (h1 : k ≤ 4611686018427387904) (h2 : n ≤ k) :
    Calls Tryz.prog 237 #[.int .i64 n, .int .i64 k] w fun e w' => e = .returned (.tuple #[.int .i64 ((65536 * n / k : Nat) : Int), .int .i64 0]) ∧ ∃ n, w' = w.drewN n := by
  have HP := Lib.hid (fun W => part_any 65536 n k W h0 h1 h2 (by omega))
  have HC := Lib.hid (fun W => fcheck_good n k W (by omega) (by omega) (by omega) (by omega))
  have hq : 65536 * n / k ≤ 65536 := Nat.div_le_of_le_mul (by rw [Nat.mul_comm k 65536]; exact Nat.mul_le_mul_left 65536 h2)
  generalize 65536 * n / k = Q at *
  generalize moreB (65536 * n) k = mb at *
  have hw : wrap64 (Q : Int) = (Q : Int) := by unfold wrap64; omega
  go_enter Tryz.func237, Tryz.ntmps237
  go_wp2_with fail
  refine (HC.out _).mono ?_
  rintro e w' ⟨rfl, rfl⟩
  go_wp2_with fail
  refine (HP.out _).mono ?_
  rintro e w' ⟨rfl, nd, rfl⟩
  go_wp2_with fail
  go_ret2
  exact ⟨rfl, _, rfl⟩
/-- Where a part of the way leads. -/
def lerpG (a b : Int) (n k : Nat) : Int :=
  if a ≤ b then wrap64 (a + wrap64 (((b - a).toNat * n / k : Nat) : Int))
  else if moreB ((a - b).toNat * n) k then wrap64 (a - wrap64 (IntKind.u64.wrap ((((a - b).toNat * n / k : Nat) : Int) + 1)))
  else wrap64 (a - wrap64 ((((a - b).toNat * n / k : Nat) : Int)))
theorem lerp_any (a b : Int) (n k : Nat) (w : World) (h0 : 0 < k) (h1 : k ≤ 4611686018427387904) (h2 : n ≤ k) (ha : I64 a) (hb : I64 b) :
    Calls Tryz.prog 141 #[.int .i64 a, .int .i64 b, .int .i64 n, .int .i64 k] w fun e w' => e = .returned (.tuple #[.int .i64 (lerpG a b n k), .int .i64 0]) ∧ ∃ n, w' = w.drewN n := by
  unfold I64 at ha hb
  have HC := Lib.hid (fun W => fcheck_good n k W (by omega) (by omega) (by omega) (by omega))
  by_cases hab : a ≤ b
  · have HL : Hid (lerpG a b n k = wrap64 (a + wrap64 (((b - a).toNat * n / k : Nat) : Int))) := Lib.hid (by unfold lerpG; rw [if_pos hab])
    have HP := Lib.hid (fun W => part_any (b - a).toNat n k W h0 h1 h2 (by omega))
    have hD : IntKind.u64.wrap (wrap64 (b - a)) = (((b - a).toNat : Nat) : Int) := by rw [IntKind.wrap_u64]; unfold wrap64; omega
    generalize lerpG a b n k = res at *
    generalize (b - a).toNat = D at *
    generalize moreB (D * n) k = mb at *
    generalize D * n / k = Q at *
    go_enter Tryz.func141, Tryz.ntmps141
    go_wp2_with fail
    refine (HC.out _).mono ?_
    rintro e w' ⟨rfl, rfl⟩
    go_wp2_with fail
    refine (HP.out _).mono ?_
    rintro e w' ⟨rfl, nd, rfl⟩
    go_wp2_with fail
    go_ret2
    exact ⟨by rw [HL.out]; rfl, _, rfl⟩
  · have hba : b < a := by omega
    have hD : IntKind.u64.wrap (wrap64 (a - b)) = (((a - b).toNat : Nat) : Int) := by rw [IntKind.wrap_u64]; unfold wrap64; omega
    have HP := Lib.hid (fun W => part_any (a - b).toNat n k W h0 h1 h2 (by omega))
    cases hm : moreB ((a - b).toNat * n) k with
    | true =>
      have HL : Hid (lerpG a b n k = wrap64 (a - wrap64 (IntKind.u64.wrap ((((a - b).toNat * n / k : Nat) : Int) + 1)))) := Lib.hid (by unfold lerpG; rw [if_neg hab, if_pos hm])
      rw [hm] at HP
      generalize lerpG a b n k = res at *
      clear hm
      generalize (a - b).toNat = D at *
      generalize D * n / k = Q at *
      go_enter Tryz.func141, Tryz.ntmps141
      go_wp2_with fail
      refine (HC.out _).mono ?_
      rintro e w' ⟨rfl, rfl⟩
      go_wp2_with fail
      refine (HP.out _).mono ?_
      rintro e w' ⟨rfl, nd, rfl⟩
      go_wp2_with fail
      go_ret2
      exact ⟨by rw [HL.out]; rfl, _, rfl⟩
    | false =>
      have HL : Hid (lerpG a b n k = wrap64 (a - wrap64 ((((a - b).toNat * n / k : Nat) : Int)))) := Lib.hid (by unfold lerpG; rw [if_neg hab, if_neg (by rw [hm]; simp)])
      rw [hm] at HP
      generalize lerpG a b n k = res at *
      clear hm
      generalize (a - b).toNat = D at *
      generalize D * n / k = Q at *
      go_enter Tryz.func141, Tryz.ntmps141
      go_wp2_with fail
      refine (HC.out _).mono ?_
      rintro e w' ⟨rfl, rfl⟩
      go_wp2_with fail
      refine (HP.out _).mono ?_
      rintro e w' ⟨rfl, nd, rfl⟩
      go_wp2_with fail
      go_ret2
      exact ⟨by rw [HL.out]; rfl, _, rfl⟩
theorem lerpG_bd (a b : Int) (n k : Nat) : I64 (lerpG a b n k) := by
  have wb : ∀ x, I64 (wrap64 x) := fun x => by unfold I64 wrap64; omega
  unfold lerpG
  split
  · exact wb _
  · split <;> exact wb _
end Go.Proofs.YtekdkckgmleofaaGreat

/- Contracts of package slew's functions. -/
namespace Go.Proofs.YtekdkckgmleofaaGreat
open Go.RowKit

theorem scheck_good (num den : Int) (w : World) (h1 : 1 ≤ num) (h2 : 1 ≤ den) (h3 : num ≤ 1048576) (h4 : den ≤ 1048576) :
    Calls Tryz.prog 33 #[.int .i64 num, .int .i64 den] w fun e w' => e = .returned (.int .i64 0) ∧ w = w' := by
  have hm : ¬ min num den < 1 := by omega
  have hx : ¬ 1048576 < max num den := by omega
  go_enter Tryz.func33, Tryz.ntmps33
  go_wp2
  go_ret
  exact ⟨rfl, rfl⟩
theorem scheck_bad (num den : Int) (w : World) (h : min num den < 1 ∨ 1048576 < max num den) :
    Calls Tryz.prog 33 #[.int .i64 num, .int .i64 den] w fun e w' => e = .returned (.int .i64 3) ∧ w = w' := by
  by_cases hm : min num den < 1
  · go_enter Tryz.func33, Tryz.ntmps33
    go_wp2
    go_ret
    exact ⟨rfl, rfl⟩
  · have hx : 1048576 < max num den := by omega
    go_enter Tryz.func33, Tryz.ntmps33
    go_wp2
    go_ret
    exact ⟨rfl, rfl⟩

/-- How far a clock may go on. -/
def roomM (adv num den : Nat) : Int := min ((adv * num / den : Nat) : Int) 9223372036854775806 + 1
theorem roomM_bd (a n d : Nat) : 1 ≤ roomM a n d ∧ roomM a n d ≤ 9223372036854775807 := by unfold roomM; have := Int.natCast_nonneg (a * n / d); generalize ((a * n / d : Nat) : Int) = x at *; omega

theorem roomM_zero (n d : Nat) : roomM 0 n d = 1 := by unfold roomM; rw [Nat.zero_mul, Nat.zero_div]; rfl
theorem room_great {p den : Nat} (h : den ≤ p / 18446744073709551616) (hd : 0 < den) : 18446744073709551616 ≤ p / den := by
  rw [Nat.le_div_iff_mul_le hd]
  have := Nat.mul_le_mul_left 18446744073709551616 h
  have h2 := Nat.mul_div_le p 18446744073709551616
  omega

set_option maxHeartbeats 1000000 in
theorem room_calls (adv num den : Nat) (w : World) (ha : adv ≤ 9223372036854775807) (h1 : 1 ≤ num) (h2 : 1 ≤ den) (h3 : num ≤ 1048576) (h4 : den ≤ 1048576) :
    Calls Tryz.prog 14 #[.int .i64 adv, .int .i64 num, .int .i64 den] w fun e w' => e = .returned (.tuple #[.int .i64 (roomM adv num den), .int .i64 0]) ∧ ∃ n, w' = w.drewN n := by
  have HC := Lib.hid (fun W => scheck_good num den W (by omega) (by omega) (by omega) (by omega))
  have HM := Lib.hid (fun W => Tryz.bits_Mul64 adv num (by omega) (by omega) W)
  have hpl : adv * num ≤ 9223372036854775807 * 1048576 := Nat.mul_le_mul ha h3
  have hmx : max (0 : Int) (adv : Int) = (adv : Int) := by omega
  have hR : Hid (roomM adv num den = min ((adv * num / den : Nat) : Int) 9223372036854775806 + 1) := Lib.hid rfl
  generalize roomM adv num den = R at *
  generalize adv * num = p at *
  by_cases hbig : den ≤ p / 18446744073709551616
  · have hg := room_great hbig (by omega)
    have HRE : Hid (R = 9223372036854775807) := Lib.hid (by rw [hR.out]; omega)
    have hbi : ((den : Int)) ≤ (p : Int) / 18446744073709551616 := by omega
    clear hg hbig
    go_enter Tryz.func14, Tryz.ntmps14
    go_wp2_with fail
    refine (HC.out _).mono ?_
    rintro e w' ⟨rfl, rfl⟩
    go_wp2_with fail
    refine (HM.out _).mono ?_
    rintro e w' ⟨rfl, rfl⟩
    go_wp2_with fail
    go_ret2
    exact ⟨by rw [HRE.out]; rfl, 0, rfl⟩
  · have hbi : (p : Int) / 18446744073709551616 < (den : Int) := by omega
    have HQ : Hid (∀ W, Calls Tryz.prog 35 #[.int .u64 ((p : Int) / 18446744073709551616), .int .u64 ((p : Int) % 18446744073709551616), .int .u64 den] W fun e w' => ∃ r : Int, e = .returned (.tuple #[.int .u64 ((p / den : Nat) : Int), .int .u64 r]) ∧ ∃ n, w' = W.drewN n) := Lib.hid (by
      intro W
      rcases Nat.eq_zero_or_pos (p / 18446744073709551616) with h | h
      · have e1 : (p : Int) / 18446744073709551616 = 0 := by omega
        have e2 : (p : Int) % 18446744073709551616 = (p : Int) := by omega
        rw [e1, e2]
        refine (div_low p den W (by omega) (by omega) (by omega)).mono ?_
        rintro e w' ⟨he, hw⟩
        exact ⟨_, he, hw⟩
      · have e1 : (p : Int) / 18446744073709551616 = ((p / 18446744073709551616 : Nat) : Int) := by omega
        have e2 : (p : Int) % 18446744073709551616 = ((p % 18446744073709551616 : Nat) : Int) := by omega
        rw [e1, e2]
        refine (div64_calls (p / 18446744073709551616) (p % 18446744073709551616) den W h (by omega) (by omega) (by omega)).mono ?_
        rintro e w' ⟨he, hw⟩
        rw [show p / 18446744073709551616 * 18446744073709551616 + p % 18446744073709551616 = p by omega] at he
        exact ⟨_, he, 0, hw.symm⟩)
    have hQ0 := Int.natCast_nonneg (p / den)
    have hQ1 : ((p / den : Nat) : Int) ≤ 18446744073709551615 := by
      have h := Nat.div_lt_of_lt_mul (m := p) (n := den) (k := 18446744073709551616) (by omega)
      omega
    generalize ((p / den : Nat) : Int) = Q at *
    have HR1 := hR
    clear hbig hR
    go_enter Tryz.func14, Tryz.ntmps14
    go_wp2_with fail
    refine (HC.out _).mono ?_
    rintro e w' ⟨rfl, rfl⟩
    go_wp2_with fail
    refine (HM.out _).mono ?_
    rintro e w' ⟨rfl, rfl⟩
    go_wp2_with fail
    refine (HQ.out _).mono ?_
    rintro e w' ⟨r, rfl, nd, rfl⟩
    go_wp2_with fail
    go_ret2
    refine ⟨?_, _, rfl⟩
    rw [HR1.out]
    rfl

theorem snew_bad (num den : Int) (w : World) (h : min num den < 1 ∨ 1048576 < max num den) :
    Calls Tryz.prog 39 #[.int .i64 num, .int .i64 den] w fun e w' => e = .returned (.tuple #[.pointer none, .int .i64 3]) ∧ w = w' := by
  have HC := Lib.hid (fun W => scheck_bad num den W h)
  clear h
  go_enter Tryz.func39, Tryz.ntmps39
  go_wp2_with fail
  refine (HC.out _).mono ?_
  rintro e w' ⟨rfl, rfl⟩
  go_wp2_with fail
  go_ret2
  exact ⟨rfl, rfl⟩
theorem snew_good (num den : Int) (w : World) (h1 : 1 ≤ num) (h2 : 1 ≤ den) (h3 : num ≤ 1048576) (h4 : den ≤ 1048576) :
    Calls Tryz.prog 39 #[.int .i64 num, .int .i64 den] w fun e w' => e = .returned (.tuple #[.pointer (some ⟨w.heap.size, 0, none⟩), .int .i64 0]) ∧
      w' = w.alloc (.cells #[.int .i64 num, .int .i64 den, .int .i64 0, .int .i64 0, .int .i64 0] 151) := by
  have HC := Lib.hid (fun W => scheck_good num den W h1 h2 h3 h4)
  go_enter Tryz.func39, Tryz.ntmps39
  go_wp2_with fail
  refine (HC.out _).mono ?_
  rintro e w' ⟨rfl, rfl⟩
  go_wp2_with fail
  go_ret2
  exact ⟨rfl, rfl⟩

/-- A clock: where it stands, the greatest reading, whether it was begun. -/
structure SlewM where
  at_ : Int
  last : Int
  begun : Bool
/-- A clock at block p. -/
def Slew (w : World) (p : Nat) (num den : Nat) (c : SlewM) : Prop := Blk w p [.int .i64 num, .int .i64 den, .int .i64 c.at_, .int .i64 c.last, .int .i64 (if c.begun then 1 else 0)] 151 ∧ I64 c.at_ ∧ I64 c.last
/-- Where it begins, at a first reading. -/
def baseM (c : SlewM) (reading want : Int) : SlewM := if c.begun then c else ⟨want, reading, true⟩
/-- How far it may go on. -/
def roomOf (num den : Nat) (c : SlewM) (reading : Int) : Int := roomM (satI (max reading c.last - c.last)).toNat num den
/-- It goes on. -/
def toM (num den : Nat) (c : SlewM) (reading want : Int) : SlewM :=
  ⟨max (baseM c reading want).at_ (min want (satI ((baseM c reading want).at_ + roomOf num den (baseM c reading want) reading))), max (baseM c reading want).last reading, true⟩

theorem roomOf_bd (num den : Nat) (c : SlewM) (r : Int) : 1 ≤ roomOf num den c r ∧ roomOf num den c r ≤ 9223372036854775807 := roomM_bd _ _ _

theorem max_I64 {a b : Int} (ha : I64 a) (hb : I64 b) : I64 (max a b) := by unfold I64 at *; omega
theorem min_I64 {a b : Int} (ha : I64 a) (hb : I64 b) : I64 (min a b) := by unfold I64 at *; omega

set_option maxHeartbeats 2000000 in
set_option maxRecDepth 100000 in
theorem to_begun (w : World) (p : Nat) (num den : Nat) (a l r want : Int) (h : Slew w p num den ⟨a, l, true⟩) (hr : I64 r) (hw : I64 want) (h1 : 1 ≤ num) (h2 : 1 ≤ den) (h3 : num ≤ 1048576) (h4 : den ≤ 1048576) :
    Calls Tryz.prog 57 #[.pointer (some ⟨p, 0, none⟩), .int .i64 r, .int .i64 want] w fun e w' => e = .returned (.tuple #[.int .i64 (toM num den ⟨a, l, true⟩ r want).at_, .int .i64 0]) ∧
      Slew w' p num den (toM num den ⟨a, l, true⟩ r want) ∧ Kept (· = p) w w' := by
  obtain ⟨hb, ha, hl⟩ := h
  dsimp only at hb ha hl
  have HB := Lib.hid hb
  have c0 := hb.cell (i := 0) rfl
  have c1 := hb.cell (i := 1) rfl
  have c2 := hb.cell (i := 2) rfl
  have c3 := hb.cell (i := 3) rfl
  have c4 := hb.cell (i := 4) rfl
  have f2 := hb.free 2
  have f3 := hb.free 3
  have f4 := hb.free 4
  clear hb
  have HADV : Hid (∃ adv : Nat, satI (max r l - l) = (adv : Int) ∧ adv ≤ 9223372036854775807 ∧ (satI (max r l - l)).toNat = adv) := Lib.hid (by
    have h1 := satI_bd (max r l - l)
    have h2 : 0 ≤ satI (max r l - l) := by unfold satI; split <;> (try split) <;> omega
    unfold I64 at h1
    exact ⟨(satI (max r l - l)).toNat, by omega, by omega, rfl⟩)
  obtain ⟨adv, hadv, hadv2, hadv3⟩ := HADV.out
  have HA3 := Lib.hid hadv3
  have hIM : I64 (max r l) := max_I64 hr hl
  have HS := Lib.hid (fun W => fsub_calls (max r l) l W hIM hl)
  have HRM := Lib.hid (fun W => room_calls adv num den W hadv2 h1 h2 h3 h4)
  have HRB := roomM_bd adv num den
  have HAD := Lib.hid (fun W => fadd_calls a (roomM adv num den) W ha ⟨by omega, by omega⟩)
  clear hadv3 hadv2 HADV hIM
  generalize hRR : roomM adv num den = R at *
  have HRR := Lib.hid hRR
  clear hRR
  go_enter Tryz.func57, Tryz.ntmps57
  go_wp2_with fail
  go_quiet ((first | (go_at_call 15; exact Calls.quiet_of_same ((HS.out _).mono (fun _ _ h => ⟨h.1, h.2.symm⟩))) | (go_at_call 14; exact Calls.quiet_of (HRM.out _))))
  go_wp2_with fail
  refine region_tail 16 (by kernel_rfl) (by kernel_rfl) ?_
  simp only [List.take_succ_cons, List.take_zero, List.drop_succ_cons, List.drop_zero]
  repeat still_step
  still_call ((HAD.out _).mono (fun _ _ h => ⟨h.1, h.2.symm⟩))
  repeat still_step
  refine wpStill_nil ?_
  go_wp2
  have HM : Hid (toM num den ⟨a, l, true⟩ r want = ⟨max a (min want (satI (a + R))), max l r, true⟩) := Lib.hid (by unfold toM baseM roomOf; simp only [if_true]; rw [HA3.out, HRR.out])
  rw [HM.out]
  go_ret2
  exact ⟨rfl, ⟨((HB.out.set 4 _).set 3 _).set 2 _, max_I64 ha (min_I64 hw (satI_bd _)), max_I64 hl hr⟩, (((((Kept.refl (· = p) w).drewN _).setCell (a := ⟨p, 4, none⟩) (.inl rfl) _).setCell (a := ⟨p, 3, none⟩) (.inl rfl) _).setCell (a := ⟨p, 2, none⟩) (.inl rfl) _).drew⟩

set_option maxHeartbeats 2000000 in
set_option maxRecDepth 100000 in
theorem to_first (w : World) (p : Nat) (num den : Nat) (a l r want : Int) (h : Slew w p num den ⟨a, l, false⟩) (hr : I64 r) (hw : I64 want) (h1 : 1 ≤ num) (h2 : 1 ≤ den) (h3 : num ≤ 1048576) (h4 : den ≤ 1048576) :
    Calls Tryz.prog 57 #[.pointer (some ⟨p, 0, none⟩), .int .i64 r, .int .i64 want] w fun e w' => e = .returned (.tuple #[.int .i64 (toM num den ⟨a, l, false⟩ r want).at_, .int .i64 0]) ∧
      Slew w' p num den (toM num den ⟨a, l, false⟩ r want) ∧ Kept (· = p) w w' := by
  obtain ⟨hb, ha, hl⟩ := h
  dsimp only at hb ha hl
  have HB := Lib.hid hb
  have c0 := hb.cell (i := 0) rfl
  have c1 := hb.cell (i := 1) rfl
  have c2 := hb.cell (i := 2) rfl
  have c3 := hb.cell (i := 3) rfl
  have c4 := hb.cell (i := 4) rfl
  have f2 := hb.free 2
  have f3 := hb.free 3
  have f4 := hb.free 4
  clear hb
  have HS : Hid (∀ W, Calls Tryz.prog 15 #[.int .i64 r, .int .i64 r] W fun e w' => e = .returned (.int .i64 0) ∧ w' = W) := Lib.hid (fun W => (fsub_calls r r W hr hr).mono (fun e w' h => ⟨by rw [h.1, Int.sub_self]; rfl, h.2.symm⟩))
  have HRM : Hid (∀ W, Calls Tryz.prog 14 #[.int .i64 0, .int .i64 num, .int .i64 den] W fun e w' => e = .returned (.tuple #[.int .i64 1, .int .i64 0]) ∧ ∃ n, w' = W.drewN n) := Lib.hid (fun W => (room_calls 0 num den W (by omega) h1 h2 h3 h4).mono (fun e w' h => ⟨by rw [h.1, roomM_zero], h.2⟩))
  have HAD := Lib.hid (fun W => fadd_calls want 1 W hw ⟨by omega, by omega⟩)
  go_enter Tryz.func57, Tryz.ntmps57
  go_wp2_with fail
  go_quiet ((first | (go_at_call 15; exact Calls.quiet_of_same (HS.out _)) | (go_at_call 14; exact Calls.quiet_of (HRM.out _))))
  go_wp2_with fail
  refine region_tail 16 (by kernel_rfl) (by kernel_rfl) ?_
  simp only [List.take_succ_cons, List.take_zero, List.drop_succ_cons, List.drop_zero]
  repeat still_step
  still_call ((HAD.out _).mono (fun _ _ h => ⟨h.1, h.2.symm⟩))
  repeat still_step
  refine wpStill_nil ?_
  go_wp2
  have HM : Hid (toM num den ⟨a, l, false⟩ r want = ⟨max want (min want (satI (want + 1))), r, true⟩) := Lib.hid (by
    unfold toM baseM roomOf
    simp only [Bool.false_eq_true, if_false, Int.max_self, Int.sub_self]
    rw [show (satI 0).toNat = 0 from rfl, roomM_zero])
  rw [HM.out]
  go_ret2
  exact ⟨rfl, ⟨((((HB.out.set 2 _).set 3 _).set 4 _).set 3 _).set 2 _, max_I64 hw (min_I64 hw (satI_bd _)), hr⟩, (((((((Kept.refl (· = p) w).setCell (a := ⟨p, 2, none⟩) (.inl rfl) _).setCell (a := ⟨p, 3, none⟩) (.inl rfl) _).drewN _).setCell (a := ⟨p, 4, none⟩) (.inl rfl) _).setCell (a := ⟨p, 3, none⟩) (.inl rfl) _).setCell (a := ⟨p, 2, none⟩) (.inl rfl) _).drew⟩
end Go.Proofs.YtekdkckgmleofaaGreat
