/- Joined texts. -/
import Derived.Test.YtekdkckgmleofaaGreatXs09
import Derived.Test.YtekdkckgmleofaaGreatXs07
import Derived.Deep.Cut
import Derived.Deep.CutBlock
import Derived.Deep.CutRange
import Derived.Deep.LoopGhost
set_option linter.unusedVariables false
set_option linter.unusedSimpArgs false
/- The contract of bits.Div64. -/
namespace Go.Proofs.YtekdkckgmleofaaGreat
open Go.RowKit

theorem wrap_nat (x : Int) : ∃ A : Nat, IntKind.u64.wrap x = (A : Int) ∧ (A : Int) < 18446744073709551616 ∧ ∃ k : Int, x = (A : Int) + 18446744073709551616 * k := by
  rw [IntKind.wrap_u64]
  exact ⟨(x % 18446744073709551616).toNat, by omega, by omega, x / 18446744073709551616, by omega⟩
set_option maxRecDepth 100000 in
set_option maxHeartbeats 4000000 in
theorem div64_norm (hi lo y s Y YH YL U L L1 L0 : Nat) (w : World) (h0 : 0 < hi) (h1 : hi < y) (h2 : y < 18446744073709551616) (hs : s ≤ 63) (hz : (64 : Int) - (Lib.bitLen y : Int) = (s : Int))
    (hY : IntKind.u64.wrap ((y : Int) * 2 ^ s) = (Y : Int)) (hU : bits .or .u64 (IntKind.u64.wrap ((hi : Int) * 2 ^ s)) ((lo : Int) / 2 ^ (64 - s)) = (U : Int)) (hL : IntKind.u64.wrap ((lo : Int) * 2 ^ s) = (L : Int))
    (hYL : bits .and .u64 (Y : Int) 4294967295 = (YL : Int)) (hYH : (Y : Int) / 4294967296 = (YH : Int)) (hL1 : (L : Int) / 4294967296 = (L1 : Int)) (hL0 : bits .and .u64 (L : Int) 4294967295 = (L0 : Int))
    (b0 : 9223372036854775808 ≤ Y) (b1 : Y < 18446744073709551616) (b2 : U < Y) (b3 : L1 < 4294967296) (b4 : L0 < 4294967296) (b5 : Y = YH * 4294967296 + YL) (b6 : YL < 4294967296)
    (Q R1 Q0 R0 : Nat) (hQ : (U * 4294967296 + L1) / Y = Q) (hR1 : (U * 4294967296 + L1) % Y = R1) (hQ0 : (R1 * 4294967296 + L0) / Y = Q0) (hR0 : (R1 * 4294967296 + L0) % Y = R0) :
    Calls Tryz.prog 35 #[.int .u64 hi, .int .u64 lo, .int .u64 y] w fun e w' => e = .returned (.tuple #[.int .u64 ((Q : Int) * 4294967296 + (Q0 : Int)), .int .u64 ((R0 : Int) / 2 ^ s)]) ∧ w = w' := by
  have HZ := Lib.hid (fun W => Tryz.bits_LeadingZeros64 y W (by omega) (by omega))
  have HB5 := Lib.hid b5
  have bYH : 2147483648 ≤ YH := by omega
  have bYH2 : YH < 4294967296 := by omega
  clear b5
  obtain ⟨q0, hq0⟩ : ∃ q0 : Nat, (U : Int) / (YH : Int) = (q0 : Int) := ⟨U / YH, (Int.natCast_ediv _ _).symm⟩
  obtain ⟨m0, hm0⟩ : ∃ m0 : Nat, (q0 : Int) * (YH : Int) = (m0 : Int) := ⟨q0 * YH, (Int.natCast_mul _ _).symm⟩
  have hq0n : q0 = U / YH := by have e : (U : Int) / (YH : Int) = ((U / YH : Nat) : Int) := (Int.natCast_ediv _ _).symm; rw [e] at hq0; omega
  have hm0n : m0 = q0 * YH := by have e := Int.natCast_mul q0 YH; rw [hm0] at e; exact Int.ofNat.inj (by exact e.symm)
  have hdm := Nat.div_add_mod U YH
  have hml := Nat.mod_lt U (show 0 < YH by omega)
  rw [← hq0n, Nat.mul_comm, ← hm0n] at hdm
  obtain ⟨r0, hr0⟩ : ∃ r0 : Nat, (U : Int) - (m0 : Int) = (r0 : Int) := ⟨U % YH, by omega⟩
  have hr1 : r0 < 4294967296 := by omega
  have hm1 : m0 ≤ U := by omega
  have hq1 : q0 ≤ U := by rw [hq0n]; exact Nat.div_le_self _ _
  have HQ1 : Hid (Q ≤ q0) := Lib.hid (by rw [← hQ, hq0n]; exact half_start (by omega) (by omega) HB5.out rfl b3)
  have HI0 : Hid (q0 * YH + r0 = U) := Lib.hid (by rw [← hm0n]; omega)
  have HLT : Hid (Q < 4294967296) := Lib.hid (by rw [← hQ]; exact half_lt rfl b3 b2)
  clear hq0n hm0n hdm hml
  have HQ := Lib.hid hQ
  have HR1 := Lib.hid hR1
  have HQ0 := Lib.hid hQ0
  have HR0 := Lib.hid hR0
  clear hQ hR1 hQ0 hR0
  go_enter Tryz.func35, Tryz.ntmps35
  go_wp2_with fail
  refine (HZ.out _).mono ?_
  rintro e w' ⟨rfl, rfl⟩
  rw [Int.toNat_natCast, hz]
  go_upto_block 0 with (fail)
  go_cut [15] from 67 (fun s15 wx => s15 = .int .u64 Q ∧ w' = wx)
  case first =>
    clear hq0 hm0 hr0 hY hU hL hYL hYH hL1 hL0 hz HZ h0 h1 h2 hs
    go_wp2_with fail
    go_loopg [15, 16] (q0) (fun gk a b wr => ∃ q r : Nat, a = .int .u64 q ∧ b = .int .u64 r ∧ q ≤ gk ∧ Q ≤ q ∧ q * YH + r = U ∧ r < 4294967296 ∧ w' = wr)
    case atStart => exact ⟨q0, r0, rfl, rfl, Nat.le_refl _, HQ1.out, HI0.out, hr1, rfl⟩
    case round =>
      obtain ⟨q, r, rfl, rfl, hg, hQq, hinv, hr, rfl⟩ := hrel
      have HI := Lib.hid hinv
      have hqu : (q : Int) ≤ 18446744073709551615 := by have h1 : q ≤ q * YH := Nat.le_mul_of_pos_right q (by omega); omega
      clear hinv
      by_cases hbig : (4294967296 : Int) ≤ (q : Int)
      · have hlt : Q < q := by have := HLT.out; omega
        obtain ⟨k, hk⟩ : ∃ k : Nat, (q : Int) - 1 = (k : Int) := ⟨q - 1, by omega⟩
        have hkq : q = k + 1 := by omega
        have HIK : Hid (k * YH + (r + YH) = U) := Lib.hid (by have := HI.out; rw [hkq, Nat.add_mul, Nat.one_mul] at this; omega)
        have HKQ := Lib.hid hkq
        clear hkq
        have hQk : Q ≤ k := by have := HKQ.out; omega
        have hkg : k < gk := by have := HKQ.out; omega
        by_cases hover : (4294967296 : Int) ≤ (r : Int) + (YH : Int)
        · have heq : k = Q := by
            have hk32 : k < 4294967296 := by
              rcases Nat.lt_or_ge k 4294967296 with h | h
              · exact h
              · have := half_big HB5.out b6 HIK.out b2 h; omega
            rw [← HQ.out]
            refine half_done (by omega) HB5.out HIK.out rfl ?_ (by rw [HQ.out]; exact hQk)
            have h1 : k * YL ≤ 4294967295 * 4294967295 := Nat.mul_le_mul (by omega) (by omega)
            have h2 : 4294967296 * 4294967296 ≤ (r + YH) * 4294967296 := Nat.mul_le_mul_right _ (by omega)
            omega
          subst heq
          go_wp2_with fail
          go_meet
          exact ⟨rfl, rfl⟩
        · go_wp2_with fail
          go_roundg (gk - 1)
          case measure => omega
          case rel => exact ⟨k, r + YH, rfl, by go_num, by omega, hQk, HIK.out, by omega, rfl⟩
      · obtain ⟨pq, hpq⟩ : ∃ pq : Nat, (q : Int) * (YL : Int) = (pq : Int) := ⟨q * YL, (Int.natCast_mul _ _).symm⟩
        have hpn : pq = q * YL := by have e := Int.natCast_mul q YL; rw [hpq] at e; exact Int.ofNat.inj (by exact e.symm)
        have hpl : (pq : Int) ≤ 18446744065119617025 := by have h1 : q * YL ≤ 4294967295 * 4294967295 := Nat.mul_le_mul (by omega) (by omega); omega
        have HPN := Lib.hid hpn
        clear hpn
        by_cases hgt : (4294967296 : Int) * (r : Int) + (L1 : Int) < (pq : Int)
        · have hlt : Q < q := by rw [← HQ.out]; exact half_more HB5.out HI.out rfl (by rw [← HPN.out]; omega)
          obtain ⟨k, hk⟩ : ∃ k : Nat, (q : Int) - 1 = (k : Int) := ⟨q - 1, by omega⟩
          have hkq : q = k + 1 := by omega
          have HIK : Hid (k * YH + (r + YH) = U) := Lib.hid (by have := HI.out; rw [hkq, Nat.add_mul, Nat.one_mul] at this; omega)
          have HKQ := Lib.hid hkq
          clear hkq
          have hQk : Q ≤ k := by have := HKQ.out; omega
          have hkg : k < gk := by have := HKQ.out; omega
          by_cases hover : (4294967296 : Int) ≤ (r : Int) + (YH : Int)
          · have heq : k = Q := by
              have hk32 : k < 4294967296 := by
                rcases Nat.lt_or_ge k 4294967296 with h | h
                · exact h
                · have := half_big HB5.out b6 HIK.out b2 h; omega
              rw [← HQ.out]
              refine half_done (by omega) HB5.out HIK.out rfl ?_ (by rw [HQ.out]; exact hQk)
              have h1 : k * YL ≤ 4294967295 * 4294967295 := Nat.mul_le_mul (by omega) (by omega)
              have h2 : 4294967296 * 4294967296 ≤ (r + YH) * 4294967296 := Nat.mul_le_mul_right _ (by omega)
              omega
            subst heq
            go_wp2_with fail
            go_meet
            exact ⟨rfl, rfl⟩
          · go_wp2_with fail
            go_roundg (gk - 1)
            case measure => omega
            case rel => exact ⟨k, r + YH, rfl, by go_num, by omega, hQk, HIK.out, by omega, rfl⟩
        · have heq : q = Q := by rw [← HQ.out]; exact half_done (by omega) HB5.out HI.out rfl (by rw [← HPN.out]; omega) (by rw [HQ.out]; exact hQq)
          subst heq
          go_wp2_with fail
          go_meet
          exact ⟨rfl, rfl⟩
  case rest =>
    obtain ⟨rfl, rfl⟩ := hcut
    have hNQ := Nat.div_add_mod (U * 4294967296 + L1) Y
    rw [HQ.out, HR1.out] at hNQ
    have hR1Y : R1 < Y := by rw [← HR1.out]; exact Nat.mod_lt _ (by omega)
    obtain ⟨z, hzz⟩ : ∃ z : Nat, (Q : Int) * (Y : Int) = (z : Int) := ⟨Q * Y, (Int.natCast_mul _ _).symm⟩
    have hzn : z = Y * Q := by have e := Int.natCast_mul Q Y; rw [hzz] at e; rw [Nat.mul_comm]; exact Int.ofNat.inj (by exact e.symm)
    rw [← hzn] at hNQ
    obtain ⟨A, hA, hA2, ka, hka⟩ := wrap_nat ((U : Int) * 4294967296)
    obtain ⟨B, hB, hB2, kb, hkb⟩ := wrap_nat ((A : Int) + (L1 : Int))
    obtain ⟨C, hC, hC2, kc, hkc⟩ := wrap_nat (z : Int)
    have hD : IntKind.u64.wrap ((B : Int) - (C : Int)) = (R1 : Int) := by rw [IntKind.wrap_u64]; omega
    clear hNQ hzn hka hkb hkc
    obtain ⟨p0, hp0⟩ : ∃ p0 : Nat, (R1 : Int) / (YH : Int) = (p0 : Int) := ⟨R1 / YH, (Int.natCast_ediv _ _).symm⟩
    obtain ⟨n0, hn0⟩ : ∃ n0 : Nat, (p0 : Int) * (YH : Int) = (n0 : Int) := ⟨p0 * YH, (Int.natCast_mul _ _).symm⟩
    have hp0n : p0 = R1 / YH := by have e : (R1 : Int) / (YH : Int) = ((R1 / YH : Nat) : Int) := (Int.natCast_ediv _ _).symm; rw [e] at hp0; omega
    have hn0n : n0 = p0 * YH := by have e := Int.natCast_mul p0 YH; rw [hn0] at e; exact Int.ofNat.inj (by exact e.symm)
    have hdm := Nat.div_add_mod R1 YH
    have hml := Nat.mod_lt R1 (show 0 < YH by omega)
    rw [← hp0n, Nat.mul_comm, ← hn0n] at hdm
    obtain ⟨s0, hs0⟩ : ∃ s0 : Nat, (R1 : Int) - (n0 : Int) = (s0 : Int) := ⟨R1 % YH, by omega⟩
    have hs1 : s0 < 4294967296 := by omega
    have hn1 : (n0 : Int) ≤ (R1 : Int) := by omega
    have hp1 : p0 ≤ R1 := by rw [hp0n]; exact Nat.div_le_self _ _
    have HQ2 : Hid (Q0 ≤ p0) := Lib.hid (by rw [← HQ0.out, hp0n]; exact half_start (by omega) (by omega) HB5.out rfl b4)
    have HI2 : Hid (p0 * YH + s0 = R1) := Lib.hid (by rw [← hn0n]; omega)
    have HLT2 : Hid (Q0 < 4294967296) := Lib.hid (by rw [← HQ0.out]; exact half_lt rfl b4 hR1Y)
    clear hp0n hn0n hdm hml
    go_upto_block 2 with (fail)
    go_cut [18] from 102 (fun s18 wx => s18 = .int .u64 Q0 ∧ w' = wx)
    case first =>
      clear hY hU hL hYL hYH hL1 hL0 hz HZ hzz hA hB hC hD
      go_wp2_with fail
      go_loopg [18, 16] (p0) (fun gk a b wr => ∃ q r : Nat, a = .int .u64 q ∧ b = .int .u64 r ∧ q ≤ gk ∧ Q0 ≤ q ∧ q * YH + r = R1 ∧ r < 4294967296 ∧ w' = wr)
      case atStart => exact ⟨p0, s0, rfl, rfl, Nat.le_refl _, HQ2.out, HI2.out, hs1, rfl⟩
      case round =>
        obtain ⟨q, r, rfl, rfl, hg, hQq, hinv, hr, rfl⟩ := hrel
        have HI := Lib.hid hinv
        have hqu : (q : Int) ≤ 18446744073709551615 := by have h1 : q ≤ q * YH := Nat.le_mul_of_pos_right q (by omega); omega
        clear hinv
        by_cases hbig : (4294967296 : Int) ≤ (q : Int)
        · have hlt : Q0 < q := by have := HLT2.out; omega
          obtain ⟨k, hk⟩ : ∃ k : Nat, (q : Int) - 1 = (k : Int) := ⟨q - 1, by omega⟩
          have hkq : q = k + 1 := by omega
          have HIK : Hid (k * YH + (r + YH) = R1) := Lib.hid (by have := HI.out; rw [hkq, Nat.add_mul, Nat.one_mul] at this; omega)
          have HKQ := Lib.hid hkq
          clear hkq
          have hQk : Q0 ≤ k := by have := HKQ.out; omega
          have hkg : k < gk := by have := HKQ.out; omega
          by_cases hover : (4294967296 : Int) ≤ (r : Int) + (YH : Int)
          · have heq : k = Q0 := by
              have hk32 : k < 4294967296 := by
                rcases Nat.lt_or_ge k 4294967296 with h | h
                · exact h
                · have := half_big HB5.out b6 HIK.out hR1Y h; omega
              rw [← HQ0.out]
              refine half_done (by omega) HB5.out HIK.out rfl ?_ (by rw [HQ0.out]; exact hQk)
              have h1 : k * YL ≤ 4294967295 * 4294967295 := Nat.mul_le_mul (by omega) (by omega)
              have h2 : 4294967296 * 4294967296 ≤ (r + YH) * 4294967296 := Nat.mul_le_mul_right _ (by omega)
              omega
            subst heq
            go_wp2_with fail
            go_meet
            exact ⟨rfl, rfl⟩
          · go_wp2_with fail
            go_roundg (gk - 1)
            case measure => omega
            case rel => exact ⟨k, r + YH, rfl, by go_num, by omega, hQk, HIK.out, by omega, rfl⟩
        · obtain ⟨pq, hpq⟩ : ∃ pq : Nat, (q : Int) * (YL : Int) = (pq : Int) := ⟨q * YL, (Int.natCast_mul _ _).symm⟩
          have hpn : pq = q * YL := by have e := Int.natCast_mul q YL; rw [hpq] at e; exact Int.ofNat.inj (by exact e.symm)
          have hpl : (pq : Int) ≤ 18446744065119617025 := by have h1 : q * YL ≤ 4294967295 * 4294967295 := Nat.mul_le_mul (by omega) (by omega); omega
          have HPN := Lib.hid hpn
          clear hpn
          by_cases hgt : (4294967296 : Int) * (r : Int) + (L0 : Int) < (pq : Int)
          · have hlt : Q0 < q := by rw [← HQ0.out]; exact half_more HB5.out HI.out rfl (by rw [← HPN.out]; omega)
            obtain ⟨k, hk⟩ : ∃ k : Nat, (q : Int) - 1 = (k : Int) := ⟨q - 1, by omega⟩
            have hkq : q = k + 1 := by omega
            have HIK : Hid (k * YH + (r + YH) = R1) := Lib.hid (by have := HI.out; rw [hkq, Nat.add_mul, Nat.one_mul] at this; omega)
            have HKQ := Lib.hid hkq
            clear hkq
            have hQk : Q0 ≤ k := by have := HKQ.out; omega
            have hkg : k < gk := by have := HKQ.out; omega
            by_cases hover : (4294967296 : Int) ≤ (r : Int) + (YH : Int)
            · have heq : k = Q0 := by
                have hk32 : k < 4294967296 := by
                  rcases Nat.lt_or_ge k 4294967296 with h | h
                  · exact h
                  · have := half_big HB5.out b6 HIK.out hR1Y h; omega
                rw [← HQ0.out]
                refine half_done (by omega) HB5.out HIK.out rfl ?_ (by rw [HQ0.out]; exact hQk)
                have h1 : k * YL ≤ 4294967295 * 4294967295 := Nat.mul_le_mul (by omega) (by omega)
                have h2 : 4294967296 * 4294967296 ≤ (r + YH) * 4294967296 := Nat.mul_le_mul_right _ (by omega)
                omega
              subst heq
              go_wp2_with fail
              go_meet
              exact ⟨rfl, rfl⟩
            · go_wp2_with fail
              go_roundg (gk - 1)
              case measure => omega
              case rel => exact ⟨k, r + YH, rfl, by go_num, by omega, hQk, HIK.out, by omega, rfl⟩
          · have heq : q = Q0 := by rw [← HQ0.out]; exact half_done (by omega) HB5.out HI.out rfl (by rw [← HPN.out]; omega) (by rw [HQ0.out]; exact hQq)
            subst heq
            go_wp2_with fail
            go_meet
            exact ⟨rfl, rfl⟩
    case rest =>
      obtain ⟨rfl, rfl⟩ := hcut
      have hNQ := Nat.div_add_mod (R1 * 4294967296 + L0) Y
      rw [HQ0.out, HR0.out] at hNQ
      have hR0Y : R0 < Y := by rw [← HR0.out]; exact Nat.mod_lt _ (by omega)
      obtain ⟨z2, hz2⟩ : ∃ z2 : Nat, (Q0 : Int) * (Y : Int) = (z2 : Int) := ⟨Q0 * Y, (Int.natCast_mul _ _).symm⟩
      have hzn : z2 = Y * Q0 := by have e := Int.natCast_mul Q0 Y; rw [hz2] at e; rw [Nat.mul_comm]; exact Int.ofNat.inj (by exact e.symm)
      rw [← hzn] at hNQ
      obtain ⟨A2, hA2', hA22, ka2, hka2⟩ := wrap_nat ((R1 : Int) * 4294967296)
      obtain ⟨B2, hB2', hB22, kb2, hkb2⟩ := wrap_nat ((A2 : Int) + (L0 : Int))
      obtain ⟨C2, hC2', hC22, kc2, hkc2⟩ := wrap_nat (z2 : Int)
      have hD2 : IntKind.u64.wrap ((B2 : Int) - (C2 : Int)) = (R0 : Int) := by rw [IntKind.wrap_u64]; omega
      have hq32 : (Q : Int) < 4294967296 := by have := HLT.out; omega
      have hq33 : (Q0 : Int) < 4294967296 := by have := HLT2.out; omega
      clear hNQ hzn hka2 hkb2 hkc2 hA hB hC hD
      go_wp2_with fail
      go_ret2
      exact ⟨rfl, rfl⟩
end Go.Proofs.YtekdkckgmleofaaGreat

/- The contract of bits.Div64, at every numbers at which it does not panic. -/
namespace Go.Proofs.YtekdkckgmleofaaGreat
open Go.RowKit

theorem norm_pure {hi lo y P T M : Nat} (hP : 0 < P) (hT : 0 < T) (hM : M = T * P) (h : hi < y) (hlo : lo < M) :
    (hi * P + lo / T) * M + lo * P % M = (hi * M + lo) * P ∧ hi * P + lo / T < y * P ∧ lo / T < P := by
  subst hM
  have e1 : lo * P / (T * P) = lo / T := Nat.mul_div_mul_right lo T hP
  have e2 := Nat.div_add_mod (lo * P) (T * P)
  rw [e1] at e2
  have h1 : lo / T < P := Nat.div_lt_of_lt_mul hlo
  refine ⟨?_, ?_, h1⟩
  · rw [Nat.add_mul, Nat.add_mul, Nat.mul_comm (lo / T) (T * P), Nat.add_assoc, e2, Nat.mul_assoc hi P, Nat.mul_assoc hi (T * P), Nat.mul_comm P (T * P)]
  · have : (hi + 1) * P ≤ y * P := Nat.mul_le_mul_right P h
    rw [Nat.add_mul, Nat.one_mul] at this
    omega

theorem div64_calls (hi lo y : Nat) (w : World) (h0 : 0 < hi) (h1 : hi < y) (h2 : y < 18446744073709551616) (h3 : lo < 18446744073709551616) :
    Calls Tryz.prog 35 #[.int .u64 hi, .int .u64 lo, .int .u64 y] w fun e w' =>
      e = .returned (.tuple #[.int .u64 (((hi * 18446744073709551616 + lo) / y : Nat) : Int), .int .u64 (((hi * 18446744073709551616 + lo) % y : Nat) : Int)]) ∧ w = w' := by
  have hb := bitLen_bounds 64 y (by omega) (by omega) (by omega)
  have hbl : Lib.bitLen y ≤ 64 := Lib.bitLen_le y 64 (by omega) (by omega)
  have hb0 : 0 < Lib.bitLen y := by
    rcases Nat.eq_zero_or_pos (Lib.bitLen y) with h | h
    · rw [h] at hb; omega
    · exact h
  obtain ⟨s, hs⟩ : ∃ s, Lib.bitLen y + s = 64 := ⟨64 - Lib.bitLen y, by omega⟩
  have hs63 : s ≤ 63 := by omega
  have hP : 0 < 2 ^ s := Nat.two_pow_pos s
  have hT : 0 < 2 ^ (64 - s) := Nat.two_pow_pos _
  have hM : (18446744073709551616 : Nat) = 2 ^ (64 - s) * 2 ^ s := by rw [← Nat.pow_add, show 64 - s + s = 64 by omega]
  have hyP : 2 ^ (Lib.bitLen y) * 2 ^ s = 18446744073709551616 := by rw [← Nat.pow_add, hs]
  have y1 : 18446744073709551616 ≤ 2 * (y * 2 ^ s) := by
    have := Nat.mul_le_mul_right (2 ^ s) hb.1
    rw [hyP, Nat.mul_assoc] at this
    exact this
  have y2 : y * 2 ^ s < 18446744073709551616 := by
    have := Nat.mul_lt_mul_of_pos_right hb.2 hP
    rw [hyP] at this
    exact this
  obtain ⟨e1, e2, e3⟩ := norm_pure (hi := hi) (lo := lo) (y := y) hP hT hM h1 h3
  have ed := halvesB (Y := y * 2 ^ s) (U := hi * 2 ^ s + lo / 2 ^ (64 - s)) (L := lo * 2 ^ s % 18446744073709551616) (B := 4294967296) (by omega)
  rw [show 4294967296 * 4294967296 = 18446744073709551616 by decide, e1, Nat.mul_div_mul_right _ _ hP, Nat.mul_mod_mul_right] at ed
  have hL : lo * 2 ^ s % 18446744073709551616 < 18446744073709551616 := Nat.mod_lt _ (by omega)
  have cP : ((2 : Int) ^ s) = ((2 ^ s : Nat) : Int) := by simp
  have cT : ((2 : Int) ^ (64 - s)) = ((2 ^ (64 - s) : Nat) : Int) := by simp
  generalize hy : y * 2 ^ s = Y at *
  generalize hl : lo * 2 ^ s % 18446744073709551616 = L at *
  generalize hu : hi * 2 ^ s + lo / 2 ^ (64 - s) = U at *
  have r1 : IntKind.u64.wrap ((y : Int) * 2 ^ s) = (Y : Int) := by rw [cP, ← Int.natCast_mul, hy, IntKind.wrap_u64]; omega
  have hhi : hi * 2 ^ s < 18446744073709551616 := Nat.lt_of_le_of_lt (Nat.le_add_right _ (lo / 2 ^ (64 - s))) (by rw [hu]; omega)
  have r2 : bits .or .u64 (IntKind.u64.wrap ((hi : Int) * 2 ^ s)) ((lo : Int) / 2 ^ (64 - s)) = (U : Int) := by
    have c1 : IntKind.u64.wrap ((hi : Int) * 2 ^ s) = ((2 ^ s * hi : Nat) : Int) := by rw [cP, ← Int.natCast_mul, Nat.mul_comm (2 ^ s) hi, IntKind.wrap_u64]; omega
    have c2 : (lo : Int) / 2 ^ (64 - s) = ((lo / 2 ^ (64 - s) : Nat) : Int) := by rw [cT, Int.natCast_ediv]
    rw [c1, c2, bits_or_u64_nat _ _ (by rw [Nat.mul_comm]; exact hhi) (by omega), ← Nat.two_pow_add_eq_or_of_lt e3 hi, Nat.mul_comm (2 ^ s) hi, hu]
  have r3 : IntKind.u64.wrap ((lo : Int) * 2 ^ s) = (L : Int) := by rw [cP, ← Int.natCast_mul, ← hl, IntKind.wrap_u64]; omega
  have am : ∀ x : Nat, x < 18446744073709551616 → bits .and .u64 (x : Int) 4294967295 = ((x % 4294967296 : Nat) : Int) := fun x hx => by
    have h := bits_and_u64_nat x 4294967295 hx (by omega)
    have e : x &&& 4294967295 = x % 4294967296 := Nat.and_two_pow_sub_one_eq_mod x 32
    rw [e] at h
    exact h
  refine (div64_norm hi lo y s Y (Y / 4294967296) (Y % 4294967296) U L (L / 4294967296) (L % 4294967296) w h0 h1 h2 hs63 (by omega) r1 r2 r3 (am Y y2) (by omega) (by omega) (am L hL) (by omega) y2 e2 (by omega) (by omega) (by omega) (by omega) _ _ _ _ rfl rfl rfl rfl).mono ?_
  rintro e w' ⟨rfl, rfl⟩
  refine ⟨?_, rfl⟩
  rw [← ed.2, cP, Int.natCast_mul, Int.mul_ediv_cancel _ (by omega), ed.1]
  rfl
end Go.Proofs.YtekdkckgmleofaaGreat
