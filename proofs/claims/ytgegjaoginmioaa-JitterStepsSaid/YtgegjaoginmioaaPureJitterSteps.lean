/- For every estimate and every sample (whole int64 numbers) the program's Step tells what the document's Step tells. No condition. -/
import Derived.Test.YtgegjaoginmioaaPJitterStepsx1
namespace Go.Proofs.Ytgegjaoginmioaa.Pure
open Go.RowKit Go.Proofs.Ytgegjaoginmioaa.PJitterSteps Go.Proofs.YtgegjaoginmioaaW.PrintWords Go.Proofs.YtgegjaoginmioaaW.PrintLast Go.Proofs.YtgegjaoginmioaaW.PrintMore

theorem st_bd {a : Int} (h : (Lit.int .i64 a).wf = true) : -9223372036854775808 ≤ a ∧ a ≤ 9223372036854775807 := by
  simp only [Lit.wf, IntKind.min, IntKind.max, IntKind.signed, IntKind.bits, Bool.and_eq_true, decide_eq_true_eq, if_true] at h
  omega

theorem st_wrap {n : Int} (h0 : -9223372036854775808 ≤ n) (h1 : n ≤ 9223372036854775807) : wrap64 n = n := by
  unfold wrap64; omega

theorem st_step {a b : Int} (ha : 0 ≤ a) (ha' : a ≤ 9223372036854775807) (hb : 0 ≤ b) (hb' : b ≤ 9223372036854775807) :
    jitter_Step.f a b = some (a + (b - a) / 16) := by
  have e1 : mx 0 a = a := by unfold mx; split <;> omega
  have e2 : mx 0 b = b := by unfold mx; split <;> omega
  unfold jitter_Step.f
  rw [e1, e2, st_wrap (n := b - a) (by omega) (by omega), st_wrap (by omega) (by omega)]

theorem st_step_any {a b : Int} (ha : -9223372036854775808 ≤ a ∧ a ≤ 9223372036854775807) (hb : -9223372036854775808 ≤ b ∧ b ≤ 9223372036854775807) :
    jitter_Step.f a b = some ((if a < 0 then 0 else a) + ((if b < 0 then 0 else b) - (if a < 0 then 0 else a)) / 16) := by
  have e1 : mx 0 a = if a < 0 then 0 else a := by unfold mx; split <;> split <;> omega
  have e2 : mx 0 b = if b < 0 then 0 else b := by unfold mx; split <;> split <;> omega
  unfold jitter_Step.f
  rw [e1, e2]
  have h1 : 0 ≤ (if a < 0 then 0 else a) ∧ (if a < 0 then 0 else a) ≤ 9223372036854775807 := by split <;> omega
  have h2 : 0 ≤ (if b < 0 then 0 else b) ∧ (if b < 0 then 0 else b) ≤ 9223372036854775807 := by split <;> omega
  generalize (if a < 0 then 0 else a) = x at *
  generalize (if b < 0 then 0 else b) = y at *
  rw [st_wrap (n := y - x) (by omega) (by omega), st_wrap (by omega) (by omega)]

theorem st_alive : afterimagelaw14_alive.f = some true := by
  unfold afterimagelaw14_alive.f
  rw [st_step (by omega) (by omega) (by omega) (by omega), st_step (by omega) (by omega) (by omega) (by omega), st_step (by omega) (by omega) (by omega) (by omega)]
  rfl

theorem st_floor {d : Int} (h0 : -9223372036854775807 ≤ d) (h1 : d ≤ 9223372036854775807) :
    (if Int.tmod d 16 < 0 then wrap64 (wrap64 (Int.tdiv d 16) - 1) else wrap64 (Int.tdiv d 16)) = d / 16 := by
  by_cases h : 0 ≤ d
  · rw [Int.tmod_eq_emod_of_nonneg h, Int.tdiv_eq_ediv_of_nonneg h, if_neg (by omega), st_wrap (by omega) (by omega)]
  · have hm : Int.tmod d 16 = -((-d) % 16) := by
      have := Int.neg_tmod (-d) 16
      rw [Int.neg_neg] at this
      rw [this, Int.tmod_eq_emod_of_nonneg (by omega)]
    have hd : Int.tdiv d 16 = -((-d) / 16) := by
      have := Int.neg_tdiv (-d) 16
      rw [Int.neg_neg] at this
      rw [this, Int.tdiv_eq_ediv_of_nonneg (by omega)]
    rw [hm, hd]
    rw [st_wrap (n := -((-d) / 16)) (by omega) (by omega)]
    by_cases hz : -((-d) % 16) < 0
    · rw [if_pos hz, st_wrap (by omega) (by omega)]; omega
    · rw [if_neg hz]; omega

theorem st_j0 {x y : Int} (hx : 0 ≤ x) (hx' : x ≤ 9223372036854775807) (hy : 0 ≤ y) (hy' : y ≤ 9223372036854775807) :
    (if (Int.tmod (wrap64 (y - x)) 16) < 0 then (some (wrap64 (x + (wrap64 ((wrap64 (Int.tdiv (wrap64 (y - x)) 16)) - 1))))) else (some (wrap64 (x + (wrap64 (Int.tdiv (wrap64 (y - x)) 16)))))) = some (x + (y - x) / 16) := by
  have hf := st_floor (d := y - x) (by omega) (by omega)
  rw [st_wrap (n := y - x) (by omega) (by omega)]
  by_cases hz : Int.tmod (y - x) 16 < 0
  · rw [if_pos hz] at hf ⊢; rw [hf, st_wrap (by omega) (by omega)]
  · rw [if_neg hz] at hf ⊢; rw [hf, st_wrap (by omega) (by omega)]

theorem st_ref {a b : Int} (ha : -9223372036854775808 ≤ a ∧ a ≤ 9223372036854775807) (hb : -9223372036854775808 ≤ b ∧ b ≤ 9223372036854775807) :
    afterimageref14_Step.f 1 a b = some ((if a < 0 then 0 else a) + ((if b < 0 then 0 else b) - (if a < 0 then 0 else a)) / 16) := by
  have key : ∀ x : Int, 0 ≤ x → x ≤ 9223372036854775807 → afterimageref14_Step.j0 1 x b = some (x + ((if b < 0 then 0 else b) - x) / 16) := by
    intro x h0 h1
    simp only [afterimageref14_Step.j0]
    by_cases hb0 : b < 0
    · rw [if_pos hb0, if_pos hb0]
      have := st_j0 (x := x) (y := 0) h0 h1 (by omega) (by omega)
      rw [show (0 : Int) - x = -x from by omega] at this
      rw [show (0 : Int) - x = -x from by omega]
      exact this
    · rw [if_neg hb0, if_neg hb0]
      exact st_j0 h0 h1 (by omega) (by omega)
  unfold afterimageref14_Step.f
  by_cases ha0 : a < 0
  · rw [if_pos ha0, if_pos ha0]; exact key 0 (by omega) (by omega)
  · rw [if_neg ha0, if_neg ha0]; exact key a (by omega) (by omega)

theorem JitterSteps : afterimagelaw14_JitterSteps.Pure := by
  intro a b ha hb
  have ha := st_bd ha
  have hb := st_bd hb
  refine ⟨1, ?_⟩
  unfold afterimagelaw14_JitterSteps.f
  rw [st_alive, st_step_any ha hb, st_ref ha hb]
  simp only [Option.bind_some, if_true, beq_self_eq_true]

end Go.Proofs.Ytgegjaoginmioaa.Pure
