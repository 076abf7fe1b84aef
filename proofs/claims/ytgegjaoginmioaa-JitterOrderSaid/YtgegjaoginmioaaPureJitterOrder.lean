/- For every int64 numbers: by a greater sample an estimate becomes no less, and a greater estimate stays no less by the same sample. No condition. -/
import Derived.Test.YtgegjaoginmioaaPJitterOrderx1
namespace Go.Proofs.Ytgegjaoginmioaa.Pure
open Go.RowKit Go.Proofs.Ytgegjaoginmioaa.PJitterOrder Go.Proofs.YtgegjaoginmioaaW.PrintWords Go.Proofs.YtgegjaoginmioaaW.PrintLast Go.Proofs.YtgegjaoginmioaaW.PrintMore

theorem st_bd {a : Int} (h : (Lit.int .i64 a).wf = true) : -9223372036854775808 ≤ a ∧ a ≤ 9223372036854775807 := by
  simp only [Lit.wf, IntKind.min, IntKind.max, IntKind.signed, IntKind.bits, Bool.and_eq_true, decide_eq_true_eq, if_true] at h
  omega

theorem st_wrap {n : Int} (h0 : -9223372036854775808 ≤ n) (h1 : n ≤ 9223372036854775807) : wrap64 n = n := by
  unfold wrap64; omega

theorem st_any {a b : Int} (ha : -9223372036854775808 ≤ a ∧ a ≤ 9223372036854775807) (hb : -9223372036854775808 ≤ b ∧ b ≤ 9223372036854775807) :
    ∃ x y : Int, (x = a ∧ 0 ≤ a ∨ x = 0 ∧ a < 0) ∧ (y = b ∧ 0 ≤ b ∨ y = 0 ∧ b < 0) ∧ jitter_Step.f a b = some (x + (y - x) / 16) := by
  have h1 : mx 0 a = a ∧ 0 ≤ a ∨ mx 0 a = 0 ∧ a < 0 := by unfold mx; split <;> omega
  have h2 : mx 0 b = b ∧ 0 ≤ b ∨ mx 0 b = 0 ∧ b < 0 := by unfold mx; split <;> omega
  refine ⟨mx 0 a, mx 0 b, h1, h2, ?_⟩
  unfold jitter_Step.f
  generalize mx 0 a = x at *
  generalize mx 0 b = y at *
  rw [st_wrap (n := y - x) (by omega) (by omega), st_wrap (by omega) (by omega)]

theorem st_step {a b : Int} (ha : 0 ≤ a) (ha' : a ≤ 9223372036854775807) (hb : 0 ≤ b) (hb' : b ≤ 9223372036854775807) :
    jitter_Step.f a b = some (a + (b - a) / 16) := by
  have e1 : mx 0 a = a := by unfold mx; split <;> omega
  have e2 : mx 0 b = b := by unfold mx; split <;> omega
  unfold jitter_Step.f
  rw [e1, e2, st_wrap (n := b - a) (by omega) (by omega), st_wrap (by omega) (by omega)]

theorem st_alive : afterimagelaw14_alive.f = some true := by
  unfold afterimagelaw14_alive.f
  rw [st_step (by omega) (by omega) (by omega) (by omega), st_step (by omega) (by omega) (by omega) (by omega), st_step (by omega) (by omega) (by omega) (by omega)]
  rfl

theorem JitterOrder : afterimagelaw14_JitterOrder.Pure := by
  intro a b s ha hb hs
  have ha := st_bd ha
  have hb := st_bd hb
  have hs := st_bd hs
  have hl : mn a b ≤ mx a b ∧ -9223372036854775808 ≤ mn a b ∧ mx a b ≤ 9223372036854775807 := by unfold mn mx; split <;> split <;> omega
  unfold afterimagelaw14_JitterOrder.f
  rw [st_alive]
  simp only [Option.bind_some, if_true]
  generalize mn a b = l at *
  generalize mx a b = h at *
  obtain ⟨x1, y1, p1, q1, e1⟩ := st_any hs (b := l) (by omega)
  obtain ⟨x2, y2, p2, q2, e2⟩ := st_any hs (b := h) (by omega)
  obtain ⟨x3, y3, p3, q3, e3⟩ := st_any (a := l) (by omega) hs
  obtain ⟨x4, y4, p4, q4, e4⟩ := st_any (a := h) (by omega) hs
  rw [e1, e2, e3, e4]
  simp only [Option.bind_some]
  rw [if_pos (by omega), decide_eq_true (by omega)]

end Go.Proofs.Ytgegjaoginmioaa.Pure
