/- For every estimate and sample below 2^32: a sample that is the estimate leaves it, and seven hundred steps by one sample lead from any estimate to one from 15 below that sample up to it. No condition. -/
import Derived.Test.YtgegjaoginmioaaPJitterStaysx1
namespace Go.Proofs.Ytgegjaoginmioaa.Pure
open Go.RowKit Go.Proofs.Ytgegjaoginmioaa.PJitterStays Go.Proofs.YtgegjaoginmioaaW.PrintWords Go.Proofs.YtgegjaoginmioaaW.PrintLast Go.Proofs.YtgegjaoginmioaaW.PrintMore

theorem st_bd {a : Int} (h : (Lit.int .u32 a).wf = true) : 0 ≤ a ∧ a < 4294967296 := by
  simp only [Lit.wf, IntKind.min, IntKind.max, IntKind.signed, IntKind.bits, Bool.and_eq_true] at h
  simp at h
  omega

theorem st_wrap {n : Int} (h0 : -9223372036854775808 ≤ n) (h1 : n ≤ 9223372036854775807) : wrap64 n = n := by
  unfold wrap64; omega

theorem st_step {a b : Int} (ha : 0 ≤ a) (ha' : a ≤ 9223372036854775807) (hb : 0 ≤ b) (hb' : b ≤ 9223372036854775807) :
    jitter_Step.f a b = some (a + (b - a) / 16) := by
  have e1 : mx 0 a = a := by unfold mx; split <;> omega
  have e2 : mx 0 b = b := by unfold mx; split <;> omega
  unfold jitter_Step.f
  rw [e1, e2, st_wrap (n := b - a) (by omega) (by omega), st_wrap (by omega) (by omega)]

theorem st_alive : afterimagelaw14_alive.f = some true := by
  unfold afterimagelaw14_alive.f
  rw [st_step (by omega) (by omega) (by omega) (by omega), st_step (by omega) (by omega) (by omega) (by omega), st_step (by omega) (by omega) (by omega) (by omega)]
  rfl

def st_up : Nat → Int → Int
  | 0, d => d
  | n + 1, d => st_up n (d - d / 16)
def st_down : Nat → Int → Int
  | 0, d => d
  | n + 1, d => st_down n (d - (d + 15) / 16)

theorem st_up700 : st_up 700 4294967296 ≤ 15 := by decide +kernel
theorem st_down700 : st_down 700 4294967296 ≤ 0 := by decide +kernel

theorem st_run {s : Int} (hs : 0 ≤ s) (hs' : s < 4294967296) : ∀ (n : Nat) (x D E : Int), n ≤ 700 → 0 ≤ x → x < 4294967296 → s - x ≤ D → x - s ≤ E → 0 ≤ D → 0 ≤ E →
    st_up n D ≤ 15 → st_down n E ≤ 0 → afterimagelaw14_JitterStays.l0 (n + 1) x s (700 - n) = some true
  | 0, x, D, E, _, hx, hx', hD, hE, _, _, hu, hd => by
    simp only [st_up] at hu
    simp only [st_down] at hd
    simp only [afterimagelaw14_JitterStays.l0]
    rw [if_neg (by omega), st_alive]
    simp only [Option.bind_some, if_true]
    rw [st_wrap (by omega) (by omega), if_pos (by omega)]
    have : x ≤ s := by omega
    simp [this]
  | n + 1, x, D, E, hn, hx, hx', hD, hE, hD0, hE0, hu, hd => by
    simp only [st_up] at hu
    simp only [st_down] at hd
    have ih := st_run hs hs' n (x + (s - x) / 16) (D - D / 16) (E - (E + 15) / 16) (by omega) (by omega) (by omega) (by omega) (by omega) (by omega) (by omega) hu hd
    rw [afterimagelaw14_JitterStays.l0]
    rw [if_pos (by omega), st_step hx (by omega) hs (by omega)]
    simp only [Option.bind_some]
    rw [show wrap64 (700 - ((n + 1 : Nat) : Int) + 1) = 700 - (n : Int) from by rw [st_wrap (by omega) (by omega)]; omega]
    exact ih

theorem JitterStays : afterimagelaw14_JitterStays.Pure := by
  intro a b ha hb
  have ha := st_bd ha
  have hb := st_bd hb
  refine ⟨701, ?_⟩
  unfold afterimagelaw14_JitterStays.f
  rw [st_wrap (n := a) (by omega) (by omega), st_wrap (n := b) (by omega) (by omega), st_step (by omega) (by omega) (by omega) (by omega)]
  simp only [Option.bind_some]
  rw [if_pos (by omega)]
  exact st_run hb.1 hb.2 700 a 4294967296 4294967296 (by omega) ha.1 ha.2 (by omega) (by omega) (by omega) (by omega) st_up700 st_down700

end Go.Proofs.Ytgegjaoginmioaa.Pure
