/- The law's walk: JitterAdds. -/
import Derived.Test.YtgegjaoginmioaaJit
import Derived.Deep.CutBlock
namespace Go.Proofs.Ytgegjaoginmioaa
open Go.RowKit

set_option maxHeartbeats 400000 in
theorem alive_calls (w : World) :
    Calls Try.prog 9 #[] w fun e w' => e = .returned (.bool true) ∧ w' = w := by
  go_enter Try.func9, Try.ntmps9
  go_wp2
  go_ret
  exact ⟨rfl, rfl⟩

theorem tdm (d : Int) : 0 ≤ d ∧ d.tdiv 16 = d / 16 ∧ d.tmod 16 = d % 16 ∨ d < 0 ∧ d.tdiv 16 = -((-d) / 16) ∧ d.tmod 16 = -((-d) % 16) := by
  rcases Int.lt_or_le d 0 with h | h
  · right
    have h1 := Int.neg_tdiv (-d) 16
    have h2 := Int.neg_tmod (-d) 16
    rw [Int.neg_neg] at h1 h2
    exact ⟨h, by rw [h1, Int.tdiv_eq_ediv_of_nonneg (by omega)], by rw [h2, Int.tmod_eq_emod_of_nonneg (by omega)]⟩
  · left
    exact ⟨h, Int.tdiv_eq_ediv_of_nonneg h, Int.tmod_eq_emod_of_nonneg h⟩

set_option maxHeartbeats 1000000 in
theorem ref_calls (a b : Int) (w : World) (ha : -9223372036854775808 ≤ a) (ha' : a ≤ 9223372036854775807) (hb : -9223372036854775808 ≤ b) (hb' : b ≤ 9223372036854775807) :
    Calls Try.prog 11 #[.int .i64 a, .int .i64 b] w fun e w' => e = .returned (.int .i64 (stepJ a b)) ∧ w' = w := by
  by_cases h1 : a < 0 <;> by_cases h2 : b < 0
  all_goals
    go_enter Try.func11, Try.ntmps11
    go_wp2
    all_goals go_ret
    all_goals
      have t1 := tdm (b - a)
      have t2 := tdm (-a)
      have t3 := tdm a
      have t4 := tdm b
      refine ⟨ret_int ?_, rfl⟩
      simp only [Int.neg_tmod, Int.neg_tdiv] at *
      generalize (b - a).tdiv 16 = x1 at *
      generalize (b - a).tmod 16 = y1 at *
      generalize a.tdiv 16 = x3 at *
      generalize a.tmod 16 = y3 at *
      generalize b.tdiv 16 = x4 at *
      generalize b.tmod 16 = y4 at *
      unfold stepJ
      (try unfold wrap64)
      omega

/-- The estimate behind samples. -/
def est (l : List Int) : Int := l.foldl stepJ 0
theorem est_snoc (l : List Int) (x : Int) : est (l ++ [x]) = stepJ (est l) x := by simp [est]
theorem est_take (l : List Int) (k : Nat) (h : k < l.length) : est (l.take (k + 1)) = stepJ (est (l.take k)) (l.getD k 0) := by
  rw [List.take_succ_eq_append_getElem h, est_snoc]
  simp [h]
theorem est_bd (l : List Int) (h : ∀ x ∈ l, (Lit.int .i64 x).wf = true) : 0 ≤ est l ∧ est l ≤ 9223372036854775807 := by
  have key : ∀ (l : List Int) (a : Int), 0 ≤ a → a ≤ 9223372036854775807 → (∀ x ∈ l, (Lit.int .i64 x).wf = true) → 0 ≤ l.foldl stepJ a ∧ l.foldl stepJ a ≤ 9223372036854775807 := by
    intro l
    induction l with
    | nil => intro a h0 h1 _; exact ⟨h0, h1⟩
    | cons x l ih =>
      intro a h0 h1 hw
      have hx := wf_bd (hw x (by simp))
      exact ih _ (stepJ_nonneg _ _) (stepJ_le _ _ h1 hx.2) fun y hy => hw y (by simp [hy])
  exact key l 0 (by omega) (by omega) h
theorem est_take_bd (l : List Int) (k : Nat) (h : ∀ x ∈ l, (Lit.int .i64 x).wf = true) : 0 ≤ est (l.take k) ∧ est (l.take k) ≤ 9223372036854775807 :=
  est_bd _ fun x hx => h x (List.mem_of_mem_take hx)
theorem getD_bd (l : List Int) (k : Nat) (h : ∀ x ∈ l, (Lit.int .i64 x).wf = true) : -9223372036854775808 ≤ l.getD k 0 ∧ l.getD k 0 ≤ 9223372036854775807 := by
  by_cases hk : k < l.length
  · have : l.getD k 0 = l[k] := by simp [hk]
    rw [this]; exact wf_bd (h _ (List.getElem_mem hk))
  · have : l.getD k 0 = 0 := by simp [List.getElem?_eq_none (Nat.le_of_not_lt hk)]
    rw [this]; omega

end Go.Proofs.Ytgegjaoginmioaa
