/- Words for laws over windows of int: what Add leaves, over all samples that were added; the first of the row is the least. -/
import Derived.Test.YtnohlghgihfhbaaWinAd2I
namespace Go.Proofs.Ytnohlghgihfhbaa.WinI
open Go.RowKit

theorem addB (w : World) (p B most : Nat) (l : List Int) (x : Int) (hm1 : 1 ≤ most) (hm2 : most ≤ 64) (hB : B ≤ w.heap.size) (h : Win w p (fun g => B ≤ g) most (lastN most l)) :
    Calls Try.prog 27 #[.pointer (some ⟨p, 0, none⟩), Value.int .i64 x] w fun e w' => e = .returned (.int .i64 0) ∧ Win w' p (fun g => B ≤ g) most (lastN most (l ++ [x])) ∧ Below B w w' := by
  have hlen : (lastN most l).length ≤ most := by rw [lastN_len]; omega
  refine (add_calls w p _ most (lastN most l) x hm1 hm2 hlen h).mono ?_
  rintro e w' ⟨he, hw, hk⟩
  rw [← lastN_snoc l x hm1] at hw
  exact ⟨he, hw.mono fun g _ hg => by rcases hg with hg | hg <;> omega, hk.below hB (fun k hk => hk)⟩

/-- The same, of memory within a set; what is new belongs to it. -/
theorem addF (w : World) (p most : Nat) (fp : Nat → Prop) (l : List Int) (x : Int) (hm1 : 1 ≤ most) (hm2 : most ≤ 64) (h : Win w p fp most (lastN most l)) :
    Calls Try.prog 27 #[.pointer (some ⟨p, 0, none⟩), Value.int .i64 x] w fun e w' => e = .returned (.int .i64 0) ∧ Win w' p (fun g => fp g ∨ (w.heap.size ≤ g ∧ g < w'.heap.size)) most (lastN most (l ++ [x])) ∧ Kept fp w w' := by
  have hlen : (lastN most l).length ≤ most := by rw [lastN_len]; omega
  refine (add_calls w p _ most (lastN most l) x hm1 hm2 hlen h).mono ?_
  rintro e w' ⟨he, hw, hk⟩
  rw [← lastN_snoc l x hm1] at hw
  exact ⟨he, hw, hk⟩

def least (l : List Int) : Int := hd (minsL lt l)
def greatest (l : List Int) : Int := hd (minsL (fun a b => lt b a) l)
theorem least_spec {l : List Int} (h : l ≠ []) : least l ∈ l ∧ ∀ y ∈ l, lt y (least l) = false := by
  unfold least
  cases hm : minsL lt l with
  | nil => exact absurd hm (minsL_ne h)
  | cons a t => exact minsL_head tot l a t hm
theorem greatest_spec {l : List Int} (h : l ≠ []) : greatest l ∈ l ∧ ∀ y ∈ l, lt (greatest l) y = false := by
  unfold greatest
  cases hm : minsL (fun a b => lt b a) l with
  | nil => exact absurd hm (minsL_ne h)
  | cons a t => exact minsL_head tot.flip l a t hm
theorem mins_isEmpty {α : Type} (lt' : α → α → Bool) (l : List α) : (minsL lt' l).isEmpty = l.isEmpty := by
  cases l with
  | nil => rfl
  | cons a l =>
    cases h : minsL lt' (a :: l) with
    | nil => exact absurd h (minsL_ne (by simp))
    | cons b t => rfl
theorem leastC (w : World) (p : Nat) (fp : Nat → Prop) (most : Nat) (last : List Int) (h : Win w p fp most last) :
    Calls Try.prog 28 #[.pointer (some ⟨p, 0, none⟩)] w fun e w' => e = .returned (.tuple #[Value.int .i64 (least last), .bool !last.isEmpty]) ∧ w = w' := by
  have := least_calls w p fp most last h
  rw [mins_isEmpty] at this
  exact this.mono fun e w' h => ⟨h.1, h.2.symm⟩
theorem greatestC (w : World) (p : Nat) (fp : Nat → Prop) (most : Nat) (last : List Int) (h : Win w p fp most last) :
    Calls Try.prog 29 #[.pointer (some ⟨p, 0, none⟩)] w fun e w' => e = .returned (.tuple #[Value.int .i64 (greatest last), .bool !last.isEmpty]) ∧ w = w' := by
  have := greatest_calls w p fp most last h
  rw [mins_isEmpty] at this
  exact this.mono fun e w' h => ⟨h.1, h.2.symm⟩
theorem lastN_ne {most : Nat} (hm : 1 ≤ most) (l : List Int) (x : Int) : lastN most (l ++ [x]) ≠ [] := by
  intro h
  have := congrArg List.length h
  rw [lastN_len] at this
  simp at this; omega
theorem lastN_isEmpty {most : Nat} (hm : 1 ≤ most) (l : List Int) : (lastN most l).isEmpty = l.isEmpty := by
  have := lastN_len most l
  cases l with
  | nil => simp [lastN]
  | cons a l =>
    cases h : lastN most (a :: l) with
    | nil => rw [h] at this; simp at this; omega
    | cons b t => rfl

end Go.Proofs.Ytnohlghgihfhbaa.WinI
