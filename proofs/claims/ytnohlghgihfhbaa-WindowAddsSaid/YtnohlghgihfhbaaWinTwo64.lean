/- Two windows of int64 side by side. -/
import Derived.Test.YtnohlghgihfhbaaWinB64
namespace Go.Proofs.Ytnohlghgihfhbaa.Win64
open Go.RowKit

def Two (B : Nat) (w : World) (p q m : Nat) (l1 l2 : List Int) : Prop :=
  ∃ f1 f2 : Nat → Prop, Win w p f1 m l1 ∧ Win w q f2 m l2 ∧ (∀ g, f1 g → B ≤ g ∧ g < w.heap.size) ∧ (∀ g, f2 g → B ≤ g ∧ g < w.heap.size) ∧ ∀ g, f1 g → ¬ f2 g

section
variable {B : Nat} {w w' : World} {p q m : Nat} {l1 l2 : List Int}
theorem Two.symm (h : Two B w p q m l1 l2) : Two B w q p m l2 l1 := by
  obtain ⟨f1, f2, h1, h2, d1, d2, d⟩ := h
  exact ⟨f2, f1, h2, h1, d2, d1, fun g a b => d g b a⟩
theorem Two.one (h : Two B w p q m l1 l2) : Win w p (fun g => B ≤ g) m l1 := by
  obtain ⟨f1, f2, h1, h2, d1, d2, d⟩ := h
  exact h1.mono fun g _ hg => (d1 g hg).1
theorem Two.kept (h : Two B w p q m l1 l2) (k : Kept (fun _ => False) w w') : Two B w' p q m l1 l2 := by
  obtain ⟨f1, f2, h1, h2, d1, d2, d⟩ := h
  have := k.size
  exact ⟨f1, f2, h1.kept k (fun _ _ h => h), h2.kept k (fun _ _ h => h), fun g hg => by have := d1 g hg; omega, fun g hg => by have := d2 g hg; omega, d⟩
theorem two_new (w : World) (n : Nat) (t1 t2 : Obj) (h1 : t1 = .cells #[.int .i64 n, .slice none 0 0, .slice none 0 0, .slice none 0 0] 64) (h2 : t2 = t1) :
    Two w.heap.size ((w.alloc t1).alloc t2) w.heap.size (w.heap.size + 1) n [] [] := by
  subst h2
  subst h1
  refine ⟨fun g => g = w.heap.size, fun g => g = w.heap.size + 1, ?_, ?_, ?_, ?_, ?_⟩
  · exact (win_new w n).kept ((Kept.refl (fun _ => False) _).alloc _) (fun _ _ h => h)
  · have := win_new (w.alloc (.cells #[.int .i64 n, .slice none 0 0, .slice none 0 0, .slice none 0 0] 64)) n
    rw [size_alloc] at this
    exact this
  · rintro g rfl; simp; omega
  · rintro g rfl; simp
  · rintro g rfl (h : w.heap.size = w.heap.size + 1); omega
end

theorem two_add (B : Nat) (w : World) (p q m : Nat) (l : List Int) (x : Int) (l2 : List Int) (hm1 : 1 ≤ m) (hm2 : m ≤ 64) (hB : B ≤ w.heap.size) (h : Two B w p q m (lastN m l) l2) :
    Calls Try.prog 17 #[.pointer (some ⟨p, 0, none⟩), Value.int .i64 x] w fun e w' => e = .returned (.int .i64 0) ∧ Two B w' p q m (lastN m (l ++ [x])) l2 ∧ Below B w w' := by
  obtain ⟨f1, f2, h1, h2, d1, d2, d⟩ := h
  refine (addF w p m f1 l x hm1 hm2 h1).mono ?_
  rintro e w' ⟨he, hw, hk⟩
  have hs := hk.size
  refine ⟨he, ⟨_, f2, hw, h2.kept hk (fun g hg hf => d g hf hg), ?_, ?_, ?_⟩, hk.below hB (fun g hg => (d1 g hg).1)⟩
  · intro g hg
    rcases hg with hg | hg
    · have := d1 g hg; omega
    · omega
  · intro g hg
    have := d2 g hg; omega
  · intro g hg hf
    rcases hg with hg | hg
    · exact d g hg hf
    · have := d2 g hf; omega

end Go.Proofs.Ytnohlghgihfhbaa.Win64
