/- Contracts of package window's methods at int64: New, first, Least, Add. -/
import Derived.Test.YtekdkckgmleofaaGreatXf28
import Derived.Deep.QuietTactic
import Derived.BigQuiet
import Derived.Outline
set_option linter.unusedVariables false
set_option linter.unusedSimpArgs false
namespace Go.Proofs.YtekdkckgmleofaaGreat.Win64
open Go.RowKit

/-- The first one, or the zero one. -/
def hd (l : List Int) : Int := l.headD 0
theorem tot : Tot lt := ⟨fun a => by simp [lt], fun a b c h1 h2 => by simp only [lt, decide_eq_true_eq] at *; exact Int.lt_trans h1 h2, fun a b h1 h2 => by simp only [lt, decide_eq_false_iff_not] at *; exact Int.le_antisymm (Int.not_lt.1 h2) (Int.not_lt.1 h1)⟩

/-- A window at block p: it looks at so many, and these are the last ones; all its memory lies in fp. -/
def Win (w : World) (p : Nat) (fp : Nat → Prop) (most : Nat) (last : List Int) : Prop :=
  ∃ v1 v2 v3 o1 o2 o3, Blk w p [.int .i64 most, v1, v2, v3] 149 ∧
    Sl w v1 2 1 last.length (last.map enc) o1 ∧ Sl w v2 2 1 (minsL lt last).length ((minsL lt last).map enc) o2 ∧
    Sl w v3 2 1 (minsL (fun a b => lt b a) last).length ((minsL (fun a b => lt b a) last).map enc) o3 ∧ fp p ∧
    (∀ g, o1 = some g → fp g ∧ g ≠ p ∧ o2 ≠ some g ∧ o3 ≠ some g) ∧ (∀ g, o2 = some g → fp g ∧ g ≠ p ∧ o3 ≠ some g) ∧ (∀ g, o3 = some g → fp g ∧ g ≠ p)

theorem Win.kept {F : Nat → Prop} {w w' : World} {p : Nat} {fp : Nat → Prop} {most : Nat} {last : List Int} (h : Win w p fp most last) (k : Kept F w w') (hF : ∀ g, fp g → ¬ F g) : Win w' p fp most last := by
  obtain ⟨v1, v2, v3, o1, o2, o3, hb, h1, h2, h3, hp, d1, d2, d3⟩ := h
  exact ⟨v1, v2, v3, o1, o2, o3, k.blk hb (hF p hp), h1.kept k (fun g hg => hF g (d1 g hg).1), h2.kept k (fun g hg => hF g (d2 g hg).1), h3.kept k (fun g hg => hF g (d3 g hg).1), hp, d1, d2, d3⟩
theorem Win.mono {w : World} {p : Nat} {fp fq : Nat → Prop} {most : Nat} {last : List Int} (h : Win w p fp most last) (hF : ∀ g, g < w.heap.size → fp g → fq g) : Win w p fq most last := by
  obtain ⟨v1, v2, v3, o1, o2, o3, hb, h1, h2, h3, hp, d1, d2, d3⟩ := h
  exact ⟨v1, v2, v3, o1, o2, o3, hb, h1, h2, h3, hF p hb.lt hp, fun g hg => ⟨hF g (h1.lt hg) (d1 g hg).1, (d1 g hg).2⟩, fun g hg => ⟨hF g (h2.lt hg) (d2 g hg).1, (d2 g hg).2⟩, fun g hg => ⟨hF g (h3.lt hg) (d3 g hg).1, (d3 g hg).2⟩⟩

theorem new_bad (w : World) (n : Int) (h : n < 1 ∨ 64 < n) :
    Calls Tryz.prog 38 #[.int .i64 n] w fun e w' => e = .returned (.tuple #[.pointer none, .int .i64 3]) ∧ w' = w := by
  rcases h with h | h
  · go_enter Tryz.func38, Tryz.ntmps38
    go_wp2
    go_ret2
    exact ⟨rfl, rfl⟩
  · have h2 : ¬ n < 1 := by omega
    go_enter Tryz.func38, Tryz.ntmps38
    go_wp2
    go_ret2
    exact ⟨rfl, rfl⟩
theorem new_good (w : World) (n : Int) (h1 : 1 ≤ n) (h2 : n ≤ 64) :
    Calls Tryz.prog 38 #[.int .i64 n] w fun e w' => e = .returned (.tuple #[.pointer (some ⟨w.heap.size, 0, none⟩), .int .i64 0]) ∧
      w' = w.alloc (.cells #[.int .i64 n, .slice none 0 0, .slice none 0 0, .slice none 0 0] 149) := by
  have h3 : ¬ n < 1 := by omega
  have h4 : ¬ 64 < n := by omega
  go_enter Tryz.func38, Tryz.ntmps38
  go_wp2
  go_ret2
  exact ⟨rfl, rfl⟩
theorem win_new (w : World) (n : Nat) : Win (w.alloc (.cells #[.int .i64 n, .slice none 0 0, .slice none 0 0, .slice none 0 0] 149)) w.heap.size (fun g => g = w.heap.size) n [] :=
  ⟨_, _, _, none, none, none, Blk.new w _ _, Sl.nil _ _ _, Sl.nil _ _ _, Sl.nil _ _ _, rfl, by simp, by simp, by simp⟩

theorem first_calls (w : World) (v : Value) (l : List Int) (own : Option Nat) (h : Sl w v 2 1 l.length (l.map enc) own) :
    Calls Tryz.prog 81 #[v] w fun e w' => e = .returned (.tuple #[Value.int .i64 (hd l), .bool !l.isEmpty]) ∧ w' = w := by
  cases l with
  | nil =>
    obtain ⟨a, cap, rfl, hc, hm⟩ := h.form
    clear h
    go_enter Tryz.func81, Tryz.ntmps81
    go_wp2
    go_ret2
    exact ⟨rfl, rfl⟩
  | cons y l =>
    obtain ⟨g, off, cap, ho, rfl, hc, hm, hcell, hfr⟩ := h.some (by simp)
    have h0 : w.cell? ⟨g, off, none⟩ = some (Value.int .i64 y) := hcell 0 _ rfl
    unfold maxLen at hm
    clear h hcell hfr
    simp only [List.length_cons] at hc ⊢
    go_enter Tryz.func81, Tryz.ntmps81
    go_wp2
    go_ret2
    exact ⟨rfl, rfl⟩

theorem least_nil (w : World) : Calls Tryz.prog 48 #[.pointer none] w fun e w' => e = .returned (.tuple #[Value.int .i64 0, .bool false]) ∧ w' = w := by
  go_enter Tryz.func48, Tryz.ntmps48
  go_wp2
  go_ret2
  exact ⟨rfl, rfl⟩
theorem least_calls (w : World) (p : Nat) (fp : Nat → Prop) (most : Nat) (last : List Int) (h : Win w p fp most last) :
    Calls Tryz.prog 48 #[.pointer (some ⟨p, 0, none⟩)] w fun e w' => e = .returned (.tuple #[Value.int .i64 (hd (minsL lt last)), .bool !(minsL lt last).isEmpty]) ∧ w' = w := by
  obtain ⟨v1, v2, v3, o1, o2, o3, hb, h1, h2, h3, hp, d1, d2, d3⟩ := h
  have hc := hb.cell (i := 2) rfl
  have H2 := Lib.hid h2
  clear hb h1 h2 h3 d1 d2 d3
  go_enter Tryz.func48, Tryz.ntmps48
  go_wp2_with fail
  refine (first_calls _ _ _ _ H2.out).mono ?_
  rintro e w' ⟨rfl, rfl⟩
  go_wp2_with fail
  go_ret2
  exact ⟨rfl, rfl⟩
theorem add_nil (w : World) (x : Int) : Calls Tryz.prog 47 #[.pointer none, Value.int .i64 x] w fun e w' => e = .returned (.int .i64 1) ∧ w' = w := by
  go_enter Tryz.func47, Tryz.ntmps47
  go_wp2
  go_ret
  exact ⟨rfl, rfl⟩

end Go.Proofs.YtekdkckgmleofaaGreat.Win64
