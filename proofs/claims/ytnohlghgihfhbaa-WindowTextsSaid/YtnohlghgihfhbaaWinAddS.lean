/- Contracts of package window's methods at string: New, first, Least, Greatest, Len, Add. -/
import Derived.Test.YtnohlghgihfhbaaWinS
import Derived.Deep.QuietTactic
import Derived.BigQuiet
import Derived.Outline
namespace Go.Proofs.Ytnohlghgihfhbaa.WinS
open Go.RowKit

/-- The first one, or the zero one. -/
def hd (l : List ByteArray) : ByteArray := l.headD ByteArray.empty
theorem tot : Tot lt := totS

/-- A window at block p: it looks at so many, and these are the last ones; all its memory lies in fp. -/
def Win (w : World) (p : Nat) (fp : Nat → Prop) (most : Nat) (last : List ByteArray) : Prop :=
  ∃ v1 v2 v3 o1 o2 o3, Blk w p [.int .i64 most, v1, v2, v3] 51 ∧
    Sl w v1 9 1 last.length (last.map enc) o1 ∧ Sl w v2 9 1 (minsL lt last).length ((minsL lt last).map enc) o2 ∧
    Sl w v3 9 1 (minsL (fun a b => lt b a) last).length ((minsL (fun a b => lt b a) last).map enc) o3 ∧ fp p ∧
    (∀ g, o1 = some g → fp g ∧ g ≠ p ∧ o2 ≠ some g ∧ o3 ≠ some g) ∧ (∀ g, o2 = some g → fp g ∧ g ≠ p ∧ o3 ≠ some g) ∧ (∀ g, o3 = some g → fp g ∧ g ≠ p)

theorem Win.kept {F : Nat → Prop} {w w' : World} {p : Nat} {fp : Nat → Prop} {most : Nat} {last : List ByteArray} (h : Win w p fp most last) (k : Kept F w w') (hF : ∀ g, fp g → ¬ F g) : Win w' p fp most last := by
  obtain ⟨v1, v2, v3, o1, o2, o3, hb, h1, h2, h3, hp, d1, d2, d3⟩ := h
  exact ⟨v1, v2, v3, o1, o2, o3, k.blk hb (hF p hp), h1.kept k (fun g hg => hF g (d1 g hg).1), h2.kept k (fun g hg => hF g (d2 g hg).1), h3.kept k (fun g hg => hF g (d3 g hg).1), hp, d1, d2, d3⟩
theorem Win.mono {w : World} {p : Nat} {fp fq : Nat → Prop} {most : Nat} {last : List ByteArray} (h : Win w p fp most last) (hF : ∀ g, g < w.heap.size → fp g → fq g) : Win w p fq most last := by
  obtain ⟨v1, v2, v3, o1, o2, o3, hb, h1, h2, h3, hp, d1, d2, d3⟩ := h
  exact ⟨v1, v2, v3, o1, o2, o3, hb, h1, h2, h3, hF p hb.lt hp, fun g hg => ⟨hF g (h1.lt hg) (d1 g hg).1, (d1 g hg).2⟩, fun g hg => ⟨hF g (h2.lt hg) (d2 g hg).1, (d2 g hg).2⟩, fun g hg => ⟨hF g (h3.lt hg) (d3 g hg).1, (d3 g hg).2⟩⟩

theorem new_bad (w : World) (n : Int) (h : n < 1 ∨ 64 < n) :
    Calls Try.prog 9 #[.int .i64 n] w fun e w' => e = .returned (.tuple #[.pointer none, .int .i64 3]) ∧ w' = w := by
  rcases h with h | h
  · go_enter Try.func9, Try.ntmps9
    go_wp2
    go_ret2
    exact ⟨rfl, rfl⟩
  · have h2 : ¬ n < 1 := by omega
    go_enter Try.func9, Try.ntmps9
    go_wp2
    go_ret2
    exact ⟨rfl, rfl⟩
theorem new_good (w : World) (n : Int) (h1 : 1 ≤ n) (h2 : n ≤ 64) :
    Calls Try.prog 9 #[.int .i64 n] w fun e w' => e = .returned (.tuple #[.pointer (some ⟨w.heap.size, 0, none⟩), .int .i64 0]) ∧
      w' = w.alloc (.cells #[.int .i64 n, .slice none 0 0, .slice none 0 0, .slice none 0 0] 51) := by
  have h3 : ¬ n < 1 := by omega
  have h4 : ¬ 64 < n := by omega
  go_enter Try.func9, Try.ntmps9
  go_wp2
  go_ret2
  exact ⟨rfl, rfl⟩
theorem win_new (w : World) (n : Nat) : Win (w.alloc (.cells #[.int .i64 n, .slice none 0 0, .slice none 0 0, .slice none 0 0] 51)) w.heap.size (fun g => g = w.heap.size) n [] :=
  ⟨_, _, _, none, none, none, Blk.new w _ _, Sl.nil _ _ _, Sl.nil _ _ _, Sl.nil _ _ _, rfl, by simp, by simp, by simp⟩

theorem first_calls (w : World) (v : Value) (l : List ByteArray) (own : Option Nat) (h : Sl w v 9 1 l.length (l.map enc) own) :
    Calls Try.prog 34 #[v] w fun e w' => e = .returned (.tuple #[Value.string (hd l), .bool !l.isEmpty]) ∧ w' = w := by
  cases l with
  | nil =>
    obtain ⟨a, cap, rfl, hc, hm⟩ := h.form
    clear h
    go_enter Try.func34, Try.ntmps34
    go_wp2
    go_ret2
    exact ⟨rfl, rfl⟩
  | cons y l =>
    obtain ⟨g, off, cap, ho, rfl, hc, hm, hcell, hfr⟩ := h.some (by simp)
    have h0 : w.cell? ⟨g, off, none⟩ = some (Value.string y) := hcell 0 _ rfl
    unfold maxLen at hm
    clear h hcell hfr
    simp only [List.length_cons] at hc ⊢
    go_enter Try.func34, Try.ntmps34
    go_wp2
    go_ret2
    exact ⟨rfl, rfl⟩

theorem least_nil (w : World) : Calls Try.prog 13 #[.pointer none] w fun e w' => e = .returned (.tuple #[Value.string ByteArray.empty, .bool false]) ∧ w' = w := by
  go_enter Try.func13, Try.ntmps13
  go_wp2
  go_ret2
  exact ⟨rfl, rfl⟩
theorem greatest_nil (w : World) : Calls Try.prog 14 #[.pointer none] w fun e w' => e = .returned (.tuple #[Value.string ByteArray.empty, .bool false]) ∧ w' = w := by
  go_enter Try.func14, Try.ntmps14
  go_wp2
  go_ret2
  exact ⟨rfl, rfl⟩

theorem least_calls (w : World) (p : Nat) (fp : Nat → Prop) (most : Nat) (last : List ByteArray) (h : Win w p fp most last) :
    Calls Try.prog 13 #[.pointer (some ⟨p, 0, none⟩)] w fun e w' => e = .returned (.tuple #[Value.string (hd (minsL lt last)), .bool !(minsL lt last).isEmpty]) ∧ w' = w := by
  obtain ⟨v1, v2, v3, o1, o2, o3, hb, h1, h2, h3, hp, d1, d2, d3⟩ := h
  have hc := hb.cell (i := 2) rfl
  have H2 := Lib.hid h2
  clear hb h1 h2 h3 d1 d2 d3
  go_enter Try.func13, Try.ntmps13
  go_wp2_with fail
  refine (first_calls _ _ _ _ H2.out).mono ?_
  rintro e w' ⟨rfl, rfl⟩
  go_wp2_with fail
  go_ret2
  exact ⟨rfl, rfl⟩
theorem greatest_calls (w : World) (p : Nat) (fp : Nat → Prop) (most : Nat) (last : List ByteArray) (h : Win w p fp most last) :
    Calls Try.prog 14 #[.pointer (some ⟨p, 0, none⟩)] w fun e w' => e = .returned (.tuple #[Value.string (hd (minsL (fun a b => lt b a) last)), .bool !(minsL (fun a b => lt b a) last).isEmpty]) ∧ w' = w := by
  obtain ⟨v1, v2, v3, o1, o2, o3, hb, h1, h2, h3, hp, d1, d2, d3⟩ := h
  have hc := hb.cell (i := 3) rfl
  have H2 := Lib.hid h3
  clear hb h1 h2 h3 d1 d2 d3
  go_enter Try.func14, Try.ntmps14
  go_wp2_with fail
  refine (first_calls _ _ _ _ H2.out).mono ?_
  rintro e w' ⟨rfl, rfl⟩
  go_wp2_with fail
  go_ret2
  exact ⟨rfl, rfl⟩

theorem add_nil (w : World) (x : ByteArray) : Calls Try.prog 12 #[.pointer none, Value.string x] w fun e w' => e = .returned (.int .i64 1) ∧ w' = w := by
  go_enter Try.func12, Try.ntmps12
  go_wp2
  go_ret
  exact ⟨rfl, rfl⟩

end Go.Proofs.Ytnohlghgihfhbaa.WinS
