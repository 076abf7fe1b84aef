/- A ring at string: what it is in memory; New, place, Len, Floor, At, Until, Get. -/
import Derived.Test.YtolgapcckbcmbaaRinS
namespace Go.Proofs.Ytolgapcckbcmbaa.RingS
open Go.RowKit

/-- A ring at block p, of so many things at most; all its memory lies in fp. -/
def Ring (w : World) (p : Nat) (fp : Nat → Prop) (most : Nat) (r : RingM ByteArray) : Prop :=
  ∃ v o, Blk w p [v, .int .i64 most, .int .i64 r.floor, .bool r.gone] 74 ∧ Sl w v 82 2 r.l.length (cellsL enc r.l) o ∧ fp p ∧ (∀ g, o = some g → fp g ∧ g ≠ p) ∧ Srt r.l ∧ r.l.length ≤ most

theorem Ring.kept {F : Nat → Prop} {w w' : World} {p : Nat} {fp : Nat → Prop} {most : Nat} {r : RingM ByteArray} (h : Ring w p fp most r) (k : Kept F w w') (hF : ∀ g, fp g → ¬ F g) : Ring w' p fp most r := by
  obtain ⟨v, o, hb, h1, hp, d1, hs, hl⟩ := h
  exact ⟨v, o, k.blk hb (hF p hp), h1.kept k (fun g hg => hF g (d1 g hg).1), hp, d1, hs, hl⟩
theorem Ring.mono {w : World} {p : Nat} {fp fq : Nat → Prop} {most : Nat} {r : RingM ByteArray} (h : Ring w p fp most r) (hF : ∀ g, g < w.heap.size → fp g → fq g) : Ring w p fq most r := by
  obtain ⟨v, o, hb, h1, hp, d1, hs, hl⟩ := h
  exact ⟨v, o, hb, h1, hF p hb.lt hp, fun g hg => ⟨hF g (h1.lt hg) (d1 g hg).1, (d1 g hg).2⟩, hs, hl⟩
theorem Ring.srt {w : World} {p : Nat} {fp : Nat → Prop} {most : Nat} {r : RingM ByteArray} (h : Ring w p fp most r) : Srt r.l := by
  obtain ⟨v, o, hb, h1, hp, d1, hs, hl⟩ := h
  exact hs
theorem Ring.len {w : World} {p : Nat} {fp : Nat → Prop} {most : Nat} {r : RingM ByteArray} (h : Ring w p fp most r) : r.l.length ≤ most := by
  obtain ⟨v, o, hb, h1, hp, d1, hs, hl⟩ := h
  exact hl

theorem new_bad (w : World) (n : Int) (h : n < 1 ∨ 64 < n) :
    Calls Try.prog 9 #[.int .i64 n] w fun e w' => e = .returned (.tuple #[.pointer none, .int .i64 3]) ∧ w' = w := by
  rcases h with h | h
  · go_enter Try.func9, Try.ntmps9
    go_wp2
    go_ret2
    exact ⟨rfl, rfl⟩
  · have h2 : ¬ n < 1 := by omega
    go_enter Try.func9, Try.ntmps9
    go_wp2
    go_ret2
    exact ⟨rfl, rfl⟩
theorem new_good (w : World) (n : Int) (h1 : 1 ≤ n) (h2 : n ≤ 64) :
    Calls Try.prog 9 #[.int .i64 n] w fun e w' => e = .returned (.tuple #[.pointer (some ⟨w.heap.size, 0, none⟩), .int .i64 0]) ∧
      Ring w' w.heap.size (fun g => g = w.heap.size) n.toNat ⟨[], 0, false⟩ ∧ Kept (fun _ => False) w w' ∧ w'.heap.size = w.heap.size + 1 := by
  have h3 : ¬ n < 1 := by omega
  have h4 : ¬ 64 < n := by omega
  go_enter Try.func9, Try.ntmps9
  go_wp2
  go_ret2
  have hn : ((n.toNat : Nat) : Int) = n := by omega
  refine ⟨rfl, ⟨.slice none 0 0, none, ?_, Sl.nil _ _ _, rfl, fun g hg => by simp at hg, List.Pairwise.nil, Nat.zero_le _⟩, ?_, ?_⟩
  · rw [hn]
    exact Blk.new w _ _
  · exact ((Kept.refl _ w).alloc _)
  · simp


theorem place_calls (w : World) (p : Nat) (fp : Nat → Prop) (most : Nat) (r : RingM ByteArray) (k : Int) (h : Ring w p fp most r) (hm : most ≤ 64) :
    Calls Try.prog 31 #[.pointer (some ⟨p, 0, none⟩), .int .i64 k] w fun e w' => e = .returned (.tuple #[.int .i64 (plc r.l k), .bool (there r.l k)]) ∧ Kept (fun _ => False) w w' := by
  obtain ⟨v, o, hb, h1, hp, d1, hs, hl⟩ := h
  obtain ⟨a, cap, rfl, hcap, hcm⟩ := h1.form
  unfold maxLen at hcm
  have c0 := hb.cell (i := 0) rfl
  have c1 := hb.cell (i := 1) rfl
  have c2 := hb.cell (i := 2) rfl
  have c3 := hb.cell (i := 3) rfl
  have HB := Lib.hid hb
  have H1 := Lib.hid h1
  have HS := Lib.hid hs
  have D1 := Lib.hid d1
  clear hb h1 hs d1
  go_enter Try.func31, Try.ntmps31
  go_wp2_with fail
  refine (search_calls _ _ r.l _ k H1.out HS.out (by omega)).mono ?_
  rintro e w' ⟨rfl, hk⟩
  have HK := Lib.hid hk
  clear hk
  go_wp2_with fail
  go_ret2
  exact ⟨rfl, HK.out⟩

theorem len_nil (w : World) : Calls Try.prog 15 #[.pointer none] w fun e w' => e = .returned (.int .i64 0) ∧ w' = w := by
  go_enter Try.func15, Try.ntmps15
  go_wp2
  go_ret
  exact ⟨rfl, rfl⟩
theorem len_calls (w : World) (p : Nat) (fp : Nat → Prop) (most : Nat) (r : RingM ByteArray) (h : Ring w p fp most r) :
    Calls Try.prog 15 #[.pointer (some ⟨p, 0, none⟩)] w fun e w' => e = .returned (.int .i64 r.l.length) ∧ w = w' := by
  obtain ⟨v, o, hb, h1, hp, d1, hs, hl⟩ := h
  obtain ⟨a, cap, rfl, hcap, hcm⟩ := h1.form
  unfold maxLen at hcm
  have c0 := hb.cell (i := 0) rfl
  have c1 := hb.cell (i := 1) rfl
  have c2 := hb.cell (i := 2) rfl
  have c3 := hb.cell (i := 3) rfl
  have HB := Lib.hid hb
  have H1 := Lib.hid h1
  have HS := Lib.hid hs
  have D1 := Lib.hid d1
  clear hb h1 hs d1
  go_enter Try.func15, Try.ntmps15
  go_wp2
  go_ret
  exact ⟨rfl, rfl⟩

theorem at_nil (w : World) (i : Int) : Calls Try.prog 18 #[.pointer none, .int .i64 i] w fun e w' => e = .returned (.tuple #[.int .i64 0, Value.string ByteArray.empty, .int .i64 1]) ∧ w' = w := by
  go_enter Try.func18, Try.ntmps18
  go_wp2
  go_ret3
  exact ⟨rfl, rfl⟩
theorem at_in (w : World) (p : Nat) (fp : Nat → Prop) (most : Nat) (r : RingM ByteArray) (h : Ring w p fp most r) (i : Nat) (y : Int × ByteArray) (hy : r.l[i]? = some y) :
    Calls Try.prog 18 #[.pointer (some ⟨p, 0, none⟩), .int .i64 i] w fun e w' => e = .returned (.tuple #[.int .i64 y.1, Value.string y.2, .int .i64 0]) ∧ ∃ n, w' = w.drewN n := by
  have hil : i < r.l.length := by
    rcases Nat.lt_or_ge i r.l.length with h | h
    · exact h
    · rw [List.getElem?_eq_none h] at hy; cases hy
  obtain ⟨v, o, hb, h1, hp, d1, hs, hl⟩ := h
  obtain ⟨a, cap, rfl, hcap, hcm⟩ := h1.form
  unfold maxLen at hcm
  have c0 := hb.cell (i := 0) rfl
  have c1 := hb.cell (i := 1) rfl
  have c2 := hb.cell (i := 2) rfl
  have c3 := hb.cell (i := 3) rfl
  have HB := Lib.hid hb
  have H1 := Lib.hid h1
  have HS := Lib.hid hs
  have D1 := Lib.hid d1
  clear hb h1 hs d1
  obtain ⟨g, off, cap', ho, hv, -, -, hcell, -⟩ := H1.out.some (by omega)
  cases hv
  obtain ⟨e1, e2⟩ := cells_at hcell hy
  clear hcell
  go_enter Try.func18, Try.ntmps18
  go_wp2_with fail
  go_quiet (fail)
  go_wp2_with fail
  go_ret3
  exact ⟨rfl, _, rfl⟩
theorem at_out (w : World) (p : Nat) (fp : Nat → Prop) (most : Nat) (r : RingM ByteArray) (h : Ring w p fp most r) (i : Int) (hi : i < 0 ∨ r.l.length ≤ i) :
    Calls Try.prog 18 #[.pointer (some ⟨p, 0, none⟩), .int .i64 i] w fun e w' => e = .returned (.tuple #[.int .i64 0, Value.string ByteArray.empty, .int .i64 3]) ∧ w = w' := by
  obtain ⟨v, o, hb, h1, hp, d1, hs, hl⟩ := h
  obtain ⟨a, cap, rfl, hcap, hcm⟩ := h1.form
  unfold maxLen at hcm
  have c0 := hb.cell (i := 0) rfl
  have c1 := hb.cell (i := 1) rfl
  have c2 := hb.cell (i := 2) rfl
  have c3 := hb.cell (i := 3) rfl
  have HB := Lib.hid hb
  have H1 := Lib.hid h1
  have HS := Lib.hid hs
  have D1 := Lib.hid d1
  clear hb h1 hs d1
  by_cases h0 : i < 0
  · go_enter Try.func18, Try.ntmps18
    go_wp2
    go_ret3
    exact ⟨rfl, rfl⟩
  · have h1 : (r.l.length : Int) ≤ i := by omega
    go_enter Try.func18, Try.ntmps18
    go_wp2
    go_ret3
    exact ⟨rfl, rfl⟩
end Go.Proofs.Ytolgapcckbcmbaa.RingS
