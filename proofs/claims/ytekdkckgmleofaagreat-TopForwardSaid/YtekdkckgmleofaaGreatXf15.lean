/- Joined texts. -/
import Derived.Test.YtekdkckgmleofaaGreatXf14
import Derived.Deep.RegionHeld3
set_option linter.unusedVariables false
set_option linter.unusedSimpArgs false
/- A ring at afterimage/api.Snap: what it is in memory; New, place, Len, Floor, At, Until, Get. -/
namespace Go.Proofs.YtekdkckgmleofaaGreat.RingN
open Go.RowKit

/-- A ring at block p, of so many things at most; all its memory lies in fp. -/
def Ring (w : World) (p : Nat) (fp : Nat → Prop) (most : Nat) (r : RingM SnapS) : Prop :=
  ∃ v o, Blk w p [v, .int .i64 most, .int .i64 r.floor, .bool r.gone] 159 ∧ Sl w v 168 4 r.l.length (cellsL enc r.l) o ∧ fp p ∧ (∀ g, o = some g → fp g ∧ g ≠ p) ∧ Srt r.l ∧ r.l.length ≤ most

theorem Ring.kept {F : Nat → Prop} {w w' : World} {p : Nat} {fp : Nat → Prop} {most : Nat} {r : RingM SnapS} (h : Ring w p fp most r) (k : Kept F w w') (hF : ∀ g, fp g → ¬ F g) : Ring w' p fp most r := by
  obtain ⟨v, o, hb, h1, hp, d1, hs, hl⟩ := h
  exact ⟨v, o, k.blk hb (hF p hp), h1.kept k (fun g hg => hF g (d1 g hg).1), hp, d1, hs, hl⟩
theorem Ring.mono {w : World} {p : Nat} {fp fq : Nat → Prop} {most : Nat} {r : RingM SnapS} (h : Ring w p fp most r) (hF : ∀ g, g < w.heap.size → fp g → fq g) : Ring w p fq most r := by
  obtain ⟨v, o, hb, h1, hp, d1, hs, hl⟩ := h
  exact ⟨v, o, hb, h1, hF p hb.lt hp, fun g hg => ⟨hF g (h1.lt hg) (d1 g hg).1, (d1 g hg).2⟩, hs, hl⟩
theorem Ring.srt {w : World} {p : Nat} {fp : Nat → Prop} {most : Nat} {r : RingM SnapS} (h : Ring w p fp most r) : Srt r.l := by
  obtain ⟨v, o, hb, h1, hp, d1, hs, hl⟩ := h
  exact hs
theorem Ring.len {w : World} {p : Nat} {fp : Nat → Prop} {most : Nat} {r : RingM SnapS} (h : Ring w p fp most r) : r.l.length ≤ most := by
  obtain ⟨v, o, hb, h1, hp, d1, hs, hl⟩ := h
  exact hl

theorem new_bad (w : World) (n : Int) (h : n < 1 ∨ 64 < n) :
    Calls Tryz.prog 42 #[.int .i64 n] w fun e w' => e = .returned (.tuple #[.pointer none, .int .i64 3]) ∧ w' = w := by
  rcases h with h | h
  · go_enter Tryz.func42, Tryz.ntmps42
    go_wp2
    go_ret2
    exact ⟨rfl, rfl⟩
  · have h2 : ¬ n < 1 := by omega
    go_enter Tryz.func42, Tryz.ntmps42
    go_wp2
    go_ret2
    exact ⟨rfl, rfl⟩
theorem new_good (w : World) (n : Int) (h1 : 1 ≤ n) (h2 : n ≤ 64) :
    Calls Tryz.prog 42 #[.int .i64 n] w fun e w' => e = .returned (.tuple #[.pointer (some ⟨w.heap.size, 0, none⟩), .int .i64 0]) ∧
      Ring w' w.heap.size (fun g => g = w.heap.size) n.toNat ⟨[], 0, false⟩ ∧ Kept (fun _ => False) w w' ∧ w'.heap.size = w.heap.size + 1 := by
  have h3 : ¬ n < 1 := by omega
  have h4 : ¬ 64 < n := by omega
  go_enter Tryz.func42, Tryz.ntmps42
  go_wp2
  go_ret2
  have hn : ((n.toNat : Nat) : Int) = n := by omega
  refine ⟨rfl, ⟨.slice none 0 0, none, ?_, Sl.nil _ _ _, rfl, fun g hg => by simp at hg, List.Pairwise.nil, Nat.zero_le _⟩, ?_, ?_⟩
  · rw [hn]
    exact Blk.new w _ _
  · exact ((Kept.refl _ w).alloc _)
  · simp


theorem place_calls (w : World) (p : Nat) (fp : Nat → Prop) (most : Nat) (r : RingM SnapS) (k : Int) (h : Ring w p fp most r) (hm : most ≤ 64) :
    Calls Tryz.prog 74 #[.pointer (some ⟨p, 0, none⟩), .int .i64 k] w fun e w' => e = .returned (.tuple #[.int .i64 (plc r.l k), .bool (there r.l k)]) ∧ Kept (fun _ => False) w w' := by
  obtain ⟨v, o, hb, h1, hp, d1, hs, hl⟩ := h
  obtain ⟨a, cap, rfl, hcap, hcm⟩ := h1.form
  unfold maxLen at hcm
  have c0 := hb.cell (i := 0) rfl
  have c1 := hb.cell (i := 1) rfl
  have c2 := hb.cell (i := 2) rfl
  have c3 := hb.cell (i := 3) rfl
  have HB := Lib.hid hb
  have H1 := Lib.hid h1
  have HS := Lib.hid hs
  have D1 := Lib.hid d1
  clear hb h1 hs d1
  go_enter Tryz.func74, Tryz.ntmps74
  go_wp2_with fail
  refine (search_calls _ _ r.l _ k H1.out HS.out (by omega)).mono ?_
  rintro e w' ⟨rfl, hk⟩
  have HK := Lib.hid hk
  clear hk
  go_wp2_with fail
  go_ret2
  exact ⟨rfl, HK.out⟩

theorem len_nil (w : World) : Calls Tryz.prog 101 #[.pointer none] w fun e w' => e = .returned (.int .i64 0) ∧ w' = w := by
  go_enter Tryz.func101, Tryz.ntmps101
  go_wp2
  go_ret
  exact ⟨rfl, rfl⟩
theorem len_calls (w : World) (p : Nat) (fp : Nat → Prop) (most : Nat) (r : RingM SnapS) (h : Ring w p fp most r) :
    Calls Tryz.prog 101 #[.pointer (some ⟨p, 0, none⟩)] w fun e w' => e = .returned (.int .i64 r.l.length) ∧ w = w' := by
  obtain ⟨v, o, hb, h1, hp, d1, hs, hl⟩ := h
  obtain ⟨a, cap, rfl, hcap, hcm⟩ := h1.form
  unfold maxLen at hcm
  have c0 := hb.cell (i := 0) rfl
  have c1 := hb.cell (i := 1) rfl
  have c2 := hb.cell (i := 2) rfl
  have c3 := hb.cell (i := 3) rfl
  have HB := Lib.hid hb
  have H1 := Lib.hid h1
  have HS := Lib.hid hs
  have D1 := Lib.hid d1
  clear hb h1 hs d1
  go_enter Tryz.func101, Tryz.ntmps101
  go_wp2
  go_ret
  exact ⟨rfl, rfl⟩

set_option maxRecDepth 100000 in
theorem at_in (w : World) (p : Nat) (fp : Nat → Prop) (most : Nat) (r : RingM SnapS) (h : Ring w p fp most r) (i : Nat) (y : Int × SnapS) (hy : r.l[i]? = some y) :
    Calls Tryz.prog 102 #[.pointer (some ⟨p, 0, none⟩), .int .i64 i] w fun e w' => e = .returned (.tuple #[.int .i64 y.1, sv y.2, .int .i64 0]) ∧ Kept (fun _ => False) w w' := by
  have hil : i < r.l.length := by
    rcases Nat.lt_or_ge i r.l.length with h | h
    · exact h
    · rw [List.getElem?_eq_none h] at hy; cases hy
  obtain ⟨v, o, hb, h1, hp, d1, hs, hl⟩ := h
  obtain ⟨a, cap, rfl, hcap, hcm⟩ := h1.form
  unfold maxLen at hcm
  have c0 := hb.cell (i := 0) rfl
  have hpl := hb.lt
  have HB := Lib.hid hb
  have H1 := Lib.hid h1
  have HS := Lib.hid hs
  have D1 := Lib.hid d1
  clear hb h1 hs d1
  obtain ⟨g, off, cap', ho, hv, hgl, -, hcell, -⟩ := H1.out.some (by omega)
  cases hv
  obtain ⟨e1, e2, e3, e4⟩ := cells_at hcell hy
  clear hcell
  have hgs : g < w.heap.size := lt_of_cell e1
  have hne1 : p ≠ w.heap.size := Nat.ne_of_lt hpl
  have hne2 : g ≠ w.heap.size := Nat.ne_of_lt hgs
  go_enter Tryz.func102, Tryz.ntmps102
  go_wp2_with fail
  go_region_held3 (fun w' => w'.cell? ⟨p, 0, none⟩ = some (.slice (some ⟨g, off, none⟩) r.l.length cap) ∧ w'.cell? ⟨g, off + i * 4, none⟩ = some (.int .i64 y.1) ∧ w'.cell? ⟨g, off + i * 4 + 1, none⟩ = some (.int .i64 y.2.tick) ∧ w'.cell? ⟨g, off + i * 4 + 2, none⟩ = some (.int .i64 y.2.time) ∧ w'.cell? ⟨g, off + i * 4 + 3, none⟩ = some (.slice y.2.a y.2.len y.2.cap))
    (first | go_keep) (fail)
  all_goals
    go_wp2
    refine bodyPost_ret (v := .tuple #[.int .i64 y.1, sv y.2, .int .i64 0]) (by simp [results, Tryz.f102, Tryz.results102, go_sem]) rfl ⟨rfl, ?_⟩
    exact (((Kept.refl (fun _ => False) w).alloc _).alloc _).drew
set_option maxRecDepth 100000 in
theorem at_out (w : World) (p : Nat) (fp : Nat → Prop) (most : Nat) (r : RingM SnapS) (h : Ring w p fp most r) (i : Int) (hi : i < 0 ∨ (r.l.length : Int) ≤ i) :
    Calls Tryz.prog 102 #[.pointer (some ⟨p, 0, none⟩), .int .i64 i] w fun e w' => e = .returned (.tuple #[.int .i64 0, sv zS, .int .i64 3]) ∧ Kept (fun _ => False) w w' := by
  obtain ⟨v, o, hb, h1, hp, d1, hs, hl⟩ := h
  obtain ⟨a, cap, rfl, hcap, hcm⟩ := h1.form
  unfold maxLen at hcm
  have c0 := hb.cell (i := 0) rfl
  have hpl := hb.lt
  have hne1 : p ≠ w.heap.size := Nat.ne_of_lt hpl
  have HBN := Lib.hid ((Blk.new w [.int .i64 0, .int .i64 0, .slice none 0 0] 42).alloc (.cells #[.int .i64 0, .int .i64 0, .slice none 0 0] 42))
  clear hb h1 hs d1
  by_cases h0 : i < 0
  · go_enter Tryz.func102, Tryz.ntmps102
    go_wp2_with fail
    go_region_held3 (fun w' => w'.cell? ⟨w.heap.size + 1, 0, none⟩ = some (.int .i64 0) ∧ w'.cell? ⟨w.heap.size + 1, 1, none⟩ = some (.int .i64 0) ∧ w'.cell? ⟨w.heap.size + 1, 2, none⟩ = some (.slice none 0 0)) (first | go_keep) (fail)
    all_goals
      go_wp2
      refine bodyPost_ret (v := .tuple #[.int .i64 0, sv zS, .int .i64 3]) (by simp [results, Tryz.f102, Tryz.results102, go_sem]) rfl ⟨rfl, ?_⟩
      exact (((Kept.refl (fun _ => False) w).alloc _).alloc _).drew
  · have h1 : (r.l.length : Int) ≤ i := by omega
    go_enter Tryz.func102, Tryz.ntmps102
    go_wp2_with fail
    go_region_held3 (fun w' => w'.cell? ⟨w.heap.size + 1, 0, none⟩ = some (.int .i64 0) ∧ w'.cell? ⟨w.heap.size + 1, 1, none⟩ = some (.int .i64 0) ∧ w'.cell? ⟨w.heap.size + 1, 2, none⟩ = some (.slice none 0 0)) (first | go_keep) (fail)
    all_goals
      go_wp2
      refine bodyPost_ret (v := .tuple #[.int .i64 0, sv zS, .int .i64 3]) (by simp [results, Tryz.f102, Tryz.results102, go_sem]) rfl ⟨rfl, ?_⟩
      exact (((Kept.refl (fun _ => False) w).alloc _).alloc _).drew
end Go.Proofs.YtekdkckgmleofaaGreat.RingN

/- Floor of a ring at afterimage/api.Snap. -/
namespace Go.Proofs.YtekdkckgmleofaaGreat.RingN
open Go.RowKit


theorem floor_nil (w : World) : Calls Tryz.prog 114 #[.pointer none] w fun e w' => e = .returned (.tuple #[.int .i64 0, .bool false]) ∧ w' = w := by
  go_enter Tryz.func114, Tryz.ntmps114
  go_wp2
  go_ret2
  exact ⟨rfl, rfl⟩
theorem floor_calls (w : World) (p : Nat) (fp : Nat → Prop) (most : Nat) (r : RingM SnapS) (h : Ring w p fp most r) :
    Calls Tryz.prog 114 #[.pointer (some ⟨p, 0, none⟩)] w fun e w' => e = .returned (.tuple #[.int .i64 r.floor, .bool r.gone]) ∧ ∃ n, w' = w.drewN n := by
  obtain ⟨v, o, hb, h1, hp, d1, hs, hl⟩ := h
  obtain ⟨a, cap, rfl, hcap, hcm⟩ := h1.form
  unfold maxLen at hcm
  have c0 := hb.cell (i := 0) rfl
  have c1 := hb.cell (i := 1) rfl
  have c2 := hb.cell (i := 2) rfl
  have c3 := hb.cell (i := 3) rfl
  have HB := Lib.hid hb
  have H1 := Lib.hid h1
  have HS := Lib.hid hs
  have D1 := Lib.hid d1
  clear hb h1 hs d1
  go_enter Tryz.func114, Tryz.ntmps114
  go_wp2_with fail
  go_quiet (fail)
  go_wp2_with fail
  go_ret2
  exact ⟨rfl, _, rfl⟩
end Go.Proofs.YtekdkckgmleofaaGreat.RingN

/- Get and Until of a ring at afterimage/api.Snap. -/
namespace Go.Proofs.YtekdkckgmleofaaGreat.RingN
open Go.RowKit


/-- What Until counts. -/
def untilM (l : List (Int × SnapS)) (k : Int) : Nat := plc l k + (if there l k then 1 else 0)
/-- What Get tells. -/
def getM (l : List (Int × SnapS)) (k : Int) : SnapS := if there l k then (match l[plc l k]? with | some y => y.2 | none => zS) else zS

theorem there_some {l : List (Int × SnapS)} {k : Int} (h : there l k = true) : ∃ y, l[plc l k]? = some y ∧ y.1 = k := by
  unfold there at h
  split at h
  · rename_i y hy
    exact ⟨y, hy, by simpa using h⟩
  · cases h

theorem until_calls (w : World) (p : Nat) (fp : Nat → Prop) (most : Nat) (r : RingM SnapS) (k : Int) (h : Ring w p fp most r) (hm : most ≤ 64) :
    Calls Tryz.prog 115 #[.pointer (some ⟨p, 0, none⟩), .int .i64 k] w fun e w' => e = .returned (.int .i64 (untilM r.l k)) ∧ Kept (fun _ => False) w w' := by
  have HP := Lib.hid (place_calls w p fp most r k h hm)
  have hpl : plc r.l k ≤ r.l.length := plc_le _ _
  have hlm := h.len
  clear h
  cases ht : there r.l k with
  | true =>
    rw [ht] at HP
    have eu : Hid (untilM r.l k = plc r.l k + 1) := Lib.hid (by unfold untilM; rw [ht]; rfl)
    clear ht
    generalize plc r.l k = q at *
    go_enter Tryz.func115, Tryz.ntmps115
    go_wp2_with fail
    refine (HP.out).mono ?_
    rintro e w' ⟨rfl, hk⟩
    have HK := Lib.hid hk
    clear hk
    go_wp2_with fail
    go_ret
    exact ⟨by rw [eu.out]; congr 2, HK.out⟩
  | false =>
    rw [ht] at HP
    have eu : Hid (untilM r.l k = plc r.l k) := Lib.hid (by unfold untilM; rw [ht]; rfl)
    clear ht
    generalize plc r.l k = q at *
    go_enter Tryz.func115, Tryz.ntmps115
    go_wp2_with fail
    refine (HP.out).mono ?_
    rintro e w' ⟨rfl, hk⟩
    have HK := Lib.hid hk
    clear hk
    go_wp2_with fail
    go_ret
    exact ⟨by rw [eu.out]; rfl, HK.out⟩

theorem get_calls (w : World) (p : Nat) (fp : Nat → Prop) (most : Nat) (r : RingM SnapS) (k : Int) (h : Ring w p fp most r) (hm : most ≤ 64) :
    Calls Tryz.prog 46 #[.pointer (some ⟨p, 0, none⟩), .int .i64 k] w fun e w' => e = .returned (.tuple #[sv (getM r.l k), .bool (there r.l k)]) ∧ Kept (fun _ => False) w w' := by
  have HP := Lib.hid (fun W (hK : Kept (fun _ => False) w W) => place_calls W p fp most r k (h.kept hK (fun _ _ h => h)) hm)
  cases ht : there r.l k with
  | true =>
    rw [ht] at HP
    obtain ⟨y, hy, -⟩ := there_some ht
    have hil : plc r.l k < r.l.length := by
      rcases Nat.lt_or_ge (plc r.l k) r.l.length with h | h
      · exact h
      · rw [List.getElem?_eq_none h] at hy; cases hy
    have eu : Hid (getM r.l k = y.2) := Lib.hid (by unfold getM; rw [ht, hy]; rfl)
    clear ht
    obtain ⟨v, o, hb, h1, hp, d1, hs, hl⟩ := h
    obtain ⟨a, cap, rfl, hcap, hcm⟩ := h1.form
    unfold maxLen at hcm
    have c0 := hb.cell (i := 0) rfl
    have c1 := hb.cell (i := 1) rfl
    have c2 := hb.cell (i := 2) rfl
    have c3 := hb.cell (i := 3) rfl
    have HB := Lib.hid hb
    have H1 := Lib.hid h1
    have HS := Lib.hid hs
    have D1 := Lib.hid d1
    clear hb h1 hs d1
    have hpl := HB.out.lt
    obtain ⟨g, off, cap', ho, hv, -, -, hcell, -⟩ := H1.out.some (by omega)
    cases hv
    obtain ⟨e1, e2, e3, e4⟩ := cells_at hcell hy
    have hgs : g < w.heap.size := lt_of_cell e1
    have hne1 : p ≠ w.heap.size := Nat.ne_of_lt hpl
    have hne2 : g ≠ w.heap.size := Nat.ne_of_lt hgs
    have gp := (D1.out g ho).2
    clear hcell hy
    generalize plc r.l k = q at *
    go_enter Tryz.func46, Tryz.ntmps46
    go_wp2_with fail
    have HK0 := Lib.hid ((Kept.refl (fun _ => False) w).alloc (.cells #[.int .i64 0, .int .i64 0, .slice none 0 0] 42))
    refine (HP.out _ HK0.out).mono ?_
    rintro e w' ⟨rfl, hk1⟩
    have hk := HK0.out.trans hk1 (fun _ h => h.elim)
    have hbl := hk1.blk (Blk.new w [.int .i64 0, .int .i64 0, .slice none 0 0] 42) (fun h => h)
    have b0 := hbl.cell (i := 0) rfl
    have f0 := hbl.free 0
    have b1 := hbl.cell (i := 1) rfl
    have f1 := hbl.free 1
    have b2 := hbl.cell (i := 2) rfl
    have f2 := hbl.free 2
    clear hk1
    have HK := Lib.hid hk
    have c0' := hk.cell c0 (fun h => h)
    have e2' := hk.cell e2 (fun h => h)
    have e3' := hk.cell e3 (fun h => h)
    have e4' := hk.cell e4 (fun h => h)
    have HBL := Lib.hid hbl
    clear hk hbl
    go_wp2_with fail
    have hf := ((((((HBL.out.set 0 (.int .i64 y.2.tick)).set 1 (.int .i64 y.2.time)).set 2 (.slice y.2.a y.2.len y.2.cap)).set 0 (.int .i64 y.2.tick)).set 1 (.int .i64 y.2.time)).set 2 (.slice y.2.a y.2.len y.2.cap))
    have r0 := hf.cell (i := 0) rfl
    have r1 := hf.cell (i := 1) rfl
    have r2 := hf.cell (i := 2) rfl
    refine bodyPost_ret (v := .tuple #[sv y.2, .bool true]) (by simp [results, Tryz.f46, Tryz.results46, go_sem, r0, r1, r2]) rfl ⟨by rw [eu.out], ?_⟩
    exact ((((((HK.out.setCell (a := ⟨w.heap.size, 0, none⟩) (.inr (Nat.le_refl _)) _).setCell (a := ⟨w.heap.size, 1, none⟩) (.inr (Nat.le_refl _)) _).setCell (a := ⟨w.heap.size, 2, none⟩) (.inr (Nat.le_refl _)) _).setCell (a := ⟨w.heap.size, 0, none⟩) (.inr (Nat.le_refl _)) _).setCell (a := ⟨w.heap.size, 1, none⟩) (.inr (Nat.le_refl _)) _).setCell (a := ⟨w.heap.size, 2, none⟩) (.inr (Nat.le_refl _)) _)
  | false =>
    rw [ht] at HP
    have eu : Hid (getM r.l k = zS) := Lib.hid (by unfold getM; rw [ht]; rfl)
    clear ht h
    generalize plc r.l k = q at *
    go_enter Tryz.func46, Tryz.ntmps46
    go_wp2_with fail
    have HK0 := Lib.hid ((Kept.refl (fun _ => False) w).alloc (.cells #[.int .i64 0, .int .i64 0, .slice none 0 0] 42))
    refine (HP.out _ HK0.out).mono ?_
    rintro e w' ⟨rfl, hk1⟩
    have hk := HK0.out.trans hk1 (fun _ h => h.elim)
    have hbl := hk1.blk (Blk.new w [.int .i64 0, .int .i64 0, .slice none 0 0] 42) (fun h => h)
    have b0 := hbl.cell (i := 0) rfl
    have f0 := hbl.free 0
    have b1 := hbl.cell (i := 1) rfl
    have f1 := hbl.free 1
    have b2 := hbl.cell (i := 2) rfl
    have f2 := hbl.free 2
    clear hk1
    have HK := Lib.hid hk
    have HBL := Lib.hid hbl
    clear hk hbl
    go_wp2_with fail
    have hf := (((HBL.out.set 0 (.int .i64 zS.tick)).set 1 (.int .i64 zS.time)).set 2 (.slice zS.a zS.len zS.cap))
    have r0 := hf.cell (i := 0) rfl
    have r1 := hf.cell (i := 1) rfl
    have r2 := hf.cell (i := 2) rfl
    refine bodyPost_ret (v := .tuple #[sv zS, .bool false]) (by simp [results, Tryz.f46, Tryz.results46, go_sem, r0, r1, r2]) rfl ⟨by rw [eu.out], ?_⟩
    exact (((HK.out.setCell (a := ⟨w.heap.size, 0, none⟩) (.inr (Nat.le_refl _)) _).setCell (a := ⟨w.heap.size, 1, none⟩) (.inr (Nat.le_refl _)) _).setCell (a := ⟨w.heap.size, 2, none⟩) (.inr (Nat.le_refl _)) _)
end Go.Proofs.YtekdkckgmleofaaGreat.RingN
