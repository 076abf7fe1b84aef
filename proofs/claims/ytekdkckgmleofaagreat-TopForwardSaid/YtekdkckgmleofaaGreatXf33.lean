/- Joined texts. -/
import Derived.Test.YtekdkckgmleofaaGreatXf26
import Derived.Test.YtekdkckgmleofaaGreatXf32
import Derived.Test.YtekdkckgmleofaaGreatXf15
import Derived.Test.YtekdkckgmleofaaGreatXf09
import Derived.Deep.QuietTactic
import Derived.BigQuiet
import Derived.RegionIn
set_option linter.unusedVariables false
set_option linter.unusedSimpArgs false
/- Contracts of package store's functions: own, New. -/
namespace Go.Proofs.YtekdkckgmleofaaGreat
open Go.RowKit

theorem ent_one (xs : List EntM) : ∀ u ∈ cellsL entC xs, u.oneCell' = true := by
  intro u hu
  obtain ⟨y, _, hy⟩ := List.mem_flatMap.1 hu
  simp only [entC, List.mem_cons, List.not_mem_nil, or_false] at hy
  rcases hy with rfl | rfl | rfl | rfl | rfl | rfl | rfl | rfl | rfl <;> rfl
/-- A slice of just these entities, of which the memory is in fe. -/
def EntsAt (w : World) (v : Value) (xs : List EntM) (fe : Nat → Prop) : Prop := ∃ o, Sl w v 39 9 xs.length (cellsL entC xs) o ∧ ∀ g, o = some g → fe g
theorem EntsAt.kept {F : Nat → Prop} {w w' : World} {v : Value} {xs : List EntM} {fe : Nat → Prop} (h : EntsAt w v xs fe) (k : Kept F w w') (hF : ∀ g, fe g → ¬ F g) : EntsAt w' v xs fe := by
  obtain ⟨o, h1, h2⟩ := h
  exact ⟨o, h1.kept k (fun g hg => hF g (h2 g hg)), h2⟩
theorem EntsAt.mono {w : World} {v : Value} {xs : List EntM} {fe fq : Nat → Prop} (h : EntsAt w v xs fe) (hF : ∀ g, g < w.heap.size → fe g → fq g) : EntsAt w v xs fq := by
  obtain ⟨o, h1, h2⟩ := h
  exact ⟨o, h1, fun g hg => hF g (h1.lt hg) (h2 g hg)⟩
theorem EntsAt.form {w : World} {v : Value} {xs : List EntM} {fe : Nat → Prop} (h : EntsAt w v xs fe) : ∃ a cap, v = .slice a xs.length cap ∧ xs.length ≤ cap ∧ cap ≤ maxLen := by
  obtain ⟨o, h1, h2⟩ := h
  exact h1.form
theorem EntsAt.of_one {w : World} {v : Value} {x : EntM} {lo : Nat} (h : OneP 39 9 (entC x) v lo w) : EntsAt w v [x] (fun g => lo ≤ g) := by
  obtain ⟨g, h1, h2⟩ := h
  exact ⟨some g, by simpa [cellsL] using h1, fun g' e => by cases e; exact h2⟩
def OwnPost (tick time : Int) (xs : List EntM) (w : World) (e : Ending) (w' : World) : Prop :=
  ∃ v, e = .returned (snapV tick time v) ∧ EntsAt w' v xs (fun g => w.heap.size ≤ g) ∧ Kept (fun _ => False) w w'
set_option maxRecDepth 100000 in
set_option maxHeartbeats 2000000 in
theorem own_calls (tick time : Int) (v : Value) (xs : List EntM) (fe : Nat → Prop) (w : World) (hv : EntsAt w v xs fe) (hl : xs.length ≤ 1000) :
    Calls Tryz.prog 45 #[snapV tick time v] w (OwnPost tick time xs w) := by
  obtain ⟨a, cap, rfl, -, -⟩ := hv.form
  obtain ⟨o, hS, -⟩ := hv
  obtain ⟨j0, hi, hz0, hz1, hz2⟩ := info_parts infoEnt
  have HI := Lib.hid hi
  have HZ0 := Lib.hid hz0
  have HZ1 := Lib.hid hz1
  have HZ2 := Lib.hid hz2
  have HS := Lib.hid hS
  have HO := Lib.hid (ent_one xs)
  have HCL := Lib.hid (cellsL_len entC_len xs)
  have N1 : Hid (0 + xs.length ≤ maxLen) := Lib.hid (by unfold maxLen; omega)
  have N2 : Hid ((0 + xs.length) * 64 ≤ 140737488355328) := Lib.hid (by omega)
  clear hi hz0 hz1 hz2 hS
  go_enter Tryz.func45, Tryz.ntmps45
  have HE : Hid (∀ W : World, Sl (W.alloc (.cells #[] 39)) (.slice (some ⟨W.heap.size, 0, none⟩) 0 0) 39 9 0 [] (some W.heap.size)) := Lib.hid (fun W => Sl.made W [] 39 9 0 rfl (Nat.zero_le _))
  have HSR : Hid (∀ o1 o2 o3, Src (((w.alloc o1).alloc o2).alloc o3) (.slice a xs.length cap) xs.length (cellsL entC xs)) := Lib.hid (fun o1 o2 o3 => (((HS.out.alloc o1).alloc o2).alloc o3).src)
  have HE2 : Hid (∀ o1 o2, Sl (((w.alloc o1).alloc o2).alloc (.cells #[] 39)) (.slice (some ⟨w.heap.size + 1 + 1, 0, none⟩) 0 0) 39 9 0 [] (some (w.heap.size + 1 + 1))) := Lib.hid (fun o1 o2 => by
    have := HE.out ((w.alloc o1).alloc o2)
    rw [size_alloc, size_alloc] at this
    exact this)
  go_wp2_with (at_builtin; refine wpList_append_sl _ rfl _ _ 40 rfl 39 j0 zentV 9 64 Tryz.underlying40 HI.out HZ0.out HZ1.out HZ2.out rfl _ 0 [] (some (w.heap.size + 1 + 1)) rfl (HE2.out _ _) _ xs.length (cellsL entC xs) rfl (HSR.out _ _ _) HCL.out HO.out N1.out N2.out ?_; intro v3 w3 own3 hS3 ho3 hK3; obtain ⟨a3, cap3, rfl, -, -⟩ := hS3.form; have B0 := hK3.blk (((Blk.new w (snapC tick time (.slice a xs.length cap)) 42).alloc (.cells #[.int .i64 0, .int .i64 0, .slice none 0 0] 42)).alloc (.cells #[] 39)) (fun e => by have := Option.some.inj e; omega); have B1 := hK3.blk ((Blk.new_at (w := w.alloc (.cells (snapC tick time (.slice a xs.length cap)).toArray 42)) (n := w.heap.size + 1) (by simp) [.int .i64 0, .int .i64 0, .slice none 0 0] 42).alloc (.cells #[] 39)) (fun e => by have := Option.some.inj e; omega); have b2 := B0.cell (i := 2) rfl; have f2 := B0.free 2; have b0 := B0.cell (i := 0) rfl; have b1 := B0.cell (i := 1) rfl; have d0 := B1.cell (i := 0) rfl; have d1 := B1.cell (i := 1) rfl; have d2 := B1.cell (i := 2) rfl; have e0 := B1.free 0; have e1 := B1.free 1; have e2 := B1.free 2; have HB1 := Lib.hid B1; have SA := Lib.hid hS3; have OA := Lib.hid ho3; have KA := Lib.hid hK3; clear hS3 ho3 hK3 B0 B1)
  have hf := (((HB1.out.set_ne (a := ⟨w.heap.size, 2, none⟩) (by simp) (.slice a3 xs.length cap3)).set 0 (.int .i64 tick)).set 1 (.int .i64 time)).set 2 (.slice a3 xs.length cap3)
  have KS := (((((Kept.refl (fun k => k = w.heap.size ∨ k = w.heap.size + 1) w3).setCell (a := ⟨w.heap.size, 2, none⟩) (.inl (.inl rfl)) (.slice a3 xs.length cap3)).setCell (a := ⟨w.heap.size + 1, 0, none⟩) (.inl (.inr rfl)) (.int .i64 tick)).setCell (a := ⟨w.heap.size + 1, 1, none⟩) (.inl (.inr rfl)) (.int .i64 time)).setCell (a := ⟨w.heap.size + 1, 2, none⟩) (.inl (.inr rfl)) (.slice a3 xs.length cap3))
  have r0 := hf.cell (i := 0) rfl
  have r1 := hf.cell (i := 1) rfl
  have r2 := hf.cell (i := 2) rfl
  have KA2 := (((((Kept.refl (fun _ => False) w).alloc (.cells (snapC tick time (.slice a xs.length cap)).toArray 42)).alloc (.cells #[.int .i64 0, .int .i64 0, .slice none 0 0] 42)).alloc (.cells #[] 39)).trans KA.out (fun i hi => .inr (by have := Option.some.inj hi; omega))).trans KS (fun i hi => .inr (by rcases hi with hi | hi <;> omega))
  refine bodyPost_ret (v := snapV tick time (.slice a3 xs.length cap3)) (by simp [results, Tryz.f45, Tryz.results45, go_sem, r0, r1, r2]) rfl ⟨_, rfl, ?_, KA2⟩
  have hgo : ∀ g, own3 = some g → w.heap.size + 1 < g := by
    intro g hg
    rcases OA.out with e | e
    · rw [e] at hg; have := Option.some.inj hg; omega
    · rw [e] at hg; have := Option.some.inj hg; simp at this; omega
  have SS := SA.out
  rw [Nat.zero_add, List.nil_append] at SS
  exact ⟨own3, SS.kept KS (fun g hg h => by have := hgo g hg; rcases h with h | h <;> omega), fun g hg => by have := hgo g hg; omega⟩
/-- A snapshot that is kept: its entities' memory is in fe; P is told of it. -/
def ElemOk (w : World) (fe : Nat → Prop) (P : Int → Int → List EntM → Prop) (y : Int × SnapS) : Prop :=
  y.1 = y.2.tick ∧ ∃ ents, y.2.len = ents.length ∧ ents.length ≤ 64 ∧ EntsAt w (.slice y.2.a y.2.len y.2.cap) ents fe ∧ P y.2.tick y.2.time ents
theorem ElemOk.kept {F : Nat → Prop} {w w' : World} {fe : Nat → Prop} {P : Int → Int → List EntM → Prop} {y : Int × SnapS} (h : ElemOk w fe P y) (k : Kept F w w') (hF : ∀ g, fe g → ¬ F g) : ElemOk w' fe P y := by
  obtain ⟨h1, ents, h2, h3, h4, h5⟩ := h
  exact ⟨h1, ents, h2, h3, h4.kept k hF, h5⟩
theorem ElemOk.mono {w : World} {fe fq : Nat → Prop} {P : Int → Int → List EntM → Prop} {y : Int × SnapS} (h : ElemOk w fe P y) (hF : ∀ g, g < w.heap.size → fe g → fq g) : ElemOk w fq P y := by
  obtain ⟨h1, ents, h2, h3, h4, h5⟩ := h
  exact ⟨h1, ents, h2, h3, h4.mono hF, h5⟩
abbrev stoC (p : Nat) (most : Int) (cs : List Int) : List Value := .pointer (some ⟨p, 0, none⟩) :: .int .i64 most :: cs.map (.int .i64)
/-- A store at block s: its ring's memory is in fr, its snapshots' in fe. -/
structure Sto (w : World) (s p : Nat) (fr fe : Nat → Prop) (most : Nat) (r : RingM SnapS) (cs : List Int) (P : Int → Int → List EntM → Prop) : Prop where
  blk : Blk w s (stoC p most cs) 120
  cl : cs.length = 18
  ring : RingN.Ring w p fr most r
  m1 : 1 ≤ most
  m2 : most ≤ 64
  sr : ¬ fr s
  se : ¬ fe s
  re : ∀ g, fr g → ¬ fe g
  el : ∀ y ∈ r.l, ElemOk w fe P y
theorem Sto.kept {F : Nat → Prop} {w w' : World} {s p : Nat} {fr fe : Nat → Prop} {most : Nat} {r : RingM SnapS} {cs : List Int} {P : Int → Int → List EntM → Prop} (h : Sto w s p fr fe most r cs P) (k : Kept F w w') (h1 : ¬ F s) (h2 : ∀ g, fr g → ¬ F g) (h3 : ∀ g, fe g → ¬ F g) : Sto w' s p fr fe most r cs P :=
  { h with blk := k.blk h.blk h1, ring := h.ring.kept k h2, el := fun y hy => (h.el y hy).kept k h3 }
theorem Sto.mono {w : World} {s p : Nat} {fr fe fr' fe' : Nat → Prop} {most : Nat} {r : RingM SnapS} {cs : List Int} {P : Int → Int → List EntM → Prop} (h : Sto w s p fr fe most r cs P) (h1 : ∀ g, g < w.heap.size → (fr' g ↔ fr g)) (h2 : ∀ g, g < w.heap.size → (fe' g ↔ fe g)) (h3 : ∀ g, fr' g → ¬ fe' g) : Sto w s p fr' fe' most r cs P :=
  { h with
    ring := h.ring.mono (fun g hg hf => (h1 g hg).2 hf)
    sr := fun x => h.sr ((h1 s h.blk.lt).1 x)
    se := fun x => h.se ((h2 s h.blk.lt).1 x)
    re := h3
    el := fun y hy => (h.el y hy).mono (fun g hg hf => (h2 g hg).2 hf) }
def NewStoPost (most : Nat) (P : Int → Int → List EntM → Prop) (w : World) (e : Ending) (w' : World) : Prop :=
  ∃ s p, e = .returned (.tuple #[.pointer (some ⟨s, 0, none⟩), .int .i64 0]) ∧ Sto w' s p (fun g => g = p) (fun _ => False) most ⟨[], 0, false⟩ (List.replicate 18 0) P ∧ w.heap.size ≤ p ∧ w.heap.size ≤ s ∧ p < w'.heap.size ∧ s < w'.heap.size ∧ Kept (fun _ => False) w w'
set_option maxRecDepth 100000 in
theorem snew_calls (n : Int) (h1 : 1 ≤ n) (h2 : n ≤ 64) (P : Int → Int → List EntM → Prop) (w : World) :
    Calls Tryz.prog 19 #[.int .i64 n] w (NewStoPost n.toNat P w) := by
  have HR := Lib.hid (RingN.new_good w n h1 h2)
  have HN : Hid (((n.toNat : Nat) : Int) = n) := Lib.hid (by omega)
  go_enter Tryz.func19, Tryz.ntmps19
  go_wp2_with fail
  refine (HR.out).mono ?_
  rintro e w1 ⟨rfl, hR, hk, hz⟩
  have HRI := Lib.hid hR
  have HK := Lib.hid hk
  have HZ := Lib.hid hz
  clear hR hk hz
  go_wp2_with fail
  go_ret2
  have z1 := HZ.out
  have kk := (Kept.refl (fun _ => False) w1).alloc (.cells (stoC w.heap.size n (List.replicate 18 0)).toArray 120)
  refine ⟨w1.heap.size, w.heap.size, rfl, ⟨?_, by simp, HRI.out.kept kk (fun _ _ h => h), by omega, by omega, by omega, fun h => h, fun _ _ h => h, by simp⟩, Nat.le_refl _, by omega, by simp; omega, by simp, HK.out.trans kk (fun _ h => h.elim)⟩
  rw [HN.out]
  exact Blk.new w1 (stoC w.heap.size n (List.replicate 18 0)) 120
end Go.Proofs.YtekdkckgmleofaaGreat

/- Contracts of package store's functions: timely. -/
namespace Go.Proofs.YtekdkckgmleofaaGreat
open Go.RowKit

/-- What At tells: the snapshot, or none. -/
def atM (l : List (Int × SnapS)) (i : Int) : Option (Int × SnapS) := if i < 0 then none else l[i.toNat]?
def atV (o : Option (Int × SnapS)) : Value := match o with
  | some y => .tuple #[.int .i64 y.1, sv y.2, .int .i64 0]
  | none => .tuple #[.int .i64 0, sv zS, .int .i64 3]
theorem at_calls (w : World) (p : Nat) (fr : Nat → Prop) (most : Nat) (r : RingM SnapS) (h : RingN.Ring w p fr most r) (i : Int) :
    Calls Tryz.prog 102 #[.pointer (some ⟨p, 0, none⟩), .int .i64 i] w fun e w' => e = .returned (atV (atM r.l i)) ∧ Kept (fun _ => False) w w' := by
  by_cases h0 : i < 0
  · have e : atM r.l i = none := by unfold atM; rw [if_pos h0]
    rw [e]
    exact RingN.at_out w p fr most r h i (.inl h0)
  · cases hy : r.l[i.toNat]? with
    | none =>
      have e : atM r.l i = none := by unfold atM; rw [if_neg h0]; exact hy
      rw [e]
      exact RingN.at_out w p fr most r h i (.inr (by have := List.getElem?_eq_none_iff.1 hy; omega))
    | some y =>
      have e : atM r.l i = some y := by unfold atM; rw [if_neg h0]; exact hy
      rw [e]
      have := RingN.at_in w p fr most r h i.toNat y hy
      rw [show ((i.toNat : Nat) : Int) = i by omega] at this
      exact this
/-- Does a time stand between those of its neighbours? -/
def aheadB (o : Option (Int × SnapS)) (time : Int) : Bool := match o with
  | some y => decide (y.2.time < time)
  | none => true
def behindB (o : Option (Int × SnapS)) (time : Int) : Bool := match o with
  | some y => decide (time < y.2.time)
  | none => true
def timelyM (l : List (Int × SnapS)) (tick time : Int) : Bool := aheadB (atM l ((RingN.untilM l tick : Int) - 1)) time && behindB (atM l (RingN.untilM l tick)) time
def snapOf (o : Option (Int × SnapS)) : SnapS := match o with
  | some y => y.2
  | none => zS
def keyOfO (o : Option (Int × SnapS)) : Int := match o with
  | some y => y.1
  | none => 0
def errOfO (o : Option (Int × SnapS)) : Int := match o with
  | some _ => 0
  | none => 3
theorem atV_eq (o : Option (Int × SnapS)) : atV o = .tuple #[.int .i64 (keyOfO o), sv (snapOf o), .int .i64 (errOfO o)] := by
  cases o <;> rfl
set_option maxRecDepth 100000 in
set_option maxHeartbeats 4000000 in
theorem timely_calls (tick time : Int) (v : Value) (w : World) (s p : Nat) (fr fe : Nat → Prop) (most : Nat) (r : RingM SnapS) (cs : List Int) (P : Int → Int → List EntM → Prop) (h : Sto w s p fr fe most r cs P) :
    Calls Tryz.prog 73 #[.pointer (some ⟨s, 0, none⟩), snapV tick time v] w fun e w' => e = .returned (.bool (timelyM r.l tick time)) ∧ Kept (fun _ => False) w w' := by
  have hul : RingN.untilM r.l tick ≤ 65 := by
    have h1 := plc_le r.l tick
    have h2 := h.ring.len
    have h3 := h.m2
    unfold RingN.untilM
    split <;> omega
  have HU := Lib.hid (fun W (k : Kept (fun _ => False) w W) => RingN.until_calls W p fr most r tick (h.ring.kept k (fun _ _ h => h)) h.m2)
  have HA := Lib.hid (fun W (k : Kept (fun _ => False) w W) i => at_calls W p fr most r (h.ring.kept k (fun _ _ h => h)) i)
  have HTM : Hid (timelyM r.l tick time = (aheadB (atM r.l ((RingN.untilM r.l tick : Int) - 1)) time && behindB (atM r.l (RingN.untilM r.l tick)) time)) := Lib.hid rfl
  have HB := Lib.hid h.blk
  have s0 := h.blk.cell (i := 0) rfl
  have hsl := h.blk.lt
  clear h
  generalize RingN.untilM r.l tick = u at *
  have HA1 := Lib.hid (fun W k => HA.out W k ((u : Int) - 1))
  have HA2 := Lib.hid (fun W k => HA.out W k (u : Int))
  clear HA
  generalize atM r.l ((u : Int) - 1) = o1 at *
  generalize atM r.l (u : Int) = o2 at *
  rw [atV_eq] at HA1 HA2
  generalize timelyM r.l tick time = res at *
  have h1 : (errOfO o1 = 3 ∧ aheadB o1 time = true) ∨ (errOfO o1 = 0 ∧ aheadB o1 time = true ∧ decide ((snapOf o1).time < time) = true) ∨ (errOfO o1 = 0 ∧ aheadB o1 time = false ∧ decide ((snapOf o1).time < time) = false) := by
    cases o1 with
    | none => exact .inl ⟨rfl, rfl⟩
    | some y =>
      by_cases e : y.2.time < time
      · exact .inr (.inl ⟨rfl, decide_eq_true e, decide_eq_true e⟩)
      · exact .inr (.inr ⟨rfl, decide_eq_false e, decide_eq_false e⟩)
  have h2 : (errOfO o2 = 3 ∧ behindB o2 time = true) ∨ (errOfO o2 = 0 ∧ behindB o2 time = true ∧ decide (time < (snapOf o2).time) = true) ∨ (errOfO o2 = 0 ∧ behindB o2 time = false ∧ decide (time < (snapOf o2).time) = false) := by
    cases o2 with
    | none => exact .inl ⟨rfl, rfl⟩
    | some y =>
      by_cases e : time < y.2.time
      · exact .inr (.inl ⟨rfl, decide_eq_true e, decide_eq_true e⟩)
      · exact .inr (.inr ⟨rfl, decide_eq_false e, decide_eq_false e⟩)
  generalize errOfO o1 = e1 at *
  generalize errOfO o2 = e2 at *
  generalize snapOf o1 = x1 at *
  generalize snapOf o2 = x2 at *
  generalize keyOfO o1 = k1 at *
  generalize keyOfO o2 = k2 at *
  generalize aheadB o1 time = b1 at *
  generalize behindB o2 time = b2 at *
  rcases h1 with ⟨rfl, rfl⟩ | ⟨rfl, rfl, d1⟩ | ⟨rfl, rfl, d1⟩ <;> rcases h2 with ⟨rfl, rfl⟩ | ⟨rfl, rfl, d2⟩ | ⟨rfl, rfl, d2⟩
  all_goals
    go_enter Tryz.func73, Tryz.ntmps73
    go_wp2_with fail
    have HBX := Lib.hid (Blk.new w (snapC tick time v) 42)
    have HK0 := Lib.hid ((Kept.refl (fun _ => False) w).alloc (.cells (snapC tick time v).toArray 42))
    refine at_world (fun W => Blk W s (stoC p most cs) 120 ∧ Blk W w.heap.size (snapC tick time v) 42 ∧ Kept (fun _ => False) w W) ⟨HB.out.alloc _, HBX.out, HK0.out⟩ ?_
    rintro W ⟨BS, BX, hK⟩
    have t0 := BS.cell (i := 0) rfl
    have x0 := BX.cell (i := 0) rfl
    have HBS := Lib.hid BS
    have HBX2 := Lib.hid BX
    have HK := Lib.hid hK
    clear BS BX hK HBX HK0
    refine region_tail 6 (by kernel_rfl) (by kernel_rfl) ?_
    simp only [List.take_succ_cons, List.take_zero, List.drop_succ_cons, List.drop_zero]
    repeat still_step
    refine wpStill_nil ?_
    go_wp2_with fail
    refine (HU.out _ HK.out.drew).mono ?_
    rintro e w1 ⟨rfl, hk1⟩
    have u0 := (hk1.blk HBS.out.drew (fun h => h)).cell (i := 0) rfl
    have HBS1 := Lib.hid (hk1.blk HBS.out.drew (fun h => h))
    have HBX1 := Lib.hid (hk1.blk HBX2.out.drew (fun h => h))
    have HK1 := Lib.hid (HK.out.drew.trans hk1 (fun _ h => h.elim))
    clear hk1 t0 x0
    go_wp2_with fail
    refine (HA1.out _ HK1.out).mono ?_
    rintro e w2 ⟨rfl, hk2⟩
    have B2 := hk2.blk HBS1.out (fun h => h)
    have HBX3 := Lib.hid (hk2.blk HBX1.out (fun h => h))
    have v0 := (B2.alloc (.cells (snapC x1.tick x1.time (.slice x1.a x1.len x1.cap)).toArray 42)).cell (i := 0) rfl
    have HBN := Lib.hid (Blk.new w2 (snapC x1.tick x1.time (.slice x1.a x1.len x1.cap)) 42)
    have HBX4 := Lib.hid (HBX3.out.alloc (.cells (snapC x1.tick x1.time (.slice x1.a x1.len x1.cap)).toArray 42))
    have HK2 := Lib.hid ((HK1.out.trans hk2 (fun _ h => h.elim)).alloc (.cells (snapC x1.tick x1.time (.slice x1.a x1.len x1.cap)).toArray 42))
    clear hk2 u0 B2
    go_wp2_with fail
    refine (HA2.out _ HK2.out).mono ?_
    rintro e w3 ⟨rfl, hk3⟩
    have y1 := ((hk3.blk HBN.out (fun h => h)).alloc (.cells (snapC x2.tick x2.time (.slice x2.a x2.len x2.cap)).toArray 42)).cell (i := 1) rfl
    have z1 := ((hk3.blk HBX4.out (fun h => h)).alloc (.cells (snapC x2.tick x2.time (.slice x2.a x2.len x2.cap)).toArray 42)).cell (i := 1) rfl
    have HK3 := Lib.hid ((HK2.out.trans hk3 (fun _ h => h.elim)).alloc (.cells (snapC x2.tick x2.time (.slice x2.a x2.len x2.cap)).toArray 42))
    clear hk3 v0
    go_wp2_with fail
    go_ret
    exact ⟨by rw [HTM.out]; rfl, HK3.out⟩
end Go.Proofs.YtekdkckgmleofaaGreat

/- Contracts of package bracket's functions over snapshots of which the times rise: Check, Part, Beyond. -/
namespace Go.Proofs.YtekdkckgmleofaaGreat
open Go.RowKit

abbrev snC (x : SnapS) : List Value := snapC x.tick x.time (.slice x.a x.len x.cap)
theorem snC_len (x : SnapS) : (snC x).length = 3 := rfl
structure TimesOk (xs : List SnapS) : Prop where
  bd : ∀ x ∈ xs, -2305843009213693952 ≤ x.time ∧ x.time ≤ 2305843009213693952
  rise : xs.Pairwise (fun a b => a.time < b.time)
theorem TimesOk.step {xs : List SnapS} (h : TimesOk xs) {j : Nat} {a b : SnapS} (ha : xs[j]? = some a) (hb : xs[j + 1]? = some b) : a.time < b.time := by
  obtain ⟨h1, rfl⟩ := List.getElem?_eq_some_iff.1 ha
  obtain ⟨h2, rfl⟩ := List.getElem?_eq_some_iff.1 hb
  exact List.pairwise_iff_getElem.1 h.rise j (j + 1) h1 h2 (by omega)
theorem sn_at {w : World} {g off : Nat} {xs : List SnapS} (h : ∀ j u, (cellsL snC xs)[j]? = some u → w.cell? ⟨g, off + j, none⟩ = some u) {t : Nat} {x : SnapS} (hx : xs[t]? = some x) :
    w.cell? ⟨g, off + t * 3, none⟩ = some (.int .i64 x.tick) ∧ w.cell? ⟨g, off + t * 3 + 1, none⟩ = some (.int .i64 x.time) ∧ w.cell? ⟨g, off + t * 3 + 2, none⟩ = some (.slice x.a x.len x.cap) := by
  have e := fun j u (hj : j < 3) (hu : (snC x)[j]? = some u) => h (t * 3 + j) u ((cellsL_get snC_len xs t j x hx hj).trans hu)
  exact ⟨e 0 _ (by omega) rfl, e 1 _ (by omega) rfl, e 2 _ (by omega) rfl⟩
set_option maxRecDepth 100000 in
set_option maxHeartbeats 4000000 in
theorem bcheck_calls (xs : List SnapS) (hx : TimesOk xs) (hl : xs.length ≤ 1000) (w : World) (v : Value) (own : Option Nat) (hv : Sl w v 42 3 xs.length (cellsL snC xs) own) :
    Calls Tryz.prog 92 #[v] w fun e w' => e = .returned (.int .i64 0) ∧ Kept (fun _ => False) w w' := by
  obtain ⟨a, cap, rfl, hcap, hcm⟩ := hv.form
  unfold maxLen at hcm
  have HV := Lib.hid hv
  have HX := Lib.hid hx
  clear hv hx
  go_enter Tryz.func92, Tryz.ntmps92
  go_wp2_with fail
  go_loopw [7] (fun i wr => ∃ (k : Nat), k ≤ xs.length ∧ i = .int .i64 k ∧ Kept (fun _ => False) w wr) (fun i _ => (xs.length - intOf i).toNat)
  case atStart => exact ⟨0, by omega, rfl, Kept.refl _ w⟩
  case round =>
    obtain ⟨k, hk, rfl, hK⟩ := hrel
    have HK := Lib.hid hK
    clear hK
    by_cases hlt : k < xs.length
    · obtain ⟨x, hxk⟩ : ∃ x, xs[k]? = some x := ⟨_, List.getElem?_eq_getElem hlt⟩
      have hbd := HX.out.bd x (List.mem_of_getElem? hxk)
      obtain ⟨g, off, cap', ho, hvv, -, -, hc, -⟩ := HV.out.some (by omega)
      cases hvv
      have hcw := fun j u hu => HK.out.cell (hc j u hu) (fun h => h)
      obtain ⟨c0, c1, c2⟩ := sn_at (w := wr) hcw hxk
      have hgl : g < wr.heap.size := lt_of_cell c0
      have hgn : g ≠ wr.heap.size := by omega
      have n1 : ¬ x.time < -2305843009213693952 := by omega
      have n2 : ¬ 2305843009213693952 < x.time := by omega
      rcases k with _ | j
      · clear hc hcw hxk hbd
        simp only [Nat.zero_mul, Nat.add_zero] at c0 c1 c2
        go_wp2_with fail
        go_quiet (fail)
        go_wp2_with fail
        refine ⟨⟨1, by omega, by simp, (HK.out.alloc _).drewN _⟩, by simp [intOf]; omega⟩
      · obtain ⟨y, hyj⟩ : ∃ y, xs[j]? = some y := ⟨_, List.getElem?_eq_getElem (by omega)⟩
        have hst := HX.out.step hyj hxk
        have d1 := (sn_at (w := wr) hcw hyj).2.1
        have n3 : ¬ x.time ≤ y.time := by omega
        have hd3 : decide (x.time ≤ y.time) = false := decide_eq_false n3
        have hw1 : IntKind.i64.wrap ((j : Int) + 1 - 1) = (j : Int) := by rw [IntWalk.i64_in _ (by omega)]; omega
        have hw2 : IntKind.i64.wrap (j : Int) = (j : Int) := IntWalk.i64_in _ (by omega)
        have hj0 : (0 : Int) ≤ (j : Int) := by omega
        have hj1 : (j : Int) < (xs.length : Int) := by omega
        have hgt : decide ((0 : Int) < (j : Int) + 1) = true := decide_eq_true (by omega)
        clear hc hcw hxk hbd hyj hst
        go_wp2_with fail
        go_quiet (fail)
        go_wp2_with fail
        refine ⟨⟨j + 1 + 1, by omega, by simp, (HK.out.alloc _).drewN _⟩, by simp [intOf]; omega⟩
    · go_wp2_with fail
      go_ret
      exact ⟨rfl, HK.out⟩
end Go.Proofs.YtekdkckgmleofaaGreat

/- Contracts of package bracket's functions: Part, Beyond. -/
namespace Go.Proofs.YtekdkckgmleofaaGreat
open Go.RowKit

set_option maxRecDepth 100000 in
set_option maxHeartbeats 4000000 in
theorem bpart_calls (a b : SnapS) (at_ : Int) (hab : TimesOk [a, b]) (h1 : a.time ≤ at_) (h2 : at_ ≤ b.time) (w : World) :
    Calls Tryz.prog 97 #[sv a, sv b, .int .i64 at_] w fun e w' => e = .returned (.tuple #[.int .i64 (at_ - a.time), .int .i64 (b.time - a.time), .int .i64 0]) ∧ Kept (fun _ => False) w w' := by
  have HC := Lib.hid (fun W v own h => bcheck_calls [a, b] hab (by simp) W v own h)
  have ha := hab.bd a (by simp)
  have hb := hab.bd b (by simp)
  have HSL : Hid (∀ o1 o2, Sl (((w.alloc o1).alloc o2).alloc (.cells #[.int .i64 a.tick, .int .i64 a.time, .slice a.a a.len a.cap, .int .i64 b.tick, .int .i64 b.time, .slice b.a b.len b.cap] 42)) (.slice (some ⟨w.heap.size + 1 + 1, 0, none⟩) 2 2) 42 3 2 (cellsL snC [a, b]) (some (w.heap.size + 1 + 1))) := Lib.hid (fun o1 o2 => by
    have := Sl.made ((w.alloc o1).alloc o2) (cellsL snC [a, b]) 42 3 2 rfl (by decide)
    rw [size_alloc, size_alloc] at this
    exact this)
  go_enter Tryz.func97, Tryz.ntmps97
  go_wp2_with fail
  refine (HC.out _ _ _ (HSL.out _ _)).mono ?_
  rintro e w1 ⟨rfl, hk1⟩
  have B0 := hk1.blk (((Blk.new w (snC a) 42).alloc (.cells (snC b).toArray 42)).alloc (.cells #[.int .i64 a.tick, .int .i64 a.time, .slice a.a a.len a.cap, .int .i64 b.tick, .int .i64 b.time, .slice b.a b.len b.cap] 42)) (fun h => h)
  have B1 := hk1.blk ((Blk.new_at (w := w.alloc (.cells (snC a).toArray 42)) (n := w.heap.size + 1) (by simp) (snC b) 42).alloc (.cells #[.int .i64 a.tick, .int .i64 a.time, .slice a.a a.len a.cap, .int .i64 b.tick, .int .i64 b.time, .slice b.a b.len b.cap] 42)) (fun h => h)
  have c0 := B0.cell (i := 1) rfl
  have c1 := B1.cell (i := 1) rfl
  have HK := Lib.hid (((((Kept.refl (fun _ => False) w).alloc (.cells (snC a).toArray 42)).alloc (.cells (snC b).toArray 42)).alloc (.cells #[.int .i64 a.tick, .int .i64 a.time, .slice a.a a.len a.cap, .int .i64 b.tick, .int .i64 b.time, .slice b.a b.len b.cap] 42)).trans hk1 (fun _ h => h.elim))
  have n1 : ¬ at_ < a.time := by omega
  have n2 : ¬ b.time < at_ := by omega
  have w1' : IntKind.i64.wrap (at_ - a.time) = at_ - a.time := IntWalk.i64_in _ (by omega)
  have w2' : IntKind.i64.wrap (b.time - a.time) = b.time - a.time := IntWalk.i64_in _ (by omega)
  have HQ1 : Hid (wrap64 (at_ - a.time) = at_ - a.time) := Lib.hid (by unfold wrap64; omega)
  clear hk1 B0 B1
  go_wp2_with fail
  go_quiet (fail)
  go_wp2_with fail
  go_ret3
  exact ⟨rfl, HK.out.drewN _⟩
set_option maxRecDepth 100000 in
theorem bbeyond_calls (n : SnapS) (at_ : Int) (hn : TimesOk [n]) (h1 : n.time ≤ at_) (hat : I64 at_) (w : World) :
    Calls Tryz.prog 94 #[sv n, .int .i64 at_] w fun e w' => e = .returned (.tuple #[.int .i64 (satI (at_ - n.time)), .int .i64 0]) ∧ Kept (fun _ => False) w w' := by
  have HC := Lib.hid (fun W v own h => bcheck_calls [n] hn (by simp) W v own h)
  have hb := hn.bd n (by simp)
  have HF := Lib.hid (fun W => fsub_calls at_ n.time W hat ⟨by omega, by omega⟩)
  have HSL : Hid (∀ o1, Sl ((w.alloc o1).alloc (.cells #[.int .i64 n.tick, .int .i64 n.time, .slice n.a n.len n.cap] 42)) (.slice (some ⟨w.heap.size + 1, 0, none⟩) 1 1) 42 3 1 (cellsL snC [n]) (some (w.heap.size + 1))) := Lib.hid (fun o1 => by
    have := Sl.made (w.alloc o1) (cellsL snC [n]) 42 3 1 rfl (by decide)
    rw [size_alloc] at this
    exact this)
  go_enter Tryz.func94, Tryz.ntmps94
  go_wp2_with fail
  refine (HC.out _ _ _ (HSL.out _)).mono ?_
  rintro e w1 ⟨rfl, hk1⟩
  have B0 := hk1.blk ((Blk.new w (snC n) 42).alloc (.cells #[.int .i64 n.tick, .int .i64 n.time, .slice n.a n.len n.cap] 42)) (fun h => h)
  have c0 := B0.cell (i := 1) rfl
  have HK := Lib.hid ((((Kept.refl (fun _ => False) w).alloc (.cells (snC n).toArray 42)).alloc (.cells #[.int .i64 n.tick, .int .i64 n.time, .slice n.a n.len n.cap] 42)).trans hk1 (fun _ h => h.elim))
  have n1 : ¬ at_ < n.time := by omega
  clear hk1 B0
  go_wp2_with fail
  refine (HF.out _).mono ?_
  rintro e w2 ⟨rfl, rfl⟩
  go_wp2_with fail
  go_ret2
  exact ⟨rfl, HK.out⟩
end Go.Proofs.YtekdkckgmleofaaGreat

/- slices.Backward over snapshots: whatever the loop's body does. -/
namespace Go.Proofs.YtekdkckgmleofaaGreat
open Go.RowKit
attribute [local go_sem] Oper.semAt_some

/-- Those that have come, from the last one to the j-th. -/
def downL (xs : List SnapS) (j : Nat) : List (Nat × SnapS) := (((List.range xs.length).drop j).reverse).map (fun i => (i, xs.getD i zS))
theorem downL_end (xs : List SnapS) : downL xs xs.length = [] := by
  unfold downL
  rw [List.drop_eq_nil_of_le (by simp)]
  rfl
theorem downL_step {xs : List SnapS} {j : Nat} {x : SnapS} (hx : xs[j]? = some x) : downL xs j = downL xs (j + 1) ++ [(j, x)] := by
  obtain ⟨hj, rfl⟩ := List.getElem?_eq_some_iff.1 hx
  unfold downL
  have h1 : (List.range xs.length).drop j = j :: (List.range xs.length).drop (j + 1) := by
    rw [List.drop_eq_getElem_cons (by simpa using hj)]
    simp
  rw [h1, List.reverse_cons, List.map_append]
  simp [List.getD, hj]
theorem downL_len (xs : List SnapS) (j : Nat) : (downL xs j).length = xs.length - j := by
  unfold downL
  simp
/-- What the iterator reads. -/
structure SnR (xs : List SnapS) (Bm g off cap : Nat) (W : World) : Prop where
  box : W.cell? ⟨Bm, 0, none⟩ = some (.slice (some ⟨g, off, none⟩) xs.length cap)
  row : ∀ j u, (cellsL snC xs)[j]? = some u → W.cell? ⟨g, off + j, none⟩ = some u
theorem SnR.kept {F : Nat → Prop} {xs : List SnapS} {Bm g off cap : Nat} {W W' : World} (h : SnR xs Bm g off cap W) (k : Kept F W W') (h1 : ¬ F Bm) (h2 : ¬ F g) : SnR xs Bm g off cap W' :=
  ⟨k.cell h.box h1, fun j u hu => k.cell (h.row j u hu) h2⟩
def BwPost (xs : List SnapS) (J Jx : List (Nat × SnapS) → World → Prop) (e : Ending) (W' : World) : Prop :=
  (∃ v, e = .returned v) ∧ ((∃ ys, ys = downL xs 0 ∧ J ys W') ∨ (∃ pre, (∃ j, j ≤ xs.length ∧ pre = downL xs j) ∧ Jx pre W'))
abbrev bwE (y : Nat × SnapS) : Array Value := #[.int .i64 (y.1 : Nat), sv y.2]
abbrev bwN : Nat := 136
set_option maxRecDepth 100000 in
set_option maxHeartbeats 2000000 in
theorem bwd1_in (n : Nat) (hn : 1 ≤ n) (l Bm g off cap : Nat) (xs : List SnapS) (hl : xs.length ≤ 1000) (h1 : xs.length ≤ cap) (h2 : cap ≤ maxLen) (Kp : World → World → Prop) (hKp : ∀ W W', Kp W W' → SnR xs Bm g off cap W → SnR xs Bm g off cap W') (J Jx : List (Nat × SnapS) → World → Prop)
    (hY : ∀ pre x W, J pre W → pre.length < xs.length → YieldAt Fence.wide (n - 1) Tryz.prog l (bwE x) W fun e W' =>
      (e = .returned (.bool true) ∧ J (pre ++ [x]) W' ∧ Kp W W') ∨ (e = .returned (.bool false) ∧ Jx (pre ++ [x]) W'))
    (W : World) (hR : SnR xs Bm g off cap W) (h0 : J [] W) :
    CallsIn Fence.wide n Tryz.prog 136 #[.func (.yield l) #[] #[], .pointer (some ⟨Bm, 0, none⟩)] W (BwPost xs J Jx) := by
  unfold maxLen at h2
  have HR := Lib.hid hR
  have hc := hR.box
  clear hR
  refine callsIn_of_wp Tryz.func136 rfl trivial ?_ rfl
  simp only [Tryz.ntmps136, List.size_toArray, List.length_cons, List.length_nil, Nat.reduceAdd, Nat.reduceSub, Array.replicate_succ, Array.replicate_zero, List.push_toArray, List.append_toArray, List.nil_append, List.cons_append]
  gi_wp2
  clear hc
  gi_loopw [3] (fun i wr => ∃ (j : Nat) (z : Int), j ≤ xs.length ∧ i = .int .i64 z ∧ z = (j : Int) - 1 ∧ SnR xs Bm g off cap wr ∧ J (downL xs j) wr)
    (fun i _ => (intOf i + 1).toNat)
  case atStart =>
    exact ⟨xs.length, _, Nat.le_refl _, rfl, rfl, HR.out, by rw [downL_end]; exact h0⟩
  case round =>
    obtain ⟨j, z, hj, rfl, hz, hRr, hJ⟩ := hrel
    rcases j with _ | j
    · have hz1 : z < 0 := by omega
      have hz2 : ¬ (0 : Int) ≤ z := by omega
      have hz3 : decide ((0 : Int) ≤ z) = false := decide_eq_false hz2
      clear hz
      gi_wp2
      go_end0
      exact ⟨⟨_, rfl⟩, .inl ⟨_, rfl, hJ⟩⟩
    · obtain rfl : z = (j : Int) := by omega
      clear hz
      obtain ⟨x, hx⟩ : ∃ x, xs[j]? = some x := ⟨_, List.getElem?_eq_getElem (by omega)⟩
      have HS := Lib.hid (downL_step hx)
      obtain ⟨c0, c1, c2⟩ := sn_at (w := wr) hRr.row hx
      have hc := hRr.box
      have hlen : (downL xs (j + 1)).length < xs.length := by rw [downL_len]; omega
      obtain ⟨fn, tmps, assign, body, hy, hRd⟩ := hY _ (j, x) wr hJ hlen
      have hj0 : (0 : Int) ≤ (j : Int) := by omega
      have hj1 : (j : Int) < (xs.length : Int) := by omega
      have HRr := Lib.hid hRr
      clear hRr hx hlen hJ
      gi_wp2
      refine hRd.mono ?_
      rintro e W3 (⟨rfl, hJ3, hk3⟩ | ⟨rfl, hJx3⟩)
      · have HR3 := Lib.hid (hKp _ _ hk3 HRr.out)
        have HJ3 := Lib.hid hJ3
        clear hk3 hJ3
        gi_wp2
        go_roundw
        case rel => exact ⟨j, _, by omega, rfl, rfl, HR3.out, by rw [HS.out]; exact HJ3.out⟩
        case measure => simp [intOf]
      · gi_wp2
        refine bodyPost_ret (results_none rfl _ _ _) rfl ?_
        exact ⟨⟨_, rfl⟩, .inr ⟨_, ⟨j, by omega, by rw [HS.out]⟩, hJx3⟩⟩
end Go.Proofs.YtekdkckgmleofaaGreat

/- Contract of bracket.Pick over snapshots of which the times rise. -/
namespace Go.Proofs.YtekdkckgmleofaaGreat
open Go.RowKit
attribute [local go_sem] Oper.semAt_some

theorem backward_in (n : Nat) (a : Option Addr) (len cap : Nat) (w : World) :
    CallsIn Fence.wide n Tryz.prog 93 #[.slice a len cap] w fun e w' => e = .returned (.func (.func bwN) #[] #[.pointer (some ⟨w.heap.size, 0, none⟩)]) ∧ w' = w.alloc (.cells #[.slice a len cap] 87) := by
  have hmf : ∀ (fn : Fn) (first cap : Array Value) (w : World), (Instr.makeFunc fn first cap).run Tryz.prog w = .ok (.func fn first cap) w := fun _ _ _ _ => rfl
  refine callsIn_of_wp Tryz.func93 rfl trivial ?_ rfl
  simp only [Tryz.ntmps93, List.size_toArray, List.length_cons, List.length_nil, Nat.reduceAdd, Nat.reduceSub, Array.replicate_succ, Array.replicate_zero, List.push_toArray, List.append_toArray, List.nil_append, List.cons_append]
  gi_wp2
  go_ret
  exact ⟨rfl, rfl⟩
/-- The one that came last. -/
def nextM (pre : List (Nat × SnapS)) : Int := match pre.getLast? with
  | some y => (y.1 : Nat)
  | none => -1
theorem nextM_snoc (pre : List (Nat × SnapS)) (y : Nat × SnapS) : nextM (pre ++ [y]) = (y.1 : Nat) := by unfold nextM; simp
def PickRel (xs : List SnapS) (at_ : Int) (i next err : Int) : Prop :=
  (err = 0 ∧ ∃ (j : Nat) (x : SnapS), i = j ∧ xs[j]? = some x ∧ x.time ≤ at_ ∧ (∀ k y, j < k → xs[k]? = some y → at_ < y.time) ∧ next = (if j + 1 < xs.length then ((j + 1 : Nat) : Int) else -1)) ∨ (err = 5 ∧ i = 0 ∧ next = 0 ∧ ∀ y ∈ xs, at_ < y.time)
def PickPost (xs : List SnapS) (at_ : Int) (w : World) (e : Ending) (w' : World) : Prop :=
  ∃ i next err, e = .returned (.tuple #[.int .i64 i, .int .i64 next, .int .i64 err]) ∧ PickRel xs at_ i next err ∧ Kept (fun _ => False) w w'
theorem mem_downL {xs : List SnapS} {j k : Nat} {y : SnapS} : (k, y) ∈ downL xs j ↔ j ≤ k ∧ xs[k]? = some y := by
  unfold downL
  constructor
  · intro h
    simp only [List.mem_map, List.mem_reverse] at h
    obtain ⟨i, hi, he⟩ := h
    obtain ⟨m, hm⟩ := List.mem_iff_getElem?.1 hi
    rw [List.getElem?_drop] at hm
    have hml := (List.getElem?_eq_some_iff.1 hm)
    obtain ⟨hm1, hm2⟩ := hml
    simp only [List.length_range] at hm1
    simp only [List.getElem_range] at hm2
    simp only [Prod.mk.injEq] at he
    obtain ⟨rfl, rfl⟩ := he
    refine ⟨by omega, ?_⟩
    rw [List.getD_eq_getElem?_getD, List.getElem?_eq_getElem (by omega)]
    rfl
  · rintro ⟨hk, hy⟩
    have hkl := (List.getElem?_eq_some_iff.1 hy).1
    refine List.mem_map.2 ⟨k, List.mem_reverse.2 (List.mem_iff_getElem?.2 ⟨k - j, ?_⟩), ?_⟩
    · rw [List.getElem?_drop, List.getElem?_range (by omega)]
      congr 1; omega
    · rw [List.getD_eq_getElem?_getD, hy]
      rfl
theorem downL_nil {xs : List SnapS} {j : Nat} (hj : xs.length ≤ j) : downL xs j = [] := by
  apply List.eq_nil_of_length_eq_zero
  rw [downL_len]; omega
theorem downL_pick {xs : List SnapS} {j : Nat} {at_ : Int} {pre0 : List (Nat × SnapS)} {x : Nat × SnapS} (hj : j ≤ xs.length) (h : pre0 ++ [x] = downL xs j) (hle : x.2.time ≤ at_) (hgt : ∀ y ∈ pre0, at_ < y.2.time) :
    (0 : Int) = 0 ∧ ∃ (i : Nat) (y : SnapS), ((x.1 : Nat) : Int) = i ∧ xs[i]? = some y ∧ y.time ≤ at_ ∧ (∀ k z, i < k → xs[k]? = some z → at_ < z.time) ∧ nextM pre0 = (if i + 1 < xs.length then ((i + 1 : Nat) : Int) else -1) := by
  have hjl : j < xs.length := by
    have := congrArg List.length h
    rw [downL_len] at this
    simp at this
    omega
  have hx : xs[j]? = some xs[j] := List.getElem?_eq_getElem hjl
  rw [downL_step hx] at h
  have h2 := List.append_inj' h rfl
  obtain ⟨hp, hxe⟩ := h2
  simp only [List.cons.injEq, and_true] at hxe
  subst hxe
  refine ⟨rfl, j, xs[j], rfl, hx, hle, fun k z hk hz => hgt (k, z) ?_, ?_⟩
  · rw [hp]
    exact mem_downL.2 ⟨hk, hz⟩
  · rw [hp]
    by_cases hj1 : j + 1 < xs.length
    · rw [if_pos hj1, downL_step (List.getElem?_eq_getElem hj1), nextM_snoc]
    · rw [if_neg hj1, downL_nil (by omega)]
      rfl
theorem kept_grow {F : Nat → Prop} {w3 W W' : World} {row : Option Nat} (h : Kept F w3 W) (hg : W.grownBy W' row) (hr : ∀ r, row = some r → w3.heap.size ≤ r) : Kept F w3 W' :=
  ⟨hg.os.trans h.os, hg.tape.trans h.tape, hg.output.trans h.output, Nat.le_trans h.size hg.size, fun k hk hn => (hg.block k (Nat.lt_of_lt_of_le hk h.size) (fun e => by have := hr k e.symm; omega)).trans (h.block k hk hn)⟩
theorem kept_put {nb n3 l : Nat} {W : World} {o o' : Obj} (hl : n3 ≤ l) (hw : W.heap[l]? = some o) : Kept (fun k => k = nb ∨ n3 ≤ k) W (W.putObj l o') := by
  have hg := grownBy_putObj' W l o'
  exact ⟨hg.os, hg.tape, hg.output, hg.size, fun k hk hn => hg.block k hk (fun e => by cases e; exact hn (.inr hl))⟩
theorem kept_grow' {nb n3 l : Nat} {W : World} {o o' : Obj} (hl : n3 ≤ l) (hw : W.heap[l]? = some o) : Kept (fun k => k = nb ∨ n3 ≤ k) W (W.putObj l o') :=
  kept_put hl hw
abbrev PkI (at_ : Int) (nb : Nat) (w3 : World) (pre : List (Nat × SnapS)) (W : World) : Prop :=
  Boxed W nb 3 (.int .i64 (nextM pre)) ∧ (∀ y ∈ pre, at_ < y.2.time) ∧ Kept (fun k => k = nb ∨ w3.heap.size ≤ k) w3 W
abbrev PkX (at_ : Int) (n0 nb : Nat) (w3 : World) (c : Code) (pre : List (Nat × SnapS)) (W : World) : Prop :=
  c = .ret ∧ ∃ (pre0 : List (Nat × SnapS)) (x : Nat × SnapS), pre = pre0 ++ [x] ∧ x.2.time ≤ at_ ∧ (∀ y ∈ pre0, at_ < y.2.time) ∧ Boxed W (n0 + 1) 3 (.int .i64 (x.1 : Nat)) ∧ Boxed W (n0 + 1 + 1) 3 (.int .i64 (nextM pre0)) ∧ Boxed W (n0 + 1 + 1 + 1) 28 (.int .i64 0) ∧ Kept (fun k => n0 < k) w3 W
theorem boxed_grow {W W' : World} {B : Nat} {t : TypeId} {v : Value} {row : Option Nat} (h : Boxed W B t v) (hg : W.grownBy W' row) (hr : ∀ r, row = some r → ∃ o : Obj, W.heap[r]? = some o ∧ o.isCells = false) : Boxed W' B t v :=
  h.kept hg (fun e => by
    obtain ⟨o, ho, hc⟩ := hr B e.symm
    rw [show W.heap[B]? = _ from h] at ho
    cases ho
    cases hc)
theorem pk_ret {at_ : Int} {n0 nb : Nat} {pre : List (Nat × SnapS)} {x : Nat × SnapS} {w2 W : World} {a : Act} (B2 : Boxed w2 (n0 + 1) 3 (.int .i64 0)) (B3 : Boxed w2 (n0 + 1 + 1) 3 (.int .i64 0)) (B4 : Boxed w2 (n0 + 1 + 1 + 1) 28 (.int .i64 0)) (hn : n0 + 1 + 1 + 1 < nb) (hnw : nb < w2.heap.size) (hle : x.2.time ≤ at_) (hgt : ∀ y ∈ pre, at_ < y.2.time) (hK : Kept (fun k => k = nb ∨ w2.heap.size ≤ k) w2 W) :
    ownPostG w2.heap.size (Kept (fun k => k = nb ∨ w2.heap.size ≤ k)) (PkI at_ nb w2) (PkX at_ n0 nb w2) (pre ++ [x]) W .ret a
      ((((W.setCell ⟨n0 + 1, 0, none⟩ (.int .i64 (x.1 : Nat))).setCell ⟨n0 + 1 + 1, 0, none⟩ (.int .i64 (nextM pre))).setCell ⟨n0 + 1 + 1 + 1, 0, none⟩ (.int .i64 0)).drew) := by
  have c2 : Boxed W (n0 + 1) 3 (.int .i64 0) := (hK.block _ (by omega) (by omega)).trans B2
  have c3 : Boxed W (n0 + 1 + 1) 3 (.int .i64 0) := (hK.block _ (by omega) (by omega)).trans B3
  have c4 : Boxed W (n0 + 1 + 1 + 1) 28 (.int .i64 0) := (hK.block _ (by omega) (by omega)).trans B4
  refine ⟨((((KeepsOthers.setCell W _ _).trans (KeepsOthers.setCell _ _ _)).trans (KeepsOthers.setCell _ _ _)).trans (KeepsOthers.drew _)).from _, rfl, pre, x, rfl, hle, hgt, ?_, ?_, ?_, ?_⟩
  · exact ((c2.set _).other (by omega) _).other (by omega) _
  · exact ((c3.other (by omega) _).set _).other (by omega) _
  · exact ((c4.other (by omega) _).other (by omega) _).set _
  · have hs := hK.size
    refine Kept.drew ?_
    refine Kept.setCell (Kept.setCell (Kept.setCell (hK.mono ?_) ?_ _) ?_ _) ?_ _ <;> first | (intro k hk1 hk; show n0 < k; omega) | (left; show n0 < _; simp; done) | (left; show n0 < _; simp; omega)
theorem pk_end {n : Nat} {xs : List SnapS} {at_ : Int} {w W : World} {D : Nat} {i next err : Int} {tmps : Array Value} (h4 : tmps.getD 4 undef = .pointer (some ⟨w.heap.size + 1, 0, none⟩)) (h5 : tmps.getD 5 undef = .pointer (some ⟨w.heap.size + 1 + 1, 0, none⟩)) (h6 : tmps.getD 6 undef = .pointer (some ⟨w.heap.size + 1 + 1 + 1, 0, none⟩))
    (hD : W.heap[D]? = some (.deferred (some []))) (hDw : w.heap.size + 1 + 1 + 1 < D) (b1 : Boxed W (w.heap.size + 1) 3 (.int .i64 i)) (b2 : Boxed W (w.heap.size + 1 + 1) 3 (.int .i64 next)) (b3 : Boxed W (w.heap.size + 1 + 1 + 1) 28 (.int .i64 err))
    (hrel : PickRel xs at_ i next err) (hK : Kept (fun _ => False) w W) :
    bodyPostM Fence.wide n Tryz.prog Tryz.f60 (PickPost xs at_ w) .ret { tmps := tmps, defers := [{ target := .collected D, args := #[] }] } W := by
  refine ⟨by simp, .inl ⟨_, _, rfl, run_takeDeferred hD, ?_⟩⟩
  have hg := grownBy_putObj' W D (.deferred none)
  have c1 : Boxed (W.putObj D (.deferred none)) _ _ _ := b1.kept hg (by intro h; cases h; omega)
  have c2 : Boxed (W.putObj D (.deferred none)) _ _ _ := b2.kept hg (by intro h; cases h; omega)
  have c3 : Boxed (W.putObj D (.deferred none)) _ _ _ := b3.kept hg (by intro h; cases h; omega)
  have d1 := c1.cell
  have d2 := c2.cell
  have d3 := c3.cell
  have hk : Kept (fun _ => False) w (W.putObj D (.deferred none)) := hK.trans (Kept.mono (F := fun k => k = D) ⟨hg.os, hg.tape, hg.output, hg.size, fun k hk hn => hg.block k hk (fun e => by cases e; exact hn rfl)⟩ (G := fun k => w.heap.size ≤ k) (fun k _ h => by omega)) (fun k h => .inr h)
  refine ⟨_, ?_, ⟨i, next, err, rfl, hrel, hk⟩⟩
  rw [Array.getD_eq_getD_getElem?] at h4 h5 h6
  simp [results, Tryz.f60, Tryz.results60, go_sem, h4, h5, h6, d1, d2, d3]
set_option maxRecDepth 100000 in
set_option maxHeartbeats 4000000 in
theorem pick_in (n : Nat) (hn : 5 ≤ n) (xs : List SnapS) (at_ : Int) (hx : TimesOk xs) (hl : xs.length ≤ 1000) (h0 : 0 < xs.length) (w : World) (v : Value) (own : Option Nat) (hv : Sl w v 42 3 xs.length (cellsL snC xs) own) :
    CallsIn Fence.wide n Tryz.prog 60 #[.int .i64 at_, v] w (PickPost xs at_ w) := by
  obtain ⟨g, off, cap, ho, rfl, hcap, hcm, hc, -⟩ := hv.some h0
  have hgl := hv.lt ho
  have h1 : 1 ≤ n := by omega
  have HC := Lib.hid (fun W h => bcheck_calls xs hx hl W (.slice (some ⟨g, off, none⟩) xs.length cap) own h)
  have HV := Lib.hid hv
  have HR := Lib.hid hc
  clear hv hc
  refine callsIn_of_wp_marks Tryz.func60 rfl trivial ?_ rfl
  simp only [Tryz.ntmps60, List.size_toArray, List.length_cons, List.length_nil, Nat.reduceAdd, Nat.reduceSub, Array.replicate_succ, Array.replicate_zero, List.push_toArray, List.append_toArray, List.nil_append, List.cons_append]
  have K0 := ((((Kept.refl (fun _ => False) w).alloc (.cells #[.int .i64 at_] 2)).alloc (.cells #[.int .i64 0] 3)).alloc (.cells #[.int .i64 0] 3)).alloc (.cells #[.int .i64 0] 28)
  gi_wp2_with (first
    | (refine ⟨trivial, ?_⟩; gi_at_call 92; refine (callsIn_wide.2 (HC.out _ (HV.out.kept K0 (fun _ _ h => h)))).mono ?_; rintro e w1 ⟨rfl, hk1⟩; have HK1 := Lib.hid (K0.trans hk1 (fun _ h => h.elim)); have HA1 := Lib.hid (hk1.blk ((((Blk.new w [.int .i64 at_] 2).alloc (.cells #[.int .i64 0] 3)).alloc (.cells #[.int .i64 0] 3)).alloc (.cells #[.int .i64 0] 28)) (fun h => h)); have HA2 := Lib.hid (hk1.blk (((Blk.new_at (w := w.alloc (.cells #[.int .i64 at_] 2)) (n := w.heap.size + 1) (by simp) [.int .i64 0] 3).alloc (.cells #[.int .i64 0] 3)).alloc (.cells #[.int .i64 0] 28)) (fun h => h)); have HA3 := Lib.hid (hk1.blk ((Blk.new_at (w := (w.alloc (.cells #[.int .i64 at_] 2)).alloc (.cells #[.int .i64 0] 3)) (n := w.heap.size + 1 + 1) (by simp) [.int .i64 0] 3).alloc (.cells #[.int .i64 0] 28)) (fun h => h)); have HA4 := Lib.hid (hk1.blk (Blk.new_at (w := ((w.alloc (.cells #[.int .i64 at_] 2)).alloc (.cells #[.int .i64 0] 3)).alloc (.cells #[.int .i64 0] 3)) (n := w.heap.size + 1 + 1 + 1) (by simp) [.int .i64 0] 28) (fun h => h)); clear hk1)
    | (refine ⟨trivial, ?_⟩; gi_at_call 93; refine (backward_in _ _ _ _ _).mono ?_; rintro e w2 ⟨rfl, hw2⟩))
  have hz2 : w2.heap.size = w1.heap.size + 2 := by rw [hw2]; simp
  have K12 : Kept (fun _ => False) w1 w2 := by rw [hw2]; exact ((Kept.refl _ w1).alloc _).alloc _
  have hnb : Boxed w2 w1.heap.size 3 (.int .i64 (-1)) := by rw [hw2]; exact (Boxed.new w1 _ _).alloc _
  have hbm : w2.cell? ⟨w1.heap.size + 1, 0, none⟩ = some (.slice (some ⟨g, off, none⟩) xs.length cap) := by
    rw [hw2]
    exact (Blk.new_at (w := w1.alloc (.cells #[.int .i64 (-1)] 3)) (n := w1.heap.size + 1) (by simp) [.slice (some ⟨g, off, none⟩) xs.length cap] 87).cell (i := 0) rfl
  have hgw1 : g < w1.heap.size := by have := HK1.out.size; omega
  have A1 := K12.blk HA1.out (fun h => h)
  have A2 := K12.blk HA2.out (fun h => h)
  have A3 := K12.blk HA3.out (fun h => h)
  have A4 := K12.blk HA4.out (fun h => h)
  have h41 := HA4.out.lt
  have hR2 : SnR xs (w1.heap.size + 1) g off cap w2 := ⟨hbm, fun j u hu => K12.cell (HK1.out.cell (HR.out j u hu) (fun h => h)) (fun h => h)⟩
  have HKW := Lib.hid (HK1.out.trans K12 (fun _ h => h.elim))
  rw [← hw2]
  clear hw2 K12 hbm HA1 HA2 HA3 HA4 HK1 HC HV HR
  have hseq : SeqStopsK Fence.wide (n - 1) Tryz.prog bwN #[.pointer (some ⟨w1.heap.size + 1, 0, none⟩)] bwE (Kept (fun k => k = w1.heap.size ∨ w2.heap.size ≤ k)) (fun ys => ys = downL xs 0) (fun pre => ∃ j, j ≤ xs.length ∧ pre = downL xs j) xs.length w2 :=
    fun l J Jx W hW _ _ hY h0 => bwd1_in (n - 1) (by omega) l (w1.heap.size + 1) g off cap xs hl hcap hcm (Kept (fun k => k = w1.heap.size ∨ w2.heap.size ≤ k)) (fun A B hk hr => hr.kept hk (by omega) (by omega)) J Jx hY W
      ⟨(hW.cell (p := ⟨w1.heap.size + 1, 0, none⟩) (show w1.heap.size + 1 < _ by omega)).trans hR2.box, fun j u hu => (hW.cell (p := ⟨g, off + j, none⟩) (show g < _ by omega)).trans (hR2.row j u hu)⟩ h0
  refine wpIn_rangeFunc_ownH rfl h1 (gf := bwN) (lb := #[.pointer (some ⟨w1.heap.size + 1, 0, none⟩)]) rfl trivial (enters_of Tryz.func136 (by kernel_rfl) rfl)
    hseq (fun h k => h.trans k (fun i hi => .inl hi)) (fun W l o o' hl' hw' _ _ => kept_grow' hl' hw') (Below.refl _ _) (fun _ => rfl)
    (PkI at_ w1.heap.size w2) (PkX at_ w.heap.size w1.heap.size w2) ?hI ?hIx ⟨hnb, by simp, Kept.refl _ _⟩
    (fun x a' W => ∃ Bx, Blk W Bx (snC x.2) 42 ∧ a' = { tmps := #[.int .i64 at_, .slice (some ⟨g, off, none⟩) xs.length cap, .pointer (some ⟨w.heap.size, 0, none⟩), undef, .pointer (some ⟨w.heap.size + 1, 0, none⟩), .pointer (some ⟨w.heap.size + 1 + 1, 0, none⟩), .pointer (some ⟨w.heap.size + 1 + 1 + 1, 0, none⟩), .int .i64 0, .pointer (some ⟨w1.heap.size, 0, none⟩), .int .i64 (x.1 : Nat), .pointer (some ⟨Bx, 0, none⟩), .slice (some ⟨g, off, none⟩) xs.length cap, .int .i64 0, .int .i64 0, .bool false, undef, .slice (some ⟨g, off, none⟩) xs.length cap, .func (.func bwN) #[] #[.pointer (some ⟨w1.heap.size + 1, 0, none⟩)], .int .i64 (x.1 : Nat), sv x.2, undef, undef, undef, undef, undef, undef, undef], defers := [] })
    (fun x a' => by
      rintro _ X Y row ⟨Bx, hB, rfl⟩ hg hr
      refine ⟨Bx, ?_, rfl⟩
      unfold Blk at *
      rw [hg.block Bx (Array.getElem?_eq_some_iff.1 hB).1 (fun e => ?_)]
      · exact hB
      · obtain ⟨-, o, ho, hc⟩ := hr Bx e.symm
        rw [hB] at ho
        cases ho
        cases hc) ?assign ?body ?done ?stop
  case hI =>
    rintro pre X Y row ⟨hB, hgt, hK⟩ hg hr
    exact ⟨boxed_grow hB hg (fun r e => (hr r e).2), hgt, kept_grow hK hg (fun r e => (hr r e).1)⟩
  case hIx =>
    rintro c pre X Y row ⟨hc, pre0, x, hp, ht, hgt, b1, b2, b3, hK⟩ hg hr
    exact ⟨hc, pre0, x, hp, ht, hgt, boxed_grow b1 hg (fun r e => (hr r e).2), boxed_grow b2 hg (fun r e => (hr r e).2), boxed_grow b3 hg (fun r e => (hr r e).2), kept_grow hK hg (fun r e => (hr r e).1)⟩
  case assign =>
    rintro l pre x W K hi hK
    gi_wp2
    exact hK _ _ ((KeepsOthers.alloc _ _).from _) ((Kept.refl _ W).alloc _) ⟨hi.1.alloc _, hi.2.1, hi.2.2.alloc _⟩ ⟨W.heap.size, Blk.new W (snC x.2) _, rfl⟩
  case body =>
    rintro l pre x a' W hl' ⟨r, hr⟩ ⟨hB, hgt, hK⟩ ⟨Bx, hX, rfl⟩ hlt
    have x1 := hX.cell (i := 1) rfl
    clear hX
    have hc := hB.cell
    have hf := hB.frozen
    have a0 := (hK.blk A1 (by omega)).cell (i := 0) rfl
    have b1 := (hK.blk A2 (by omega)).cell (i := 0) rfl
    have b2 := (hK.blk A3 (by omega)).cell (i := 0) rfl
    have b3 := (hK.blk A4 (by omega)).cell (i := 0) rfl
    have f1 := (hK.blk A2 (by omega)).free 0
    have f2 := (hK.blk A3 (by omega)).free 0
    have f3 := (hK.blk A4 (by omega)).free 0
    have hz := hK.size
    have HB := Lib.hid hB
    have HGT := Lib.hid hgt
    have HK := Lib.hid hK
    have HZ2 := Lib.hid hz2
    have B2 : Boxed w2 (w.heap.size + 1) 3 (.int .i64 0) := A2
    have B3 : Boxed w2 (w.heap.size + 1 + 1) 3 (.int .i64 0) := A3
    have B4 : Boxed w2 (w.heap.size + 1 + 1 + 1) 28 (.int .i64 0) := A4
    clear hB hgt hK hr A1 A2 A3 A4 hR2 hnb hz2
    by_cases hle : x.2.time ≤ at_
    · gi_wp2
      all_goals gi_region
      all_goals gi_wp2
      all_goals exact pk_ret B2 B3 B4 h41 (by have := HZ2.out; omega) hle HGT.out HK.out
    · gi_wp2
      have hgt := HGT.out
      refine ⟨(KeepsOthers.setCell W _ _).from _, (Kept.refl _ W).setCell (.inl (.inl rfl)) _, ?_, ?_, HK.out.setCell (.inl (.inl rfl)) _⟩
      · rw [nextM_snoc]
        exact HB.out.set _
      · intro y hy
        rcases List.mem_append.1 hy with h | h
        · exact hgt y h
        · simp only [List.mem_singleton] at h
          subst h
          exact hle
  case done =>
    rintro D ys W hD1 rfl ⟨hB, hgt, hK⟩ hD
    have b1 := (hK.blk A2 (by omega)).cell (i := 0) rfl
    have b2 := (hK.blk A3 (by omega)).cell (i := 0) rfl
    have b3 := (hK.blk A4 (by omega)).cell (i := 0) rfl
    have f1 := (hK.blk A2 (by omega)).free 0
    have f2 := (hK.blk A3 (by omega)).free 0
    have f3 := (hK.blk A4 (by omega)).free 0
    have HB1 : Hid (Boxed W (w.heap.size + 1) 3 (.int .i64 0)) := Lib.hid (hK.blk A2 (by omega))
    have HB2 : Hid (Boxed W (w.heap.size + 1 + 1) 3 (.int .i64 0)) := Lib.hid (hK.blk A3 (by omega))
    have HB3 : Hid (Boxed W (w.heap.size + 1 + 1 + 1) 28 (.int .i64 0)) := Lib.hid (hK.blk A4 (by omega))
    have HGT := Lib.hid hgt
    have HK := Lib.hid hK
    have HD := Lib.hid hD
    have HZ2 := Lib.hid hz2
    clear hB hgt hK A1 A2 A3 A4 hR2 hnb hD hz2
    gi_wp2
    have hz := HZ2.out
    refine pk_end rfl rfl rfl (D := D) ?_ (by omega) (((HB1.out.set _).other (by omega) _).other (by omega) _) (((HB2.out.other (by omega) _).set _).other (by omega) _) (((HB3.out.other (by omega) _).other (by omega) _).set _) (.inr ⟨rfl, rfl, rfl, fun y hy => ?_⟩) ?_
    · have hD3 := HD.out
      have KK : Kept (fun k => k ≤ w.heap.size + 1 + 1 + 1) W (((W.setCell ⟨w.heap.size + 1, 0, none⟩ (.int .i64 0)).setCell ⟨w.heap.size + 1 + 1, 0, none⟩ (.int .i64 0)).setCell ⟨w.heap.size + 1 + 1 + 1, 0, none⟩ (.int .i64 5)) :=
        by
          refine Kept.setCell (Kept.setCell (Kept.setCell (Kept.refl _ W) (.inl ?_) _) (.inl ?_) _) (.inl ?_) _
          · show w.heap.size + 1 ≤ _
            omega
          · show w.heap.size + 1 + 1 ≤ _
            omega
          · show w.heap.size + 1 + 1 + 1 ≤ _
            omega
      exact (KK.block D (Array.getElem?_eq_some_iff.1 hD3).1 (by omega)).trans hD3
    · obtain ⟨j, hj⟩ := List.mem_iff_getElem?.1 hy
      have hjl := (List.getElem?_eq_some_iff.1 hj).1
      refine HGT.out (j, y) ?_
      refine mem_downL.2 ⟨Nat.zero_le _, hj⟩
    · have KK : Kept (fun k => w.heap.size ≤ k) w2 (((W.setCell ⟨w.heap.size + 1, 0, none⟩ (.int .i64 0)).setCell ⟨w.heap.size + 1 + 1, 0, none⟩ (.int .i64 0)).setCell ⟨w.heap.size + 1 + 1 + 1, 0, none⟩ (.int .i64 5)) :=
        (((HK.out.mono (G := fun k => w.heap.size ≤ k) (fun k _ h => by omega)).setCell (.inl (by exact Nat.le_succ _)) _).setCell (.inl (Nat.le_trans (Nat.le_succ _) (Nat.le_succ _))) _).setCell (.inl (Nat.le_trans (Nat.le_succ _) (Nat.le_trans (Nat.le_succ _) (Nat.le_succ _)))) _
      exact HKW.out.trans KK (fun k h => .inr h)
  case stop =>
    rintro D c pre W hD1 ⟨j, hj, hpre⟩ ⟨rfl, pre0, x, rfl, hle, hgt, c1, c2, c3, hK⟩ hD
    have HGT := Lib.hid hgt
    have HK := Lib.hid hK
    have HD := Lib.hid hD
    have HZ2 := Lib.hid hz2
    clear hgt hK A1 A2 A3 A4 hR2 hnb hD hz2
    gi_wp2
    have hz := HZ2.out
    refine pk_end rfl rfl rfl HD.out (by omega) c1 c2 c3 (.inl (downL_pick hj hpre hle HGT.out)) (HKW.out.trans HK.out (fun k h => .inr (by omega)))
theorem pick_calls (xs : List SnapS) (at_ : Int) (hx : TimesOk xs) (hl : xs.length ≤ 1000) (h0 : 0 < xs.length) (w : World) (v : Value) (own : Option Nat) (hv : Sl w v 42 3 xs.length (cellsL snC xs) own) :
    Calls Tryz.prog 60 #[.int .i64 at_, v] w (PickPost xs at_ w) :=
  callsIn_wide.1 (pick_in 5 (Nat.le_refl _) xs at_ hx hl h0 w v own hv)
end Go.Proofs.YtekdkckgmleofaaGreat

/- Contracts of package store's functions: Get, At. -/
namespace Go.Proofs.YtekdkckgmleofaaGreat
open Go.RowKit

def StGetPost (P : Int → Int → List EntM → Prop) (tick time : Int) (ok : Prop) (last : Value) (w : World) (e : Ending) (w' : World) : Prop :=
  ∃ v ents, e = .returned (.tuple #[snapV tick time v, last]) ∧ EntsAt w' v ents (fun g => w.heap.size ≤ g) ∧ ents.length ≤ 64 ∧ (ok → P tick time ents) ∧ Kept (fun _ => False) w w'
theorem ents_none (w : World) (fe : Nat → Prop) : EntsAt w (.slice none 0 0) [] fe := ⟨none, Sl.nil _ _ _, fun g e => by cases e⟩
set_option maxRecDepth 100000 in
set_option maxHeartbeats 4000000 in
theorem sget_one (tick : Int) (w : World) (s p : Nat) (fr fe : Nat → Prop) (most : Nat) (r : RingM SnapS) (cs : List Int) (P : Int → Int → List EntM → Prop) (h : Sto w s p fr fe most r cs P) (x : SnapS) (b : Bool) (hx : RingN.getM r.l tick = x) (hb : there r.l tick = b)
    (ents : List EntM) (hE : EntsAt w (.slice x.a x.len x.cap) ents fe) (hL : ents.length ≤ 64) (hP : b = true → P x.tick x.time ents) :
    Calls Tryz.prog 21 #[.pointer (some ⟨s, 0, none⟩), .int .i64 tick] w (StGetPost P x.tick x.time (b = true) (.bool b) w) := by
  have HG := Lib.hid (fun W (k : Kept (fun _ => False) w W) => RingN.get_calls W p fr most r tick (h.ring.kept k (fun _ _ h => h)) h.m2)
  rw [hx, hb] at HG
  have HOW := Lib.hid (fun fe W h => own_calls x.tick x.time (.slice x.a x.len x.cap) ents fe W h (by omega))
  unfold OwnPost at HOW
  have HE := Lib.hid hE
  have HP := Lib.hid hP
  have HB := Lib.hid h.blk
  clear h hE hP hx hb
  have HN := Lib.hid (Blk.new w [.int .i64 0, .int .i64 0, .slice none 0 0] 42)
  have HK0 := Lib.hid ((Kept.refl (fun _ => False) w).alloc (.cells #[.int .i64 0, .int .i64 0, .slice none 0 0] 42))
  have s0 := (HB.out.alloc (.cells #[.int .i64 0, .int .i64 0, .slice none 0 0] 42)).cell (i := 0) rfl
  go_enter Tryz.func21, Tryz.ntmps21
  go_wp2_with fail
  refine (HG.out _ HK0.out).mono ?_
  rintro e w1 ⟨rfl, hk1⟩
  have HB0 := Lib.hid ((hk1.blk HN.out (fun h => h)).alloc (.cells (snapC x.tick x.time (.slice x.a x.len x.cap)).toArray 42))
  have kA := (HK0.out.trans hk1 (fun _ h => h.elim)).alloc (.cells (snapC x.tick x.time (.slice x.a x.len x.cap)).toArray 42)
  have HKA := Lib.hid kA
  have HE1 := Lib.hid (HE.out.kept kA (fun _ _ h => h))
  clear hk1 kA s0
  go_wp2_with fail
  refine (HOW.out _ _ HE1.out).mono ?_
  rintro e w2 ⟨v2, rfl, hE2, hk2⟩
  obtain ⟨a2, c2, rfl, -, -⟩ := hE2.form
  have B2 := hk2.blk HB0.out (fun h => h)
  have d0 := B2.cell (i := 0) rfl
  have d1 := B2.cell (i := 1) rfl
  have d2 := B2.cell (i := 2) rfl
  have f0 := B2.free 0
  have f1 := B2.free 1
  have f2 := B2.free 2
  have HB2 := Lib.hid B2
  have HE2 := Lib.hid hE2
  have HK2 := Lib.hid (HKA.out.trans hk2 (fun _ h => h.elim))
  have hz := HKA.out.size
  have hzb := HB0.out.lt
  clear hE2 hk2 B2
  go_wp2_with fail
  have kS := ((((Kept.refl (· = w.heap.size) w2).setCell (a := ⟨w.heap.size, 0, none⟩) (.inl rfl) (.int .i64 x.tick)).setCell (a := ⟨w.heap.size, 1, none⟩) (.inl rfl) (.int .i64 x.time)).setCell (a := ⟨w.heap.size, 2, none⟩) (.inl rfl) (.slice a2 ents.length c2))
  have hf := ((HB2.out.set 0 (.int .i64 x.tick)).set 1 (.int .i64 x.time)).set 2 (.slice a2 ents.length c2)
  have r0 := hf.cell (i := 0) rfl
  have r1 := hf.cell (i := 1) rfl
  have r2 := hf.cell (i := 2) rfl
  refine bodyPost_ret (v := .tuple #[snapV x.tick x.time (.slice a2 ents.length c2), .bool b]) (by simp [results, Tryz.f21, Tryz.results21, go_sem, r0, r1, r2]) rfl ⟨_, ents, rfl, ?_, hL, HP.out, HK2.out.trans kS (fun i hi => .inr (by omega))⟩
  exact (HE2.out.kept kS (fun g hg e => by have hg2 : _ ≤ g := hg; omega)).mono (fun g _ hg => by have hg2 : _ ≤ g := hg; omega)
set_option maxRecDepth 100000 in
set_option maxHeartbeats 4000000 in
theorem sat_one (i : Int) (w : World) (s p : Nat) (fr fe : Nat → Prop) (most : Nat) (r : RingM SnapS) (cs : List Int) (P : Int → Int → List EntM → Prop) (h : Sto w s p fr fe most r cs P) (x : SnapS) (k1 er : Int) (hx : atV (atM r.l i) = .tuple #[.int .i64 k1, sv x, .int .i64 er])
    (ents : List EntM) (hE : EntsAt w (.slice x.a x.len x.cap) ents fe) (hL : ents.length ≤ 64) (hP : er = 0 → P x.tick x.time ents) :
    Calls Tryz.prog 64 #[.pointer (some ⟨s, 0, none⟩), .int .i64 i] w (StGetPost P x.tick x.time (er = 0) (.int .i64 er) w) := by
  have HG := Lib.hid (fun W (k : Kept (fun _ => False) w W) => at_calls W p fr most r (h.ring.kept k (fun _ _ h => h)) i)
  rw [hx] at HG
  have HOW := Lib.hid (fun fe W h => own_calls x.tick x.time (.slice x.a x.len x.cap) ents fe W h (by omega))
  unfold OwnPost at HOW
  have HE := Lib.hid hE
  have HP := Lib.hid hP
  have HB := Lib.hid h.blk
  clear h hE hP hx
  have HN := Lib.hid (Blk.new w [.int .i64 0, .int .i64 0, .slice none 0 0] 42)
  have HK0 := Lib.hid ((Kept.refl (fun _ => False) w).alloc (.cells #[.int .i64 0, .int .i64 0, .slice none 0 0] 42))
  have s0 := (HB.out.alloc (.cells #[.int .i64 0, .int .i64 0, .slice none 0 0] 42)).cell (i := 0) rfl
  go_enter Tryz.func64, Tryz.ntmps64
  go_wp2_with fail
  refine (HG.out _ HK0.out).mono ?_
  rintro e w1 ⟨rfl, hk1⟩
  have HB0 := Lib.hid ((hk1.blk HN.out (fun h => h)).alloc (.cells (snapC x.tick x.time (.slice x.a x.len x.cap)).toArray 42))
  have kA := (HK0.out.trans hk1 (fun _ h => h.elim)).alloc (.cells (snapC x.tick x.time (.slice x.a x.len x.cap)).toArray 42)
  have HKA := Lib.hid kA
  have HE1 := Lib.hid (HE.out.kept kA (fun _ _ h => h))
  clear hk1 kA s0
  go_wp2_with fail
  refine (HOW.out _ _ HE1.out).mono ?_
  rintro e w2 ⟨v2, rfl, hE2, hk2⟩
  obtain ⟨a2, c2, rfl, -, -⟩ := hE2.form
  have B2 := hk2.blk HB0.out (fun h => h)
  have d0 := B2.cell (i := 0) rfl
  have d1 := B2.cell (i := 1) rfl
  have d2 := B2.cell (i := 2) rfl
  have f0 := B2.free 0
  have f1 := B2.free 1
  have f2 := B2.free 2
  have HB2 := Lib.hid B2
  have HE2 := Lib.hid hE2
  have HK2 := Lib.hid (HKA.out.trans hk2 (fun _ h => h.elim))
  have hz := HKA.out.size
  have hzb := HB0.out.lt
  clear hE2 hk2 B2
  go_wp2_with fail
  have kS := ((((Kept.refl (· = w.heap.size) w2).setCell (a := ⟨w.heap.size, 0, none⟩) (.inl rfl) (.int .i64 x.tick)).setCell (a := ⟨w.heap.size, 1, none⟩) (.inl rfl) (.int .i64 x.time)).setCell (a := ⟨w.heap.size, 2, none⟩) (.inl rfl) (.slice a2 ents.length c2))
  have hf := ((HB2.out.set 0 (.int .i64 x.tick)).set 1 (.int .i64 x.time)).set 2 (.slice a2 ents.length c2)
  have r0 := hf.cell (i := 0) rfl
  have r1 := hf.cell (i := 1) rfl
  have r2 := hf.cell (i := 2) rfl
  refine bodyPost_ret (v := .tuple #[snapV x.tick x.time (.slice a2 ents.length c2), .int .i64 er]) (by simp [results, Tryz.f64, Tryz.results64, go_sem, r0, r1, r2]) rfl ⟨_, ents, rfl, ?_, hL, HP.out, HK2.out.trans kS (fun i hi => .inr (by omega))⟩
  exact (HE2.out.kept kS (fun g hg e => by have hg2 : _ ≤ g := hg; omega)).mono (fun g _ hg => by have hg2 : _ ≤ g := hg; omega)
theorem sget_calls (tick : Int) (w : World) (s p : Nat) (fr fe : Nat → Prop) (most : Nat) (r : RingM SnapS) (cs : List Int) (P : Int → Int → List EntM → Prop) (h : Sto w s p fr fe most r cs P) :
    Calls Tryz.prog 21 #[.pointer (some ⟨s, 0, none⟩), .int .i64 tick] w (StGetPost P (RingN.getM r.l tick).tick (RingN.getM r.l tick).time (there r.l tick = true) (.bool (there r.l tick)) w) := by
  cases hb : there r.l tick with
  | true =>
    obtain ⟨y, hy, hk⟩ := RingN.there_some hb
    have hg : RingN.getM r.l tick = y.2 := by unfold RingN.getM; rw [hb, hy]; rfl
    obtain ⟨-, ents, h2, h3, h4, h5⟩ := h.el y (List.mem_of_getElem? hy)
    rw [hg]
    exact sget_one tick w s p fr fe most r cs P h y.2 true hg hb ents h4 h3 (fun _ => h5)
  | false =>
    have hg : RingN.getM r.l tick = zS := by unfold RingN.getM; rw [hb]; rfl
    rw [hg]
    exact sget_one tick w s p fr fe most r cs P h zS false hg hb [] (ents_none _ _) (by simp) (fun e => by cases e)
theorem sat_calls (i : Int) (w : World) (s p : Nat) (fr fe : Nat → Prop) (most : Nat) (r : RingM SnapS) (cs : List Int) (P : Int → Int → List EntM → Prop) (h : Sto w s p fr fe most r cs P) :
    Calls Tryz.prog 64 #[.pointer (some ⟨s, 0, none⟩), .int .i64 i] w (StGetPost P (snapOf (atM r.l i)).tick (snapOf (atM r.l i)).time (errOfO (atM r.l i) = 0) (.int .i64 (errOfO (atM r.l i))) w) := by
  cases ha : atM r.l i with
  | some y =>
    have hy : y ∈ r.l := by
      unfold atM at ha
      split at ha
      · cases ha
      · exact List.mem_of_getElem? ha
    obtain ⟨-, ents, h2, h3, h4, h5⟩ := h.el y hy
    exact sat_one i w s p fr fe most r cs P h y.2 y.1 0 (by rw [ha]; rfl) ents h4 h3 (fun _ => h5)
  | none =>
    exact sat_one i w s p fr fe most r cs P h zS 0 3 (by rw [ha]; rfl) [] (ents_none _ _) (by simp) (fun e => by cases e)
end Go.Proofs.YtekdkckgmleofaaGreat
