/- Joined texts. -/
import Derived.Test.YtekdkckgmleofaaGreatXf39
import Derived.Test.YtekdkckgmleofaaGreatXf33
import Derived.Deep.RegionWith
import Derived.Deep.Cut
set_option linter.unusedVariables false
set_option linter.unusedSimpArgs false
/- Contract of store.snap of a datagram that tells one new entity by none, and is taken. -/
namespace Go.Proofs.YtekdkckgmleofaaGreat
open Go.RowKit

/-- The closure: nothing is refused. -/
theorem refuse_no (why : Int) (b : Bool) (c : Nat) (e : Int) (w : World) (h : b = false ∨ ¬ e = 0) (hc : w.cell? ⟨c, 0, none⟩ = some (.int .i64 e)) :
    Calls Tryz.prog 70 #[.bool b, .int .i64 why, .pointer (some ⟨c, 0, none⟩)] w fun e w' => e = .returned (.tuple #[]) ∧ w = w' := by
  by_cases he : e = 0
  · have hb : b = false := by rcases h with h | h; exact h; exact absurd he h
    subst hb
    subst he
    go_enter Tryz.func70, Tryz.ntmps70
    go_wp2
    go_end0
    exact ⟨rfl, rfl⟩
  · have he2 : (e == 0) = false := by simpa using he
    have he3 : decide (e = 0) = false := by simpa using he
    go_enter Tryz.func70, Tryz.ntmps70
    go_wp2
    go_end0
    exact ⟨rfl, rfl⟩
theorem hmfA (fn : Fn) (first cap : Array Value) (w : World) : (Instr.makeFunc fn first cap).run Tryz.prog w = .ok (.func fn first cap) w := rfl
abbrev refV (c : Nat) : Value := .func (.func 70) #[] #[.pointer (some ⟨c, 0, none⟩)]
/-- On the way through snap. -/
structure SnI (w : World) (s p : Nat) (fr fe : Nat → Prop) (most : Nat) (r : RingM SnapS) (cs : List Int) (P : Int → Int → List EntM → Prop) (g : Nat) (tick time : Int) (x : EntM) (rv : Value) (xc : List Value) (e : Int) (W : World) : Prop where
  sto : Sto W s p fr fe most r cs P
  xb : Blk W w.heap.size xc 42
  eb : Blk W (w.heap.size + 1) [.int .i64 e] 28
  gb : Blk W g (gramC tick time (-1) rv) 78
  gl : w.heap.size + 1 < g
  rv : OneP 175 9 (recC (putR x)) rv (w.heap.size + 2) W
  kept : Kept (fun _ => False) w W
theorem SnI.go {w W W' : World} {s p : Nat} {fr fe : Nat → Prop} {most : Nat} {r : RingM SnapS} {cs : List Int} {P : Int → Int → List EntM → Prop} {g : Nat} {tick time : Int} {x : EntM} {rv : Value} {xc : List Value} {e : Int}
    (h : SnI w s p fr fe most r cs P g tick time x rv xc e W) (k : Kept (fun _ => False) W W') : SnI w s p fr fe most r cs P g tick time x rv xc e W' :=
  ⟨h.sto.kept k (fun h => h) (fun _ _ h => h) (fun _ _ h => h), k.blk h.xb (fun h => h), k.blk h.eb (fun h => h), k.blk h.gb (fun h => h), h.gl, h.rv.kept k (fun _ _ h => h), h.kept.trans k (fun _ h => h.elim)⟩
def SnapPost (tick time : Int) (x : EntM) (w : World) (e : Ending) (w' : World) : Prop :=
  ∃ v, e = .returned (.tuple #[snapV tick time v, .int .i64 0]) ∧ OneP 39 9 (entC x) v w.heap.size w' ∧ Kept (fun _ => False) w w'
/-- May such a datagram be taken? -/
structure May (most : Nat) (r : RingM SnapS) (tick time : Int) : Prop where
  new : there r.l tick = false
  fresh : staleM most r tick = false
  time : timelyM r.l tick time = true
set_option maxRecDepth 100000 in
set_option maxHeartbeats 8000000 in
theorem snap_calls (tick time : Int) (hs : SnapOk tick time) (x : EntM) (hx : x.Ok) (hgen : x.gen = 0) (w : World) (s p : Nat) (fr fe : Nat → Prop) (most : Nat) (r : RingM SnapS) (cs : List Int) (P : Int → Int → List EntM → Prop) (h : Sto w s p fr fe most r cs P)
    (hm : May most r tick time) (v : Value) (own : Option Nat) (hv : Sl w v 5 1 (gramL tick time x).length (u8s (gramL tick time x)) own) :
    Calls Tryz.prog 43 #[.pointer (some ⟨s, 0, none⟩), v] w (SnapPost tick time x w) := by
  have HG := Lib.hid (fun W v own h => gread_calls tick time x hs hx W v own h)
  have HGT := Lib.hid (fun W (h : Sto W s p fr fe most r cs P) k => RingN.get_calls W p fr most r k h.ring h.m2)
  have HST := Lib.hid (fun W (h : Sto W s p fr fe most r cs P) => stale_calls tick W s p fr fe most r cs P h)
  have HTM := Lib.hid (fun W (h : Sto W s p fr fe most r cs P) v => timely_calls tick time v W s p fr fe most r cs P h)
  have HAP := Lib.hid (fun W k0 k1 cv rv rb h => apply_calls tick time hs x hx hgen W k0 k1 cv rv rb h)
  rw [hm.fresh] at HST
  rw [hm.time] at HTM
  have HNW := Lib.hid hm.new
  obtain ⟨a0, cap0, rfl, -, -⟩ := hv.form
  have HS := Lib.hid h
  have HV := Lib.hid hv
  have hsl := h.blk.lt
  have hmf := hmfA
  unfold ReadPost at HG
  unfold ApplyPost at HAP
  clear h hv hm
  generalize (gramL tick time x).length = nb at *
  go_enter Tryz.func43, Tryz.ntmps43
  go_wp2_with fail
  have K0 := ((Kept.refl (fun _ => False) w).alloc (.cells #[.int .i64 0, .int .i64 0, .slice none 0 0] 42)).alloc (.cells #[.int .i64 0] 28)
  refine (HG.out _ _ _ (HV.out.kept K0 (fun _ _ h => h))).mono ?_
  rintro e w1 ⟨rv, rfl, hP, hk1⟩
  have B0 := hk1.blk ((Blk.new w [.int .i64 0, .int .i64 0, .slice none 0 0] 42).alloc (.cells #[.int .i64 0] 28)) (fun h => h)
  have B1 := hk1.blk (Blk.new_at (w := w.alloc (.cells #[.int .i64 0, .int .i64 0, .slice none 0 0] 42)) (n := w.heap.size + 1) (by simp) [.int .i64 0] 28) (fun h => h)
  obtain ⟨gr, hSr, hgr⟩ := hP
  obtain ⟨ar, cr, rfl, -, -⟩ := hSr.form
  have hgr2 : w.heap.size + 2 ≤ gr := by simp at hgr; omega
  have kg := (Kept.refl (fun _ => False) w1).alloc (.cells (gramC tick time (-1) (.slice ar 1 cr)).toArray 78)
  have e0 := (B1.alloc (.cells (gramC tick time (-1) (.slice ar 1 cr)).toArray 78)).cell (i := 0) rfl
  have ef := (B1.alloc (.cells (gramC tick time (-1) (.slice ar 1 cr)).toArray 78)).free 0
  have KK := (K0.trans hk1 (fun _ h => h.elim)).trans kg (fun _ h => h.elim)
  have hI0 : SnI w s p fr fe most r cs P w1.heap.size tick time x (.slice ar 1 cr) [.int .i64 0, .int .i64 0, .slice none 0 0] 0 (w1.alloc (.cells (gramC tick time (-1) (.slice ar 1 cr)).toArray 78)) :=
    ⟨HS.out.kept KK (fun h => h) (fun _ _ h => h) (fun _ _ h => h), B0.alloc _, B1.alloc _, Blk.new w1 _ _, B1.lt, ⟨gr, hSr.kept kg (fun _ _ h => h), hgr2⟩, KK⟩
  have hI1 : SnI w s p fr fe most r cs P w1.heap.size tick time x (.slice ar 1 cr) [.int .i64 0, .int .i64 0, .slice none 0 0] 0 ((w1.alloc (.cells (gramC tick time (-1) (.slice ar 1 cr)).toArray 78)).setCell ⟨w.heap.size + 1, 0, none⟩ (.int .i64 0)) := by
    have kS := (Kept.refl (· = w.heap.size + 1) (w1.alloc (.cells (gramC tick time (-1) (.slice ar 1 cr)).toArray 78))).setCell (a := ⟨w.heap.size + 1, 0, none⟩) (.inl rfl) (.int .i64 0)
    exact ⟨(HS.out.kept (KK.trans kS (fun i h => .inr (by omega))) (fun h => h) (fun _ _ h => h) (fun _ _ h => h)), kS.blk hI0.xb (by omega), hI0.eb.set 0 (.int .i64 0), kS.blk hI0.gb (by have := hI0.gl; omega), hI0.gl, hI0.rv.kept kS (fun g hg h => by omega), KK.trans kS (fun i h => .inr (by omega))⟩
  have HI1 := Lib.hid hI1
  clear hI0 hI1 hSr hgr hk1 K0 kg KK B0 B1
  go_wp2_with fail
  refine at_world (fun W => SnI w s p fr fe most r cs P w1.heap.size tick time x (.slice ar 1 cr) [.int .i64 0, .int .i64 0, .slice none 0 0] 0 W) HI1.out ?_
  clear HI1 e0 ef
  rintro W hI
  go_cut [9] from 12 (fun s9 wr => s9 = .bool false ∧ SnI w s p fr fe most r cs P w1.heap.size tick time x (.slice ar 1 cr) [.int .i64 0, .int .i64 0, .slice none 0 0] 0 wr)
  case first =>
    have s0 := hI.sto.blk.cell (i := 0) rfl
    have gb0 := hI.gb.cell (i := 0) rfl
    have hsW := hI.sto.blk.lt
    have hgW := hI.gb.lt
    have ns : s ≠ W.heap.size := by omega
    have ng : w1.heap.size ≠ W.heap.size := by omega
    have HI := Lib.hid hI
    have HGA := Lib.hid (fun W' (k : Kept (fun _ => False) W W') => HGT.out W' (HI.out.go k).sto tick)
    rw [HNW.out] at HGA
    clear hI
    have HKB : Hid (∀ W', Kept (fun k => k = W.heap.size) W W' → W'.cell? ⟨s, 0, none⟩ = some (.pointer (some ⟨p, 0, none⟩)) ∧ W'.cell? ⟨w1.heap.size, 0, none⟩ = some (.int .i64 tick)) := Lib.hid (fun W' k => ⟨k.cell s0 ns, k.cell gb0 ng⟩)
    go_region_held3 (fun w' => w'.cell? ⟨s, 0, none⟩ = some (.pointer (some ⟨p, 0, none⟩)) ∧ w'.cell? ⟨w1.heap.size, 0, none⟩ = some (.int .i64 tick))
      (first | (go_keep; done) | (refine HKB.out _ ?_; with_reducible (first
        | exact ((Kept.refl (fun k => k = W.heap.size) W).drew).trans hk2 (fun _ h => h.elim)
        | exact (((Kept.refl (fun k => k = W.heap.size) W).alloc _).drew).trans hk2 (fun _ h => h.elim)
        | exact (((Kept.refl (fun k => k = W.heap.size) W).drew).trans hk2 (fun _ h => h.elim)).alloc _
        | exact (((((((Kept.refl (fun k => k = W.heap.size) W).alloc _).drew).trans hk2 (fun _ h => h.elim)).setCell (a := ⟨W.heap.size, 0, none⟩) (.inl rfl) _).setCell (a := ⟨W.heap.size, 1, none⟩) (.inl rfl) _).setCell (a := ⟨W.heap.size, 2, none⟩) (.inl rfl) _))))
      ((first
        | (go_at_call 46; refine (HGA.out _ ((Kept.refl _ W).drew)).mono ?_; rintro e w2 ⟨rfl, hk2⟩)
        | (go_at_call 46; refine (HGA.out (W.alloc (.cells #[.int .i64 0, .int .i64 0, .slice none 0 0] 42)).drew (((Kept.refl _ W).alloc _).drew)).mono ?_; rintro e w2 ⟨rfl, hk2⟩; have hn := hk2.blk (Blk.new W [.int .i64 0, .int .i64 0, .slice none 0 0] 42).drew (fun h => h); have q0 := hn.cell (i := 0) rfl; have q1 := hn.cell (i := 1) rfl; have q2 := hn.cell (i := 2) rfl; have p0 := hn.free 0; have p1 := hn.free 1; have p2 := hn.free 2)))
    all_goals
      go_wp2_with fail
      go_meet
      refine ⟨rfl, HI.out.go ?_⟩
      with_reducible (first
        | exact (((Kept.refl (fun _ => False) W).drew).trans hk2 (fun _ h => h.elim)).alloc _
        | exact ((((((((Kept.refl (fun k => k = W.heap.size) W).alloc _).drew).trans hk2 (fun _ h => h.elim)).setCell (a := ⟨W.heap.size, 0, none⟩) (.inl rfl) _).setCell (a := ⟨W.heap.size, 1, none⟩) (.inl rfl) _).setCell (a := ⟨W.heap.size, 2, none⟩) (.inl rfl) _).mono (fun k hk e => by omega)))
  case rest =>
    obtain ⟨rfl, hI2⟩ := hcut
    have HRF := Lib.hid (fun why W (h : SnI w s p fr fe most r cs P w1.heap.size tick time x (.slice ar 1 cr) [.int .i64 0, .int .i64 0, .slice none 0 0] 0 W) => refuse_no why false (w.heap.size + 1) 0 W (.inl rfl) (h.eb.cell (i := 0) rfl))
    have HI2 := Lib.hid hI2
    clear hI2
    go_wp2_with fail
    refine (HRF.out _ _ HI2.out).mono ?_
    rintro e w3 ⟨rfl, rfl⟩
    have gc0 := HI2.out.gb.cell (i := 0) rfl
    go_wp2_with fail
    refine (HST.out _ HI2.out.sto).mono ?_
    rintro e w3 ⟨rfl, hk3⟩
    have HI3 := Lib.hid (HI2.out.go hk3)
    clear hk3 gc0
    go_wp2_with fail
    refine (HRF.out _ _ HI3.out).mono ?_
    rintro e w4 ⟨rfl, rfl⟩
    go_upto_region 8 with (fail)
    refine at_world (fun W => SnI w s p fr fe most r cs P w1.heap.size tick time x (.slice ar 1 cr) [.int .i64 0, .int .i64 0, .slice none 0 0] 0 W) HI3.out ?_
    clear HI2 HI3
    rintro W hI
    go_cut [10, 11] from 12 (fun s10 s11 wr => ∃ hb b k0 k1 a2 l2 c2, s10 = .pointer (some ⟨hb, 0, none⟩) ∧ s11 = .bool b ∧ SnI w s p fr fe most r cs P w1.heap.size tick time x (.slice ar 1 cr) [.int .i64 0, .int .i64 0, .slice none 0 0] 0 wr ∧ Blk wr hb (snapC k0 k1 (.slice a2 l2 c2)) 42)
    case first =>
      have s0 := hI.sto.blk.cell (i := 0) rfl
      have gb2 := hI.gb.cell (i := 2) rfl
      have hsW := hI.sto.blk.lt
      have hgW := hI.gb.lt
      have ns : s ≠ W.heap.size := by omega
      have ng : w1.heap.size ≠ W.heap.size := by omega
      have HI := Lib.hid hI
      have HGA := Lib.hid (fun W' (k : Kept (fun _ => False) W W') => HGT.out W' (HI.out.go k).sto (-1))
      generalize there r.l (-1) = tb at *
      generalize RingN.getM r.l (-1) = tx at *
      clear hI
      have HKB : Hid (∀ W', Kept (fun k => k = W.heap.size) W W' → W'.cell? ⟨s, 0, none⟩ = some (.pointer (some ⟨p, 0, none⟩)) ∧ W'.cell? ⟨w1.heap.size, 2, none⟩ = some (.int .i64 (-1))) := Lib.hid (fun W' k => ⟨k.cell s0 ns, k.cell gb2 ng⟩)
      go_region_held3 (fun w' => w'.cell? ⟨s, 0, none⟩ = some (.pointer (some ⟨p, 0, none⟩)) ∧ w'.cell? ⟨w1.heap.size, 2, none⟩ = some (.int .i64 (-1)))
        (first | (go_keep; done) | (refine HKB.out _ ?_; with_reducible (first
          | exact ((Kept.refl (fun k => k = W.heap.size) W).drew).trans hk2 (fun _ h => h.elim)
          | exact (((Kept.refl (fun k => k = W.heap.size) W).alloc _).drew).trans hk2 (fun _ h => h.elim)
          | exact (((Kept.refl (fun k => k = W.heap.size) W).drew).trans hk2 (fun _ h => h.elim)).alloc _
          | exact (((((((Kept.refl (fun k => k = W.heap.size) W).alloc _).drew).trans hk2 (fun _ h => h.elim)).setCell (a := ⟨W.heap.size, 0, none⟩) (.inl rfl) _).setCell (a := ⟨W.heap.size, 1, none⟩) (.inl rfl) _).setCell (a := ⟨W.heap.size, 2, none⟩) (.inl rfl) _))))
        ((first
          | (go_at_call 46; refine (HGA.out _ ((Kept.refl _ W).drew)).mono ?_; rintro e w2 ⟨rfl, hk2⟩)
          | (go_at_call 46; refine (HGA.out (W.alloc (.cells #[.int .i64 0, .int .i64 0, .slice none 0 0] 42)).drew (((Kept.refl _ W).alloc _).drew)).mono ?_; rintro e w2 ⟨rfl, hk2⟩; have hn := hk2.blk (Blk.new W [.int .i64 0, .int .i64 0, .slice none 0 0] 42).drew (fun h => h); have q0 := hn.cell (i := 0) rfl; have q1 := hn.cell (i := 1) rfl; have q2 := hn.cell (i := 2) rfl; have p0 := hn.free 0; have p1 := hn.free 1; have p2 := hn.free 2)))
      all_goals
        go_wp2_with fail
        go_meet
        first
          | (with_reducible exact ⟨_, tb, tx.tick, tx.time, tx.a, tx.len, tx.cap, rfl, rfl, HI.out.go ((((Kept.refl (fun _ => False) W).drew).trans hk2 (fun _ h => h.elim)).alloc _), Blk.new w2 (snapC tx.tick tx.time (.slice tx.a tx.len tx.cap)) 42⟩)
          | (have hB9 : Blk _ W.heap.size (snapC tx.tick tx.time (.slice tx.a tx.len tx.cap)) 42 := ((hn.set 0 (.int .i64 tx.tick)).set 1 (.int .i64 tx.time)).set 2 (.slice tx.a tx.len tx.cap)
             with_reducible exact ⟨_, tb, tx.tick, tx.time, tx.a, tx.len, tx.cap, rfl, rfl, HI.out.go ((((((((Kept.refl (fun k => k = W.heap.size) W).alloc _).drew).trans hk2 (fun _ h => h.elim)).setCell (a := ⟨W.heap.size, 0, none⟩) (.inl rfl) _).setCell (a := ⟨W.heap.size, 1, none⟩) (.inl rfl) _).setCell (a := ⟨W.heap.size, 2, none⟩) (.inl rfl) _).mono (fun k hk e => by omega)), hB9⟩)
    case rest =>
      obtain ⟨hb, tb, k0, k1, a2, l2, c2, rfl, rfl, hI2, hB2⟩ := hcut
      clear hI
      go_upto_region 9 with (fail)
      go_cut [] from 12 (fun wr => SnI w s p fr fe most r cs P w1.heap.size tick time x (.slice ar 1 cr) [.int .i64 0, .int .i64 0, .slice none 0 0] 0 wr ∧ Blk wr hb (snapC k0 k1 (.slice a2 l2 c2)) 42)
      case first =>
        have gb2 := hI2.gb.cell (i := 2) rfl
        have HRW := Lib.hid (HRF.out 14 _ hI2)
        have HI := Lib.hid hI2
        have HB := Lib.hid hB2
        clear hI2 hB2
        cases tb
        all_goals
          go_wp2_with fail
          refine (HRW.out).mono ?_
          rintro e w4 ⟨rfl, rfl⟩
          go_wp2_with fail
          go_meet
          exact ⟨HI.out, HB.out⟩
      case rest =>
        obtain ⟨hI3, hB3⟩ := hcut
        clear hI2 hB2
        have e0 := hI3.eb.cell (i := 0) rfl
        have g0 := hI3.gb.cell (i := 0) rfl
        have g1 := hI3.gb.cell (i := 1) rfl
        have g2 := hI3.gb.cell (i := 2) rfl
        have g3 := hI3.gb.cell (i := 3) rfl
        have q0 := hB3.cell (i := 0) rfl
        have q1 := hB3.cell (i := 1) rfl
        have q2 := hB3.cell (i := 2) rfl
        have HI := Lib.hid hI3
        clear hI3 hB3
        obtain ⟨gr, hSr, hgr⟩ := HI.out.rv
        have HAP2 := Lib.hid (HAP.out _ k0 k1 (.slice a2 l2 c2) _ gr hSr)
        clear hSr
        go_wp2_with fail
        refine (HAP2.out).mono ?_
        rintro e w5 ⟨ev, rfl, hP5, hk5⟩
        have hI5 := HI.out.go hk5
        obtain ⟨ge, hSe, hge⟩ := hP5
        obtain ⟨ae, ce, rfl, -, -⟩ := hSe.form
        have x0 := hI5.xb.cell (i := 0) rfl
        have x1 := hI5.xb.cell (i := 1) rfl
        have x2 := hI5.xb.cell (i := 2) rfl
        have f0 := hI5.xb.free 0
        have f1 := hI5.xb.free 1
        have f2 := hI5.xb.free 2
        have y0 := hI5.eb.cell (i := 0) rfl
        have yf := hI5.eb.free 0
        have HI5 := Lib.hid hI5
        clear hI5 hk5 e0 g0 g1 g2 g3 q0 q1 q2
        go_wp2_with fail
        have gl5 := HI5.out.gl
        have k6 := ((((Kept.refl (fun k => k = w.heap.size ∨ k = w.heap.size + 1) w5).setCell (a := ⟨w.heap.size, 0, none⟩) (.inl (.inl rfl)) (.int .i64 tick)).setCell (a := ⟨w.heap.size, 1, none⟩) (.inl (.inl rfl)) (.int .i64 time)).setCell (a := ⟨w.heap.size, 2, none⟩) (.inl (.inl rfl)) (.slice ae 1 ce)).setCell (a := ⟨w.heap.size + 1, 0, none⟩) (.inl (.inr rfl)) (.int .i64 0)
        have K6 := HI5.out.kept.trans k6 (fun i h => .inr (by omega))
        have hI6 : SnI w s p fr fe most r cs P w1.heap.size tick time x (.slice ar 1 cr) (snapC tick time (.slice ae 1 ce)) 0 ((((w5.setCell ⟨w.heap.size, 0, none⟩ (.int .i64 tick)).setCell ⟨w.heap.size, 1, none⟩ (.int .i64 time)).setCell ⟨w.heap.size, 2, none⟩ (.slice ae 1 ce)).setCell ⟨w.heap.size + 1, 0, none⟩ (.int .i64 0)) :=
          ⟨HS.out.kept K6 (fun h => h) (fun _ _ h => h) (fun _ _ h => h), (((HI5.out.xb.set 0 (.int .i64 tick)).set 1 (.int .i64 time)).set 2 (.slice ae 1 ce)).set_ne (a := ⟨w.heap.size + 1, 0, none⟩) (by simp) (.int .i64 0), (((HI5.out.eb.set_ne (a := ⟨w.heap.size, 0, none⟩) (by simp) (.int .i64 tick)).set_ne (a := ⟨w.heap.size, 1, none⟩) (by simp) (.int .i64 time)).set_ne (a := ⟨w.heap.size, 2, none⟩) (by simp) (.slice ae 1 ce)).set 0 (.int .i64 0), k6.blk HI5.out.gb (by omega), gl5, HI5.out.rv.kept k6 (fun g hg h => by omega), K6⟩
        have HI6 := Lib.hid hI6
        have hzw := HI.out.kept.size
        have hg1' := HI.out.xb.lt
        have hg2' := HI.out.eb.lt
        have HSE6 := Lib.hid (hSe.kept k6 (fun g' e => by cases e; omega))
        clear hI6 k6 K6 HI5 hSe x0 x1 x2 f0 f1 f2 y0 yf
        refine (HTM.out _ HI6.out.sto _).mono ?_
        rintro e w7 ⟨rfl, hk7⟩
        have HI7 := Lib.hid (HI6.out.go hk7)
        have HSE7 := Lib.hid (HSE6.out.kept hk7 (fun _ _ h => h))
        have HR7 := Lib.hid (refuse_no 16 false (w.heap.size + 1) 0 w7 (.inl rfl) (HI7.out.eb.cell (i := 0) rfl))
        clear hk7 HI6 HSE6
        go_wp2_with fail
        refine (HR7.out).mono ?_
        rintro e w8 ⟨rfl, rfl⟩
        have x0 := HI7.out.xb.cell (i := 0) rfl
        have x1 := HI7.out.xb.cell (i := 1) rfl
        have x2 := HI7.out.xb.cell (i := 2) rfl
        have f0 := HI7.out.xb.free 0
        have f1 := HI7.out.xb.free 1
        have f2 := HI7.out.xb.free 2
        have y0 := HI7.out.eb.cell (i := 0) rfl
        have yf := HI7.out.eb.free 0
        go_wp2_with fail
        go_region
        go_wp2_with fail
        have kf := ((((Kept.refl (fun k => k = w.heap.size ∨ k = w.heap.size + 1) w7).setCell (a := ⟨w.heap.size, 0, none⟩) (.inl (.inl rfl)) (.int .i64 tick)).setCell (a := ⟨w.heap.size, 1, none⟩) (.inl (.inl rfl)) (.int .i64 time)).setCell (a := ⟨w.heap.size, 2, none⟩) (.inl (.inl rfl)) (.slice ae 1 ce)).setCell (a := ⟨w.heap.size + 1, 0, none⟩) (.inl (.inr rfl)) (.int .i64 0)
        have hx := ((((HI7.out.xb.set 0 (.int .i64 tick)).set 1 (.int .i64 time)).set 2 (.slice ae 1 ce)).set_ne (a := ⟨w.heap.size + 1, 0, none⟩) (by simp) (.int .i64 0)).drew
        have he := ((((HI7.out.eb.set_ne (a := ⟨w.heap.size, 0, none⟩) (by simp) (.int .i64 tick)).set_ne (a := ⟨w.heap.size, 1, none⟩) (by simp) (.int .i64 time)).set_ne (a := ⟨w.heap.size, 2, none⟩) (by simp) (.slice ae 1 ce)).set 0 (.int .i64 0)).drew
        have r0 := hx.cell (i := 0) rfl
        have r1 := hx.cell (i := 1) rfl
        have r2 := hx.cell (i := 2) rfl
        have r3 := he.cell (i := 0) rfl
        refine bodyPost_ret (v := .tuple #[snapV tick time (.slice ae 1 ce), .int .i64 0]) (by simp [results, Tryz.f43, Tryz.results43, go_sem, r0, r1, r2, r3]) rfl ⟨_, rfl, ⟨ge, (HSE7.out.kept kf (fun g' e => by cases e; omega)).drew, by omega⟩, (HI7.out.kept.trans kf (fun i hi => .inr (by omega))).drew⟩
end Go.Proofs.YtekdkckgmleofaaGreat

/- Contracts of package store's functions: Accept of what may be taken, Get, At. -/
namespace Go.Proofs.YtekdkckgmleofaaGreat
open Go.RowKit

theorem lay_may {most : Nat} {r : RingM SnapS} {tick time : Int} (h : May most r tick time) (sx : SnapS) : (layM most r tick sx).2.2.2 = 0 ∧ ∀ y ∈ (layM most r tick sx).1.l, y ∈ r.l ∨ y = (tick, sx) := by
  have h1 := h.new
  have h2 := h.fresh
  unfold staleM RingN.untilM at h2
  rw [h1] at h2
  have h3 : ((r.gone && decide (tick ≤ r.floor)) || (decide (plc r.l tick = 0) && decide (r.l.length = most))) = false := by
    rw [Bool.or_eq_false_iff] at h2 ⊢
    refine ⟨h2.1, ?_⟩
    have := h2.2
    rw [Bool.and_comm]
    simpa using this
  have hin : ∀ y ∈ insAt r.l tick sx, y ∈ r.l ∨ y = (tick, sx) := by
    intro y hy
    unfold insAt at hy
    rcases List.mem_append.1 hy with hy | hy
    · exact .inl (List.mem_of_mem_take hy)
    · rcases List.mem_cons.1 hy with hy | hy
      · exact .inr hy
      · exact .inl (List.mem_of_mem_drop hy)
  unfold layM
  rw [if_neg (by rw [h1]; simp), if_neg (by rw [h3]; simp)]
  split
  · exact ⟨rfl, hin⟩
  · split
    · rename_i he
      exact ⟨rfl, fun y hy => .inl hy⟩
    · rename_i y0 t he
      refine ⟨rfl, fun y hy => hin y ?_⟩
      rw [he]
      exact List.mem_cons_of_mem _ hy
def AccPost (tick time : Int) (P : Int → Int → List EntM → Prop) (w : World) (s p : Nat) (fr fe : Nat → Prop) (most : Nat) (r : RingM SnapS) (e : Ending) (w' : World) : Prop :=
  e = .returned (.tuple #[.int .i64 tick, .int .i64 0]) ∧ ∃ fr' fe' cs' a cap, Sto w' s p fr' fe' most (layM most r tick ⟨tick, time, a, 1, cap⟩).1 cs' P ∧ (∀ g, fr' g → fr g ∨ w.heap.size ≤ g) ∧ (∀ g, fe' g → fe g ∨ w.heap.size ≤ g) ∧ Kept (fun g => g = s ∨ fr g) w w'
set_option maxRecDepth 100000 in
set_option maxHeartbeats 8000000 in
theorem accept_one (tick time : Int) (hs : SnapOk tick time) (x : EntM) (hx : x.Ok) (hgen : x.gen = 0) (w : World) (s p : Nat) (fr fe : Nat → Prop) (most : Nat) (r : RingM SnapS) (cs : List Int) (P : Int → Int → List EntM → Prop) (h : Sto w s p fr fe most r cs P)
    (hm : May most r tick time) (hP : P tick time [x]) (hfr : ∀ g, fr g → g < w.heap.size) (hfe : ∀ g, fe g → g < w.heap.size) (v : Value) (own : Option Nat) (hv : Sl w v 5 1 (gramL tick time x).length (u8s (gramL tick time x)) own) :
    Calls Tryz.prog 20 #[.pointer (some ⟨s, 0, none⟩), v] w (AccPost tick time P w s p fr fe most r) := by
  have HSN := Lib.hid (snap_calls tick time hs x hx hgen w s p fr fe most r cs P h hm v own hv)
  have HOW := Lib.hid (fun v fe W h => own_calls tick time v [x] fe W h (by simp))
  have HLA : Hid (∀ W, Sto W s p fr fe most r cs P → ∀ sx : SnapS, Calls Tryz.prog 44 #[.pointer (some ⟨p, 0, none⟩), .int .i64 tick, sv sx] W fun e w' => e = .returned (.tuple #[.int .i64 (layM most r tick sx).2.1, .bool (layM most r tick sx).2.2.1, .int .i64 0]) ∧ RingN.Ring w' p (fun g => fr g ∨ (W.heap.size ≤ g ∧ g < w'.heap.size)) most (layM most r tick sx).1 ∧ Kept fr W w') := Lib.hid (fun W h sx => by
    have h1 := RingN.lay_calls W p fr most r tick sx h.ring h.m2
    unfold RingN.LayPost at h1
    rw [(lay_may hm sx).1] at h1
    exact h1)
  have HMY := Lib.hid (fun sx => lay_may hm sx)
  have HS := Lib.hid h
  obtain ⟨a0, cap0, rfl, -, -⟩ := hv.form
  have hsl := h.blk.lt
  obtain ⟨c0, cr, rfl⟩ : ∃ c0 cr, cs = c0 :: cr := by
    have := h.cl
    cases cs with
    | nil => simp at this
    | cons a l => exact ⟨a, l, rfl⟩
  unfold SnapPost at HSN
  unfold OwnPost at HOW
  clear h hm hv
  generalize (gramL tick time x).length = nb at *
  go_enter Tryz.func20, Tryz.ntmps20
  go_wp2_with fail
  refine (HSN.out).mono ?_
  rintro e w1 ⟨ev, rfl, hE, hk1⟩
  obtain ⟨ge, hSe, hge⟩ := hE
  obtain ⟨ae, ce, rfl, -, -⟩ := hSe.form
  have kA := (Kept.refl (fun _ => False) w1).alloc (.cells (snapC tick time (.slice ae 1 ce)).toArray 42)
  have HK1 := Lib.hid (hk1.trans kA (fun _ h => h.elim))
  have HB1 := Lib.hid (Blk.new w1 (snapC tick time (.slice ae 1 ce)) 42)
  have HE1 := Lib.hid (hSe.alloc (.cells (snapC tick time (.slice ae 1 ce)).toArray 42))
  have hw1 := hk1.size
  clear hSe hk1 kA
  go_upto_region 5 with (fail)
  refine at_world (fun W => Blk W w1.heap.size (snapC tick time (.slice ae 1 ce)) 42 ∧ Sl W (.slice ae 1 ce) 39 9 1 (entC x) (some ge) ∧ Kept (fun _ => False) w W) ⟨HB1.out, HE1.out, HK1.out⟩ ?_
  rintro W ⟨hB, hE, hK⟩
  clear HB1 HE1 HK1
  have HSW := Lib.hid (HS.out.kept hK (fun h => h) (fun _ _ h => h) (fun _ _ h => h))
  have s0 := HSW.out.blk.cell (i := 0) rfl
  have x0 := hB.cell (i := 0) rfl
  have x1 := hB.cell (i := 1) rfl
  have x2 := hB.cell (i := 2) rfl
  have HBW := Lib.hid hB
  have HKW := Lib.hid hK
  have HEW := Lib.hid (EntsAt.of_one (lo := 0) ⟨ge, hE, Nat.zero_le _⟩)
  have hbl := hB.lt
  clear hB hE hK
  have HKB : Hid (∀ W', Kept (fun _ => False) W W' → W'.cell? ⟨s, 0, none⟩ = some (.pointer (some ⟨p, 0, none⟩)) ∧ W'.cell? ⟨w1.heap.size, 0, none⟩ = some (.int .i64 tick) ∧ W'.cell? ⟨w1.heap.size, 1, none⟩ = some (.int .i64 time) ∧ W'.cell? ⟨w1.heap.size, 2, none⟩ = some (.slice ae 1 ce)) := Lib.hid (fun W' k => ⟨k.cell s0 (fun h => h), k.cell x0 (fun h => h), k.cell x1 (fun h => h), k.cell x2 (fun h => h)⟩)
  have HKC : Hid (∀ W', Kept fr W W' → W'.cell? ⟨s, 0, none⟩ = some (.pointer (some ⟨p, 0, none⟩)) ∧ W'.cell? ⟨w1.heap.size, 0, none⟩ = some (.int .i64 tick) ∧ W'.cell? ⟨w1.heap.size, 1, none⟩ = some (.int .i64 time) ∧ W'.cell? ⟨w1.heap.size, 2, none⟩ = some (.slice ae 1 ce)) := Lib.hid (fun W' k => ⟨k.cell s0 HS.out.sr, k.cell x0 (fun h => by have : w1.heap.size < w.heap.size := hfr _ h; omega), k.cell x1 (fun h => by have : w1.heap.size < w.heap.size := hfr _ h; omega), k.cell x2 (fun h => by have : w1.heap.size < w.heap.size := hfr _ h; omega)⟩)
  go_region_held3 (fun w' => w'.cell? ⟨s, 0, none⟩ = some (.pointer (some ⟨p, 0, none⟩)) ∧ w'.cell? ⟨w1.heap.size, 0, none⟩ = some (.int .i64 tick) ∧ w'.cell? ⟨w1.heap.size, 1, none⟩ = some (.int .i64 time) ∧ w'.cell? ⟨w1.heap.size, 2, none⟩ = some (.slice ae 1 ce))
    (first
      | (go_keep; done)
      | (refine HKB.out _ ?_; with_reducible exact ((Kept.refl (fun _ => False) W).drew).trans hk2 (fun _ h => h.elim))
      | (refine HKC.out _ ?_; with_reducible exact ((((Kept.refl (fun _ => False) W).drew).trans hk2 (fun _ h => h.elim)).mono (G := fr) (fun _ _ h => h.elim)).trans hk3 (fun _ h => .inl h)))
    ((first
      | (go_at_call 45; refine (HOW.out _ _ _ (HEW.out.kept ((Kept.refl (fun _ => False) W).drew) (fun _ _ h => h))).mono ?_; rintro e w2 ⟨v2, rfl, hE2, hk2⟩; obtain ⟨a2, c2, rfl, -, -⟩ := hE2.form)
      | (go_at_call 44; refine (HLA.out _ (HSW.out.kept (((Kept.refl (fun _ => False) W).drew).trans hk2 (fun _ h => h.elim)) (fun h => h) (fun _ _ h => h) (fun _ _ h => h)) ⟨tick, time, a2, 1, c2⟩).mono ?_; rintro e w3 ⟨rfl, hR3, hk3⟩)))
  have K2 : Kept (fun _ => False) W w2 := ((Kept.refl (fun _ => False) W).drew).trans hk2 (fun _ h => h.elim)
  have KW2 := HKW.out.trans K2 (fun _ h => h.elim)
  have hz0 := HKW.out.size
  have hz2 := K2.size
  have hz3 := hk3.size
  have B2 := K2.blk HSW.out.blk (fun h => h)
  have B3 := hk3.blk B2 HS.out.sr
  have X3 := hk3.blk (K2.blk HBW.out (fun h => h)) (fun h => by have : w1.heap.size < w.heap.size := hfr _ h; omega)
  have c2' := B3.cell (i := 2) rfl
  have f2' := B3.free 2
  have xx := X3.cell (i := 0) rfl
  have nx : w1.heap.size ≠ s := by omega
  have KW3 : Kept fr w w3 := (KW2.mono (G := fr) (fun _ _ h => h.elim)).trans hk3 (fun _ h => .inl h)
  have HB3 := Lib.hid B3
  have HX3 := Lib.hid X3
  have HR3 := Lib.hid hR3
  have HK3 := Lib.hid KW3
  have HE3 : Hid (EntsAt w3 (.slice a2 1 c2) [x] (fun g => w.heap.size ≤ g ∧ g < w2.heap.size)) := Lib.hid ((hE2.mono (fq := fun g => w.heap.size ≤ g ∧ g < w2.heap.size) (fun g hg h => ⟨by have hh : W.heap.size ≤ g := h; omega, hg⟩)).kept hk3 (fun g hg h => by have := hfr _ h; omega))
  have HMY2 := Lib.hid (HMY.out ⟨tick, time, a2, 1, c2⟩).2
  clear K2 KW2 B2 B3 X3 hR3 hk3 hk2 hE2 KW3 s0 x0 x1 x2 HKB HKC HLA HMY HOW HSN
  generalize hRR : (layM most r tick ⟨tick, time, a2, 1, c2⟩).2.1 = e1 at *
  generalize hRR2 : (layM most r tick ⟨tick, time, a2, 1, c2⟩).2.2.1 = e2 at *
  clear hRR hRR2
  go_wp2_with fail
  go_region
  go_wp2_with fail
  go_ret2
  have kS := ((Kept.refl (· = s) w3).setCell (a := ⟨s, 2, none⟩) (.inl rfl) (.int .i64 (wrap64 (c0 + 1)))).drew
  have KF : Kept (fun g => g = s ∨ fr g) w ((w3.setCell ⟨s, 2, none⟩ (.int .i64 (wrap64 (c0 + 1)))).drew) := (HK3.out.mono (fun _ _ h => .inr h)).trans kS (fun _ h => .inl (.inl h))
  refine ⟨rfl, fun g => fr g ∨ (w2.heap.size ≤ g ∧ g < w3.heap.size), fun g => fe g ∨ (w.heap.size ≤ g ∧ g < w2.heap.size), wrap64 (c0 + 1) :: cr, a2, c2, ⟨?_, HS.out.cl, HR3.out.kept kS (fun g hg e => ?_), HS.out.m1, HS.out.m2, ?_, ?_, ?_, ?_⟩, ?_, ?_, KF⟩
  · exact (HB3.out.set 2 (.int .i64 (wrap64 (c0 + 1)))).drew
  · subst e
    rcases hg with hg | hg
    · exact HS.out.sr hg
    · omega
  · rintro (hg | hg)
    · exact HS.out.sr hg
    · omega
  · rintro (hg | hg)
    · exact HS.out.se hg
    · omega
  · rintro g (hg | hg) (he | he)
    · exact HS.out.re g hg he
    · have := hfr g hg; omega
    · have := hfe g he; omega
    · omega
  · intro y hy
    rcases HMY2.out y hy with h | h
    · exact ((HS.out.el y h).kept KF (fun g hg e => by
        rcases e with e | e
        · subst e; exact HS.out.se hg
        · exact HS.out.re g e hg)).mono (fun g _ h => .inl h)
    · subst h
      exact ⟨rfl, [x], rfl, by simp, (HE3.out.kept kS (fun g hg e => by omega)).mono (fun g _ h => .inr h), hP⟩
  · rintro g (hg | hg)
    · exact .inl hg
    · exact .inr (by omega)
  · rintro g (hg | hg)
    · exact .inl hg
    · exact .inr (by omega)
theorem accept_calls (tick time : Int) (hs : SnapOk tick time) (x : EntM) (hx : x.Ok) (hgen : x.gen = 0) (w : World) (s p : Nat) (fr fe : Nat → Prop) (most : Nat) (r : RingM SnapS) (cs : List Int) (P : Int → Int → List EntM → Prop) (h : Sto w s p fr fe most r cs P)
    (hm : May most r tick time) (hP : P tick time [x]) (v : Value) (own : Option Nat) (hv : Sl w v 5 1 (gramL tick time x).length (u8s (gramL tick time x)) own) :
    Calls Tryz.prog 20 #[.pointer (some ⟨s, 0, none⟩), v] w (AccPost tick time P w s p fr fe most r) := by
  have h2 : Sto w s p (fun g => fr g ∧ g < w.heap.size) (fun g => fe g ∧ g < w.heap.size) most r cs P := h.mono (fun g hg => ⟨fun h => h.1, fun h => ⟨h, hg⟩⟩) (fun g hg => ⟨fun h => h.1, fun h => ⟨h, hg⟩⟩) (fun g h1 h2 => h.re g h1.1 h2.1)
  refine (accept_one tick time hs x hx hgen w s p _ _ most r cs P h2 hm hP (fun g h => h.2) (fun g h => h.2) v own hv).mono ?_
  rintro e w' ⟨he, fr', fe', cs', a, cap, hS, h3, h4, hk⟩
  exact ⟨he, fr', fe', cs', a, cap, hS, fun g hg => (h3 g hg).imp And.left id, fun g hg => (h4 g hg).imp And.left id, hk.mono (fun k _ h => h.imp id And.left)⟩
end Go.Proofs.YtekdkckgmleofaaGreat
