/- Joined texts. -/
import Derived.Test.YtekdkckgmleofaaGreatXf48
import Derived.Test.YtekdkckgmleofaaGreatXf41
import Derived.Test.YtekdkckgmleofaaGreatXf38
import Derived.Laws.EntriesVeiled
set_option linter.unusedVariables false
set_option linter.unusedSimpArgs false
/- Client's snaps: all that are kept. -/
namespace Go.Proofs.YtekdkckgmleofaaGreat
open Go.RowKit
def AtG (tick time : Int) (w : World) (e : Ending) (w' : World) : Prop :=
  ∃ (a : Option Addr) (cap : Nat) (ents : List EntM), e = .returned (.tuple #[sv ⟨tick, time, a, ents.length, cap⟩, .int .i64 0]) ∧ SnapAt w' ⟨tick, time, a, ents.length, cap⟩ ents ∧ Kept (fun _ => False) w w'
theorem sat_g (w : World) (s p : Nat) (fr fe : Nat → Prop) (most : Nat) (r : RingM SnapS) (cs : List Int) (h : Sto w s p fr fe most r cs AnyP) (k : Nat) (y : Int × SnapS) (hy : r.l[k]? = some y) :
    Calls Tryz.prog 64 #[.pointer (some ⟨s, 0, none⟩), .int .i64 k] w (AtG y.2.tick y.2.time w) := by
  have h1 := sat_calls k w s p fr fe most r cs AnyP h
  have e : atM r.l (k : Int) = some y := by unfold atM; rw [if_neg (by omega)]; simpa using hy
  rw [e] at h1
  refine h1.mono ?_
  rintro e w' ⟨v, ents, rfl, hE, -, hP, hk⟩
  obtain ⟨hs, hx⟩ := hP rfl
  obtain ⟨a, cap, rfl, -, -⟩ := hE.form
  obtain ⟨o, hS, -⟩ := hE
  exact ⟨a, cap, ents, rfl, ⟨⟨o, hS⟩, hx, hs⟩, hk⟩
theorem SnapAt.keptG {w w' : World} {x : SnapS} {e : List EntM} {v : Value} {n : Nat} {xs : List Value} {own : Option Nat} (h : SnapAt w x e) (hS : Sl w v 42 3 n xs own) (k : Kept (fun k => own = some k) w w') : SnapAt w' x e := by
  obtain ⟨⟨o, h1⟩, h2, h3⟩ := h
  refine ⟨⟨o, h1.kept k (fun g hg hog => ?_)⟩, h2, h3⟩
  subst hg
  subst hog
  have a := h1.2
  have b := hS.2
  rcases a with ⟨_, _, a⟩ | ⟨g1, _, _, _, a1, _, a2, _⟩
  · cases a
  · rcases b with ⟨_, _, b⟩ | ⟨g2, _, _, _, b1, _, b2, _⟩
    · cases b
    · cases a1
      cases b1
      rw [a2] at b2
      simp at b2
/-- The first k of them, as a row. -/
structure SnpG (l : List (Int × SnapS)) (k : Nat) (w : World) (v : Value) (ys : List (SnapS × List EntM)) (own : Option Nat) (wr : World) : Prop where
  len : ys.length = k
  row : Sl wr v 42 3 k (cellsL snC (ys.map Prod.fst)) own
  own : ∀ g, own = some g → w.heap.size ≤ g
  same : ys.map (fun y => (y.1.tick, y.1.time)) = (l.take k).map (fun z => (z.2.tick, z.2.time))
  el : ∀ y ∈ ys, SnapAt wr y.1 y.2
  kept : Kept (fun _ => False) w wr
theorem SnpG.step {l : List (Int × SnapS)} {k : Nat} {w : World} {v : Value} {ys : List (SnapS × List EntM)} {own : Option Nat} {wr w1 w2 : World} (h : SnpG l k w v ys own wr) (kp : Kept (fun _ => False) wr w1) {y : Int × SnapS} (hy : l[k]? = some y) {a : Option Addr} {cap : Nat} {x : List EntM}
    (hx : SnapAt w1 ⟨y.2.tick, y.2.time, a, x.length, cap⟩ x) {v' : Value} {own' : Option Nat} (hS : Sl w2 v' 42 3 (k + 1) (cellsL snC (ys.map Prod.fst) ++ snC ⟨y.2.tick, y.2.time, a, x.length, cap⟩) own')
    (ho : own' = own ∨ own' = some w1.heap.size) (kp2 : Kept (fun k => own = some k) w1 w2) : SnpG l (k + 1) w v' (ys ++ [(⟨y.2.tick, y.2.time, a, x.length, cap⟩, x)]) own' w2 := by
  have hkl : k < l.length := (List.getElem?_eq_some_iff.1 hy).1
  have hrow := h.row.kept kp (fun _ _ h => h)
  refine ⟨by simp [h.len], ?_, ?_, ?_, ?_, ?_⟩
  · rw [List.map_append, cellsL_append]
    simpa [cellsL] using hS
  · intro g hg
    rcases ho with e | e
    · rw [e] at hg
      exact h.own g hg
    · rw [e] at hg
      have e1 := Option.some.inj hg
      have := (h.kept.trans kp (fun _ h => .inl h)).size
      omega
  · rw [List.map_append, h.same, List.take_add_one, List.map_append, hy]
    rfl
  · intro z hz
    rcases List.mem_append.1 hz with hz | hz
    · exact ((h.el z hz).kept kp).keptG hrow kp2
    · obtain rfl := List.mem_singleton.1 hz
      exact hx.keptG hrow kp2
  · exact (h.kept.trans kp (fun _ h => .inl h)).trans kp2 (fun g hg => .inr (h.own g hg))
def SnapsG (l : List (Int × SnapS)) (w : World) (e : Ending) (w' : World) : Prop :=
  ∃ v ys own, e = .returned v ∧ SnpG l l.length w v ys own w'
set_option maxRecDepth 100000 in
set_option maxHeartbeats 8000000 in
theorem snaps_any (w : World) (q : Nat) (F : Nat → Prop) (c : Cfg) (m : ClkM) (K : Nat) (r : RingM SnapS) (h : Cli w q F c m K r AnyP) :
    Calls Tryz.prog 27 #[.pointer (some ⟨q, 0, none⟩)] w (SnapsG r.l w) := by
  obtain ⟨s, p, kk, fr, fe, fk, cs, n, h⟩ := h
  have c0 := h.blk.cell (i := 11) rfl
  have hlen : r.l.length ≤ 64 := Nat.le_trans h.sto.ring.len h.sto.m2
  have HL := Lib.hid (fun W (k : Kept (fun _ => False) w W) => slen_calls W s p fr fe c.ring.toNat r cs AnyP (h.sto.kept k (fun h => h) (fun _ _ h => h) (fun _ _ h => h)))
  have HA := Lib.hid (fun W (k : Kept (fun _ => False) w W) i y hy => sat_g W s p fr fe c.ring.toNat r cs (h.sto.kept k (fun h => h) (fun _ _ h => h) (fun _ _ h => h)) i y hy)
  have HB := Lib.hid h.blk
  obtain ⟨j0, hi, hz0, hz1, hz2⟩ := info_parts infoSnap
  have HI := Lib.hid hi
  have HZ0 := Lib.hid hz0
  have HZ1 := Lib.hid hz1
  have HZ2 := Lib.hid hz2
  clear hi hz0 hz1 hz2 h
  go_enter Tryz.func27, Tryz.ntmps27
  go_wp2_with fail
  refine (HL.out _ (Kept.refl _ _)).mono ?_
  rintro e w1 ⟨rfl, hw1⟩
  subst hw1
  clear c0
  go_wp2_with fail
  go_loopw [3, 12] (fun l i wr => ∃ (k : Nat) (y : Value) (ys : List (SnapS × List EntM)) (own : Option Nat), i = .int .i64 k ∧ l = y ∧ k ≤ r.l.length ∧ SnpG r.l k w y ys own wr) (fun _ i _ => (r.l.length - intOf i).toNat)
  case atStart => exact ⟨0, _, [], none, rfl, rfl, Nat.zero_le _, ⟨rfl, Sl.nil _ _ _, fun g e => (by cases e), rfl, fun y hy => (by cases hy), Kept.refl _ _⟩⟩
  case round =>
    obtain ⟨k, y', ys, own, rfl, hy, hk, hI⟩ := hrel
    have hy2 := hy.symm
    clear hy
    subst hy2
    have HS := Lib.hid hI
    obtain ⟨ya, ycap, rfl, -, -⟩ := hI.row.form
    have c0 := (hI.kept.blk HB.out (fun h => h)).cell (i := 11) rfl
    have hK := hI.kept
    have HK := Lib.hid hK
    by_cases hlt : k < r.l.length
    · obtain ⟨y, hy⟩ : ∃ y, r.l[k]? = some y := ⟨_, List.getElem?_eq_getElem hlt⟩
      have HQ := Lib.hid (HA.out wr hK k y hy)
      have HY := Lib.hid hy
      clear hy hK hI
      go_wp2_with fail
      refine HQ.out.mono ?_
      rintro e w2 ⟨a, cap, x, rfl, hx, hk2⟩
      have HX := Lib.hid hx
      have HK2 := Lib.hid hk2
      have HROW : Hid (∀ o1 o2, Sl ((w2.alloc o1).alloc o2) (.slice ya k ycap) 42 3 k (cellsL snC (ys.map Prod.fst)) own) := Lib.hid (fun o1 o2 => ((HS.out.row.kept HK2.out (fun _ _ h => h)).alloc o1).alloc o2)
      have HSR : Hid (∀ (W : World) (b : Nat), b = W.heap.size → Src (W.alloc (.cells #[.int .i64 y.2.tick, .int .i64 y.2.time, .slice a x.length cap] 42)) (.slice (some ⟨b, 0, none⟩) 1 1) 1 (snC ⟨y.2.tick, y.2.time, a, x.length, cap⟩)) := Lib.hid (fun W b e => by
        subst e
        exact (Sl.made W (snC ⟨y.2.tick, y.2.time, a, x.length, cap⟩) 42 3 1 rfl (by decide)).src)
      have HO : Hid (∀ u ∈ snC ⟨y.2.tick, y.2.time, a, x.length, cap⟩, u.oneCell' = true) := Lib.hid (by intro u hu; simp at hu; rcases hu with rfl | rfl | rfl <;> rfl)
      have N1 : Hid (k + 1 ≤ maxLen) := Lib.hid (by unfold maxLen; omega)
      have N2 : Hid ((k + 1) * 40 ≤ 140737488355328) := Lib.hid (by omega)
      clear hx hk2 c0
      go_wp2_with (at_builtin; refine wpList_append_sl _ rfl _ _ 87 rfl 42 j0 (.agg #[.int .i64 0, .int .i64 0, .slice none 0 0]) 3 40 Tryz.underlying87 HI.out HZ0.out HZ1.out HZ2.out rfl _ k _ own rfl (HROW.out _ _) _ 1 (snC ⟨y.2.tick, y.2.time, a, x.length, cap⟩) rfl (by exact HSR.out _ _ (by simp)) rfl HO.out N1.out N2.out ?_; intro va wa own5 hS5 ho5 hK5; have SA := Lib.hid hS5; have OA := Lib.hid ho5; have KA := Lib.hid hK5; clear hS5 ho5 hK5)
      exact ⟨⟨k + 1, _, ys ++ [(⟨y.2.tick, y.2.time, a, x.length, cap⟩, x)], own5, by simp, rfl, by omega, HS.out.step ((HK2.out.alloc _).alloc _) HY.out (HX.out.kept (((Kept.refl (fun _ => False) w2).alloc _).alloc _)) SA.out OA.out KA.out⟩, by simp [intOf]; omega⟩
    · clear hK hI
      go_wp2_with fail
      go_ret
      have e : k = r.l.length := by omega
      subst e
      exact ⟨_, ys, own, rfl, HS.out⟩
end Go.Proofs.YtekdkckgmleofaaGreat

/- Client's Frame, of any snapshots. -/
namespace Go.Proofs.YtekdkckgmleofaaGreat
open Go.RowKit
theorem times_of {ys : List (SnapS × List EntM)} {l : List (Int × SnapS)} {W : World} (h : ys.map (fun y => (y.1.tick, y.1.time)) = l.map (fun z => (z.2.tick, z.2.time))) (hT : TimesR l) (hx : ∀ y ∈ ys, SnapAt W y.1 y.2) : TimesOk (ys.map Prod.fst) := by
  refine ⟨fun x hx' => ?_, ?_⟩
  · obtain ⟨y, hy, rfl⟩ := List.mem_map.1 hx'
    obtain ⟨-, -, h3, h4⟩ := (hx y hy).ts
    exact ⟨h3, h4⟩
  · have h1 : (l.map (fun z => (z.2.tick, z.2.time))).Pairwise (fun a b => a.2 < b.2) := by
      rw [List.pairwise_map]
      exact hT
    rw [← h, List.pairwise_map] at h1
    rw [List.pairwise_map]
    exact h1
def FrG (w : World) (q : Nat) (F : Nat → Prop) (c : Cfg) (m : ClkM) (K : Nat) (r : RingM SnapS) (e : Ending) (w' : World) : Prop :=
  ∃ (a : Option Addr) (n cap : Nat), e = .returned (.agg #[.bool true, .int .i64 m.sl.at_, .slice a n cap]) ∧ Cli w' q F c m K r AnyP ∧ Kept F w w'
set_option maxRecDepth 100000 in
set_option maxHeartbeats 16000000 in
theorem frame_any (w : World) (q : Nat) (F : Nat → Prop) (c : Cfg) (hc : COk c) (m : ClkM) (K : Nat) (r : RingM SnapS) (h : Cli w q F c m K r AnyP) (hT : TimesR r.l) (he : m.last ≠ []) (loc : Int) (hl : I64 loc) (hr : r.l ≠ []) :
    Calls Tryz.prog 10 #[.pointer (some ⟨q, 0, none⟩), .int .i64 loc] w (FrG w q F c (frmM c m loc) K r) := by
  have HTR := Lib.hid hT
  have HCF := Lib.hid (fun W kk fk hcl => cframe_calls W kk fk c m K loc hc hcl he hl)
  have hlen : r.l.length ≤ 64 := by
    obtain ⟨s, p, kk, fr, fe, fk, cs, n, h⟩ := h
    exact Nat.le_trans h.sto.ring.len h.sto.m2
  have hlen0 : 0 < r.l.length := List.length_pos_iff.2 hr
  have HCC := Lib.hid hc
  clear hT he hl hr hc
  obtain ⟨s, p, kk, fr, fe, fk, cs, n, h, lr, le, lk⟩ := h.tight
  have hq := h.blk.lt
  have b13 := h.blk.cell (i := 13) rfl
  have g13 := h.blk.free 13
  have HK0 : Hid (Kept F w ((w.setCell ⟨q, 13, none⟩ (.int .i64 (wrap64 (n + 1)))).alloc (.cells #[.bool false, .int .i64 0, .slice none 0 0] 45))) := Lib.hid (((Kept.refl F w).setCell (a := ⟨q, 13, none⟩) (.inl h.fq) (.int .i64 (wrap64 (n + 1)))).alloc _)
  have HC0 : Hid (CliAt ((w.setCell ⟨q, 13, none⟩ (.int .i64 (wrap64 (n + 1)))).alloc (.cells #[.bool false, .int .i64 0, .slice none 0 0] 45)) q s p kk F fr fe fk c m K r cs AnyP (wrap64 (n + 1))) := Lib.hid ((h.set (wrap64 (n + 1))).kept ((Kept.refl (fun _ => False) _).alloc _) (fun _ _ h => h))
  have HN0 : Hid (Blk ((w.setCell ⟨q, 13, none⟩ (.int .i64 (wrap64 (n + 1)))).alloc (.cells #[.bool false, .int .i64 0, .slice none 0 0] 45)) w.heap.size [.bool false, .int .i64 0, .slice none 0 0] 45) := Lib.hid (Blk.new_at (by simp) _ _)
  have b12 := HC0.out.blk.cell (i := 12) rfl
  have HLK := Lib.hid lk
  have HLR := Lib.hid lr
  have HLE := Lib.hid le
  have HSZ := Lib.hid h.sto.blk.lt
  have hqs : ¬ w.heap.size = q := by omega
  clear h lr le lk
  go_enter Tryz.func10, Tryz.ntmps10
  go_upto_region 4 with fail
  generalize ((w.setCell ⟨q, 13, none⟩ (.int .i64 (wrap64 (n + 1)))).alloc (.cells #[.bool false, .int .i64 0, .slice none 0 0] 45)) = W1 at *
  clear b13 g13
  go_wp2_with fail
  refine (HCF.out _ _ _ HC0.out.clk).mono ?_
  rintro e w2 ⟨rfl, hcl, hk2⟩
  have HC2 := Lib.hid (HC0.out.clock hk2 hcl)
  have HN2 := Lib.hid (hk2.blk HN0.out (fun h => by have := HLK.out _ h; omega))
  have HK2 := Lib.hid (HK0.out.trans hk2 (fun g hg => .inl (HC0.out.fK g hg)))
  have hat : I64 (frmM c m loc).sl.at_ := by
    obtain ⟨_, _, _, _, _, _, _, hcl, _⟩ := hcl
    exact hcl.slew.2.1
  have HSN := Lib.hid (fun W (hk : Kept (fun _ => False) w2 W) => snaps_any W q F c (frmM c m loc) K r (Cli.kept ⟨s, p, kk, fr, fe, fk, cs, _, HC2.out⟩ hk (fun _ _ h => h)))
  have HSH := Lib.hid (fun W ys hy hl h0 hx v own hv => show_any c HCC.out ys hy hl h0 (frmM c m loc).sl.at_ hat W hx v own hv)
  generalize hat_ : (frmM c m loc).sl.at_ = at_ at *
  obtain ⟨g0, g1, g2, g3, g4, g5, g6, g7, g8, g9, g10⟩ := cfg_cells HC2.out.blk
  clear b12 hk2 hcl hat
  go_wp2_with fail
  have HBB := Lib.hid HC2.out.blk
  go_region_held3 (fun w' => w'.cell? ⟨q, 0, none⟩ = some (.int .i64 c.ring) ∧ w'.cell? ⟨q, 1, none⟩ = some (.int .i64 c.window) ∧ w'.cell? ⟨q, 2, none⟩ = some (.int .i64 c.base) ∧ w'.cell? ⟨q, 3, none⟩ = some (.int .i64 c.gain) ∧ w'.cell? ⟨q, 4, none⟩ = some (.int .i64 c.least) ∧ w'.cell? ⟨q, 5, none⟩ = some (.int .i64 c.most) ∧ w'.cell? ⟨q, 6, none⟩ = some (.int .i64 c.slack) ∧ w'.cell? ⟨q, 7, none⟩ = some (.int .i64 c.num) ∧ w'.cell? ⟨q, 8, none⟩ = some (.int .i64 c.den) ∧ w'.cell? ⟨q, 9, none⟩ = some (.int .i64 c.extra) ∧ w'.cell? ⟨q, 10, none⟩ = some (.bool c.curved))
    (first | (go_keep; done) | exact cfg_cells HB4.out | exact cfg_cells HB5.out)
    (first
      | (go_at_call 27; refine (HSN.out _ ((Kept.refl (fun _ => False) w2).drew)).mono ?_; rintro e w4 ⟨v4, ys, own, rfl, hI⟩; obtain ⟨a4, cap4, rfl, -, -⟩ := hI.row.form; have HI4 := Lib.hid hI; have HB4 := Lib.hid (hI.kept.blk HBB.out.drew (fun h => h)); have HK4 := Lib.hid (((Kept.refl (fun _ => False) w2).drew).trans hI.kept (fun _ h => h.elim)); clear hI)
      | (go_at_call 26; refine (HSH.out w4 ys (times_of (by have := HI4.out.same; rwa [List.take_length] at this) HTR.out (fun y hy => HI4.out.el y hy)) (by have := HI4.out.len; omega) (by have := HI4.out.len; omega) (fun y hy => HI4.out.el y hy) _ own (by rw [List.length_map, HI4.out.len]; exact HI4.out.row)).mono ?_; rintro e w5 ⟨b5, l5, p5, er, rfl, hk5⟩; have HK5 := Lib.hid hk5; have HB5 := Lib.hid (hk5.blk HB4.out (fun h => h)); clear hk5))
  have hk25 := HK4.out.trans HK5.out (fun _ h => h.elim)
  have HN5 := Lib.hid (hk25.blk HN2.out (fun h => h))
  have HK25 := Lib.hid hk25
  have e0 := HN5.out.cell (i := 0) rfl
  have e1 := HN5.out.cell (i := 1) rfl
  have e2 := HN5.out.cell (i := 2) rfl
  have f0 := HN5.out.free 0
  have f1 := HN5.out.free 1
  have f2 := HN5.out.free 2
  have hnl := HN2.out.lt
  have hs4 := HK4.out.size
  clear hk25 g0 g1 g2 g3 g4 g5 g6 g7 g8 g9 g10
  go_wp2_with fail
  have hf := ((HN5.out.set 0 (.bool true)).set 1 (.int .i64 at_)).set 2 (.slice b5 l5 p5)
  have r0 := hf.cell (i := 0) rfl
  have r1 := hf.cell (i := 1) rfl
  have r2 := hf.cell (i := 2) rfl
  have kS := (((Kept.refl (fun k => k = w.heap.size) w5).setCell (a := ⟨w.heap.size, 0, none⟩) (.inl rfl) (.bool true)).setCell (a := ⟨w.heap.size, 1, none⟩) (.inl rfl) (.int .i64 at_)).setCell (a := ⟨w.heap.size, 2, none⟩) (.inl rfl) (.slice b5 l5 p5)
  refine bodyPost_ret (v := .agg #[.bool true, .int .i64 at_, .slice b5 l5 p5]) (by simp [results, Tryz.f10, Tryz.results10, go_sem, r0, r1, r2]) rfl ⟨b5, l5, p5, by rw [hat_], ?_, (HK2.out.trans HK25.out (fun _ h => h.elim)).trans kS (fun i hi => .inr (by omega))⟩
  · have HT2 : Cli w2 q (fun g => F g ∧ g < w.heap.size) c (frmM c m loc) K r AnyP := ⟨s, p, kk, fr, fe, fk, cs, _, { HC2.out with
      fq := ⟨HC2.out.fq, hq⟩
      fs := ⟨HC2.out.fs, HSZ.out⟩
      fR := fun g hg => ⟨HC2.out.fR g hg, HLR.out g hg⟩
      fE := fun g hg => ⟨HC2.out.fE g hg, HLE.out g hg⟩
      fK := fun g hg => ⟨HC2.out.fK g hg, HLK.out g hg⟩ }⟩
    exact ((HT2.kept HK25.out (fun _ _ h => h)).kept kS (fun g hg e => by have := hg.2; omega)).mono (fun g _ hg => hg.1)
end Go.Proofs.YtekdkckgmleofaaGreat

/- Client's Arrive of any bytes. -/
namespace Go.Proofs.YtekdkckgmleofaaGreat
open Go.RowKit
/-- A client, whatever it keeps. -/
structure CliI (w : World) (q : Nat) (F : Nat → Prop) (c : Cfg) (m : ClkM) (K : Nat) (r : RingM SnapS) : Prop where
  cli : Cli w q F c m K r AnyP
  times : TimesR r.l
  some : m.last ≠ [] → r.l ≠ []
def ArrG (w : World) (q : Nat) (F : Nat → Prop) (c : Cfg) (m : ClkM) (K : Nat) (e : Ending) (w' : World) : Prop :=
  ∃ (er : Int) (m' : ClkM) (K' : Nat) (r' : RingM SnapS), e = .returned (.int .i64 er) ∧ CliI w' q (fun g => F g ∨ (w.heap.size ≤ g ∧ g < w'.heap.size)) c m' K' r' ∧ m'.sl = m.sl ∧ K' ≤ K + 1 ∧ Kept F w w'
theorem get_i64 {w : World} {s p : Nat} {fr fe : Nat → Prop} {most : Nat} {r : RingM SnapS} {cs : List Int} (h : Sto w s p fr fe most r cs AnyP) (k : Int) : I64 (RingN.getM r.l k).time := by
  obtain ⟨xs, -, -, h3⟩ := h.base k
  obtain ⟨-, -, h1, h2⟩ := h3
  unfold I64
  omega
set_option maxRecDepth 100000 in
set_option maxHeartbeats 8000000 in
theorem arrive_any (bs : List Nat) (hb : ∀ c ∈ bs, c < 256) (w : World) (q : Nat) (F : Nat → Prop) (c : Cfg) (hc : COk c) (m : ClkM) (K : Nat) (r : RingM SnapS) (h : CliI w q F c m K r) (loc : Int) (hl : I64 loc) (hK : K < 100000) (v : Value) (hv : ByAt w v bs) :
    Calls Tryz.prog 8 #[.pointer (some ⟨q, 0, none⟩), .int .i64 loc, v] w (ArrG w q F c m K) := by
  have HSM9 := Lib.hid h.some
  have HTT := Lib.hid h.times
  obtain ⟨s, p, kk, fr, fe, fk, cs, n, h, lr, le, lk⟩ := h.cli.tight
  obtain ⟨va, vc, rfl, -, -⟩ := hv.form
  have c0 := h.blk.cell (i := 11) rfl
  have HA := Lib.hid (accept_any bs hb w s p fr fe c.ring.toNat r cs h.sto HTT.out _ hv)
  have HSM := Lib.hid (fun W (fp : Nat → Prop) (hh : Clk W kk fp c m K) time htm => sample_calls W kk fp c m K loc time hc hh hK hl htm)
  have HH := Lib.hid h
  have HLK := Lib.hid lk
  have hqsz := h.blk.lt
  clear h hv lr le lk
  generalize bs.length = nb at *
  go_enter Tryz.func8, Tryz.ntmps8
  go_wp2_with fail
  refine HA.out.mono ?_
  rintro e w1 ⟨tick, er, r', fr', fe', cs', rfl, hS, hT', hKD, h1, h2, hk1⟩
  have HST := Lib.hid hS
  have HT2 := Lib.hid hT'
  have HKD := Lib.hid hKD
  have HF1 := Lib.hid h1
  have HF2 := Lib.hid h2
  have HK1 := Lib.hid hk1
  have hqn : ¬ (q = s ∨ fr q) := fun e => by rcases e with e | e; exact HH.out.qs e; exact HH.out.qr e
  have HB := Lib.hid (hk1.blk HH.out.blk hqn)
  have HCK := Lib.hid (HH.out.clk.kept hk1 (fun g hg e => by
    rcases e with e | e
    · subst e; exact HH.out.ks hg
    · exact HH.out.kr g hg e))
  have c0 := HB.out.cell (i := 11) rfl
  have HGET := Lib.hid (sget_calls tick w1 s p fr' fe' c.ring.toNat r' cs' AnyP hS)
  have htm : I64 (RingN.getM r'.l tick).time := get_i64 hS tick
  have hst1 : Sto w1 s p (fun g => fr' g ∧ g < w1.heap.size) (fun g => fe' g ∧ g < w1.heap.size) c.ring.toNat r' cs' AnyP := hS.mono (fun g hg => ⟨fun h => h.1, fun h => ⟨h, hg⟩⟩) (fun g hg => ⟨fun h => h.1, fun h => ⟨h, hg⟩⟩) (fun g h1 h2 => hS.re g h1.1 h2.1)
  have HST1 := Lib.hid hst1
  clear hS h1 h2 hk1 hqn hT' hKD hst1
  cases hez : (er != 0) with
  | true =>
    go_wp2_with fail
    go_ret
    have s1 := HK1.out.size
    refine ⟨er, m, K, r', rfl, ⟨arr_end (W := w1) HH.out HLK.out HB.out HST1.out (fun g hg => HF1.out g hg.1) (fun g hg => HF2.out g hg.1) (fun g hg => hg.2) (fun g hg => hg.2) (HCK.out.mono (fun g _ hg => .inl hg)) s1 (Nat.le_refl _), HT2.out, fun hm => ?_⟩, rfl, Nat.le_succ _, HK1.out.mono (fun g _ hg => ?_)⟩
    · rcases HKD.out with ⟨-, h⟩ | ⟨-, h⟩
      · exact h
      · rw [h]; exact HSM9.out hm
    · rcases hg with rfl | hg
      · exact HH.out.fs
      · exact HH.out.fR g hg
  | false =>
    have HR0 : Hid (r'.l ≠ []) := Lib.hid (by
      rcases HKD.out with ⟨-, h⟩ | ⟨h, -⟩
      · exact h
      · exfalso
        simp at hez
        exact h hez)
    generalize (RingN.getM r'.l tick).tick = gtk at *
    generalize (RingN.getM r'.l tick).time = time at *
    go_wp2_with fail
    refine HGET.out.mono ?_
    rintro e w2 ⟨v2, ents, rfl, hE, -, -, hk2⟩
    obtain ⟨a2, cap2, rfl, -, -⟩ := hE.form
    have HK2 := Lib.hid hk2
    have B2 := (hk2.blk HB.out (fun h => h)).alloc (.cells #[.int .i64 gtk, .int .i64 time, .slice a2 ents.length cap2] 42)
    have d0 := B2.cell (i := 12) rfl
    have d1 := (Blk.new w2 [.int .i64 gtk, .int .i64 time, .slice a2 ents.length cap2] 42).cell (i := 1) rfl
    clear hE hk2 B2 c0
    go_wp2_with fail
    have HX2 := Lib.hid ((HK2.out.alloc (.cells #[.int .i64 gtk, .int .i64 time, .slice a2 ents.length cap2] 42)))
    generalize (w2.alloc (.cells #[.int .i64 gtk, .int .i64 time, .slice a2 ents.length cap2] 42)) = W at *
    refine region_mix2 (fun w' => ∃ n, w' = W.drewN n) [] [0, 1, 2, 3, 4, 5, 6] 7 [8] (by kernel_rfl) (by kernel_rfl) (fun _ _ d _ _ h => by cases d <;> exact h) ⟨1, rfl⟩ ?_
    simp only [pick, List.filterMap_cons, List.filterMap_nil, List.getElem?_toArray, List.getElem?_cons_zero, List.getElem?_cons_succ, floatPut, Act.put, Act.eval, List.setIfInBounds_toArray, List.set_cons_zero, List.set_cons_succ, Array.getD_eq_getD_getElem?, Option.getD_some]
    repeat (change wpQuiet _ _ _ _ (List.cons _ _) _; go_big_quiet_step (fail))
    refine wpQuiet_nil ?_
    rintro _ ⟨n2, rfl⟩
    have HX3 := Lib.hid (HX2.out.drewN n2)
    go_wp2_with fail
    refine (HSM.out _ _ (HCK.out.kept HX3.out (fun _ _ h => h)) time htm).mono ?_
    rintro e w3 ⟨rfl, hC, hk3⟩
    have HC3 := Lib.hid hC
    have HK3 := Lib.hid hk3
    clear hC hk3 d0 d1
    go_wp2_with fail
    simp only [QThen]
    repeat (change wpQuiet _ _ _ _ (List.cons _ _) _; go_big_quiet_step (fail))
    refine wpQuiet_nil ?_
    rintro _ ⟨n3, rfl⟩
    go_wp2_with fail
    go_ret
    have kd := (Kept.refl (fun _ => False) w3).drewN n3
    have s1 := HK1.out.size
    have s2 := HX3.out.size
    have s3 := HK3.out.size
    have hfk : ∀ g, fk g → ¬ fr' g := fun g hg e => by
      rcases HF1.out g e with e | e
      · exact HH.out.kr g hg e
      · have := HLK.out g hg
        omega
    have hfe : ∀ g, fk g → ¬ fe' g := fun g hg e => by
      rcases HF2.out g e with e | e
      · exact HH.out.ke g hg e
      · have := HLK.out g hg
        omega
    have hst := ((HST1.out.kept HX3.out (fun h => h) (fun _ _ h => h) (fun _ _ h => h)).kept HK3.out (fun h => HH.out.ks h) (fun g h1 h2 => hfk g h2 h1.1) (fun g h1 h2 => hfe g h2 h1.1)).kept kd (fun h => h) (fun _ _ h => h) (fun _ _ h => h)
    have hb : Blk (w3.drewN n3) q (cliC c s kk n) 71 := kd.blk (HK3.out.blk (HX3.out.blk HB.out (fun h => h)) HH.out.qk) (fun h => h)
    refine ⟨0, smpM c m loc time, K + 1, r', rfl, ⟨arr_end HH.out HLK.out hb hst (fun g hg => HF1.out g hg.1) (fun g hg => HF2.out g hg.1) (fun g hg => by have := hg.2; omega) (fun g hg => by have := hg.2; omega) (HC3.out.kept kd (fun _ _ h => h)) (by omega) (by exact s3), HT2.out, fun _ => HR0.out⟩, rfl, Nat.le_refl _, ?_⟩
    refine (((HK1.out.mono (G := F) (fun g _ hg => ?_)).trans HX3.out (fun _ h => h.elim)).trans HK3.out (fun g hg => .inl (HH.out.fK g hg))).trans kd (fun _ h => h.elim)
    rcases hg with rfl | hg
    · exact HH.out.fs
    · exact HH.out.fR g hg
end Go.Proofs.YtekdkckgmleofaaGreat

/- Contracts of Check and New of packages delay, clock, client, of any config. -/
namespace Go.Proofs.YtekdkckgmleofaaGreat
open Go.RowKit
def ErrPost (w : World) (e : Ending) (w' : World) : Prop := ∃ er : Int, e = .returned (.int .i64 er) ∧ er ≠ 0 ∧ Kept (fun _ => False) w w'
structure GoodTo (c : Cfg) (k : Nat) : Prop where
  g1 : 1 ≤ k → 0 ≤ c.base ∧ c.base ≤ 2305843009213693952
  g2 : 2 ≤ k → 0 ≤ c.least ∧ c.least ≤ 2305843009213693952
  g3 : 3 ≤ k → 0 ≤ c.most ∧ c.most ≤ 2305843009213693952
  g4 : 4 ≤ k → 0 ≤ c.slack ∧ c.slack ≤ 2305843009213693952
  g5 : 5 ≤ k → 0 ≤ c.gain ∧ c.gain ≤ 68719476736
set_option maxRecDepth 100000 in
set_option maxHeartbeats 4000000 in
theorem dcheck_bad (c : Cfg) (w : World) (h : ¬ DOk c) : Calls Tryz.prog 67 #[cfgV c] w (ErrPost w) := by
  have HN := Lib.hid h
  clear h
  go_enter Tryz.func67, Tryz.ntmps67
  go_wp2_with fail
  refine (dnumbers_calls c _).mono ?_
  rintro e w1 ⟨rfl, hk⟩
  have HKW := Lib.hid (((Kept.refl (fun _ => False) w).alloc (.cells (cfgC c).toArray 26)).trans hk (fun _ h => h.elim))
  have HB := Lib.hid (hk.blk (Blk.new w (cfgC c) 26) (fun h => h))
  clear hk
  go_wp2_with fail
  go_loopw [7] (fun i wr => ∃ k : Nat, k ≤ 5 ∧ i = .int .i64 k ∧ Kept (fun _ => False) w1 wr ∧ GoodTo c k) (fun i _ => 5 - (intOf i).toNat)
  case atStart => exact ⟨0, by omega, rfl, Kept.refl _ _, ⟨by omega, by omega, by omega, by omega, by omega⟩⟩
  case round =>
    obtain ⟨k, hk5, rfl, hkr, hg⟩ := hrel
    have HK := Lib.hid hkr
    have HG := Lib.hid hg
    clear hkr hg
    by_cases h5 : k = 5
    · subst h5
      have b4 := (HK.out.blk HB.out (fun h => h)).cell (i := 4) rfl
      have b5 := (HK.out.blk HB.out (fun h => h)).cell (i := 5) rfl
      have hlm : c.most < c.least := by
        have hG := HG.out
        rcases Int.lt_or_le c.most c.least with h | h
        · exact h
        · exact absurd ⟨(hG.g1 (by omega)).1, (hG.g1 (by omega)).2, (hG.g5 (by omega)).1, (hG.g5 (by omega)).2, (hG.g2 (by omega)).1, (hG.g2 (by omega)).2, (hG.g3 (by omega)).1, (hG.g3 (by omega)).2, (hG.g4 (by omega)).1, (hG.g4 (by omega)).2, h⟩ HN.out
      go_wp2_with fail
      go_ret
      exact ⟨10, rfl, by omega, HKW.out.trans HK.out (fun _ h => h.elim)⟩
    · have hk : k = 0 ∨ k = 1 ∨ k = 2 ∨ k = 3 ∨ k = 4 := by omega
      rcases hk with rfl | rfl | rfl | rfl | rfl
      · skip
        have hix := idx0 c
        by_cases hl : c.base < 0
        · go_wp2_with fail
          go_ret
          exact ⟨3, rfl, by omega, HKW.out.trans (HK.out.alloc _) (fun _ h => h.elim)⟩
        · by_cases hh : 2305843009213693952 < c.base
          · go_wp2_with fail
            go_ret
            exact ⟨3, rfl, by omega, HKW.out.trans (HK.out.alloc _) (fun _ h => h.elim)⟩
          · go_wp2_with fail
            have hG := HG.out
            exact ⟨⟨1, by omega, by rfl, HK.out.alloc _, ⟨fun _ => by omega, by omega, by omega, by omega, by omega⟩⟩, by simp [intOf]⟩
      · skip
        have hix := idx1 c
        by_cases hl : c.least < 0
        · go_wp2_with fail
          go_ret
          exact ⟨3, rfl, by omega, HKW.out.trans (HK.out.alloc _) (fun _ h => h.elim)⟩
        · by_cases hh : 2305843009213693952 < c.least
          · go_wp2_with fail
            go_ret
            exact ⟨3, rfl, by omega, HKW.out.trans (HK.out.alloc _) (fun _ h => h.elim)⟩
          · go_wp2_with fail
            have hG := HG.out
            exact ⟨⟨2, by omega, by rfl, HK.out.alloc _, ⟨fun _ => hG.g1 (by omega), fun _ => by omega, by omega, by omega, by omega⟩⟩, by simp [intOf]⟩
      · skip
        have hix := idx2 c
        by_cases hl : c.most < 0
        · go_wp2_with fail
          go_ret
          exact ⟨3, rfl, by omega, HKW.out.trans (HK.out.alloc _) (fun _ h => h.elim)⟩
        · by_cases hh : 2305843009213693952 < c.most
          · go_wp2_with fail
            go_ret
            exact ⟨3, rfl, by omega, HKW.out.trans (HK.out.alloc _) (fun _ h => h.elim)⟩
          · go_wp2_with fail
            have hG := HG.out
            exact ⟨⟨3, by omega, by rfl, HK.out.alloc _, ⟨fun _ => hG.g1 (by omega), fun _ => hG.g2 (by omega), fun _ => by omega, by omega, by omega⟩⟩, by simp [intOf]⟩
      · skip
        have hix := idx3 c
        by_cases hl : c.slack < 0
        · go_wp2_with fail
          go_ret
          exact ⟨3, rfl, by omega, HKW.out.trans (HK.out.alloc _) (fun _ h => h.elim)⟩
        · by_cases hh : 2305843009213693952 < c.slack
          · go_wp2_with fail
            go_ret
            exact ⟨3, rfl, by omega, HKW.out.trans (HK.out.alloc _) (fun _ h => h.elim)⟩
          · go_wp2_with fail
            have hG := HG.out
            exact ⟨⟨4, by omega, by rfl, HK.out.alloc _, ⟨fun _ => hG.g1 (by omega), fun _ => hG.g2 (by omega), fun _ => hG.g3 (by omega), fun _ => by omega, by omega⟩⟩, by simp [intOf]⟩
      · skip
        have hix := idx4 c
        by_cases hl : c.gain < 0
        · go_wp2_with fail
          go_ret
          exact ⟨3, rfl, by omega, HKW.out.trans (HK.out.alloc _) (fun _ h => h.elim)⟩
        · by_cases hh : 68719476736 < c.gain
          · go_wp2_with fail
            go_ret
            exact ⟨3, rfl, by omega, HKW.out.trans (HK.out.alloc _) (fun _ h => h.elim)⟩
          · go_wp2_with fail
            have hG := HG.out
            exact ⟨⟨5, by omega, by rfl, HK.out.alloc _, ⟨fun _ => hG.g1 (by omega), fun _ => hG.g2 (by omega), fun _ => hG.g3 (by omega), fun _ => hG.g4 (by omega), fun _ => by omega⟩⟩, by simp [intOf]⟩
theorem room_bad (adv num den : Int) (w : World) (h : min num den < 1 ∨ 1048576 < max num den) :
    Calls Tryz.prog 14 #[.int .i64 adv, .int .i64 num, .int .i64 den] w fun e w' => e = .returned (.tuple #[.int .i64 0, .int .i64 3]) ∧ w = w' := by
  have HC := Lib.hid (fun W => scheck_bad num den W h)
  clear h
  go_enter Tryz.func14, Tryz.ntmps14
  go_wp2_with fail
  refine (HC.out _).mono ?_
  rintro e w' ⟨rfl, rfl⟩
  go_wp2_with fail
  go_ret2
  exact ⟨rfl, rfl⟩
set_option maxRecDepth 100000 in
set_option maxHeartbeats 4000000 in
theorem ccheck_bad (c : Cfg) (w : World) (h : ¬ COk c) : Calls Tryz.prog 37 #[cfgV c] w (ErrPost w) := by
  have HN := Lib.hid h
  have HD := Lib.hid (fun W (hd : DOk c) => dcheck_good c W hd)
  have HDB := Lib.hid (fun W (hd : ¬ DOk c) => dcheck_bad c W hd)
  clear h
  unfold ErrPost at HDB
  by_cases r0 : c.ring < 1
  · skip
    go_enter Tryz.func37, Tryz.ntmps37
    go_wp2_with fail
    go_ret
    exact ⟨3, rfl, by omega, (Kept.refl _ w).alloc _⟩
  by_cases r1 : 64 < c.ring
  · skip
    go_enter Tryz.func37, Tryz.ntmps37
    go_wp2_with fail
    go_ret
    exact ⟨3, rfl, by omega, (Kept.refl _ w).alloc _⟩
  by_cases w0 : c.window < 1
  · skip
    go_enter Tryz.func37, Tryz.ntmps37
    go_wp2_with fail
    go_ret
    exact ⟨3, rfl, by omega, (Kept.refl _ w).alloc _⟩
  by_cases w1 : 64 < c.window
  · skip
    go_enter Tryz.func37, Tryz.ntmps37
    go_wp2_with fail
    go_ret
    exact ⟨3, rfl, by omega, (Kept.refl _ w).alloc _⟩
  by_cases hd : DOk c
  · by_cases hr : min c.num c.den < 1 ∨ 1048576 < max c.num c.den
    · have HR := Lib.hid (fun W => room_bad 0 c.num c.den W hr)
      clear hr
      go_enter Tryz.func37, Tryz.ntmps37
      go_wp2_with fail
      refine (HD.out _ hd).mono ?_
      rintro e w1' ⟨rfl, hk⟩
      have HK := Lib.hid (((Kept.refl (fun _ => False) w).alloc (.cells (cfgC c).toArray 26)).trans hk (fun _ h => h.elim))
      have hB := hk.blk (Blk.new w (cfgC c) 26) (fun h => h)
      have b7 := hB.cell (i := 7) rfl
      have b8 := hB.cell (i := 8) rfl
      have b9 := hB.cell (i := 9) rfl
      clear hk hB
      go_wp2_with fail
      refine (HR.out _).mono ?_
      rintro e w2' ⟨rfl, rfl⟩
      go_wp2_with fail
      go_ret
      exact ⟨3, rfl, by omega, HK.out⟩
    · have HR : Hid (∀ W, Calls Tryz.prog 14 #[.int .i64 0, .int .i64 c.num, .int .i64 c.den] W fun e w' => e = .returned (.tuple #[.int .i64 1, .int .i64 0]) ∧ ∃ n, w' = W.drewN n) := Lib.hid (fun W => by
        have := room_calls 0 c.num.toNat c.den.toNat W (by omega) (by omega) (by omega) (by omega) (by omega)
        rw [show ((c.num.toNat : Nat) : Int) = c.num by omega, show ((c.den.toNat : Nat) : Int) = c.den by omega] at this
        exact this.mono (fun e w' h => ⟨by rw [h.1, roomM_zero], h.2⟩))
      have hx : c.extra < 0 ∨ 2305843009213693952 < c.extra := by
        rcases Int.lt_or_le c.extra 0 with h | h
        · exact .inl h
        · rcases Int.lt_or_le 2305843009213693952 c.extra with h' | h'
          · exact .inr h'
          · exact absurd ⟨hd, by omega, by omega, by omega, by omega, by omega, by omega, by omega, by omega, h, h'⟩ HN.out
      clear hr
      rcases hx with hx | hx
      · skip
        go_enter Tryz.func37, Tryz.ntmps37
        go_wp2_with fail
        refine (HD.out _ hd).mono ?_
        rintro e w1' ⟨rfl, hk⟩
        have HK := Lib.hid (((Kept.refl (fun _ => False) w).alloc (.cells (cfgC c).toArray 26)).trans hk (fun _ h => h.elim))
        have hB := hk.blk (Blk.new w (cfgC c) 26) (fun h => h)
        have b7 := hB.cell (i := 7) rfl
        have b8 := hB.cell (i := 8) rfl
        have b9 := hB.cell (i := 9) rfl
        clear hk hB
        go_wp2_with fail
        refine (HR.out _).mono ?_
        rintro e w2' ⟨rfl, nd, rfl⟩
        go_wp2_with fail
        go_ret
        exact ⟨3, rfl, by omega, HK.out.drewN _⟩
      · have hx0 : ¬ c.extra < 0 := by omega
        go_enter Tryz.func37, Tryz.ntmps37
        go_wp2_with fail
        refine (HD.out _ hd).mono ?_
        rintro e w1' ⟨rfl, hk⟩
        have HK := Lib.hid (((Kept.refl (fun _ => False) w).alloc (.cells (cfgC c).toArray 26)).trans hk (fun _ h => h.elim))
        have hB := hk.blk (Blk.new w (cfgC c) 26) (fun h => h)
        have b7 := hB.cell (i := 7) rfl
        have b8 := hB.cell (i := 8) rfl
        have b9 := hB.cell (i := 9) rfl
        clear hk hB
        go_wp2_with fail
        refine (HR.out _).mono ?_
        rintro e w2' ⟨rfl, nd, rfl⟩
        go_wp2_with fail
        go_ret
        exact ⟨3, rfl, by omega, HK.out.drewN _⟩
  · go_enter Tryz.func37, Tryz.ntmps37
    go_wp2_with fail
    refine (HDB.out _ hd).mono ?_
    rintro e w1' ⟨er, rfl, hne, hk⟩
    have HK := Lib.hid (((Kept.refl (fun _ => False) w).alloc (.cells (cfgC c).toArray 26)).trans hk (fun _ h => h.elim))
    have hnb : (er != 0) = true := by simpa using hne
    have HNE := Lib.hid hne
    clear hk hne
    go_wp2_with fail
    go_ret
    exact ⟨er, rfl, HNE.out, HK.out⟩
def NilErr (w : World) (e : Ending) (w' : World) : Prop := ∃ er : Int, e = .returned (.tuple #[.pointer none, .int .i64 er]) ∧ er ≠ 0 ∧ Kept (fun _ => False) w w'
theorem cnew_bad (c : Cfg) (w : World) (h : ¬ COk c) : Calls Tryz.prog 18 #[cfgV c] w (NilErr w) := by
  have HC := Lib.hid (fun W => ccheck_bad c W h)
  unfold ErrPost at HC
  clear h
  go_enter Tryz.func18, Tryz.ntmps18
  go_wp2_with fail
  refine (HC.out _).mono ?_
  rintro e w1' ⟨er, rfl, hne, hk⟩
  have HK := Lib.hid (((Kept.refl (fun _ => False) w).alloc (.cells (cfgC c).toArray 26)).trans hk (fun _ h => h.elim))
  have hnb : (er != 0) = true := by simpa using hne
  have HNE := Lib.hid hne
  clear hk hne
  go_wp2_with fail
  go_ret2
  exact ⟨er, rfl, HNE.out, HK.out⟩
theorem clinew_bad (c : Cfg) (w : World) (h : ¬ COk c) : Calls Tryz.prog 7 #[cfgV c] w (NilErr w) := by
  have HC := Lib.hid (fun W => cnew_bad c W h)
  unfold NilErr at HC
  clear h
  go_enter Tryz.func7, Tryz.ntmps7
  go_wp2_with fail
  refine (HC.out _).mono ?_
  rintro e w1' ⟨er, rfl, hne, hk⟩
  have HK := Lib.hid (((Kept.refl (fun _ => False) w).alloc (.cells (cfgC c).toArray 26)).trans hk (fun _ h => h.elim))
  have hnb : (er != 0) = true := by simpa using hne
  have HNE := Lib.hid hne
  clear hk hne
  go_wp2_with fail
  go_ret2
  exact ⟨er, rfl, HNE.out, HK.out⟩
end Go.Proofs.YtekdkckgmleofaaGreat

/- Client's Do of any event. -/
namespace Go.Proofs.YtekdkckgmleofaaGreat
open Go.RowKit Go.MapKept Go.ChangeMaps
/-- An event, in memory. -/
structure EvM where
  kind : Int
  at_ : Int
  a : Option Addr
  cap : Nat
  bs : List Nat
abbrev evC (e : EvM) : List Value := [.int .i64 e.kind, .int .i64 e.at_, .slice e.a e.bs.length e.cap]
abbrev evV (e : EvM) : Value := .agg (evC e).toArray
structure EvAt (w : World) (e : EvM) : Prop where
  data : ByAt w (.slice e.a e.bs.length e.cap) e.bs
  b8 : ∀ c ∈ e.bs, c < 256
  at_ : I64 e.at_
theorem EvAt.kept {w w' : World} {e : EvM} (h : EvAt w e) (k : Kept (fun _ => False) w w') : EvAt w' e := ⟨h.data.kept k, h.b8, h.at_⟩
abbrev shV (b : Bool) (t : Int) (a : Option Addr) (n cap : Nat) : Value := .agg #[.bool b, .int .i64 t, .slice a n cap]
/-- What a frame does to the slew clock. -/
def SlStep (c : Cfg) (sl : SlewM) (loc : Int) (b : Bool) (t : Int) (sl' : SlewM) : Prop :=
  (b = true ∧ ∃ want, sl' = toM c.num.toNat c.den.toNat sl loc want ∧ t = sl'.at_) ∨ (b = false ∧ sl' = sl)
theorem CliI.kept {G F : Nat → Prop} {w w' : World} {q : Nat} {c : Cfg} {m : ClkM} {K : Nat} {r : RingM SnapS} (h : CliI w q F c m K r) (kp : Kept G w w') (hF : ∀ g, F g → ¬ G g) : CliI w' q F c m K r := { h with cli := h.cli.kept kp hF }
theorem CliI.mono {F F' : Nat → Prop} {w : World} {q : Nat} {c : Cfg} {m : ClkM} {K : Nat} {r : RingM SnapS} (h : CliI w q F c m K r) (hF : ∀ g, g < w.heap.size → F g → F' g) : CliI w q F' c m K r := { h with cli := h.cli.mono hF }
def FrAny (w : World) (q : Nat) (F : Nat → Prop) (c : Cfg) (m : ClkM) (K : Nat) (r : RingM SnapS) (loc : Int) (e : Ending) (w' : World) : Prop :=
  ∃ (b : Bool) (t : Int) (a : Option Addr) (n cap : Nat) (m' : ClkM), e = .returned (shV b t a n cap) ∧ CliI w' q F c m' K r ∧ SlStep c m.sl loc b t m'.sl ∧ Kept F w w'
theorem frm_step (c : Cfg) (m : ClkM) (loc : Int) : SlStep c m.sl loc true (frmM c m loc).sl.at_ (frmM c m loc).sl := .inl ⟨rfl, wantM m loc, by unfold frmM; rfl, rfl⟩
set_option maxRecDepth 100000 in
set_option maxHeartbeats 2000000 in
theorem frame_all (w : World) (q : Nat) (F : Nat → Prop) (c : Cfg) (hc : COk c) (m : ClkM) (K : Nat) (r : RingM SnapS) (h : CliI w q F c m K r) (loc : Int) (hl : I64 loc) :
    Calls Tryz.prog 10 #[.pointer (some ⟨q, 0, none⟩), .int .i64 loc] w (FrAny w q F c m K r loc) := by
  by_cases he : m.last = []
  · refine (frame_none w q F c m K r AnyP h.cli he loc).mono ?_
    rintro e w' ⟨rfl, hC, hk⟩
    exact ⟨false, 0, none, 0, 0, m, rfl, { h with cli := hC }, .inr ⟨rfl, rfl⟩, hk⟩
  · refine (frame_any w q F c hc m K r h.cli h.times he loc hl (h.some he)).mono ?_
    rintro e w' ⟨a, n, cap, rfl, hC, hk⟩
    exact ⟨true, (frmM c m loc).sl.at_, a, n, cap, frmM c m loc, rfl, ⟨hC, h.times, fun _ => h.some he⟩, frm_step c m loc, hk⟩
def DoG (w : World) (q : Nat) (F : Nat → Prop) (c : Cfg) (m : ClkM) (K : Nat) (ev : EvM) (e : Ending) (w' : World) : Prop :=
  ∃ (b : Bool) (t : Int) (a : Option Addr) (n cap : Nat) (er : Int) (m' : ClkM) (K' : Nat) (r' : RingM SnapS), e = .returned (.tuple #[shV b t a n cap, .int .i64 er]) ∧ CliI w' q (fun g => F g ∨ (w.heap.size ≤ g ∧ g < w'.heap.size)) c m' K' r' ∧ K' ≤ K + 1 ∧ SlStep c m.sl ev.at_ b t m'.sl ∧ (ev.kind ≠ 1 → b = false) ∧ Kept F w w'
set_option maxRecDepth 100000 in
set_option maxHeartbeats 400000 in
theorem arr_m (w : World) (q : Nat) (F : Nat → Prop) (hF : ∀ g, F g → g < w.heap.size) (c : Cfg) (hc : COk c) (m : ClkM) (K : Nat) (hK : K < 100000) (r : RingM SnapS) (h : CliI w q F c m K r) (ev : EvM) (he : EvAt w ev) :
    Calls Tryz.prog 31 #[.pointer (some ⟨q, 0, none⟩), evV ev] w (DoG w q F c m K ev) := by
  have K0 := ((Kept.refl (fun _ => False) w).alloc (.cells (evC ev).toArray 56)).alloc (.cells #[.bool false, .int .i64 0, .slice none 0 0] 45)
  have HA := Lib.hid (arrive_any ev.bs he.b8 _ q F c hc m K r (h.kept K0 (fun _ _ h => h)) ev.at_ he.at_ hK _ (he.data.kept K0))
  have HFF := Lib.hid hF
  clear h he hF K0
  obtain ⟨kind, at_, da, dcap, bs⟩ := ev
  dsimp only at *
  go_enter Tryz.func31, Tryz.ntmps31
  go_wp2_with fail
  refine HA.out.mono ?_
  rintro e w1 ⟨er, m', K', r', rfl, hI, hsl, hK', hk⟩
  have hz : w.heap.size + 1 + 1 ≤ w1.heap.size := by have := hk.size; simpa using this
  have HS1 := Lib.hid (hk.blk (Blk.new_at (w := w.alloc (.cells #[.int .i64 kind, .int .i64 at_, .slice da bs.length dcap] 56)) (n := w.heap.size + 1) (by simp) [.bool false, .int .i64 0, .slice none 0 0] 45) (fun e => by have := HFF.out _ e; omega))
  have HI := Lib.hid hI
  have HSL := Lib.hid (And.intro hsl hK')
  have HK := Lib.hid ((((Kept.refl F w).alloc _).alloc _).trans hk (fun _ h => .inl h))
  clear hk hI hsl hK'
  have s0 := HS1.out.cell (i := 0) rfl
  have s1 := HS1.out.cell (i := 1) rfl
  have s2 := HS1.out.cell (i := 2) rfl
  have g0 := HS1.out.free 0
  have g1 := HS1.out.free 1
  have g2 := HS1.out.free 2
  go_wp2_with fail
  have hf := ((HS1.out.set 0 (.bool false)).set 1 (.int .i64 0)).set 2 (.slice none 0 0)
  have r0 := hf.cell (i := 0) rfl
  have r1 := hf.cell (i := 1) rfl
  have r2 := hf.cell (i := 2) rfl
  have kS := (((Kept.refl (fun k => k = w.heap.size + 1) w1).setCell (a := ⟨w.heap.size + 1, 0, none⟩) (.inl rfl) (.bool false)).setCell (a := ⟨w.heap.size + 1, 1, none⟩) (.inl rfl) (.int .i64 0)).setCell (a := ⟨w.heap.size + 1, 2, none⟩) (.inl rfl) (.slice none 0 0)
  refine bodyPost_ret (v := .tuple #[shV false 0 none 0 0, .int .i64 er]) (by simp [results, Tryz.f31, Tryz.results31, go_sem, r0, r1, r2]) rfl ?_
  refine ⟨false, 0, none, 0, 0, er, m', K', r', rfl, ?_, HSL.out.2, .inr ⟨rfl, HSL.out.1⟩, fun _ => rfl, HK.out.trans kS (fun i hi => .inr (by omega))⟩
  refine (HI.out.kept kS (fun g hg e => ?_)).mono (fun g hgl hg => ?_)
  · rcases hg with hg | hg
    · have := HFF.out _ hg; omega
    · simp only [size_alloc] at hg; omega
  · rcases hg with hg | hg
    · exact .inl hg
    · simp only [size_alloc] at hg
      exact .inr ⟨by omega, hgl⟩
set_option maxRecDepth 100000 in
set_option maxHeartbeats 2000000 in
theorem frm_m (w : World) (q : Nat) (F : Nat → Prop) (hF : ∀ g, F g → g < w.heap.size) (c : Cfg) (hc : COk c) (m : ClkM) (K : Nat) (r : RingM SnapS) (h : CliI w q F c m K r) (ev : EvM) (he : EvAt w ev) (hk1 : ev.kind = 1) :
    Calls Tryz.prog 32 #[.pointer (some ⟨q, 0, none⟩), evV ev] w (DoG w q F c m K ev) := by
  have K0 := ((Kept.refl (fun _ => False) w).alloc (.cells (evC ev).toArray 56)).alloc (.cells #[.bool false, .int .i64 0, .slice none 0 0] 45)
  have HA := Lib.hid (frame_all _ q F c hc m K r (h.kept K0 (fun _ _ h => h)) ev.at_ he.at_)
  have HFF := Lib.hid hF
  have HK1 := Lib.hid hk1
  clear h he hF K0 hk1
  obtain ⟨kind, at_, da, dcap, bs⟩ := ev
  dsimp only at *
  go_enter Tryz.func32, Tryz.ntmps32
  go_wp2_with fail
  refine HA.out.mono ?_
  rintro e w1 ⟨b, t, pa, pn, pc, m', rfl, hI, hsl, hk⟩
  have hz : w.heap.size + 1 + 1 ≤ w1.heap.size := by have := hk.size; simpa using this
  have HS1 := Lib.hid (hk.blk (Blk.new_at (w := w.alloc (.cells #[.int .i64 kind, .int .i64 at_, .slice da bs.length dcap] 56)) (n := w.heap.size + 1) (by simp) [.bool false, .int .i64 0, .slice none 0 0] 45) (fun e => by have := HFF.out _ e; omega))
  have HI := Lib.hid hI
  have HSL := Lib.hid hsl
  have HK := Lib.hid ((((Kept.refl F w).alloc _).alloc _).trans hk (fun _ h => .inl h))
  clear hk hI hsl
  have s0 := HS1.out.cell (i := 0) rfl
  have s1 := HS1.out.cell (i := 1) rfl
  have s2 := HS1.out.cell (i := 2) rfl
  have g0 := HS1.out.free 0
  have g1 := HS1.out.free 1
  have g2 := HS1.out.free 2
  go_wp2_with fail
  have hf := ((HS1.out.set 0 (.bool b)).set 1 (.int .i64 t)).set 2 (.slice pa pn pc)
  have r0 := hf.cell (i := 0) rfl
  have r1 := hf.cell (i := 1) rfl
  have r2 := hf.cell (i := 2) rfl
  have kS := (((Kept.refl (fun k => k = w.heap.size + 1) w1).setCell (a := ⟨w.heap.size + 1, 0, none⟩) (.inl rfl) (.bool b)).setCell (a := ⟨w.heap.size + 1, 1, none⟩) (.inl rfl) (.int .i64 t)).setCell (a := ⟨w.heap.size + 1, 2, none⟩) (.inl rfl) (.slice pa pn pc)
  refine bodyPost_ret (v := .tuple #[shV b t pa pn pc, .int .i64 0]) (by simp [results, Tryz.f32, Tryz.results32, go_sem, r0, r1, r2]) rfl ?_
  refine ⟨b, t, pa, pn, pc, 0, m', K, r, rfl, ?_, Nat.le_succ _, HSL.out, fun h => absurd HK1.out h, HK.out.trans kS (fun i hi => .inr (by omega))⟩
  exact (HI.out.kept kS (fun g hg e => by have := HFF.out _ hg; omega)).mono (fun g hgl hg => .inl hg)
section
variable {P : Program} {w : World} {ops : Array Oper} {rest : List Oper} {o : Oper} {a : Act} {Q : Exit → Act → World → Prop}
theorem wpList_insert_run (hg : o.guard = none) (m x v : Operand) (t : TypeId) (hop : o.op = Op.insert t m x v) (mv xv vv : Value) (w' : World) (hm : a.eval m = mv) (hx : a.eval x = xv) (hv : a.eval v = vv)
    (hrun : (Instr.mapUpdate t mv xv vv).run P w = .ok () w') (hK : ∀ d, wpList P ops Q rest (a.put o.dst d) w') : wpList P ops Q (o :: rest) a w := by
  refine wpList_plain hg fun K' hK' => ?_
  unfold Oper.wp
  simp [execOp, hop, hm, hx, hv, hrun, Result.andThen]
  exact hK' _ _ (hK _)
end
section
variable {w : World} {b : Nat} {v0 v1 : Value}
theorem fput0 (hb : w.heap[b]? = some (.map #[] 0)) (v : Value) : (Instr.mapUpdate 92 (.map (some b)) (.int .i64 0) v).run Tryz.prog w = .ok () (setBlock w b (.map #[{ key := .int .i64 0, val := v, born := 0 }] 1)) := by
  simp [Instr.mapUpdate, run_underlying Tryz.underlying92, MapKept.run_getObj_map hb, MapKept.run_checkKey Tryz.underlying3 (show IsKey (.int .i64) (.int .i64 0) from rfl), MapKept.run_findKey Tryz.underlying3 (show Instr.findNow (.int .i64) (.int .i64 0) [] 0 = some none from rfl), MapKept.run_setObj_map _ hb, Result.andThen, setBlock]
theorem fput1 (hb : w.heap[b]? = some (.map #[{ key := .int .i64 0, val := v0, born := 0 }] 1)) (v : Value) : (Instr.mapUpdate 92 (.map (some b)) (.int .i64 1) v).run Tryz.prog w = .ok () (setBlock w b (.map #[{ key := .int .i64 0, val := v0, born := 0 }, { key := .int .i64 1, val := v, born := 1 }] 2)) := by
  simp [Instr.mapUpdate, run_underlying Tryz.underlying92, MapKept.run_getObj_map hb, MapKept.run_checkKey Tryz.underlying3 (show IsKey (.int .i64) (.int .i64 1) from rfl), MapKept.run_findKey Tryz.underlying3 (show Instr.findNow (.int .i64) (.int .i64 1) [{ key := .int .i64 0, val := v0, born := 0 }] 0 = some none from rfl), MapKept.run_setObj_map _ hb, Result.andThen, setBlock]
theorem flook0 (hb : w.heap[b]? = some (.map #[{ key := .int .i64 0, val := v0, born := 0 }, { key := .int .i64 1, val := v1, born := 1 }] 2)) : (Instr.lookup 92 (.map (some b)) (.int .i64 0) true).run Tryz.prog w = .ok (.tuple #[v0, .bool true]) w := by
  simp [Instr.lookup, run_underlying Tryz.underlying92, MapKept.run_getObj_map hb, MapKept.run_checkKey Tryz.underlying3 (show IsKey (.int .i64) (.int .i64 0) from rfl), MapKept.run_findKey Tryz.underlying3 (show Instr.findNow (.int .i64) (.int .i64 0) [{ key := .int .i64 0, val := v0, born := 0 }, { key := .int .i64 1, val := v1, born := 1 }] 0 = some (some (0, v0)) from rfl), Result.andThen]
theorem flook1 (hb : w.heap[b]? = some (.map #[{ key := .int .i64 0, val := v0, born := 0 }, { key := .int .i64 1, val := v1, born := 1 }] 2)) : (Instr.lookup 92 (.map (some b)) (.int .i64 1) true).run Tryz.prog w = .ok (.tuple #[v1, .bool true]) w := by
  simp [Instr.lookup, run_underlying Tryz.underlying92, MapKept.run_getObj_map hb, MapKept.run_checkKey Tryz.underlying3 (show IsKey (.int .i64) (.int .i64 1) from rfl), MapKept.run_findKey Tryz.underlying3 (show Instr.findNow (.int .i64) (.int .i64 1) [{ key := .int .i64 0, val := v0, born := 0 }, { key := .int .i64 1, val := v1, born := 1 }] 0 = some (some (1, v1)) from rfl), Result.andThen]
theorem zfn_run (w : World) : (zeroValue 58).run Tryz.prog w = .ok .nilFunc w := by kernel_rfl
theorem flookN (hb : w.heap[b]? = some (.map #[{ key := .int .i64 0, val := v0, born := 0 }, { key := .int .i64 1, val := v1, born := 1 }] 2)) (k : Int) (h0 : k ≠ 0) (h1 : k ≠ 1) : (Instr.lookup 92 (.map (some b)) (.int .i64 k) true).run Tryz.prog w = .ok (.tuple #[.nilFunc, .bool false]) w := by
  have hf : Instr.findNow (.int .i64) (.int .i64 k) [{ key := .int .i64 0, val := v0, born := 0 }, { key := .int .i64 1, val := v1, born := 1 }] 0 = some none := by
    have e0 : (k == 0) = false := by simpa using h0
    have e1 : (k == 1) = false := by simpa using h1
    simp [Instr.findNow, Instr.sameNow, e0, e1]
  simp [Instr.lookup, run_underlying Tryz.underlying92, MapKept.run_getObj_map hb, MapKept.run_checkKey Tryz.underlying3 (show IsKey (.int .i64) (.int .i64 k) from rfl), MapKept.run_findKey Tryz.underlying3 hf, zfn_run, Result.andThen]
end
theorem fn_run (fn : Fn) (first cap : Array Value) (w : World) : (Instr.makeFunc fn first cap).run Tryz.prog w = .ok (.func fn first cap) w := rfl
theorem DoG.later {w w1 w' : World} {q : Nat} {F : Nat → Prop} {c : Cfg} {m : ClkM} {K : Nat} {ev : EvM} {e : Ending} (k : Kept (fun _ => False) w w1) (h : DoG w1 q F c m K ev e w') : DoG w q F c m K ev e w' := by
  obtain ⟨b, t, a, n, cap, er, m', K', r', he, hI, hK, hs, hb, hk⟩ := h
  refine ⟨b, t, a, n, cap, er, m', K', r', he, hI.mono (fun g hg h => h.imp id (fun h => ⟨Nat.le_trans k.size h.1, h.2⟩)), hK, hs, hb, (k.mono (fun _ _ h => h.elim)).trans hk (fun _ h => .inl h)⟩
abbrev arrV (q : Nat) : Value := .func (.func 31) #[.pointer (some ⟨q, 0, none⟩)] #[]
abbrev frmV (q : Nat) : Value := .func (.func 32) #[.pointer (some ⟨q, 0, none⟩)] #[]
/-- The world behind the map of Do. -/
theorem do_map (w : World) (q : Nat) : ∃ W1 W2 : World, (Instr.mapUpdate 92 (.map (some w.heap.size)) (.int .i64 0) (arrV q)).run Tryz.prog (w.alloc (.map #[] 0)) = .ok () W1 ∧ (Instr.mapUpdate 92 (.map (some w.heap.size)) (.int .i64 1) (frmV q)).run Tryz.prog W1 = .ok () W2 ∧ Kept (fun _ => False) w W2 ∧
    W2.heap[w.heap.size]? = some (.map #[{ key := .int .i64 0, val := arrV q, born := 0 }, { key := .int .i64 1, val := frmV q, born := 1 }] 2) := by
  have h0 := heap_alloc_new w (.map #[] 0)
  have h1 := setBlock_at (o' := .map #[{ key := .int .i64 0, val := arrV q, born := 0 }] 1) h0
  have h2 := setBlock_at (o' := .map #[{ key := .int .i64 0, val := arrV q, born := 0 }, { key := .int .i64 1, val := frmV q, born := 1 }] 2) h1
  exact ⟨_, _, fput0 h0 _, fput1 h1 _, ((((Kept.refl (fun _ => False) w).alloc _).trans (kept_setBlock h0) (fun i h => .inr (by omega))).trans (kept_setBlock h1) (fun i h => .inr (by omega))), h2⟩
set_option maxRecDepth 100000 in
set_option maxHeartbeats 4000000 in
theorem do_any (w : World) (q : Nat) (F : Nat → Prop) (hF : ∀ g, F g → g < w.heap.size) (c : Cfg) (hc : COk c) (m : ClkM) (K : Nat) (hK : K < 100000) (r : RingM SnapS) (h : CliI w q F c m K r) (ev : EvM) (he : EvAt w ev) :
    Calls Tryz.prog 13 #[.pointer (some ⟨q, 0, none⟩), evV ev] w (DoG w q F c m K ev) := by
  have HI := Lib.hid h
  have HFF := Lib.hid hF
  have HE := Lib.hid he
  clear h hF he
  have K0 := Lib.hid (((Kept.refl (fun _ => False) w).alloc (.cells (evC ev).toArray 56)).alloc (.cells #[.bool false, .int .i64 0, .slice none 0 0] 45))
  obtain ⟨W1, W2, hu1, hu2, hkW, hm2⟩ := do_map ((w.alloc (.cells (evC ev).toArray 56)).alloc (.cells #[.bool false, .int .i64 0, .slice none 0 0] 45)) q
  simp only [size_alloc] at hu1 hu2 hm2
  have HU1 := Lib.hid hu1
  have HU2 := Lib.hid hu2
  have HM2 := Lib.hid hm2
  have HKW := Lib.hid (K0.out.trans hkW (fun _ h => h.elim))
  have HEB := Lib.hid (hkW.blk ((Blk.new w (evC ev) 56).alloc _) (fun h => h))
  have HS1 := Lib.hid (hkW.blk (Blk.new_at (w := w.alloc (.cells (evC ev).toArray 56)) (n := w.heap.size + 1) (by simp) [.bool false, .int .i64 0, .slice none 0 0] 45) (fun h => h))
  have e0 := HEB.out.cell (i := 0) rfl
  have e1 := HEB.out.cell (i := 1) rfl
  have e2 := HEB.out.cell (i := 2) rfl
  have hmm := @run_makeMap Tryz.prog
  have hfn := fn_run
  have hz : w.heap.size + 1 + 1 ≤ W2.heap.size := by have := hkW.size; simpa using this
  clear hu1 hu2 hkW hm2
  have HAR := Lib.hid (arr_m W2 q F (fun g hg => by have := HFF.out g hg; omega) c hc m K hK r (HI.out.kept HKW.out (fun _ _ h => h)) ev (HE.out.kept HKW.out))
  have HFR := Lib.hid (fun hk1 : ev.kind = 1 => frm_m W2 q F (fun g hg => by have := HFF.out g hg; omega) c hc m K r (HI.out.kept HKW.out (fun _ _ h => h)) ev (HE.out.kept HKW.out) hk1)
  obtain ⟨kind, at_, da, dcap, bs⟩ := ev
  dsimp only at *
  by_cases hk0 : kind = 0
  · subst hk0
    go_enter Tryz.func13, Tryz.ntmps13
    go_wp2_with (first
      | (at_lookup; refine wpList_lookup_run rfl _ _ _ _ rfl _ _ _ rfl rfl (flook0 HM2.out) ?_)
      | (refine wpList_insert_run rfl _ _ _ _ rfl _ _ _ _ rfl rfl rfl HU1.out ?_; intro d)
      | (refine wpList_insert_run rfl _ _ _ _ rfl _ _ _ _ rfl rfl rfl HU2.out ?_; intro d))
    refine (HAR.out).mono ?_
    rintro e w3 ⟨b, tt, pa, pn, pc, er, m', K', r', rfl, hI3, hK3, hsl, hbk, hk3⟩
    have HS1 := Lib.hid (hk3.blk HS1.out (fun h => by have := HFF.out _ h; omega))
    have HI3 := Lib.hid hI3
    have HSL := Lib.hid (And.intro hK3 (And.intro hsl hbk))
    have HK3 := Lib.hid ((HKW.out.mono (G := F) (fun _ _ h => h.elim)).trans hk3 (fun _ h => .inl h))
    have hz3 := hk3.size
    clear hk3 hI3 hK3 hsl hbk e0 e1 e2
    have s0 := HS1.out.cell (i := 0) rfl
    have s1 := HS1.out.cell (i := 1) rfl
    have s2 := HS1.out.cell (i := 2) rfl
    have g0 := HS1.out.free 0
    have g1 := HS1.out.free 1
    have g2 := HS1.out.free 2
    go_wp2_with fail
    have hf := ((HS1.out.set 0 (.bool b)).set 1 (.int .i64 tt)).set 2 (.slice pa pn pc)
    have r0 := hf.cell (i := 0) rfl
    have r1 := hf.cell (i := 1) rfl
    have r2 := hf.cell (i := 2) rfl
    have kS := (((Kept.refl (fun k => k = w.heap.size + 1) w3).setCell (a := ⟨w.heap.size + 1, 0, none⟩) (.inl rfl) (.bool b)).setCell (a := ⟨w.heap.size + 1, 1, none⟩) (.inl rfl) (.int .i64 tt)).setCell (a := ⟨w.heap.size + 1, 2, none⟩) (.inl rfl) (.slice pa pn pc)
    refine bodyPost_ret (v := .tuple #[shV b tt pa pn pc, .int .i64 er]) (by simp [results, Tryz.f13, Tryz.results13, go_sem, r0, r1, r2]) rfl ?_
    refine ⟨b, tt, pa, pn, pc, er, m', K', r', rfl, ?_, HSL.out.1, HSL.out.2.1, HSL.out.2.2, HK3.out.trans kS (fun i hi => .inr (by omega))⟩
    refine (HI3.out.kept kS (fun g hg e => ?_)).mono (fun g hgl hg => ?_)
    · rcases hg with hg | hg
      · have := HFF.out _ hg; omega
      · omega
    · rcases hg with hg | hg
      · exact .inl hg
      · exact .inr ⟨by omega, hgl⟩
  · by_cases hk1 : kind = 1
    · subst hk1
      have HFR2 := Lib.hid (HFR.out rfl)
      go_enter Tryz.func13, Tryz.ntmps13
      go_wp2_with (first
        | (at_lookup; refine wpList_lookup_run rfl _ _ _ _ rfl _ _ _ rfl rfl (flook1 HM2.out) ?_)
        | (refine wpList_insert_run rfl _ _ _ _ rfl _ _ _ _ rfl rfl rfl HU1.out ?_; intro d)
        | (refine wpList_insert_run rfl _ _ _ _ rfl _ _ _ _ rfl rfl rfl HU2.out ?_; intro d))
      refine (HFR2.out).mono ?_
      rintro e w3 ⟨b, tt, pa, pn, pc, er, m', K', r', rfl, hI3, hK3, hsl, hbk, hk3⟩
      have HS1 := Lib.hid (hk3.blk HS1.out (fun h => by have := HFF.out _ h; omega))
      have HI3 := Lib.hid hI3
      have HSL := Lib.hid (And.intro hK3 (And.intro hsl hbk))
      have HK3 := Lib.hid ((HKW.out.mono (G := F) (fun _ _ h => h.elim)).trans hk3 (fun _ h => .inl h))
      have hz3 := hk3.size
      clear hk3 hI3 hK3 hsl hbk e0 e1 e2
      have s0 := HS1.out.cell (i := 0) rfl
      have s1 := HS1.out.cell (i := 1) rfl
      have s2 := HS1.out.cell (i := 2) rfl
      have g0 := HS1.out.free 0
      have g1 := HS1.out.free 1
      have g2 := HS1.out.free 2
      go_wp2_with fail
      have hf := ((HS1.out.set 0 (.bool b)).set 1 (.int .i64 tt)).set 2 (.slice pa pn pc)
      have r0 := hf.cell (i := 0) rfl
      have r1 := hf.cell (i := 1) rfl
      have r2 := hf.cell (i := 2) rfl
      have kS := (((Kept.refl (fun k => k = w.heap.size + 1) w3).setCell (a := ⟨w.heap.size + 1, 0, none⟩) (.inl rfl) (.bool b)).setCell (a := ⟨w.heap.size + 1, 1, none⟩) (.inl rfl) (.int .i64 tt)).setCell (a := ⟨w.heap.size + 1, 2, none⟩) (.inl rfl) (.slice pa pn pc)
      refine bodyPost_ret (v := .tuple #[shV b tt pa pn pc, .int .i64 er]) (by simp [results, Tryz.f13, Tryz.results13, go_sem, r0, r1, r2]) rfl ?_
      refine ⟨b, tt, pa, pn, pc, er, m', K', r', rfl, ?_, HSL.out.1, HSL.out.2.1, HSL.out.2.2, HK3.out.trans kS (fun i hi => .inr (by omega))⟩
      refine (HI3.out.kept kS (fun g hg e => ?_)).mono (fun g hgl hg => ?_)
      · rcases hg with hg | hg
        · have := HFF.out _ hg; omega
        · omega
      · rcases hg with hg | hg
        · exact .inl hg
        · exact .inr ⟨by omega, hgl⟩
    · have HNK := Lib.hid (flookN HM2.out kind hk0 hk1)
      have s0 := HS1.out.cell (i := 0) rfl
      have s1 := HS1.out.cell (i := 1) rfl
      have s2 := HS1.out.cell (i := 2) rfl
      have g0 := HS1.out.free 0
      have g1 := HS1.out.free 1
      have g2 := HS1.out.free 2
      go_enter Tryz.func13, Tryz.ntmps13
      go_wp2_with (first
        | (at_lookup; refine wpList_lookup_run rfl _ _ _ _ rfl _ _ _ rfl rfl (HNK.out) ?_)
        | (refine wpList_insert_run rfl _ _ _ _ rfl _ _ _ _ rfl rfl rfl HU1.out ?_; intro d)
        | (refine wpList_insert_run rfl _ _ _ _ rfl _ _ _ _ rfl rfl rfl HU2.out ?_; intro d))
      have hf := ((HS1.out.set 0 (.bool false)).set 1 (.int .i64 0)).set 2 (.slice none 0 0)
      have r0 := hf.cell (i := 0) rfl
      have r1 := hf.cell (i := 1) rfl
      have r2 := hf.cell (i := 2) rfl
      have kS := (((Kept.refl (fun k => k = w.heap.size + 1) W2).setCell (a := ⟨w.heap.size + 1, 0, none⟩) (.inl rfl) (.bool false)).setCell (a := ⟨w.heap.size + 1, 1, none⟩) (.inl rfl) (.int .i64 0)).setCell (a := ⟨w.heap.size + 1, 2, none⟩) (.inl rfl) (.slice none 0 0)
      refine bodyPost_ret (v := .tuple #[shV false 0 none 0 0, .int .i64 11]) (by simp [results, Tryz.f13, Tryz.results13, go_sem, r0, r1, r2]) rfl ?_
      refine ⟨false, 0, none, 0, 0, 11, m, K, r, rfl, ?_, Nat.le_succ _, .inr ⟨rfl, rfl⟩, fun _ => rfl, (HKW.out.mono (G := F) (fun _ _ h => h.elim)).trans kS (fun i hi => .inr (by omega))⟩
      exact ((HI.out.kept HKW.out (fun _ _ h => h)).kept kS (fun g hg e => by have := HFF.out _ hg; omega)).mono (fun g hgl hg => .inl hg)
end Go.Proofs.YtekdkckgmleofaaGreat

/- The plain law of the times that are shown; Great and begin. -/
namespace Go.Proofs.YtekdkckgmleofaaGreat
open Go.RowKit
theorem satI_ge {a x : Int} (ha : I64 a) (h : a ≤ x) : a ≤ satI x := by unfold I64 at ha; unfold satI; split <;> (try split) <;> omega
theorem fwd_begun {n d : Nat} {sl : SlewM} {r want : Int} (hb : sl.begun = true) (h1 : I64 sl.at_) (h2 : I64 sl.last) (hr : I64 r) :
    sl.at_ ≤ (toM n d sl r want).at_ ∧ (toM n d sl r want).at_ ≤ satI (sl.at_ + roomM (max 0 (satI (r - sl.last))).toNat n d) ∧ (toM n d sl r want).last = max sl.last r ∧ (toM n d sl r want).begun = true := by
  have hbase : baseM sl r want = sl := by unfold baseM; rw [if_pos hb]
  unfold toM
  rw [hbase]
  dsimp only
  have hR : (satI (max r sl.last - sl.last)).toNat = (max 0 (satI (r - sl.last))).toNat := by
    by_cases h : r ≤ sl.last
    · have e1 : max r sl.last - sl.last = 0 := by omega
      rw [e1]
      have e2 : satI 0 = 0 := satI_in (by unfold I64; omega)
      have e3 : satI (r - sl.last) ≤ 0 := by unfold satI; split <;> (try split) <;> omega
      rw [e2]; omega
    · have e1 : max r sl.last = r := by omega
      have e3 : 0 ≤ satI (r - sl.last) := by unfold satI; split <;> (try split) <;> omega
      rw [e1]; omega
  unfold roomOf
  rw [hR]
  have hrb := roomM_bd (max 0 (satI (r - sl.last))).toNat n d
  have hge := satI_ge h1 (show sl.at_ ≤ sl.at_ + roomM (max 0 (satI (r - sl.last))).toNat n d by omega)
  exact ⟨by omega, by omega, rfl, rfl⟩
theorem fwd_first {n d : Nat} {sl : SlewM} {r want : Int} (hb : sl.begun = false) : (toM n d sl r want).last = r ∧ (toM n d sl r want).begun = true := by
  have hbase : baseM sl r want = ⟨want, r, true⟩ := by unfold baseM; rw [if_neg (by rw [hb]; simp)]
  unfold toM
  rw [hbase]
  exact ⟨by dsimp only; omega, rfl⟩
theorem CliI.sl64 {w : World} {q : Nat} {F : Nat → Prop} {c : Cfg} {m : ClkM} {K : Nat} {r : RingM SnapS} (h : CliI w q F c m K r) : I64 m.sl.at_ ∧ I64 m.sl.last := by
  obtain ⟨s, p, k, fr, fe, fk, cs, n, h⟩ := h.cli
  obtain ⟨_, _, _, _, _, _, _, hcl, _⟩ := h.clk
  exact ⟨hcl.slew.2.1, hcl.slew.2.2⟩
/-- Events, in memory. -/
def EvsAt (w : World) (v : Value) (evs : List EvM) : Prop :=
  ∃ a cap, v = .slice a evs.length cap ∧ evs.length ≤ cap ∧ cap ≤ maxLen ∧ (0 < evs.length → ∃ g off, a = some ⟨g, off, none⟩ ∧ g < w.heap.size ∧ ∀ j u, (cellsL evC evs)[j]? = some u → w.cell? ⟨g, off + j, none⟩ = some u) ∧ ∀ e ∈ evs, EvAt w e
theorem EvsAt.kept {w w' : World} {v : Value} {evs : List EvM} (h : EvsAt w v evs) (k : Kept (fun _ => False) w w') : EvsAt w' v evs := by
  obtain ⟨a, cap, h1, h2, h3, h4, h5⟩ := h
  refine ⟨a, cap, h1, h2, h3, fun hn => ?_, fun e he => (h5 e he).kept k⟩
  obtain ⟨g, off, h6, h7, h8⟩ := h4 hn
  exact ⟨g, off, h6, Nat.lt_of_lt_of_le h7 k.size, fun j u hu => k.cell (h8 j u hu) (fun h => h)⟩
theorem evC_len (e : EvM) : (evC e).length = 3 := rfl
theorem ev_at {w : World} {g off : Nat} {evs : List EvM} (h : ∀ j u, (cellsL evC evs)[j]? = some u → w.cell? ⟨g, off + j, none⟩ = some u) {t : Nat} {x : EvM} (hx : evs[t]? = some x) :
    w.cell? ⟨g, off + t * 3, none⟩ = some (.int .i64 x.kind) ∧ w.cell? ⟨g, off + t * 3 + 1, none⟩ = some (.int .i64 x.at_) ∧ w.cell? ⟨g, off + t * 3 + 2, none⟩ = some (.slice x.a x.bs.length x.cap) := by
  have e := fun j u (hj : j < 3) (hu : (evC x)[j]? = some u) => h (t * 3 + j) u ((cellsL_get evC_len evs t j x hx hj).trans hu)
  exact ⟨e 0 _ (by omega) rfl, e 1 _ (by omega) rfl, e 2 _ (by omega) rfl⟩
def GreatPost (n : Nat) (w : World) (e : Ending) (w' : World) : Prop := ∃ z : Int, e = .returned (.int .i64 z) ∧ ((z = 0 ∧ n ≤ 60) ∨ z = 1) ∧ Kept (fun _ => False) w w'
set_option maxRecDepth 100000 in
set_option maxHeartbeats 2000000 in
theorem great_any (evs : List EvM) (w : World) (v : Value) (h : EvsAt w v evs) : Calls Tryz.prog 30 #[v] w (GreatPost evs.length w) := by
  obtain ⟨a, cap, rfl, h2, h3, h4, h5⟩ := h
  have HV := Lib.hid h4
  have HE := Lib.hid h5
  unfold maxLen at h3
  clear h4 h5
  go_enter Tryz.func30, Tryz.ntmps30
  go_wp2_with fail
  go_loopw [3, 8] (fun n i wr => ∃ (k : Nat) (z : Int) (v : Value), k ≤ evs.length ∧ i = .int .i64 k ∧ n = v ∧ v = .int .i64 z ∧ Kept (fun _ => False) w wr) (fun _ i _ => (evs.length - intOf i).toNat)
  case atStart => exact ⟨0, 0, _, by omega, rfl, rfl, rfl, Kept.refl _ _⟩
  case round =>
    obtain ⟨k, z, v, hk, rfl, rfl, rfl, hK⟩ := hrel
    have HK := Lib.hid hK
    clear hK
    by_cases hlt : k < evs.length
    · obtain ⟨x, hxk⟩ : ∃ x, evs[k]? = some x := ⟨_, List.getElem?_eq_getElem hlt⟩
      obtain ⟨g, off, rfl, hgl, hc⟩ := HV.out (by omega)
      obtain ⟨c0, c1, c2⟩ := ev_at (w := wr) (fun j u hu => HK.out.cell (hc j u hu) (fun h => h)) hxk
      clear hc hxk
      go_wp2_with fail
      exact ⟨⟨k + 1, _, _, by omega, by simp, rfl, rfl, HK.out.alloc _⟩, by simp [intOf]; omega⟩
    · by_cases h60 : 60 < evs.length
      · have hd : decide ((60 : Int) < (evs.length : Int)) = true := decide_eq_true (by omega)
        go_wp2_with fail
        go_ret
        exact ⟨1, rfl, .inr rfl, HK.out⟩
      · have hd : decide ((60 : Int) < (evs.length : Int)) = false := decide_eq_false (by omega)
        by_cases hz : 12000 < z
        · have hdz : decide ((12000 : Int) < z) = true := decide_eq_true hz
          go_wp2_with fail
          go_ret
          exact ⟨1, rfl, .inr rfl, HK.out⟩
        · have hdz : decide ((12000 : Int) < z) = false := decide_eq_false hz
          go_wp2_with fail
          go_ret
          exact ⟨0, rfl, .inl ⟨rfl, by omega⟩, HK.out⟩
def BegG (c : Cfg) (n : Nat) (w : World) (e : Ending) (w' : World) : Prop :=
  (∃ q, e = .returned (.pointer (some ⟨q, 0, none⟩)) ∧ n ≤ 60 ∧ COk c ∧ CliI w' q (fun g => w.heap.size < g ∧ g < w'.heap.size) c ⟨[], 0, tgtM c 0, ⟨0, 0, false⟩⟩ 0 ⟨[], 0, false⟩ ∧ Kept (fun _ => False) w w') ∨ (e = .returned (.pointer none) ∧ Kept (fun _ => False) w w')
set_option maxRecDepth 100000 in
set_option maxHeartbeats 2000000 in
theorem begin_any (c : Cfg) (evs : List EvM) (w : World) (v : Value) (h : EvsAt w v evs) : Calls Tryz.prog 12 #[cfgV c, v] w (BegG c evs.length w) := by
  have K0 := Lib.hid ((Kept.refl (fun _ => False) w).alloc (.cells (cfgC c).toArray 26))
  have HG := Lib.hid (great_any evs _ v (h.kept K0.out))
  obtain ⟨a, cap, rfl, -, -, -, -⟩ := h
  have HN := Lib.hid (fun W (hc : COk c) => clinew_calls c hc AnyP W)
  have HB := Lib.hid (fun W (hc : ¬ COk c) => clinew_bad c W hc)
  unfold NilErr at HB
  go_enter Tryz.func12, Tryz.ntmps12
  go_wp2_with fail
  refine HG.out.mono ?_
  rintro e w1 ⟨z, rfl, hz, hk⟩
  have BC := hk.blk (Blk.new w (cfgC c) 26) (fun h => h)
  have b0 := BC.cell (i := 0) rfl
  have b1 := BC.cell (i := 1) rfl
  have b2 := BC.cell (i := 2) rfl
  have b3 := BC.cell (i := 3) rfl
  have b4 := BC.cell (i := 4) rfl
  have b5 := BC.cell (i := 5) rfl
  have b6 := BC.cell (i := 6) rfl
  have b7 := BC.cell (i := 7) rfl
  have b8 := BC.cell (i := 8) rfl
  have b9 := BC.cell (i := 9) rfl
  have b10 := BC.cell (i := 10) rfl
  have hbl := BC.lt
  have HK := Lib.hid (K0.out.trans hk (fun _ h => h.elim))
  clear hk BC
  rcases hz with ⟨rfl, h60⟩ | rfl
  · by_cases hc : COk c
    · go_wp2_with fail
      refine (HN.out _ hc).mono ?_
      rintro e w2 ⟨q, rfl, hC, hq, hk2⟩
      have HC := Lib.hid hC
      have HK2 := Lib.hid (HK.out.trans hk2 (fun _ h => h.elim))
      clear hC hk2
      go_wp2_with fail
      go_ret
      exact .inl ⟨q, rfl, h60, hc, ⟨HC.out.mono (fun g hgl hg => ⟨by have := hg.1; omega, hgl⟩), List.Pairwise.nil, fun h => absurd rfl h⟩, HK2.out⟩
    · go_wp2_with fail
      refine (HB.out _ hc).mono ?_
      rintro e w2 ⟨er, rfl, hne, hk2⟩
      have hnb : (er != 0) = true := by simpa using hne
      have HK2 := Lib.hid (HK.out.trans hk2 (fun _ h => h.elim))
      clear hk2 hne
      go_wp2_with fail
      go_ret
      exact .inr ⟨rfl, HK2.out⟩
  · go_wp2_with fail
    go_ret
    exact .inr ⟨rfl, HK.out⟩
end Go.Proofs.YtekdkckgmleofaaGreat
