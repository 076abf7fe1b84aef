/- Contract of pose.Between, of snapshots of one entity each, with one Id, angle and Gen: by the way 'curved'. -/
import Derived.Test.YtekdkckgmleofaaGreatXs35
set_option linter.unusedVariables false
set_option linter.unusedSimpArgs false
namespace Go.Proofs.YtekdkckgmleofaaGreat
open Go.RowKit
set_option maxRecDepth 100000 in
set_option maxHeartbeats 20000000 in
theorem betweenC_calls (c : Cfg) (hc : COk c) (a b : SnapS) (x y : EntM) (w : World) (ha : SnapAt w a [x]) (hb : SnapAt w b [y]) (at_ : Int) (hab : TimesOk [a, b]) (h1 : a.time ≤ at_) (h2 : at_ ≤ b.time)
    (hid : x.id = y.id) (hgen : x.gen = y.gen) (hang : x.ang = y.ang) (n kk : Nat) (hn : at_ - a.time = n) (hk : b.time - a.time = kk) (h0 : 0 < kk) (hn48 : n < 281474976710656) (hL : c.curved = false → LineOk x y n) (hcu : c.curved = true) :
    Calls Tryz.prog 62 #[cfgV c, sv a, sv b, .int .i64 at_] w (BtwPost c x y n kk w) := by
  have hxo : x.Ok := ha.ok.ok x (by simp)
  have hyo : y.Ok := hb.ok.ok y (by simp)
  have hk62 : kk ≤ 4611686018427387904 := by
    have g1 := hab.bd a (by simp)
    have g2 := hab.bd b (by simp)
    omega
  have hnk : n ≤ kk := by omega
  have HC := Lib.hid (fun W hx v own hv => pcheck_calls c hc [a, b] (by simp) W hx v own hv)
  have HB := Lib.hid (fun W => bpart_calls a b at_ hab h1 h2 W)
  rw [hn, hk] at HB
  have HE := Lib.hid (fun W => pexact_calls x W)
  have HO := Lib.hid (fun W => pof_calls c W)
  have HF := Lib.hid (fun W (h : SnapAt W b [y]) => find_calls b y W h)
  rw [← hid] at HF
  have HA := Lib.hid (fun W => alerp_same x.ang n kk W h0 hk62 hnk hxo.ang)
  have HPL := Lib.hid (fun W (hcu : c.curved = false) => (pplaceL_calls x y hxo hyo n kk W h0 hk62 hnk hn48 (hL hcu)).mono (R' := PlaceP c x y n kk W) (fun e w' h => ⟨_, h.1, ⟨fun g => (by rw [hcu] at g; cases g), fun _ => rfl⟩, h.2⟩))
  have HPC := Lib.hid (fun W (hcu : c.curved = true) => (pplaceC_calls x y hxo hyo n kk W h0 hk62 hnk hn48).mono (R' := PlaceP c x y n kk W) (fun e w' h => by
    obtain ⟨z, he, hz, hk⟩ := h
    exact ⟨z, he, ⟨fun _ j hj => (hz j hj).2, fun g => (by rw [hcu] at g; cases g)⟩, hk⟩))
  have HN := Lib.hid ha
  have HM := Lib.hid hb
  obtain ⟨⟨o, hs⟩, -, -⟩ := ha
  obtain ⟨g, off, cap, ho, hv, hcap, -, hcc, -⟩ := hs.some (by simp)
  simp only [Value.slice.injEq, List.length_singleton] at hv
  obtain ⟨tk, tm, na, nl, nc⟩ := a
  dsimp only at *
  obtain ⟨e1, e2, e3⟩ := hv
  subst e1
  subst e2
  subst e3
  obtain ⟨x0, x1, x2, x3, x4, x5, x6, x7, x8⟩ := ent_at hcc (t := 0) rfl
  simp only [Nat.zero_mul, Nat.add_zero] at x0 x1 x2 x3 x4 x5 x6 x7 x8
  have hgl : g < w.heap.size := lt_of_cell x0
  clear hs hcc
  have HX : Hid (w.cell? ⟨g, off, none⟩ = some (.int .i64 x.id) ∧ w.cell? ⟨g, off + 1, none⟩ = some (.int .i64 x.p0) ∧ w.cell? ⟨g, off + 2, none⟩ = some (.int .i64 x.p1) ∧ w.cell? ⟨g, off + 3, none⟩ = some (.int .i64 x.p2) ∧ w.cell? ⟨g, off + 4, none⟩ = some (.int .i64 x.v0) ∧ w.cell? ⟨g, off + 5, none⟩ = some (.int .i64 x.v1) ∧ w.cell? ⟨g, off + 6, none⟩ = some (.int .i64 x.v2) ∧ w.cell? ⟨g, off + 7, none⟩ = some (.int .u16 x.ang) ∧ w.cell? ⟨g, off + 8, none⟩ = some (.int .u8 x.gen)) := Lib.hid ⟨x0, x1, x2, x3, x4, x5, x6, x7, x8⟩
  clear x0 x1 x2 x3 x4 x5 x6 x7 x8 h1 h2 hn hk h0 hk62 hnk hn48 hL hb hab
  have HSL : Hid (∀ o1 o2 o3, Sl ((((w.alloc o1).alloc o2).alloc o3).alloc (.cells #[.int .i64 tk, .int .i64 tm, .slice (some ⟨g, off, none⟩) 1 nc, .int .i64 b.tick, .int .i64 b.time, .slice b.a b.len b.cap] 42)) (.slice (some ⟨w.heap.size + 1 + 1 + 1, 0, none⟩) 2 2) 42 3 2 (cellsL snC [⟨tk, tm, some ⟨g, off, none⟩, 1, nc⟩, b]) (some (w.heap.size + 1 + 1 + 1))) := Lib.hid (fun o1 o2 o3 => by
    have := Sl.made (((w.alloc o1).alloc o2).alloc o3) (cellsL snC [⟨tk, tm, some ⟨g, off, none⟩, 1, nc⟩, b]) 42 3 2 rfl (by decide)
    rw [size_alloc, size_alloc, size_alloc] at this
    exact this)
  have HID := Lib.hid hid
  have HGEN := Lib.hid hgen
  have HANG := Lib.hid hang
  clear hid hgen hang
  rw [hcu] at HO
  have HCU := Lib.hid hcu
  clear hcu
  replace HO : Hid (∀ W, Calls Tryz.prog 98 #[cfgV c] W fun e w' => e = .returned (.iface 252 (.agg #[])) ∧ Kept (fun _ => False) W w') := HO
  go_enter Tryz.func62, Tryz.ntmps62
  go_wp2_with fail
  refine (HC.out _ (by
    have kk := ((((Kept.refl (fun _ => False) w).alloc (.cells (cfgC c).toArray 26)).alloc (.cells (snC ⟨tk, tm, some ⟨g, off, none⟩, 1, nc⟩).toArray 42)).alloc (.cells (snC b).toArray 42)).alloc (.cells #[.int .i64 tk, .int .i64 tm, .slice (some ⟨g, off, none⟩) 1 nc, .int .i64 b.tick, .int .i64 b.time, .slice b.a b.len b.cap] 42)
    intro s hs
    simp only [List.mem_cons, List.not_mem_nil, or_false] at hs
    rcases hs with rfl | rfl
    · exact ⟨_, HN.out.kept kk⟩
    · exact ⟨_, HM.out.kept kk⟩) _ _ (by exact HSL.out _ _ _)).mono ?_
  rintro e w1 ⟨rfl, hk1⟩
  have HK1 := Lib.hid ((((((Kept.refl (fun _ => False) w).alloc _).alloc _).alloc _).alloc _).trans hk1 (fun _ h => h.elim))
  have BC := hk1.blk ((((Blk.new w (cfgC c) 26).alloc _).alloc _).alloc _) (fun h => h)
  have BN := hk1.blk (((Blk.new_at (w := w.alloc (.cells (cfgC c).toArray 26)) (n := w.heap.size + 1) (by simp) [.int .i64 tk, .int .i64 tm, .slice (some ⟨g, off, none⟩) 1 nc] 42).alloc _).alloc _) (fun h => h)
  have BM := hk1.blk ((Blk.new_at (w := (w.alloc (.cells (cfgC c).toArray 26)).alloc (.cells #[.int .i64 tk, .int .i64 tm, .slice (some ⟨g, off, none⟩) 1 nc] 42)) (n := w.heap.size + 1 + 1) (by simp) [.int .i64 b.tick, .int .i64 b.time, .slice b.a b.len b.cap] 42).alloc _) (fun h => h)
  have s0 := BN.cell (i := 0) rfl
  have s1 := BN.cell (i := 1) rfl
  have s2 := BN.cell (i := 2) rfl
  have m0 := BM.cell (i := 0) rfl
  have m1 := BM.cell (i := 1) rfl
  have m2 := BM.cell (i := 2) rfl
  have HBC := Lib.hid BC
  have HBN := Lib.hid BN
  have HBM := Lib.hid BM
  clear hk1 BC BN BM
  go_wp2_with fail
  refine (HB.out _).mono ?_
  rintro e w2 ⟨rfl, hk2⟩
  have HK2 := Lib.hid (HK1.out.trans hk2 (fun _ h => h.elim))
  have HBC2 := Lib.hid (hk2.blk HBC.out (fun h => h))
  have HBN2 := Lib.hid (hk2.blk HBN.out (fun h => h))
  have HBM2 := Lib.hid (hk2.blk HBM.out (fun h => h))
  have cc := HBC2.out
  have cx0 := cc.cell (i := 0) rfl
  have cx1 := cc.cell (i := 1) rfl
  have cx2 := cc.cell (i := 2) rfl
  have cx3 := cc.cell (i := 3) rfl
  have cx4 := cc.cell (i := 4) rfl
  have cx5 := cc.cell (i := 5) rfl
  have cx6 := cc.cell (i := 6) rfl
  have cx7 := cc.cell (i := 7) rfl
  have cx8 := cc.cell (i := 8) rfl
  have cx9 := cc.cell (i := 9) rfl
  have cx10 := cc.cell (i := 10) rfl
  clear hk2 s0 s1 s2 m0 m1 m2 cc
  go_wp2_with fail
  refine (HO.out _).mono ?_
  rintro e w3 ⟨rfl, hk3⟩
  have HK3 := Lib.hid (HK2.out.trans hk3 (fun _ h => h.elim))
  have HBM3 := Lib.hid (hk3.blk HBM2.out (fun h => h))
  have n2 := (hk3.blk HBN2.out (fun h => h)).cell (i := 2) rfl
  clear hk3 cx0 cx1 cx2 cx3 cx4 cx5 cx6 cx7 cx8 cx9 cx10
  go_wp2_with fail
  go_loopw [15, 45] (fun l i wr => ∃ (k : Nat) (y' : Value), i = .int .i64 k ∧ l = y' ∧ (k = 0 ∧ y' = .slice none 0 0 ∧ Kept (fun _ => False) w3 wr ∨ k = 1 ∧ BtwI c x y n kk 2 w y' wr)) (fun _ i _ => (1 - intOf i).toNat)
  case atStart => exact ⟨0, _, rfl, rfl, .inl ⟨rfl, rfl, Kept.refl _ _⟩⟩
  case round =>
    obtain ⟨k, y', rfl, hy, hk⟩ := hrel
    have hy2 := hy.symm
    clear hy
    subst hy2
    rcases hk with ⟨rfl, rfl, hK⟩ | ⟨rfl, hP⟩
    · have HK := Lib.hid (HK3.out.trans hK (fun _ h => h.elim))
      have HBM4 := Lib.hid (hK.blk HBM3.out (fun h => h))
      obtain ⟨x0, x1, x2, x3, x4, x5, x6, x7, x8⟩ := HX.out
      have hgw : g < wr.heap.size := Nat.lt_of_lt_of_le hgl HK.out.size
      have c0 := HK.out.cell x0 (fun h => h)
      have c1 := HK.out.cell x1 (fun h => h)
      have c2 := HK.out.cell x2 (fun h => h)
      have c3 := HK.out.cell x3 (fun h => h)
      have c4 := HK.out.cell x4 (fun h => h)
      have c5 := HK.out.cell x5 (fun h => h)
      have c6 := HK.out.cell x6 (fun h => h)
      have c7 := HK.out.cell x7 (fun h => h)
      have c8 := HK.out.cell x8 (fun h => h)
      clear hK x0 x1 x2 x3 x4 x5 x6 x7 x8
      go_wp2_with fail
      refine (HE.out _).mono ?_
      rintro e w4 ⟨rfl, hk4⟩
      have HX4 := Lib.hid (hk4.blk (Blk.new wr (entC x) 39) (fun h => h))
      have hn4 : wr.heap.size < w4.heap.size := HX4.out.lt
      have HK4 := Lib.hid ((HK.out.alloc (.cells (entC x).toArray 39)).trans hk4 (fun _ h => h.elim))
      have HBM5 := Lib.hid (hk4.blk (HBM4.out.alloc (.cells (entC x).toArray 39)) (fun h => h))
      have i0 := (HX4.out.alloc (exO x)).cell (i := 0) rfl
      have m0 := (HBM5.out.alloc (exO x)).cell (i := 0) rfl
      have m1 := (HBM5.out.alloc (exO x)).cell (i := 1) rfl
      have m2 := (HBM5.out.alloc (exO x)).cell (i := 2) rfl
      have hbm : w.heap.size + 1 + 1 < wr.heap.size := HBM4.out.lt
      clear hk4 c0 c1 c2 c3 c4 c5 c6 c7 c8
      go_wp2_with fail
      refine (HF.out _ (HM.out.kept (HK4.out.alloc (exO x)))).mono ?_
      rintro e w5 ⟨rfl, hk5⟩
      have hq : ((y.gen : Int) == (x.gen : Int)) = true := by simp [HGEN.out]
      have HX5 := Lib.hid (hk5.blk (HX4.out.alloc (exO x)) (fun h => h))
      have HP5 := Lib.hid (hk5.blk (Blk.new w4 [.int .i64 x.id, .int .i64 (posM x 0), .int .i64 (posM x 1), .int .i64 (posM x 2), .int .u16 x.ang, .int .i64 0] 48) (fun h => h))
      have HK5 := Lib.hid ((HK4.out.alloc (exO x)).trans hk5 (fun _ h => h.elim))
      have hn5 : w4.heap.size < w5.heap.size := HP5.out.lt
      have gx := (HX5.out.alloc (.cells (entC y).toArray 39)).cell (i := 8) rfl
      have px := HX5.out.alloc (.cells (entC y).toArray 39)
      have py := Blk.new w5 (entC y) 39
      obtain ⟨u0, u1, u2, u3, u4, u5, u6, u7, u8⟩ := entb_cells px
      obtain ⟨y0, y1, y2, y3, y4, y5, y6, y7, y8⟩ := entb_cells py
      clear hk5 i0 m0 m1 m2 gx px py
      go_wp2_with fail
      have hm : ∀ W, (method 446 252 (.agg #[]) "afterimage/pose.mode").run Tryz.prog W = .ok (233, .agg #[]) W := fun _ => by kernel_rfl
      have hp : ∀ W, (method 446 252 (.agg #[]) "afterimage/pose.place").run Tryz.prog W = .ok (234, .agg #[]) W := fun _ => by kernel_rfl
      have HPX := Lib.hid (HX5.out.alloc (.cells (entC y).toArray 39))
      have HPY := Lib.hid (Blk.new w5 (entC y) 39)
      have HPP := Lib.hid (HP5.out.alloc (.cells (entC y).toArray 39))
      have HKP := Lib.hid (HK5.out.alloc (.cells (entC y).toArray 39))
      go_region_held3 (fun w' => w'.cell? ⟨wr.heap.size, 0, none⟩ = some (.int .i64 x.id) ∧ w'.cell? ⟨wr.heap.size, 1, none⟩ = some (.int .i64 x.p0) ∧ w'.cell? ⟨wr.heap.size, 2, none⟩ = some (.int .i64 x.p1) ∧ w'.cell? ⟨wr.heap.size, 3, none⟩ = some (.int .i64 x.p2) ∧ w'.cell? ⟨wr.heap.size, 4, none⟩ = some (.int .i64 x.v0) ∧ w'.cell? ⟨wr.heap.size, 5, none⟩ = some (.int .i64 x.v1) ∧ w'.cell? ⟨wr.heap.size, 6, none⟩ = some (.int .i64 x.v2) ∧ w'.cell? ⟨wr.heap.size, 7, none⟩ = some (.int .u16 x.ang) ∧ w'.cell? ⟨wr.heap.size, 8, none⟩ = some (.int .u8 x.gen) ∧ w'.cell? ⟨w5.heap.size, 0, none⟩ = some (.int .i64 y.id) ∧ w'.cell? ⟨w5.heap.size, 1, none⟩ = some (.int .i64 y.p0) ∧ w'.cell? ⟨w5.heap.size, 2, none⟩ = some (.int .i64 y.p1) ∧ w'.cell? ⟨w5.heap.size, 3, none⟩ = some (.int .i64 y.p2) ∧ w'.cell? ⟨w5.heap.size, 4, none⟩ = some (.int .i64 y.v0) ∧ w'.cell? ⟨w5.heap.size, 5, none⟩ = some (.int .i64 y.v1) ∧ w'.cell? ⟨w5.heap.size, 6, none⟩ = some (.int .i64 y.v2) ∧ w'.cell? ⟨w5.heap.size, 7, none⟩ = some (.int .u16 y.ang) ∧ w'.cell? ⟨w5.heap.size, 8, none⟩ = some (.int .u8 y.gen))
        (first | (go_keep; done) | exact eighteen HPX6.out HPY6.out | exact eighteen HPX7.out HPY7.out | (refine eighteen (t := 39) (u := 39) ?_ ?_ <;> (repeat (first | exact HPX7.out | exact HPY7.out | refine Blk.set_ne ?_ (by simp; omega) _))))
        (first
          | (go_at_call 233; refine (pmodeC_calls _).mono ?_; rintro e w6 ⟨rfl, hk6⟩; have HPX6 := Lib.hid (hk6.blk HPX.out.drew (fun h => h)); have HPY6 := Lib.hid (hk6.blk HPY.out.drew (fun h => h)); have HPP6 := Lib.hid (hk6.blk HPP.out.drew (fun h => h)); have HKP6 := Lib.hid (HKP.out.drew.trans hk6 (fun _ h => h.elim)); clear hk6)
          | (go_at_call 234; refine (HPC.out _ HCU.out).mono ?_; rintro e w7 ⟨z, rfl, hz, hk7⟩; have HZ := Lib.hid hz; have HPX7 := Lib.hid (hk7.blk HPX6.out (fun h => h)); have HPY7 := Lib.hid (hk7.blk HPY6.out (fun h => h)); have HPP7 := Lib.hid (hk7.blk HPP6.out (fun h => h)); have HKP7 := Lib.hid (HKP6.out.trans hk7 (fun _ h => h.elim)); have p1 := HPP7.out.cell (i := 1) rfl; have p2 := HPP7.out.cell (i := 2) rfl; have p3 := HPP7.out.cell (i := 3) rfl; have p5 := HPP7.out.cell (i := 5) rfl; have g1 := HPP7.out.free 1; have g2 := HPP7.out.free 2; have g3 := HPP7.out.free 3; have g5 := HPP7.out.free 5; clear hz hk7))
      have HP8 := Lib.hid ((((HPP7.out.set 5 (.int .i64 2)).set 1 (.int .i64 (z 0))).set 2 (.int .i64 (z 1))).set 3 (.int .i64 (z 2)))
      have HX8 := Lib.hid ((((HPX7.out.set_ne (a := ⟨w4.heap.size, 5, none⟩) (by simp; omega) (.int .i64 2)).set_ne (a := ⟨w4.heap.size, 1, none⟩) (by simp; omega) (.int .i64 (z 0))).set_ne (a := ⟨w4.heap.size, 2, none⟩) (by simp; omega) (.int .i64 (z 1))).set_ne (a := ⟨w4.heap.size, 3, none⟩) (by simp; omega) (.int .i64 (z 2)))
      have HY8 := Lib.hid ((((HPY7.out.set_ne (a := ⟨w4.heap.size, 5, none⟩) (by simp; omega) (.int .i64 2)).set_ne (a := ⟨w4.heap.size, 1, none⟩) (by simp; omega) (.int .i64 (z 0))).set_ne (a := ⟨w4.heap.size, 2, none⟩) (by simp; omega) (.int .i64 (z 1))).set_ne (a := ⟨w4.heap.size, 3, none⟩) (by simp; omega) (.int .i64 (z 2)))
      have hw4 := HK4.out.size
      have HK8 := Lib.hid ((((HKP7.out.setCell (a := ⟨w4.heap.size, 5, none⟩) (.inr hw4) (.int .i64 2)).setCell (a := ⟨w4.heap.size, 1, none⟩) (.inr hw4) (.int .i64 (z 0))).setCell (a := ⟨w4.heap.size, 2, none⟩) (.inr hw4) (.int .i64 (z 1))).setCell (a := ⟨w4.heap.size, 3, none⟩) (.inr hw4) (.int .i64 (z 2)))
      generalize ((((w7.setCell ⟨w4.heap.size, 5, none⟩ (.int .i64 2)).setCell ⟨w4.heap.size, 1, none⟩ (.int .i64 (z 0))).setCell ⟨w4.heap.size, 2, none⟩ (.int .i64 (z 1))).setCell ⟨w4.heap.size, 3, none⟩ (.int .i64 (z 2))) = W8 at *
      have HB8 : Hid (Blk W8 w4.heap.size [.int .i64 x.id, .int .i64 (z 0), .int .i64 (z 1), .int .i64 (z 2), .int .u16 x.ang, .int .i64 2] 48) := HP8
      have a1 := HX8.out.cell (i := 7) rfl
      have a2 : W8.cell? ⟨w5.heap.size, 7, none⟩ = some (.int .u16 x.ang) := by rw [HANG.out]; exact HY8.out.cell (i := 7) rfl
      have a3 := HB8.out.cell (i := 4) rfl
      have a4 := HB8.out.free 4
      clear HP8 p1 p2 p3 p5 g1 g2 g3 g5 u0 u1 u2 u3 u4 u5 u6 u7 u8 y0 y1 y2 y3 y4 y5 y6 y7 y8
      go_wp2_with fail
      rw [← HANG.out]
      refine (HA.out _).mono ?_
      rintro e w9 ⟨rfl, n9, rfl⟩
      have HP9 := Lib.hid (HB8.out.drewN n9)
      have p0 := HP9.out.cell (i := 0) rfl
      have p1 := HP9.out.cell (i := 1) rfl
      have p2 := HP9.out.cell (i := 2) rfl
      have p3 := HP9.out.cell (i := 3) rfl
      have p4 := HP9.out.cell (i := 4) rfl
      have p5 := HP9.out.cell (i := 5) rfl
      have g4 := HP9.out.free 4
      clear a1 a2 a3 a4
      obtain ⟨j0, hi, hz0, hz1, hz2⟩ := info_parts infoPose
      have HI := Lib.hid hi
      have HZ0 := Lib.hid hz0
      have HZ1 := Lib.hid hz1
      have HZ2 := Lib.hid hz2
      have HSR : Hid (∀ (W : World) (b : Nat), b = W.heap.size → Src (W.alloc (.cells #[.int .i64 x.id, .int .i64 (z 0), .int .i64 (z 1), .int .i64 (z 2), .int .u16 x.ang, .int .i64 2] 48)) (.slice (some ⟨b, 0, none⟩) 1 1) 1 (poseC ⟨x.id, z, x.ang, 2⟩)) := Lib.hid (fun W b hb => hb ▸ (Sl.made W (poseC ⟨x.id, z, x.ang, 2⟩) 48 6 1 rfl (by decide)).src)
      have HO' : Hid (∀ u ∈ poseC ⟨x.id, z, x.ang, 2⟩, u.oneCell' = true) := Lib.hid (by simp [Value.oneCell'])
      clear hi hz0 hz1 hz2
      go_wp2_with (at_builtin; refine wpList_append_sl _ rfl _ _ 43 rfl 48 j0 (.agg zpose.toArray) 6 48 Tryz.underlying43 HI.out HZ0.out HZ1.out HZ2.out rfl _ 0 [] none rfl (Sl.nil _ _ _) _ 1 (poseC ⟨x.id, z, x.ang, 2⟩) rfl (by exact HSR.out _ _ (by simp)) rfl HO'.out (by decide) (by decide) ?_; intro va wa own5 hS5 ho5 hK5; have SA := Lib.hid hS5; have OA := Lib.hid ho5; have KA := Lib.hid hK5; clear hS5 ho5 hK5)
      have HFF : Hid (BtwI c x y n kk 2 w va wa) := Lib.hid (by
        have KW := (((HK8.out.drewN n9).setCell (a := ⟨w4.heap.size, 4, none⟩) (.inr hw4) _).alloc _).trans KA.out (fun _ h => by cases h)
        refine ⟨z, HZ.out, ?_, KW⟩
        rcases OA.out with e | e
        · have := SA.out
          rw [e] at this
          rcases this.2 with ⟨hh, h2, _⟩ | ⟨_, _, _, _, hh, _⟩
          · cases h2
          · cases hh
        · have := SA.out
          rw [e] at this
          have hw8 := HK8.out.size
          exact ⟨_, this, by simp; omega⟩)
      go_wp2_with fail
      exact ⟨⟨1, _, by simp, rfl, .inr ⟨rfl, HFF.out⟩⟩, by simp [intOf]⟩
    · have HP := Lib.hid hP
      clear hP
      go_wp2_with fail
      go_ret2
      obtain ⟨z, hz, hp, hkk⟩ := HP.out
      exact ⟨z, hz, _, rfl, by rw [HCU.out]; exact hp, hkk⟩
end Go.Proofs.YtekdkckgmleofaaGreat
