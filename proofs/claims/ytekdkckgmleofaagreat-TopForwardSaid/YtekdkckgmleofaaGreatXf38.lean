/- Joined texts. -/
import Derived.Test.YtekdkckgmleofaaGreatXf35
import Derived.Test.YtekdkckgmleofaaGreatXf34
import Derived.Test.YtekdkckgmleofaaGreatXf36
import Derived.Test.YtekdkckgmleofaaGreatXf37
import Derived.Test.YtekdkckgmleofaaGreatXf33
import Derived.Test.YtekdkckgmleofaaGreatXf03
set_option linter.unusedVariables false
set_option linter.unusedSimpArgs false
/- Contract of pose.Between, of any two snapshots: by the way 'line'. -/
namespace Go.Proofs.YtekdkckgmleofaaGreat
open Go.RowKit
def PlaceGL (w : World) (e : Ending) (w' : World) : Prop := ∃ z : Nat → Int, e = .returned (v3 z) ∧ Kept (fun _ => False) w w'
set_option maxRecDepth 100000 in
set_option maxHeartbeats 20000000 in
theorem betweenGL_any (c : Cfg) (hc : COk c) (a b : SnapS) (xs ys : List EntM) (w : World) (ha : SnapAt w a xs) (hb : SnapAt w b ys) (at_ : Int) (hab : TimesOk [a, b]) (h1 : a.time ≤ at_) (h2 : at_ ≤ b.time)
    (n kk : Nat) (hn : at_ - a.time = n) (hk : b.time - a.time = kk) (h0 : 0 < kk) (hcu : c.curved = false) :
    Calls Tryz.prog 62 #[cfgV c, sv a, sv b, .int .i64 at_] w (PosesG w) := by
  have hk62 : kk ≤ 4611686018427387904 := by
    have g1 := hab.bd a (by simp)
    have g2 := hab.bd b (by simp)
    omega
  have hnk : n ≤ kk := by omega
  have hxl := ha.ok.len
  have hyl := hb.ok.len
  have HC := Lib.hid (fun W hx v own hv => pcheck_calls c hc [a, b] (by simp) W hx v own hv)
  have HB := Lib.hid (fun W => bpart_calls a b at_ hab h1 h2 W)
  rw [hn, hk] at HB
  have HO := Lib.hid (fun W => pof_calls c W)
  have HF := Lib.hid (fun i W (h : SnapAt W b ys) => find_any b ys i W h (by omega))
  have HA := Lib.hid (fun (x y : Nat) W (hx : x ≤ 65535) (hy : y ≤ 65535) => alerp_any x y n kk W h0 hk62 hnk hx hy)
  have HP := Lib.hid (fun (x y : EntM) (hxo : x.Ok) (hyo : y.Ok) W => (pplaceL_any x y hxo hyo n kk W h0 hk62 hnk).mono (R' := PlaceGL W) (fun e w' h => by
    exact ⟨_, h.1, h.2⟩))
  have HN := Lib.hid ha
  have HM := Lib.hid hb
  have HXO := Lib.hid ha.ok.ok
  obtain ⟨⟨o, hs⟩, -, -⟩ := ha
  obtain ⟨tk, tm, na, nl, nc⟩ := a
  dsimp only at *
  obtain ⟨aa, cap, hv, -, hcm⟩ := hs.form
  simp only [Value.slice.injEq] at hv
  obtain ⟨rfl, rfl, rfl⟩ := hv
  have HV := Lib.hid hs
  clear hs h1 h2 hn hk h0 hk62 hnk hb hab
  have HSL : Hid (∀ o1 o2 o3, Sl ((((w.alloc o1).alloc o2).alloc o3).alloc (.cells #[.int .i64 tk, .int .i64 tm, .slice na xs.length nc, .int .i64 b.tick, .int .i64 b.time, .slice b.a b.len b.cap] 42)) (.slice (some ⟨w.heap.size + 1 + 1 + 1, 0, none⟩) 2 2) 42 3 2 (cellsL snC [⟨tk, tm, na, xs.length, nc⟩, b]) (some (w.heap.size + 1 + 1 + 1))) := Lib.hid (fun o1 o2 o3 => by
    have := Sl.made (((w.alloc o1).alloc o2).alloc o3) (cellsL snC [⟨tk, tm, na, xs.length, nc⟩, b]) 42 3 2 rfl (by decide)
    rw [size_alloc, size_alloc, size_alloc] at this
    exact this)
  rw [hcu] at HO
  have HCU := Lib.hid hcu
  clear hcu
  replace HO : Hid (∀ W, Calls Tryz.prog 98 #[cfgV c] W fun e w' => e = .returned (.iface 253 (.agg #[])) ∧ Kept (fun _ => False) W w') := HO
  go_enter Tryz.func62, Tryz.ntmps62
  go_wp2_with fail
  refine (HC.out _ (by
    have kk := ((((Kept.refl (fun _ => False) w).alloc (.cells (cfgC c).toArray 26)).alloc (.cells (snC ⟨tk, tm, na, xs.length, nc⟩).toArray 42)).alloc (.cells (snC b).toArray 42)).alloc (.cells #[.int .i64 tk, .int .i64 tm, .slice na xs.length nc, .int .i64 b.tick, .int .i64 b.time, .slice b.a b.len b.cap] 42)
    intro s hs
    simp only [List.mem_cons, List.not_mem_nil, or_false] at hs
    rcases hs with rfl | rfl
    · exact ⟨_, HN.out.kept kk⟩
    · exact ⟨_, HM.out.kept kk⟩) _ _ (by exact HSL.out _ _ _)).mono ?_
  rintro e w1 ⟨rfl, hk1⟩
  have HK1 := Lib.hid ((((((Kept.refl (fun _ => False) w).alloc _).alloc _).alloc _).alloc _).trans hk1 (fun _ h => h.elim))
  have BC := hk1.blk ((((Blk.new w (cfgC c) 26).alloc _).alloc _).alloc _) (fun h => h)
  have BN := hk1.blk (((Blk.new_at (w := w.alloc (.cells (cfgC c).toArray 26)) (n := w.heap.size + 1) (by simp) [.int .i64 tk, .int .i64 tm, .slice na xs.length nc] 42).alloc _).alloc _) (fun h => h)
  have BM := hk1.blk ((Blk.new_at (w := (w.alloc (.cells (cfgC c).toArray 26)).alloc (.cells #[.int .i64 tk, .int .i64 tm, .slice na xs.length nc] 42)) (n := w.heap.size + 1 + 1) (by simp) [.int .i64 b.tick, .int .i64 b.time, .slice b.a b.len b.cap] 42).alloc _) (fun h => h)
  have s0 := BN.cell (i := 0) rfl
  have s1 := BN.cell (i := 1) rfl
  have s2 := BN.cell (i := 2) rfl
  have m0 := BM.cell (i := 0) rfl
  have m1 := BM.cell (i := 1) rfl
  have m2 := BM.cell (i := 2) rfl
  have HBC := Lib.hid BC
  have HBN := Lib.hid BN
  have HBM := Lib.hid BM
  clear hk1 BC BN BM
  go_wp2_with fail
  refine (HB.out _).mono ?_
  rintro e w2 ⟨rfl, hk2⟩
  have HK2 := Lib.hid (HK1.out.trans hk2 (fun _ h => h.elim))
  have HBC2 := Lib.hid (hk2.blk HBC.out (fun h => h))
  have HBN2 := Lib.hid (hk2.blk HBN.out (fun h => h))
  have HBM2 := Lib.hid (hk2.blk HBM.out (fun h => h))
  have cc := HBC2.out
  have cx0 := cc.cell (i := 0) rfl
  have cx1 := cc.cell (i := 1) rfl
  have cx2 := cc.cell (i := 2) rfl
  have cx3 := cc.cell (i := 3) rfl
  have cx4 := cc.cell (i := 4) rfl
  have cx5 := cc.cell (i := 5) rfl
  have cx6 := cc.cell (i := 6) rfl
  have cx7 := cc.cell (i := 7) rfl
  have cx8 := cc.cell (i := 8) rfl
  have cx9 := cc.cell (i := 9) rfl
  have cx10 := cc.cell (i := 10) rfl
  clear hk2 s0 s1 s2 m0 m1 m2 cc
  go_wp2_with fail
  refine (HO.out _).mono ?_
  rintro e w3 ⟨rfl, hk3⟩
  have HK3 := Lib.hid (HK2.out.trans hk3 (fun _ h => h.elim))
  have HBM3 := Lib.hid (hk3.blk HBM2.out (fun h => h))
  have n2 := (hk3.blk HBN2.out (fun h => h)).cell (i := 2) rfl
  clear hk3 cx0 cx1 cx2 cx3 cx4 cx5 cx6 cx7 cx8 cx9 cx10
  go_wp2_with fail
  go_loopw [15, 45] (fun l i wr => ∃ (k : Nat) (y' : Value), i = .int .i64 k ∧ l = y' ∧ k ≤ xs.length ∧ RowAny w3 k y' wr) (fun _ i _ => (xs.length - intOf i).toNat)
  case atStart => exact ⟨0, _, rfl, rfl, by omega, [], none, Sl.nil _ _ _, by simp, Kept.refl _ _⟩
  case round =>
    obtain ⟨k, y', rfl, hy, hk, hR⟩ := hrel
    have hy2 := hy.symm
    clear hy
    subst hy2
    obtain ⟨rcs, own, hrs, hro, hK3⟩ := hR
    have HBM4 := Lib.hid (hK3.blk HBM3.out (fun h => h))
    have HK3R := Lib.hid hK3
    have hK := HK3.out.trans hK3 (fun _ h => h.elim)
    obtain ⟨ya, ycap, rfl, -, -⟩ := hrs.form
    have HRS := Lib.hid hrs
    have HRO := Lib.hid hro
    have HK := Lib.hid hK
    clear hrs hro hK3
    by_cases hlt : k < xs.length
    · obtain ⟨x, hxk⟩ : ∃ x, xs[k]? = some x := ⟨_, List.getElem?_eq_getElem hlt⟩
      obtain ⟨g, off, cap', ho, hvv, -, -, hcc, -⟩ := HV.out.some (by omega)
      cases hvv
      obtain ⟨c0, c1, c2, c3, c4, c5, c6, c7, c8⟩ := ent_at (w := wr) (fun j u hu => HK.out.cell (hcc j u hu) (fun h => h)) hxk
      have hgl := HV.out.lt ho
      have hgw : g < wr.heap.size := Nat.lt_of_lt_of_le hgl hK.size
      have HXK := Lib.hid (HXO.out x (List.mem_of_getElem? hxk))
      clear hK hcc hxk
      go_wp2_with fail
      refine (pexact_calls x _).mono ?_
      rintro e w4 ⟨rfl, hk4⟩
      have HX4 := Lib.hid (hk4.blk (Blk.new wr (entC x) 39) (fun h => h))
      have hn4 : wr.heap.size < w4.heap.size := HX4.out.lt
      have HKR4 := Lib.hid (((Kept.refl (fun _ => False) wr).alloc (.cells (entC x).toArray 39)).trans hk4 (fun _ h => h.elim))
      have HBM5 := Lib.hid (hk4.blk (HBM4.out.alloc (.cells (entC x).toArray 39)) (fun h => h))
      have i0 := (HX4.out.alloc (exO x)).cell (i := 0) rfl
      have m0 := (HBM5.out.alloc (exO x)).cell (i := 0) rfl
      have m1 := (HBM5.out.alloc (exO x)).cell (i := 1) rfl
      have m2 := (HBM5.out.alloc (exO x)).cell (i := 2) rfl
      have hbm : w.heap.size + 1 + 1 < wr.heap.size := HBM4.out.lt
      clear hk4 c0 c1 c2 c3 c4 c5 c6 c7 c8
      go_wp2_with fail
      refine (HF.out x.id _ (HM.out.kept ((HK.out.trans HKR4.out (fun _ h => h.elim)).alloc (exO x)))).mono ?_
      rintro e w5 ⟨y, ok, rfl, hyo, hk5⟩
      have HYO := Lib.hid hyo
      have HX5 := Lib.hid (hk5.blk (HX4.out.alloc (exO x)) (fun h => h))
      have HP5 := Lib.hid (hk5.blk (Blk.new w4 [.int .i64 x.id, .int .i64 (posM x 0), .int .i64 (posM x 1), .int .i64 (posM x 2), .int .u16 x.ang, .int .i64 0] 48) (fun h => h))
      have HKR5 := Lib.hid ((HKR4.out.alloc (exO x)).trans hk5 (fun _ h => h.elim))
      have hn5 : w4.heap.size < w5.heap.size := HP5.out.lt
      have HPP := Lib.hid (HP5.out.alloc (.cells (entC y).toArray 39))
      have HKP := Lib.hid (HKR5.out.alloc (.cells (entC y).toArray 39))
      clear hk5 i0 m0 m1 m2 hyo
      cases ok with
      | false =>
        have p0 := HPP.out.cell (i := 0) rfl
        have p1 := HPP.out.cell (i := 1) rfl
        have p2 := HPP.out.cell (i := 2) rfl
        have p3 := HPP.out.cell (i := 3) rfl
        have p4 := HPP.out.cell (i := 4) rfl
        have p5 := HPP.out.cell (i := 5) rfl
        have HKX := Lib.hid (HKP.out.alloc (exO x))
        obtain ⟨j0, hi, hz0, hz1, hz2⟩ := info_parts infoPose
        have HI := Lib.hid hi
        have HZ0 := Lib.hid hz0
        have HZ1 := Lib.hid hz1
        have HZ2 := Lib.hid hz2
        have HKW := Lib.hid (fun (W : World) (h : Kept (fun _ => False) wr W) => HRS.out.kept h (fun _ _ h => h))
        have HSR : Hid (∀ (W : World) (b : Nat), b = W.heap.size → Src (W.alloc (.cells #[.int .i64 x.id, .int .i64 (posM x 0), .int .i64 (posM x 1), .int .i64 (posM x 2), .int .u16 x.ang, .int .i64 0] 48)) (.slice (some ⟨b, 0, none⟩) 1 1) 1 [.int .i64 x.id, .int .i64 (posM x 0), .int .i64 (posM x 1), .int .i64 (posM x 2), .int .u16 x.ang, .int .i64 0]) := Lib.hid (fun W b hb => hb ▸ (Sl.made W [.int .i64 x.id, .int .i64 (posM x 0), .int .i64 (posM x 1), .int .i64 (posM x 2), .int .u16 x.ang, .int .i64 0] 48 6 1 rfl (by decide)).src)
        have HO' : Hid (∀ u ∈ ([.int .i64 x.id, .int .i64 (posM x 0), .int .i64 (posM x 1), .int .i64 (posM x 2), .int .u16 x.ang, .int .i64 0] : List Value), u.oneCell' = true) := Lib.hid (by simp [Value.oneCell'])
        have N1 : Hid (k + 1 ≤ maxLen) := Lib.hid (by unfold maxLen; omega)
        have N2 : Hid ((k + 1) * 48 ≤ 140737488355328) := Lib.hid (by omega)
        clear hi hz0 hz1 hz2
        go_wp2_with (at_builtin; refine wpList_append_sl _ rfl _ _ 43 rfl 48 j0 (.agg zpose.toArray) 6 48 Tryz.underlying43 HI.out HZ0.out HZ1.out HZ2.out rfl _ k rcs own rfl (HKW.out _ HKX.out) _ 1 [.int .i64 x.id, .int .i64 (posM x 0), .int .i64 (posM x 1), .int .i64 (posM x 2), .int .u16 x.ang, .int .i64 0] rfl (by exact HSR.out _ _ (by simp)) rfl HO'.out N1.out N2.out ?_; intro va wa own5 hS5 ho5 hK5; have SA := Lib.hid hS5; have OA := Lib.hid ho5; have KA := Lib.hid hK5; clear hS5 ho5 hK5)
        have HF9 : Hid (RowAny w3 (k + 1) va wa) := Lib.hid (RowAny.step HRO.out SA.out OA.out (HK3R.out.trans HKX.out (fun _ h => h.elim)) KA.out)
        go_wp2_with fail
        exact ⟨⟨k + 1, _, by simp, rfl, by omega, HF9.out⟩, by simp [intOf]; omega⟩
      | true =>
        have gx := (HX5.out.alloc (.cells (entC y).toArray 39)).cell (i := 8) rfl
        cases hq : ((y.gen : Int) == (x.gen : Int)) with
        | false =>
          have p0 := HPP.out.cell (i := 0) rfl
          have p1 := HPP.out.cell (i := 1) rfl
          have p2 := HPP.out.cell (i := 2) rfl
          have p3 := HPP.out.cell (i := 3) rfl
          have p4 := HPP.out.cell (i := 4) rfl
          have p5 := HPP.out.cell (i := 5) rfl
          have y8 := (Blk.new w5 (entC y) 39).cell (i := 8) rfl
          have HKX := Lib.hid (HKP.out.alloc (exO x))
          obtain ⟨j0, hi, hz0, hz1, hz2⟩ := info_parts infoPose
          have HI := Lib.hid hi
          have HZ0 := Lib.hid hz0
          have HZ1 := Lib.hid hz1
          have HZ2 := Lib.hid hz2
          have HKW := Lib.hid (fun (W : World) (h : Kept (fun _ => False) wr W) => HRS.out.kept h (fun _ _ h => h))
          have HSR : Hid (∀ (W : World) (b : Nat), b = W.heap.size → Src (W.alloc (.cells #[.int .i64 x.id, .int .i64 (posM x 0), .int .i64 (posM x 1), .int .i64 (posM x 2), .int .u16 x.ang, .int .i64 0] 48)) (.slice (some ⟨b, 0, none⟩) 1 1) 1 [.int .i64 x.id, .int .i64 (posM x 0), .int .i64 (posM x 1), .int .i64 (posM x 2), .int .u16 x.ang, .int .i64 0]) := Lib.hid (fun W b hb => hb ▸ (Sl.made W [.int .i64 x.id, .int .i64 (posM x 0), .int .i64 (posM x 1), .int .i64 (posM x 2), .int .u16 x.ang, .int .i64 0] 48 6 1 rfl (by decide)).src)
          have HO' : Hid (∀ u ∈ ([.int .i64 x.id, .int .i64 (posM x 0), .int .i64 (posM x 1), .int .i64 (posM x 2), .int .u16 x.ang, .int .i64 0] : List Value), u.oneCell' = true) := Lib.hid (by simp [Value.oneCell'])
          have N1 : Hid (k + 1 ≤ maxLen) := Lib.hid (by unfold maxLen; omega)
          have N2 : Hid ((k + 1) * 48 ≤ 140737488355328) := Lib.hid (by omega)
          clear hi hz0 hz1 hz2
          go_wp2_with (at_builtin; refine wpList_append_sl _ rfl _ _ 43 rfl 48 j0 (.agg zpose.toArray) 6 48 Tryz.underlying43 HI.out HZ0.out HZ1.out HZ2.out rfl _ k rcs own rfl (HKW.out _ HKX.out) _ 1 [.int .i64 x.id, .int .i64 (posM x 0), .int .i64 (posM x 1), .int .i64 (posM x 2), .int .u16 x.ang, .int .i64 0] rfl (by exact HSR.out _ _ (by simp)) rfl HO'.out N1.out N2.out ?_; intro va wa own5 hS5 ho5 hK5; have SA := Lib.hid hS5; have OA := Lib.hid ho5; have KA := Lib.hid hK5; clear hS5 ho5 hK5)
          have HF9 : Hid (RowAny w3 (k + 1) va wa) := Lib.hid (RowAny.step HRO.out SA.out OA.out (HK3R.out.trans HKX.out (fun _ h => h.elim)) KA.out)
          go_wp2_with fail
          exact ⟨⟨k + 1, _, by simp, rfl, by omega, HF9.out⟩, by simp [intOf]; omega⟩
        | true =>
          have HPW := Lib.hid (fun W => HP.out x y HXK.out HYO.out W)
          have HAX := Lib.hid (fun W => HA.out x.ang y.ang W HXK.out.ang HYO.out.ang)
          have px := HX5.out.alloc (.cells (entC y).toArray 39)
          have py := Blk.new w5 (entC y) 39
          obtain ⟨u0, u1, u2, u3, u4, u5, u6, u7, u8⟩ := entb_cells px
          obtain ⟨y0, y1, y2, y3, y4, y5, y6, y7, y8⟩ := entb_cells py
          clear gx px py
          go_wp2_with fail
          have HPX := Lib.hid (HX5.out.alloc (.cells (entC y).toArray 39))
          have HPY := Lib.hid (Blk.new w5 (entC y) 39)
          have hm : ∀ W, (method 446 253 (.agg #[]) "afterimage/pose.mode").run Tryz.prog W = .ok (240, .agg #[]) W := fun _ => by kernel_rfl
          have hp : ∀ W, (method 446 253 (.agg #[]) "afterimage/pose.place").run Tryz.prog W = .ok (241, .agg #[]) W := fun _ => by kernel_rfl
          go_region_held3 (fun w' => w'.cell? ⟨wr.heap.size, 0, none⟩ = some (.int .i64 x.id) ∧ w'.cell? ⟨wr.heap.size, 1, none⟩ = some (.int .i64 x.p0) ∧ w'.cell? ⟨wr.heap.size, 2, none⟩ = some (.int .i64 x.p1) ∧ w'.cell? ⟨wr.heap.size, 3, none⟩ = some (.int .i64 x.p2) ∧ w'.cell? ⟨wr.heap.size, 4, none⟩ = some (.int .i64 x.v0) ∧ w'.cell? ⟨wr.heap.size, 5, none⟩ = some (.int .i64 x.v1) ∧ w'.cell? ⟨wr.heap.size, 6, none⟩ = some (.int .i64 x.v2) ∧ w'.cell? ⟨wr.heap.size, 7, none⟩ = some (.int .u16 x.ang) ∧ w'.cell? ⟨wr.heap.size, 8, none⟩ = some (.int .u8 x.gen) ∧ w'.cell? ⟨w5.heap.size, 0, none⟩ = some (.int .i64 y.id) ∧ w'.cell? ⟨w5.heap.size, 1, none⟩ = some (.int .i64 y.p0) ∧ w'.cell? ⟨w5.heap.size, 2, none⟩ = some (.int .i64 y.p1) ∧ w'.cell? ⟨w5.heap.size, 3, none⟩ = some (.int .i64 y.p2) ∧ w'.cell? ⟨w5.heap.size, 4, none⟩ = some (.int .i64 y.v0) ∧ w'.cell? ⟨w5.heap.size, 5, none⟩ = some (.int .i64 y.v1) ∧ w'.cell? ⟨w5.heap.size, 6, none⟩ = some (.int .i64 y.v2) ∧ w'.cell? ⟨w5.heap.size, 7, none⟩ = some (.int .u16 y.ang) ∧ w'.cell? ⟨w5.heap.size, 8, none⟩ = some (.int .u8 y.gen))
            (first | (go_keep; done) | exact eighteen HPX6.out HPY6.out | exact eighteen HPX7.out HPY7.out | (refine eighteen (t := 39) (u := 39) ?_ ?_ <;> (repeat (first | exact HPX7.out | exact HPY7.out | refine Blk.set_ne ?_ (by simp; omega) _))))
            (first
              | (go_at_call 240; refine (pmodeL_calls _).mono ?_; rintro e w6 ⟨rfl, hk6⟩; have HPX6 := Lib.hid (hk6.blk HPX.out.drew (fun h => h)); have HPY6 := Lib.hid (hk6.blk HPY.out.drew (fun h => h)); have HPP6 := Lib.hid (hk6.blk HPP.out.drew (fun h => h)); have HKP6 := Lib.hid (HKP.out.drew.trans hk6 (fun _ h => h.elim)); clear hk6)
              | (go_at_call 241; refine (HPW.out _).mono ?_; rintro e w7 ⟨z, rfl, hk7⟩; have HPX7 := Lib.hid (hk7.blk HPX6.out (fun h => h)); have HPY7 := Lib.hid (hk7.blk HPY6.out (fun h => h)); have HPP7 := Lib.hid (hk7.blk HPP6.out (fun h => h)); have HKP7 := Lib.hid (HKP6.out.trans hk7 (fun _ h => h.elim)); have p1 := HPP7.out.cell (i := 1) rfl; have p2 := HPP7.out.cell (i := 2) rfl; have p3 := HPP7.out.cell (i := 3) rfl; have p5 := HPP7.out.cell (i := 5) rfl; have g1 := HPP7.out.free 1; have g2 := HPP7.out.free 2; have g3 := HPP7.out.free 3; have g5 := HPP7.out.free 5; clear hk7))
          have HP8 := Lib.hid ((((HPP7.out.set 5 (.int .i64 1)).set 1 (.int .i64 (z 0))).set 2 (.int .i64 (z 1))).set 3 (.int .i64 (z 2)))
          have HX8 := Lib.hid ((((HPX7.out.set_ne (a := ⟨w4.heap.size, 5, none⟩) (by simp; omega) (.int .i64 1)).set_ne (a := ⟨w4.heap.size, 1, none⟩) (by simp; omega) (.int .i64 (z 0))).set_ne (a := ⟨w4.heap.size, 2, none⟩) (by simp; omega) (.int .i64 (z 1))).set_ne (a := ⟨w4.heap.size, 3, none⟩) (by simp; omega) (.int .i64 (z 2)))
          have HY8 := Lib.hid ((((HPY7.out.set_ne (a := ⟨w4.heap.size, 5, none⟩) (by simp; omega) (.int .i64 1)).set_ne (a := ⟨w4.heap.size, 1, none⟩) (by simp; omega) (.int .i64 (z 0))).set_ne (a := ⟨w4.heap.size, 2, none⟩) (by simp; omega) (.int .i64 (z 1))).set_ne (a := ⟨w4.heap.size, 3, none⟩) (by simp; omega) (.int .i64 (z 2)))
          have hw4 := HKR4.out.size
          have HK8 := Lib.hid ((((HKP7.out.setCell (a := ⟨w4.heap.size, 5, none⟩) (.inr hw4) (.int .i64 1)).setCell (a := ⟨w4.heap.size, 1, none⟩) (.inr hw4) (.int .i64 (z 0))).setCell (a := ⟨w4.heap.size, 2, none⟩) (.inr hw4) (.int .i64 (z 1))).setCell (a := ⟨w4.heap.size, 3, none⟩) (.inr hw4) (.int .i64 (z 2)))
          generalize ((((w7.setCell ⟨w4.heap.size, 5, none⟩ (.int .i64 1)).setCell ⟨w4.heap.size, 1, none⟩ (.int .i64 (z 0))).setCell ⟨w4.heap.size, 2, none⟩ (.int .i64 (z 1))).setCell ⟨w4.heap.size, 3, none⟩ (.int .i64 (z 2))) = W8 at *
          have HB8 : Hid (Blk W8 w4.heap.size [.int .i64 x.id, .int .i64 (z 0), .int .i64 (z 1), .int .i64 (z 2), .int .u16 x.ang, .int .i64 1] 48) := HP8
          have a1 := HX8.out.cell (i := 7) rfl
          have a2 := HY8.out.cell (i := 7) rfl
          have a3 := HB8.out.cell (i := 4) rfl
          have a4 := HB8.out.free 4
          clear HP8 p1 p2 p3 p5 g1 g2 g3 g5 u0 u1 u2 u3 u4 u5 u6 u7 u8 y0 y1 y2 y3 y4 y5 y6 y7 y8 hq
          go_wp2_with fail
          refine (HAX.out _).mono ?_
          rintro e w9 ⟨r9, rfl, n9, rfl⟩
          have HP9 := Lib.hid (HB8.out.drewN n9)
          have p0 := HP9.out.cell (i := 0) rfl
          have p1 := HP9.out.cell (i := 1) rfl
          have p2 := HP9.out.cell (i := 2) rfl
          have p3 := HP9.out.cell (i := 3) rfl
          have p4 := HP9.out.cell (i := 4) rfl
          have p5 := HP9.out.cell (i := 5) rfl
          have g4 := HP9.out.free 4
          have HKX := Lib.hid (((HK8.out.drewN n9).setCell (a := ⟨w4.heap.size, 4, none⟩) (.inr hw4) (.int .u16 r9)).alloc (.cells #[.int .i64 x.id, .int .i64 (z 0), .int .i64 (z 1), .int .i64 (z 2), .int .u16 r9, .int .i64 1] 48))
          clear a1 a2 a3 a4
          obtain ⟨j0, hi, hz0, hz1, hz2⟩ := info_parts infoPose
          have HI := Lib.hid hi
          have HZ0 := Lib.hid hz0
          have HZ1 := Lib.hid hz1
          have HZ2 := Lib.hid hz2
          have HKW := Lib.hid (fun (W : World) (h : Kept (fun _ => False) wr W) => HRS.out.kept h (fun _ _ h => h))
          have HSR : Hid (∀ (W : World) (b : Nat), b = W.heap.size → Src (W.alloc (.cells #[.int .i64 x.id, .int .i64 (z 0), .int .i64 (z 1), .int .i64 (z 2), .int .u16 r9, .int .i64 1] 48)) (.slice (some ⟨b, 0, none⟩) 1 1) 1 [.int .i64 x.id, .int .i64 (z 0), .int .i64 (z 1), .int .i64 (z 2), .int .u16 r9, .int .i64 1]) := Lib.hid (fun W b hb => hb ▸ (Sl.made W [.int .i64 x.id, .int .i64 (z 0), .int .i64 (z 1), .int .i64 (z 2), .int .u16 r9, .int .i64 1] 48 6 1 rfl (by decide)).src)
          have HO' : Hid (∀ u ∈ ([.int .i64 x.id, .int .i64 (z 0), .int .i64 (z 1), .int .i64 (z 2), .int .u16 r9, .int .i64 1] : List Value), u.oneCell' = true) := Lib.hid (by simp [Value.oneCell'])
          have N1 : Hid (k + 1 ≤ maxLen) := Lib.hid (by unfold maxLen; omega)
          have N2 : Hid ((k + 1) * 48 ≤ 140737488355328) := Lib.hid (by omega)
          clear hi hz0 hz1 hz2
          go_wp2_with (at_builtin; refine wpList_append_sl _ rfl _ _ 43 rfl 48 j0 (.agg zpose.toArray) 6 48 Tryz.underlying43 HI.out HZ0.out HZ1.out HZ2.out rfl _ k rcs own rfl (HKW.out _ HKX.out) _ 1 [.int .i64 x.id, .int .i64 (z 0), .int .i64 (z 1), .int .i64 (z 2), .int .u16 r9, .int .i64 1] rfl (by exact HSR.out _ _ (by simp)) rfl HO'.out N1.out N2.out ?_; intro va wa own5 hS5 ho5 hK5; have SA := Lib.hid hS5; have OA := Lib.hid ho5; have KA := Lib.hid hK5; clear hS5 ho5 hK5)
          have HF9 : Hid (RowAny w3 (k + 1) va wa) := Lib.hid (RowAny.step HRO.out SA.out OA.out (HK3R.out.trans HKX.out (fun _ h => h.elim)) KA.out)
          go_wp2_with fail
          exact ⟨⟨k + 1, _, by simp, rfl, by omega, HF9.out⟩, by simp [intOf]; omega⟩
    · clear hK
      go_wp2_with fail
      go_ret2
      exact ⟨_, _, _, _, rfl, HK.out⟩
end Go.Proofs.YtekdkckgmleofaaGreat

/- Contract of pose.Show, of any snapshots of which the times rise. -/
namespace Go.Proofs.YtekdkckgmleofaaGreat
open Go.RowKit
theorem between_any (c : Cfg) (hc : COk c) (a b : SnapS) (xs ys : List EntM) (w : World) (ha : SnapAt w a xs) (hb : SnapAt w b ys) (at_ : Int) (hab : TimesOk [a, b]) (h1 : a.time ≤ at_) (h2 : at_ ≤ b.time) (h3 : a.time < b.time) :
    Calls Tryz.prog 62 #[cfgV c, sv a, sv b, .int .i64 at_] w (PosesG w) := by
  cases hcu : c.curved with
  | false => exact betweenGL_any c hc a b xs ys w ha hb at_ hab h1 h2 (at_ - a.time).toNat (b.time - a.time).toNat (by omega) (by omega) (by omega) hcu
  | true => exact betweenGC_any c hc a b xs ys w ha hb at_ hab h1 h2 (at_ - a.time).toNat (b.time - a.time).toNat (by omega) (by omega) (by omega) hcu
theorem PosesG.later {w w1 w' : World} {e : Ending} (k : Kept (fun _ => False) w w1) (h : PosesG w1 e w') : PosesG w e w' := by
  obtain ⟨a, n, cap, er, he, hk⟩ := h
  exact ⟨a, n, cap, er, he, k.trans hk (fun _ h => h.elim)⟩
theorem PosesG.drewN {w w' : World} {e : Ending} (n : Nat) (h : PosesG w e w') : PosesG w e (w'.drewN n) := by
  obtain ⟨a, m, cap, er, he, hk⟩ := h
  exact ⟨a, m, cap, er, he, hk.drewN n⟩
set_option maxRecDepth 100000 in
set_option maxHeartbeats 4000000 in
theorem show_any (c : Cfg) (hc : COk c) (ys : List (SnapS × List EntM)) (hy : TimesOk (ys.map Prod.fst)) (hl : ys.length ≤ 1000) (h0 : 0 < ys.length) (at_ : Int) (hat : I64 at_) (w : World) (hx : ∀ y ∈ ys, SnapAt w y.1 y.2)
    (v : Value) (own : Option Nat) (hv : Sl w v 42 3 (ys.map Prod.fst).length (cellsL snC (ys.map Prod.fst)) own) :
    Calls Tryz.prog 26 #[cfgV c, .int .i64 at_, v] w (PosesG w) := by
  have HC := Lib.hid (fun W hx v own hv => pcheck_calls c hc (ys.map Prod.fst) (by simpa using hl) W hx v own hv)
  have HP := Lib.hid (fun W v own hv => pick_calls (ys.map Prod.fst) at_ hy (by simpa using hl) (by simpa using h0) W v own hv)
  have HB := Lib.hid (fun W y h hle => beyond_any c hc (y : SnapS × List EntM).1 y.2 W h at_ hle hat)
  have HW := Lib.hid (fun W (y z : SnapS × List EntM) ha hb hab h1 h2 h3 => between_any c hc y.1 z.1 y.2 z.2 W ha hb at_ hab h1 h2 h3)
  have HX := Lib.hid hx
  have HY := Lib.hid hy
  have HV := Lib.hid hv
  obtain ⟨g, off, cap, rfl, rfl, hcap, hcm, hcc, -⟩ := hv.some (by simpa using h0)
  unfold maxLen at hcm
  rw [List.length_map] at *
  clear hx hy hv
  go_enter Tryz.func26, Tryz.ntmps26
  go_wp2_with fail
  refine (HC.out _ (fun x hx => ?_) _ _ (HV.out.kept ((Kept.refl (fun _ => False) w).alloc _) (fun _ _ h => h))).mono ?_
  · obtain ⟨y, hy, rfl⟩ := List.mem_map.1 hx
    exact ⟨_, (HX.out y hy).kept ((Kept.refl (fun _ => False) w).alloc _)⟩
  rintro e w1 ⟨rfl, hk1⟩
  have HK1 := Lib.hid (((Kept.refl (fun _ => False) w).alloc (.cells (cfgC c).toArray 26)).trans hk1 (fun _ h => h.elim))
  have HBC := Lib.hid (hk1.blk (Blk.new w (cfgC c) 26) (fun h => h))
  clear hk1
  go_wp2_with fail
  refine (HP.out _ _ _ (HV.out.kept HK1.out (fun _ _ h => h))).mono ?_
  rintro e w2 ⟨i, next, err, rfl, hrel, hk2⟩
  have HK2 := Lib.hid (HK1.out.trans hk2 (fun _ h => h.elim))
  have BC := hk2.blk HBC.out (fun h => h)
  have b0 := BC.cell (i := 0) rfl
  have b1 := BC.cell (i := 1) rfl
  have b2 := BC.cell (i := 2) rfl
  have b3 := BC.cell (i := 3) rfl
  have b4 := BC.cell (i := 4) rfl
  have b5 := BC.cell (i := 5) rfl
  have b6 := BC.cell (i := 6) rfl
  have b7 := BC.cell (i := 7) rfl
  have b8 := BC.cell (i := 8) rfl
  have b9 := BC.cell (i := 9) rfl
  have b10 := BC.cell (i := 10) rfl
  clear hk2 BC
  rcases hrel with ⟨rfl, j, x, rfl, hxj, hle, hlat, hnx⟩ | ⟨rfl, rfl, rfl, hall⟩
  · rw [List.getElem?_map, Option.map_eq_some_iff] at hxj
    obtain ⟨y, hyj, rfl⟩ := hxj
    have hjl := (List.getElem?_eq_some_iff.1 hyj).1
    have hxj : (ys.map Prod.fst)[j]? = some y.1 := by rw [List.getElem?_map, hyj]; rfl
    obtain ⟨c0, c1, c2⟩ := sn_at (w := w2) (fun j u hu => HK2.out.cell (hcc j u hu) (fun h => h)) hxj
    have hj0 : (0 : Int) ≤ (j : Int) := by omega
    have hj1 : (j : Int) < (ys.length : Int) := by omega
    have hlat2 : ∀ (k : Nat) (z : SnapS × List EntM), j < k → ys[k]? = some z → at_ < z.1.time := fun k z hk hz => hlat k z.1 hk (by rw [List.getElem?_map, hz]; rfl)
    have HLAT := Lib.hid hlat2
    have HYJ := Lib.hid hyj
    have HLE := Lib.hid hle
    have hym := List.mem_of_getElem? hyj
    by_cases hnl : j + 1 < ys.length
    · obtain ⟨z, hzj⟩ : ∃ z, ys[j + 1]? = some z := ⟨_, List.getElem?_eq_getElem hnl⟩
      have hzm := List.mem_of_getElem? hzj
      have hxz : (ys.map Prod.fst)[j + 1]? = some z.1 := by rw [List.getElem?_map, hzj]; rfl
      obtain ⟨d0, d1, d2⟩ := sn_at (w := w2) (fun j u hu => HK2.out.cell (hcc j u hu) (fun h => h)) hxz
      rw [if_pos (by rw [List.length_map]; exact hnl)] at hnx
      subst hnx
      have hn0 : decide (((j + 1 : Nat) : Int) < 0) = false := decide_eq_false (by omega)
      have hj2 : (0 : Int) ≤ ((j + 1 : Nat) : Int) := by omega
      have hj3 : ((j + 1 : Nat) : Int) < (ys.length : Int) := by omega
      have hab : TimesOk [y.1, z.1] := by
        have g1 := HY.out.bd y.1 (List.mem_map.2 ⟨y, hym, rfl⟩)
        have g2 := HY.out.bd z.1 (List.mem_map.2 ⟨z, hzm, rfl⟩)
        have g3 := HY.out.step hxj hxz
        exact ⟨by simp; omega, by simpa using g3⟩
      have hrz : y.1.time < z.1.time := HY.out.step hxj hxz
      have hlz : at_ < z.1.time := HLAT.out (j + 1) z (by omega) hzj
      have HQ : Hid (∀ W, Kept (fun _ => False) w W → Calls Tryz.prog 62 #[cfgV c, sv y.1, sv z.1, .int .i64 at_] W (PosesG W)) := Lib.hid (fun W hW => HW.out W y z ((HX.out y hym).kept hW) ((HX.out z hzm).kept hW) hab HLE.out (by omega) hrz)
      have HZJ := Lib.hid hzj
      clear hyj hxj hle hlat hlat2 hym hzm hzj hxz hab hrz hlz hcc h0 hl hat
      go_wp2_with fail
      refine region_mix2 (fun w' => ∃ n, w' = w2.drewN n) [] [0, 1, 2, 3, 4, 5, 6, 7, 8, 9] 10 [11, 12, 13, 14] (by kernel_rfl) (by kernel_rfl) (fun _ _ d _ _ h => by cases d <;> exact h) ⟨1, rfl⟩ ?_
      simp only [pick, List.filterMap_cons, List.filterMap_nil, List.getElem?_toArray, List.getElem?_cons_zero, List.getElem?_cons_succ, floatPut, Act.put, Act.eval, List.setIfInBounds_toArray, List.set_cons_zero, List.set_cons_succ, Array.getD_eq_getD_getElem?, Option.getD_some]
      repeat (change wpQuiet _ _ _ _ (List.cons _ _) _; go_big_quiet_step (fail))
      refine wpQuiet_nil ?_
      rintro _ ⟨n2, rfl⟩
      go_wp2_with fail
      refine (HQ.out _ (HK2.out.drewN n2)).mono ?_
      rintro e w3 ⟨pa, pn, pc, per, rfl, hk3⟩
      have HPP : Hid (PosesG w (.returned (.tuple #[.slice pa pn pc, .int .i64 per])) w3) := Lib.hid (PosesG.later (HK2.out.drewN n2) ⟨pa, pn, pc, per, rfl, hk3⟩)
      clear hk3
      go_wp2_with fail
      simp only [QThen]
      repeat (change wpQuiet _ _ _ _ (List.cons _ _) _; go_big_quiet_step (fail))
      refine wpQuiet_nil ?_
      rintro _ ⟨n3, rfl⟩
      go_wp2_with fail
      go_ret2
      exact HPP.out.drewN n3
    · rw [if_neg (by rw [List.length_map]; exact hnl)] at hnx
      subst hnx
      have HQ : Hid (∀ W, Kept (fun _ => False) w W → Calls Tryz.prog 61 #[cfgV c, sv y.1, .int .i64 at_] W (PosesG W)) := Lib.hid (fun W hW => HB.out W y ((HX.out y hym).kept hW) HLE.out)
      clear hyj hxj hle hlat hlat2 hym hcc h0 hl hat
      go_wp2_with fail
      refine region_mix2 (fun w' => ∃ n, w' = w2.drewN n) [] [0, 1, 2, 3, 4, 5] 6 [7, 8, 9, 10] (by kernel_rfl) (by kernel_rfl) (fun _ _ d _ _ h => by cases d <;> exact h) ⟨1, rfl⟩ ?_
      simp only [pick, List.filterMap_cons, List.filterMap_nil, List.getElem?_toArray, List.getElem?_cons_zero, List.getElem?_cons_succ, floatPut, Act.put, Act.eval, List.setIfInBounds_toArray, List.set_cons_zero, List.set_cons_succ, Array.getD_eq_getD_getElem?, Option.getD_some]
      repeat (change wpQuiet _ _ _ _ (List.cons _ _) _; go_big_quiet_step (fail))
      refine wpQuiet_nil ?_
      rintro _ ⟨n2, rfl⟩
      go_wp2_with fail
      refine (HQ.out _ (HK2.out.drewN n2)).mono ?_
      rintro e w3 ⟨pa, pn, pc, per, rfl, hk3⟩
      have HPP : Hid (PosesG w (.returned (.tuple #[.slice pa pn pc, .int .i64 per])) w3) := Lib.hid (PosesG.later (HK2.out.drewN n2) ⟨pa, pn, pc, per, rfl, hk3⟩)
      clear hk3
      go_wp2_with fail
      simp only [QThen]
      repeat (change wpQuiet _ _ _ _ (List.cons _ _) _; go_big_quiet_step (fail))
      refine wpQuiet_nil ?_
      rintro _ ⟨n3, rfl⟩
      go_wp2_with fail
      go_ret2
      exact HPP.out.drewN n3
  · go_wp2_with fail
    go_ret2
    exact ⟨_, _, _, _, rfl, HK2.out⟩
end Go.Proofs.YtekdkckgmleofaaGreat
