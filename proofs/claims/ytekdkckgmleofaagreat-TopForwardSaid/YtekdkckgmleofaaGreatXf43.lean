/- Contract of record.Apply of an Update or a Teleport. -/
import Derived.Test.YtekdkckgmleofaaGreatXf20
import Derived.Test.YtekdkckgmleofaaGreatXf18
import Derived.Test.YtekdkckgmleofaaGreatXf25
set_option linter.unusedVariables false
set_option linter.unusedSimpArgs false
namespace Go.Proofs.YtekdkckgmleofaaGreat
open Go.RowKit
theorem wrap_i64 (a : Int) : I64 (IntKind.i64.wrap a) := by unfold I64; rw [IntKind.wrap_i64]; omega
theorem wrap64_bd (a : Int) : I64 (wrap64 a) := by unfold I64 wrap64; omega
theorem wrap_u16 (a : Int) : 0 ≤ IntKind.u16.wrap a ∧ IntKind.u16.wrap a ≤ 65535 := by rw [IntKind.wrap_u16]; omega
theorem wrap_u8 (a : Int) : 0 ≤ IntKind.u8.wrap a ∧ IntKind.u8.wrap a ≤ 255 := by rw [IntKind.wrap_u8]; omega
theorem ent_ok {i x y z u v t : Int} {an ge : Nat} (h0 : I64 x) (h1 : I64 y) (h2 : I64 z) (h3 : I64 u) (h4 : I64 v) (h5 : I64 t) (ha : an ≤ 65535) (hg : ge ≤ 255) (i0 : 0 ≤ i) (i1 : i ≤ 65535) : EntM.Ok ⟨i, x, y, z, u, v, t, an, ge⟩ := by
  refine ⟨?_, ha, hg, i0, i1⟩
  unfold I64 at *
  intro n hn
  simp only [EntM.ns, List.mem_cons, List.not_mem_nil, or_false] at hn
  rcases hn with rfl | rfl | rfl | rfl | rfl | rfl <;> omega
def EApPost (id : Int) (w : World) (e : Ending) (w' : World) : Prop := ∃ y : EntM, e = .returned (.tuple #[entV y, .int .i64 0]) ∧ y.Ok ∧ y.id = id ∧ Kept (fun _ => False) w w'
abbrev setE9 (W : World) (n : Nat) (i x y z u v t an ge : Int) : World := ((((((((W.setCell ⟨n, 0, none⟩ (.int .i64 i)).setCell ⟨n, 1, none⟩ (.int .i64 x)).setCell ⟨n, 2, none⟩ (.int .i64 y)).setCell ⟨n, 3, none⟩ (.int .i64 z)).setCell ⟨n, 4, none⟩ (.int .i64 u)).setCell ⟨n, 5, none⟩ (.int .i64 v)).setCell ⟨n, 6, none⟩ (.int .i64 t)).setCell ⟨n, 7, none⟩ (.int .u16 an)).setCell ⟨n, 8, none⟩ (.int .u8 ge)
theorem keptE9 (W : World) (n : Nat) (i x y z u v t an ge : Int) : Kept (· = n) W (setE9 W n i x y z u v t an ge) :=
  ((((((((((Kept.refl (· = n) W).setCell (a := ⟨n, 0, none⟩) (.inl rfl) _).setCell (a := ⟨n, 1, none⟩) (.inl rfl) _).setCell (a := ⟨n, 2, none⟩) (.inl rfl) _).setCell (a := ⟨n, 3, none⟩) (.inl rfl) _).setCell (a := ⟨n, 4, none⟩) (.inl rfl) _).setCell (a := ⟨n, 5, none⟩) (.inl rfl) _).setCell (a := ⟨n, 6, none⟩) (.inl rfl) _).setCell (a := ⟨n, 7, none⟩) (.inl rfl) _).setCell (a := ⟨n, 8, none⟩) (.inl rfl) _)
set_option maxRecDepth 100000 in
set_option maxHeartbeats 4000000 in
theorem eapply3 (x : EntM) (hx : x.Ok) (xid p0 p1 p2 s0 s1 s2 : Int) (ang : Nat) (hr : RecIn ⟨3, xid, p0, p1, p2, s0, s1, s2, ang⟩) (hc : RCk ⟨3, xid, p0, p1, p2, s0, s1, s2, ang⟩ 0) (hid : x.id = xid) (w : World) :
    Calls Tryz.prog 118 #[entV x, recV ⟨3, xid, p0, p1, p2, s0, s1, s2, ang⟩] w (EApPost x.id w) := by
  have HC := Lib.hid hc
  unfold RCk at HC
  subst hid
  have HR := Lib.hid hr.ok
  have HX := Lib.hid hx
  clear hc hr hx
  go_enter Tryz.func118, Tryz.ntmps118
  go_wp2_with fail
  have K0 := ((((Kept.refl (fun _ => False) w).alloc (.cells (entC x).toArray 39)).alloc (.cells (recC ⟨3, x.id, p0, p1, p2, s0, s1, s2, ang⟩).toArray 175)).alloc (.cells zentC.toArray 39))
  have B2 := Blk.new_at (w := (w.alloc (.cells (entC x).toArray 39)).alloc (.cells (recC ⟨3, x.id, p0, p1, p2, s0, s1, s2, ang⟩).toArray 175)) (n := w.heap.size + 1 + 1) (by simp) zentC 39
  have B0 := ((Blk.new w (entC x) 39).alloc (.cells (recC ⟨3, x.id, p0, p1, p2, s0, s1, s2, ang⟩).toArray 175)).alloc (.cells zentC.toArray 39)
  have B1 := (Blk.new_at (w := w.alloc (.cells (entC x).toArray 39)) (n := w.heap.size + 1) (by simp) (recC ⟨3, x.id, p0, p1, p2, s0, s1, s2, ang⟩) 175).alloc (.cells zentC.toArray 39)
  refine (HC.out _).mono ?_
  rintro e w1 ⟨rfl, hk1⟩
  have HZ := Lib.hid (hk1.blk B2 (fun h => h))
  have HE := Lib.hid (hk1.blk B0 (fun h => h))
  have HRB := Lib.hid (hk1.blk B1 (fun h => h))
  have HK := Lib.hid (K0.trans hk1 (fun _ h => h.elim))
  have e0 := HE.out.cell (i := 0) rfl
  have e8 := HE.out.cell (i := 8) rfl
  have r0 := HRB.out.cell (i := 0) rfl
  have r1 := HRB.out.cell (i := 1) rfl
  have r2 := HRB.out.cell (i := 2) rfl
  have r3 := HRB.out.cell (i := 3) rfl
  have r4 := HRB.out.cell (i := 4) rfl
  have r5 := HRB.out.cell (i := 5) rfl
  have r6 := HRB.out.cell (i := 6) rfl
  have r7 := HRB.out.cell (i := 7) rfl
  have r8 := HRB.out.cell (i := 8) rfl
  have f0 := HZ.out.free 0
  have f1 := HZ.out.free 1
  have f2 := HZ.out.free 2
  have f3 := HZ.out.free 3
  have f4 := HZ.out.free 4
  have f5 := HZ.out.free 5
  have f6 := HZ.out.free 6
  have f7 := HZ.out.free 7
  have f8 := HZ.out.free 8
  have d0 := HZ.out.cell (i := 0) rfl
  have d1 := HZ.out.cell (i := 1) rfl
  have d2 := HZ.out.cell (i := 2) rfl
  have d3 := HZ.out.cell (i := 3) rfl
  have d4 := HZ.out.cell (i := 4) rfl
  have d5 := HZ.out.cell (i := 5) rfl
  have d6 := HZ.out.cell (i := 6) rfl
  have d7 := HZ.out.cell (i := 7) rfl
  have d8 := HZ.out.cell (i := 8) rfl
  clear hk1 K0 B0 B1 B2
  go_wp2_with fail
  obtain ⟨ge, hge, hge2⟩ : ∃ ge : Nat, ((x.gen : Int) + 1) % 256 = ge ∧ ge ≤ 255 := ⟨(((x.gen : Int) + 1) % 256).toNat, by omega, by omega⟩
  rw [hge]
  have t0 := (HZ.out.set 0 (.int .i64 x.id)).cell (i := 0) rfl
  have t1 := ((HZ.out.set 0 (.int .i64 x.id)).set 1 (.int .i64 p0)).cell (i := 1) rfl
  have t2 := (((HZ.out.set 0 (.int .i64 x.id)).set 1 (.int .i64 p0)).set 2 (.int .i64 p1)).cell (i := 2) rfl
  have t3 := ((((HZ.out.set 0 (.int .i64 x.id)).set 1 (.int .i64 p0)).set 2 (.int .i64 p1)).set 3 (.int .i64 p2)).cell (i := 3) rfl
  have t4 := (((((HZ.out.set 0 (.int .i64 x.id)).set 1 (.int .i64 p0)).set 2 (.int .i64 p1)).set 3 (.int .i64 p2)).set 4 (.int .i64 s0)).cell (i := 4) rfl
  have t5 := ((((((HZ.out.set 0 (.int .i64 x.id)).set 1 (.int .i64 p0)).set 2 (.int .i64 p1)).set 3 (.int .i64 p2)).set 4 (.int .i64 s0)).set 5 (.int .i64 s1)).cell (i := 5) rfl
  have t6 := (((((((HZ.out.set 0 (.int .i64 x.id)).set 1 (.int .i64 p0)).set 2 (.int .i64 p1)).set 3 (.int .i64 p2)).set 4 (.int .i64 s0)).set 5 (.int .i64 s1)).set 6 (.int .i64 s2)).cell (i := 6) rfl
  have t7 := ((((((((HZ.out.set 0 (.int .i64 x.id)).set 1 (.int .i64 p0)).set 2 (.int .i64 p1)).set 3 (.int .i64 p2)).set 4 (.int .i64 s0)).set 5 (.int .i64 s1)).set 6 (.int .i64 s2)).set 7 (.int .u16 ang)).cell (i := 7) rfl
  have t8 := (((((((((HZ.out.set 0 (.int .i64 x.id)).set 1 (.int .i64 p0)).set 2 (.int .i64 p1)).set 3 (.int .i64 p2)).set 4 (.int .i64 s0)).set 5 (.int .i64 s1)).set 6 (.int .i64 s2)).set 7 (.int .u16 ang)).set 8 (.int .u8 ge)).cell (i := 8) rfl
  refine bodyPost_ret (v := .tuple #[.agg #[.int .i64 x.id, .int .i64 p0, .int .i64 p1, .int .i64 p2, .int .i64 s0, .int .i64 s1, .int .i64 s2, .int .u16 ang, .int .u8 ge], .int .i64 0]) (by simp [results, Tryz.f118, Tryz.results118, go_sem, t0, t1, t2, t3, t4, t5, t6, t7, t8]) rfl ?_
  refine ⟨⟨x.id, p0, p1, p2, s0, s1, s2, ang, ge⟩, rfl, ?_, rfl, HK.out.trans (keptE9 _ _ _ _ _ _ _ _ _ _ _) (fun i hi => .inr (by omega))⟩
  exact ⟨HR.out.ns, HR.out.ang, hge2, HX.out.id0, HX.out.id1⟩
structure EaI (w : World) (id : Int) (rc : List Value) (y : EntM) (wr : World) : Prop where
  ok : y.Ok
  id_ : y.id = id
  ent : Blk wr w.heap.size (entC y) 39
  rcd : Blk wr (w.heap.size + 1) rc 175
  zer : Blk wr (w.heap.size + 1 + 1) zentC 39
  kept : Kept (fun _ => False) w wr
theorem EaI.put {w wr : World} {id : Int} {rc : List Value} {y : EntM} (h : EaI w id rc y wr) {y' : EntM} (hy : y'.Ok) (hi : y'.id = id) {j : Nat} {v : Value} (he : (entC y).set j v = entC y') : EaI w id rc y' (wr.setCell ⟨w.heap.size, j, none⟩ v) :=
  ⟨hy, hi, he ▸ h.ent.set j v, h.rcd.set_ne (by simp) v, h.zer.set_ne (by show w.heap.size + 1 + 1 ≠ w.heap.size; omega) v, h.kept.setCell (.inr (Nat.le_refl _)) v⟩
theorem EaI.drew {w wr : World} {id : Int} {rc : List Value} {y : EntM} (h : EaI w id rc y wr) : EaI w id rc y wr.drew := ⟨h.ok, h.id_, h.ent.drew, h.rcd.drew, h.zer.drew, h.kept.drew⟩
set_option maxRecDepth 100000 in
set_option maxHeartbeats 8000000 in
theorem eapply1 (x : EntM) (hx : x.Ok) (xid p0 p1 p2 s0 s1 s2 : Int) (ang : Nat) (hr : RecIn ⟨1, xid, p0, p1, p2, s0, s1, s2, ang⟩) (hc : RCk ⟨1, xid, p0, p1, p2, s0, s1, s2, ang⟩ 0) (hid : x.id = xid) (w : World) :
    Calls Tryz.prog 118 #[entV x, recV ⟨1, xid, p0, p1, p2, s0, s1, s2, ang⟩] w (EApPost x.id w) := by
  have HC := Lib.hid hc
  unfold RCk at HC
  subst hid
  have HX := Lib.hid hx
  clear hc hr hx
  go_enter Tryz.func118, Tryz.ntmps118
  go_wp2_with fail
  have K0 := ((((Kept.refl (fun _ => False) w).alloc (.cells (entC x).toArray 39)).alloc (.cells (recC ⟨1, x.id, p0, p1, p2, s0, s1, s2, ang⟩).toArray 175)).alloc (.cells zentC.toArray 39))
  have B2 := Blk.new_at (w := (w.alloc (.cells (entC x).toArray 39)).alloc (.cells (recC ⟨1, x.id, p0, p1, p2, s0, s1, s2, ang⟩).toArray 175)) (n := w.heap.size + 1 + 1) (by simp) zentC 39
  have B0 := ((Blk.new w (entC x) 39).alloc (.cells (recC ⟨1, x.id, p0, p1, p2, s0, s1, s2, ang⟩).toArray 175)).alloc (.cells zentC.toArray 39)
  have B1 := (Blk.new_at (w := w.alloc (.cells (entC x).toArray 39)) (n := w.heap.size + 1) (by simp) (recC ⟨1, x.id, p0, p1, p2, s0, s1, s2, ang⟩) 175).alloc (.cells zentC.toArray 39)
  refine (HC.out _).mono ?_
  rintro e w1 ⟨rfl, hk1⟩
  have HI : Hid (EaI w x.id (recC ⟨1, x.id, p0, p1, p2, s0, s1, s2, ang⟩) x w1) := Lib.hid ⟨HX.out, rfl, hk1.blk B0 (fun h => h), hk1.blk B1 (fun h => h), hk1.blk B2 (fun h => h), K0.trans hk1 (fun _ h => h.elim)⟩
  have e0 := HI.out.ent.cell (i := 0) rfl
  have r0 := HI.out.rcd.cell (i := 0) rfl
  have r1 := HI.out.rcd.cell (i := 1) rfl
  clear hk1 K0 B0 B1 B2
  go_wp2_with fail
  clear e0 r0 r1
  go_loopw [47] (fun i wr => ∃ (k : Nat) (y : EntM), k ≤ 3 ∧ i = .int .i64 k ∧ EaI w x.id (recC ⟨1, x.id, p0, p1, p2, s0, s1, s2, ang⟩) y wr) (fun i _ => (3 - intOf i).toNat)
  case atStart => exact ⟨0, x, by omega, rfl, HI.out⟩
  case round =>
    obtain ⟨k, y, hk, rfl, hI⟩ := hrel
    have HJ := Lib.hid hI
    have hn := hI.ok.ns
    simp only [EntM.ns, List.mem_cons, List.not_mem_nil, or_false, forall_eq_or_imp, forall_eq] at hn
    have HN := Lib.hid hn
    clear hI hn
    rcases (by omega : k = 0 ∨ k = 1 ∨ k = 2 ∨ k = 3) with rfl | rfl | rfl | rfl
    · skip
      have a1 := HJ.out.ent.cell (i := 1) rfl
      have b2 := HJ.out.rcd.cell (i := 2) rfl
      have f1 := HJ.out.ent.free 1
      have HP1 := Lib.hid ((HJ.out.put (y' := {y with p0 := wrap64 (y.p0 + p0)}) (j := 1) (v := .int .i64 (wrap64 (y.p0 + p0))) (ent_ok (wrap64_bd _) HN.out.2.1 HN.out.2.2.1 HN.out.2.2.2.1 HN.out.2.2.2.2.1 HN.out.2.2.2.2.2 HJ.out.ok.ang HJ.out.ok.gen HJ.out.ok.id0 HJ.out.ok.id1) HJ.out.id_ rfl).drew)
      have a4 := HP1.out.ent.cell (i := 4) rfl
      have b5 := HP1.out.rcd.cell (i := 5) rfl
      have f4 := HP1.out.ent.free 4
      have HP2 := Lib.hid ((HP1.out.put (y' := {y with p0 := wrap64 (y.p0 + p0), v0 := wrap64 (y.v0 + s0)}) (j := 4) (v := .int .i64 (wrap64 (y.v0 + s0))) (ent_ok (wrap64_bd _) HN.out.2.1 HN.out.2.2.1 (wrap64_bd _) HN.out.2.2.2.2.1 HN.out.2.2.2.2.2 HJ.out.ok.ang HJ.out.ok.gen HJ.out.ok.id0 HJ.out.ok.id1) HJ.out.id_ rfl).drew)
      dsimp only at a4
      go_wp2_with fail
      go_region
      go_wp2_with fail
      go_region
      go_wp2_with fail
      exact ⟨⟨1, _, by omega, by simp, HP2.out⟩, by simp [intOf]⟩
    · skip
      have a1 := HJ.out.ent.cell (i := 2) rfl
      have b2 := HJ.out.rcd.cell (i := 3) rfl
      have f1 := HJ.out.ent.free 2
      have HP1 := Lib.hid ((HJ.out.put (y' := {y with p1 := wrap64 (y.p1 + p1)}) (j := 2) (v := .int .i64 (wrap64 (y.p1 + p1))) (ent_ok HN.out.1 (wrap64_bd _) HN.out.2.2.1 HN.out.2.2.2.1 HN.out.2.2.2.2.1 HN.out.2.2.2.2.2 HJ.out.ok.ang HJ.out.ok.gen HJ.out.ok.id0 HJ.out.ok.id1) HJ.out.id_ rfl).drew)
      have a4 := HP1.out.ent.cell (i := 5) rfl
      have b5 := HP1.out.rcd.cell (i := 6) rfl
      have f4 := HP1.out.ent.free 5
      have HP2 := Lib.hid ((HP1.out.put (y' := {y with p1 := wrap64 (y.p1 + p1), v1 := wrap64 (y.v1 + s1)}) (j := 5) (v := .int .i64 (wrap64 (y.v1 + s1))) (ent_ok HN.out.1 (wrap64_bd _) HN.out.2.2.1 HN.out.2.2.2.1 (wrap64_bd _) HN.out.2.2.2.2.2 HJ.out.ok.ang HJ.out.ok.gen HJ.out.ok.id0 HJ.out.ok.id1) HJ.out.id_ rfl).drew)
      dsimp only at a4
      go_wp2_with fail
      go_region
      go_wp2_with fail
      go_region
      go_wp2_with fail
      exact ⟨⟨2, _, by omega, by simp, HP2.out⟩, by simp [intOf]⟩
    · skip
      have a1 := HJ.out.ent.cell (i := 3) rfl
      have b2 := HJ.out.rcd.cell (i := 4) rfl
      have f1 := HJ.out.ent.free 3
      have HP1 := Lib.hid ((HJ.out.put (y' := {y with p2 := wrap64 (y.p2 + p2)}) (j := 3) (v := .int .i64 (wrap64 (y.p2 + p2))) (ent_ok HN.out.1 HN.out.2.1 (wrap64_bd _) HN.out.2.2.2.1 HN.out.2.2.2.2.1 HN.out.2.2.2.2.2 HJ.out.ok.ang HJ.out.ok.gen HJ.out.ok.id0 HJ.out.ok.id1) HJ.out.id_ rfl).drew)
      have a4 := HP1.out.ent.cell (i := 6) rfl
      have b5 := HP1.out.rcd.cell (i := 7) rfl
      have f4 := HP1.out.ent.free 6
      have HP2 := Lib.hid ((HP1.out.put (y' := {y with p2 := wrap64 (y.p2 + p2), v2 := wrap64 (y.v2 + s2)}) (j := 6) (v := .int .i64 (wrap64 (y.v2 + s2))) (ent_ok HN.out.1 HN.out.2.1 (wrap64_bd _) HN.out.2.2.2.1 HN.out.2.2.2.2.1 (wrap64_bd _) HJ.out.ok.ang HJ.out.ok.gen HJ.out.ok.id0 HJ.out.ok.id1) HJ.out.id_ rfl).drew)
      dsimp only at a4
      go_wp2_with fail
      go_region
      go_wp2_with fail
      go_region
      go_wp2_with fail
      exact ⟨⟨3, _, by omega, by simp, HP2.out⟩, by simp [intOf]⟩
    · have a7 := HJ.out.ent.cell (i := 7) rfl
      have b8 := HJ.out.rcd.cell (i := 8) rfl
      have g7 := HJ.out.ent.free 7
      obtain ⟨an, han, han2⟩ : ∃ an : Nat, IntKind.u16.wrap ((y.ang : Int) + ang) = an ∧ an ≤ 65535 := ⟨(IntKind.u16.wrap ((y.ang : Int) + ang)).toNat, by have := wrap_u16 ((y.ang : Int) + ang); omega, by have := wrap_u16 ((y.ang : Int) + ang); omega⟩
      have HP : Hid (EaI w x.id (recC ⟨1, x.id, p0, p1, p2, s0, s1, s2, ang⟩) {y with ang := an} (wr.setCell ⟨w.heap.size, 7, none⟩ (.int .u16 an))) := Lib.hid (HJ.out.put (ent_ok HN.out.1 HN.out.2.1 HN.out.2.2.1 HN.out.2.2.2.1 HN.out.2.2.2.2.1 HN.out.2.2.2.2.2 han2 HJ.out.ok.gen HJ.out.ok.id0 HJ.out.ok.id1) HJ.out.id_ rfl)
      have HZ := Lib.hid HP.out.zer
      have f0 := HZ.out.free 0
      have f1 := HZ.out.free 1
      have f2 := HZ.out.free 2
      have f3 := HZ.out.free 3
      have f4 := HZ.out.free 4
      have f5 := HZ.out.free 5
      have f6 := HZ.out.free 6
      have f7 := HZ.out.free 7
      have f8 := HZ.out.free 8
      have d0 := HZ.out.cell (i := 0) rfl
      have d1 := HZ.out.cell (i := 1) rfl
      have d2 := HZ.out.cell (i := 2) rfl
      have d3 := HZ.out.cell (i := 3) rfl
      have d4 := HZ.out.cell (i := 4) rfl
      have d5 := HZ.out.cell (i := 5) rfl
      have d6 := HZ.out.cell (i := 6) rfl
      have d7 := HZ.out.cell (i := 7) rfl
      have d8 := HZ.out.cell (i := 8) rfl
      have e0 := HP.out.ent.cell (i := 0) rfl
      have e1 := HP.out.ent.cell (i := 1) rfl
      have e2 := HP.out.ent.cell (i := 2) rfl
      have e3 := HP.out.ent.cell (i := 3) rfl
      have e4 := HP.out.ent.cell (i := 4) rfl
      have e5 := HP.out.ent.cell (i := 5) rfl
      have e6 := HP.out.ent.cell (i := 6) rfl
      have e7 := HP.out.ent.cell (i := 7) rfl
      have e8 := HP.out.ent.cell (i := 8) rfl
      have HAN := Lib.hid han
      rw [← han] at HP HZ f0 f1 f2 f3 f4 f5 f6 f7 f8 d0 d1 d2 d3 d4 d5 d6 d7 d8 e0 e1 e2 e3 e4 e5 e6 e7 e8
      clear han
      go_wp2_with fail
      have t0 := (HZ.out.set 0 (.int .i64 y.id)).cell (i := 0) rfl
      have t1 := ((HZ.out.set 0 (.int .i64 y.id)).set 1 (.int .i64 y.p0)).cell (i := 1) rfl
      have t2 := (((HZ.out.set 0 (.int .i64 y.id)).set 1 (.int .i64 y.p0)).set 2 (.int .i64 y.p1)).cell (i := 2) rfl
      have t3 := ((((HZ.out.set 0 (.int .i64 y.id)).set 1 (.int .i64 y.p0)).set 2 (.int .i64 y.p1)).set 3 (.int .i64 y.p2)).cell (i := 3) rfl
      have t4 := (((((HZ.out.set 0 (.int .i64 y.id)).set 1 (.int .i64 y.p0)).set 2 (.int .i64 y.p1)).set 3 (.int .i64 y.p2)).set 4 (.int .i64 y.v0)).cell (i := 4) rfl
      have t5 := ((((((HZ.out.set 0 (.int .i64 y.id)).set 1 (.int .i64 y.p0)).set 2 (.int .i64 y.p1)).set 3 (.int .i64 y.p2)).set 4 (.int .i64 y.v0)).set 5 (.int .i64 y.v1)).cell (i := 5) rfl
      have t6 := (((((((HZ.out.set 0 (.int .i64 y.id)).set 1 (.int .i64 y.p0)).set 2 (.int .i64 y.p1)).set 3 (.int .i64 y.p2)).set 4 (.int .i64 y.v0)).set 5 (.int .i64 y.v1)).set 6 (.int .i64 y.v2)).cell (i := 6) rfl
      have t7 := ((((((((HZ.out.set 0 (.int .i64 y.id)).set 1 (.int .i64 y.p0)).set 2 (.int .i64 y.p1)).set 3 (.int .i64 y.p2)).set 4 (.int .i64 y.v0)).set 5 (.int .i64 y.v1)).set 6 (.int .i64 y.v2)).set 7 (.int .u16 (IntKind.u16.wrap ((y.ang : Int) + ang)))).cell (i := 7) rfl
      have t8 := (((((((((HZ.out.set 0 (.int .i64 y.id)).set 1 (.int .i64 y.p0)).set 2 (.int .i64 y.p1)).set 3 (.int .i64 y.p2)).set 4 (.int .i64 y.v0)).set 5 (.int .i64 y.v1)).set 6 (.int .i64 y.v2)).set 7 (.int .u16 (IntKind.u16.wrap ((y.ang : Int) + ang)))).set 8 (.int .u8 y.gen)).cell (i := 8) rfl
      refine bodyPost_ret (v := .tuple #[.agg #[.int .i64 y.id, .int .i64 y.p0, .int .i64 y.p1, .int .i64 y.p2, .int .i64 y.v0, .int .i64 y.v1, .int .i64 y.v2, .int .u16 (IntKind.u16.wrap ((y.ang : Int) + ang)), .int .u8 y.gen], .int .i64 0]) (by simp [results, Tryz.f118, Tryz.results118, go_sem, t0, t1, t2, t3, t4, t5, t6, t7, t8]) rfl ?_
      refine ⟨{y with ang := an}, by simp only [entV, entC, HAN.out], ?_, HJ.out.id_, HP.out.kept.trans (keptE9 _ _ _ _ _ _ _ _ _ _ _) (fun i hi => .inr (by omega))⟩
      have := HP.out.ok
      exact this
end Go.Proofs.YtekdkckgmleofaaGreat
