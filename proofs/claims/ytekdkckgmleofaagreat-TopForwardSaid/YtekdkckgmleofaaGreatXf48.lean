/- Joined texts. -/
import Derived.Test.YtekdkckgmleofaaGreatXf46
import Derived.Test.YtekdkckgmleofaaGreatXf47
import Derived.Test.YtekdkckgmleofaaGreatXf33
import Derived.Test.YtekdkckgmleofaaGreatXf40
set_option linter.unusedVariables false
set_option linter.unusedSimpArgs false
/- Contract of delta.Apply of any datagram on any snapshot. -/
namespace Go.Proofs.YtekdkckgmleofaaGreat
open Go.RowKit Go.MapKept Go.ChangeMaps
theorem step_mapUpdate_run {P : Program} {w : World} {ops : Array Oper} {o : Oper} {a : Act} {K : Act → World → Prop} {Q : Exit → Act → World → Prop} {E : Prop} (hgd : o.guard = none) (m x v : Operand) (t : TypeId)
    (ho : o.op = .mapUpdate t m x v) (mv xv vv : Value) (w' : World) (hm : a.eval m = mv) (hx : a.eval x = xv) (hv : a.eval v = vv)
    (hrun : (Instr.mapUpdate t mv xv vv).run P w = .ok () w') (h : ∀ d, K (a.put o.dst d) w') :
    if Region.wanted o (yielded ops a.tmps) = true then Oper.wp P o a w K Q else E := by
  have hw : Region.wanted o (yielded ops a.tmps) = true := by simp [Region.wanted, hgd]
  rw [if_pos hw]
  unfold Oper.wp
  simp [execOp, ho, hm, hx, hv, hrun, Result.andThen]
  exact h _
structure ApI (w : World) (b : Nat) (k : Nat) (gc : List Value) (ys : List EntM) (wr : World) : Prop where
  map_ : MapE wr b ys
  ok : ∀ y ∈ ys, y.Ok
  len : (ys.length : Int) ≤ 64 + k
  lo : w.heap.size + 1 + 1 < b
  gb : Blk wr (w.heap.size + 1) gc 78
  zb : Blk wr (w.heap.size + 1 + 1) [.int .i64 0, .int .i64 0, .slice none 0 0] 42
  kept : Kept (fun _ => False) w wr
theorem ApI.to {w wr w2 : World} {b k : Nat} {gc : List Value} {ys ys2 : List EntM} (h : ApI w b k gc ys wr) (hK : Kept (· = b) wr w2) (hM : MapE w2 b ys2) (hok : ∀ y ∈ ys2, y.Ok) (hl : ys2.length ≤ ys.length + 1) : ApI w b (k + 1) gc ys2 w2 := by
  have h1 := h.lo
  have h2 := h.len
  exact ⟨hM, hok, by omega, h1, hK.blk h.gb (by omega), hK.blk h.zb (by omega), h.kept.trans hK (fun i hi => .inr (by omega))⟩
def ApAny (w : World) (e : Ending) (w' : World) : Prop :=
  ∃ (tick time : Int) (ys : List EntM) (v : Value) (er : Int), e = .returned (.tuple #[snapV tick time v, .int .i64 er]) ∧ 0 ≤ er ∧ er ≤ 17 ∧ SnapOk tick time ∧ EntsOk ys ∧ EntsAt w' v ys (fun g => w.heap.size ≤ g) ∧ Kept (fun _ => False) w w'
theorem apply_bad {w w' : World} (er : Int) (h0 : 0 ≤ er) (h1 : er ≤ 17) (k : Kept (fun _ => False) w w') : ApAny w (.returned (.tuple #[snapV 0 0 (.slice none 0 0), .int .i64 er])) w' :=
  ⟨0, 0, [], _, er, rfl, h0, h1, ⟨by omega, by omega, by omega, by omega⟩, ⟨by simp, by simp, by simp⟩, ⟨none, Sl.nil _ _ _, by simp⟩, k⟩
theorem setz_kept {w W : World} (k : Kept (fun _ => False) w W) : Kept (fun _ => False) w (((W.setCell ⟨w.heap.size + 1 + 1, 0, none⟩ (.int .i64 0)).setCell ⟨w.heap.size + 1 + 1, 1, none⟩ (.int .i64 0)).setCell ⟨w.heap.size + 1 + 1, 2, none⟩ (.slice none 0 0)) :=
  ((k.setCell (a := ⟨w.heap.size + 1 + 1, 0, none⟩) (.inr (by show w.heap.size ≤ w.heap.size + 1 + 1; omega)) _).setCell (a := ⟨w.heap.size + 1 + 1, 1, none⟩) (.inr (by show w.heap.size ≤ w.heap.size + 1 + 1; omega)) _).setCell (a := ⟨w.heap.size + 1 + 1, 2, none⟩) (.inr (by show w.heap.size ≤ w.heap.size + 1 + 1; omega)) _
theorem ents_rise {xs ys : List EntM} (hp : ys.Perm xs) (hs : ys.Pairwise (fun a b => a.id ≤ b.id)) (hd : xs.Pairwise (fun a b => a.id ≠ b.id)) : ys.Pairwise (fun a b => a.id < b.id) := by
  have h2 : ys.Pairwise (fun a b => a.id ≠ b.id) := hp.symm.pairwise hd (fun h => h.symm)
  exact (hs.and h2).imp (fun h => by omega)
theorem rec_ent {W : World} {B C : Nat} {r : RecM} {x : EntM} {t u : TypeId} (h : Blk W B (recC r) t) (k : Blk W C (entC x) u) :
    W.cell? ⟨B, 0, none⟩ = some (.int .i64 r.kind) ∧ W.cell? ⟨B, 1, none⟩ = some (.int .i64 r.id) ∧ W.cell? ⟨B, 2, none⟩ = some (.int .i64 r.p0) ∧ W.cell? ⟨B, 3, none⟩ = some (.int .i64 r.p1) ∧ W.cell? ⟨B, 4, none⟩ = some (.int .i64 r.p2) ∧ W.cell? ⟨B, 5, none⟩ = some (.int .i64 r.v0) ∧ W.cell? ⟨B, 6, none⟩ = some (.int .i64 r.v1) ∧ W.cell? ⟨B, 7, none⟩ = some (.int .i64 r.v2) ∧ W.cell? ⟨B, 8, none⟩ = some (.int .u16 r.ang) ∧ W.cell? ⟨C, 0, none⟩ = some (.int .i64 x.id) ∧ W.cell? ⟨C, 1, none⟩ = some (.int .i64 x.p0) ∧ W.cell? ⟨C, 2, none⟩ = some (.int .i64 x.p1) ∧ W.cell? ⟨C, 3, none⟩ = some (.int .i64 x.p2) ∧ W.cell? ⟨C, 4, none⟩ = some (.int .i64 x.v0) ∧ W.cell? ⟨C, 5, none⟩ = some (.int .i64 x.v1) ∧ W.cell? ⟨C, 6, none⟩ = some (.int .i64 x.v2) ∧ W.cell? ⟨C, 7, none⟩ = some (.int .u16 x.ang) ∧ W.cell? ⟨C, 8, none⟩ = some (.int .u8 x.gen) :=
  ⟨h.cell (i := 0) rfl, h.cell (i := 1) rfl, h.cell (i := 2) rfl, h.cell (i := 3) rfl, h.cell (i := 4) rfl, h.cell (i := 5) rfl, h.cell (i := 6) rfl, h.cell (i := 7) rfl, h.cell (i := 8) rfl, k.cell (i := 0) rfl, k.cell (i := 1) rfl, k.cell (i := 2) rfl, k.cell (i := 3) rfl, k.cell (i := 4) rfl, k.cell (i := 5) rfl, k.cell (i := 6) rfl, k.cell (i := 7) rfl, k.cell (i := 8) rfl⟩
set_option maxRecDepth 100000 in
set_option maxHeartbeats 8000000 in
theorem apply_any (tick time base : Int) (h : HdG tick time base) (rs : List RecM) (hr : ∀ r ∈ rs, RecIn r) (hl : (rs.length : Int) ≤ 128) (k0 k1 : Int) (hk : SnapOk k0 k1) (xs : List EntM) (hx : EntsOk xs) (w : World) (rv cv : Value) (own : Option Nat) (fe : Nat → Prop)
    (hv : Sl w rv 175 9 rs.length (rsC rs) own) (hc : EntsAt w cv xs fe) :
    Calls Tryz.prog 72 #[snapV k0 k1 cv, gramV tick time base rv] w (ApAny w) := by
  obtain ⟨a, cap, rfl, -, hcm⟩ := hv.form
  obtain ⟨ow, hcs, -⟩ := hc
  obtain ⟨ac, capc, rfl, -, -⟩ := hcs.form
  have HGC := Lib.hid (fun W h' => gcheck_any tick time base h rs hr hl W _ own (hv.kept (F := fun _ => False) h' (fun _ _ h => h)))
  have HSC := Lib.hid (fun W h' => snapcheck_calls k0 k1 hk xs hx W _ ow (hcs.kept (F := fun _ => False) h' (fun _ _ h => h)))
  have HBY := Lib.hid (fun W h' => byId_calls xs W _ ow (hcs.kept (F := fun _ => False) h' (fun _ _ h => h)) (by have := hx.len; omega))
  have HVC := Lib.hid (fun b W => values_calls b W)
  have HR := Lib.hid hr
  have HV := Lib.hid hv
  have hmm := @run_makeMap Tryz.prog
  have HHD := Lib.hid h
  have hxl := hx.len
  have HXO := Lib.hid hx.ok
  clear hv hcs hr hx h hk
  go_enter Tryz.func72, Tryz.ntmps72
  go_wp2_with fail
  have K0 := (((Kept.refl (fun _ => False) w).alloc (.cells (snapC k0 k1 (.slice ac xs.length capc)).toArray 42)).alloc (.cells (gramC tick time base (.slice a rs.length cap)).toArray 78)).alloc (.cells #[.int .i64 0, .int .i64 0, .slice none 0 0] 42)
  refine (HGC.out _ K0).mono ?_
  rintro e w1 ⟨er, rfl, he0, he1, hk1, hez⟩
  have BC0 := hk1.blk (((Blk.new w (snapC k0 k1 (.slice ac xs.length capc)) 42).alloc (.cells (gramC tick time base (.slice a rs.length cap)).toArray 78)).alloc (.cells #[.int .i64 0, .int .i64 0, .slice none 0 0] 42)) (fun h => h)
  have BG0 := hk1.blk ((Blk.new_at (w := w.alloc (.cells (snapC k0 k1 (.slice ac xs.length capc)).toArray 42)) (n := w.heap.size + 1) (by simp) (gramC tick time base (.slice a rs.length cap)) 78).alloc (.cells #[.int .i64 0, .int .i64 0, .slice none 0 0] 42)) (fun h => h)
  have BR0 := hk1.blk (Blk.new_at (w := (w.alloc (.cells (snapC k0 k1 (.slice ac xs.length capc)).toArray 42)).alloc (.cells (gramC tick time base (.slice a rs.length cap)).toArray 78)) (n := w.heap.size + 1 + 1) (by simp) [.int .i64 0, .int .i64 0, .slice none 0 0] 42) (fun h => h)
  have HBC := Lib.hid BC0
  have HBG := Lib.hid BG0
  have HBR := Lib.hid BR0
  have HK1 := Lib.hid (K0.trans hk1 (fun _ h => h.elim))
  have HEZ := Lib.hid hez
  clear hk1 K0 BC0 BG0 BR0 hez
  cases hne : (er != 0) with
  | true =>
    have HE : Hid (er ≠ 0) := Lib.hid (by simpa using hne)
    have z0 := HBR.out.cell (i := 0) rfl
    have z1 := HBR.out.cell (i := 1) rfl
    have z2 := HBR.out.cell (i := 2) rfl
    have y0 := HBR.out.free 0
    have y1 := HBR.out.free 1
    have y2 := HBR.out.free 2
    go_wp2_with fail
    have hf := ((HBR.out.set 0 (.int .i64 0)).set 1 (.int .i64 0)).set 2 (.slice none 0 0)
    have r0 := hf.cell (i := 0) rfl
    have r1 := hf.cell (i := 1) rfl
    have r2 := hf.cell (i := 2) rfl
    refine bodyPost_ret (v := .tuple #[snapV 0 0 (.slice none 0 0), .int .i64 er]) (by simp [results, Tryz.f72, Tryz.results72, go_sem, r0, r1, r2]) rfl (apply_bad er he0 he1 (setz_kept HK1.out))
  | false =>
    obtain rfl : er = 0 := by simpa using hne
    have HS := Lib.hid (HEZ.out rfl).1
    have HG : Hid (∀ r ∈ rs, RGood r) := Lib.hid (HEZ.out rfl).2.2
    have hl1 := HBR.out.lt
    clear he0 he1 hne HEZ
    have g2 := (HBG.out.alloc (.map #[] 0)).cell (i := 2) rfl
    have g3 := (HBG.out.alloc (.map #[] 0)).cell (i := 3) rfl
    have m0 := (HBC.out.alloc (.map #[] 0)).cell (i := 0) rfl
    have m1 := (HBC.out.alloc (.map #[] 0)).cell (i := 1) rfl
    have m2 := (HBC.out.alloc (.map #[] 0)).cell (i := 2) rfl
    by_cases hb0 : 0 ≤ base
    · go_wp2_with fail
      refine (HSC.out _ (HK1.out.alloc _)).mono ?_
      rintro e w2 ⟨rfl, hk2⟩
      have HK2 := Lib.hid ((HK1.out.alloc (.map #[] 0)).trans hk2 (fun _ h => h.elim))
      have HBC2 := Lib.hid (hk2.blk (HBC.out.alloc (.map #[] 0)) (fun h => h))
      have HBG2 := Lib.hid (hk2.blk (HBG.out.alloc (.map #[] 0)) (fun h => h))
      have HBR2 := Lib.hid (hk2.blk (HBR.out.alloc (.map #[] 0)) (fun h => h))
      have q0 := HBC2.out.cell (i := 0) rfl
      have q2 := HBC2.out.cell (i := 2) rfl
      have g2' := HBG2.out.cell (i := 2) rfl
      clear hk2 g2 g3 m0 m1 m2
      cases hkb : (k0 != base) with
      | true =>
        have z0 := HBR2.out.cell (i := 0) rfl
        have z1 := HBR2.out.cell (i := 1) rfl
        have z2 := HBR2.out.cell (i := 2) rfl
        have y0 := HBR2.out.free 0
        have y1 := HBR2.out.free 1
        have y2 := HBR2.out.free 2
        go_wp2_with fail
        have hf := ((HBR2.out.set 0 (.int .i64 0)).set 1 (.int .i64 0)).set 2 (.slice none 0 0)
        have r0 := hf.cell (i := 0) rfl
        have r1 := hf.cell (i := 1) rfl
        have r2 := hf.cell (i := 2) rfl
        refine bodyPost_ret (v := .tuple #[snapV 0 0 (.slice none 0 0), .int .i64 14]) (by simp [results, Tryz.f72, Tryz.results72, go_sem, r0, r1, r2]) rfl (apply_bad 14 (by omega) (by omega) (setz_kept HK2.out))
      | false =>
        go_wp2_with fail
        refine (HBY.out _ HK2.out).mono ?_
        rintro e w3 ⟨b, ys0, rfl, hM, hin, hlen, hbm, hk3⟩
        have g3 := (hk3.blk HBG2.out (fun h => h)).cell (i := 3) rfl
        have hw2 := HBR2.out.lt
        have HA : Hid (ApI w b 0 (gramC tick time base (.slice a rs.length cap)) ys0 w3) := Lib.hid ⟨hM, fun y hy => HXO.out y (hin y hy), by omega, by omega, hk3.blk HBG2.out (fun h => h), hk3.blk HBR2.out (fun h => h), HK2.out.trans hk3 (fun _ h => h.elim)⟩
        generalize hgc : gramC tick time base (.slice a rs.length cap) = gc at HA
        have HGCE := Lib.hid hgc
        clear hgc hM hin hlen hbm hk3 q0 q2 g2'
        go_wp2_with fail
        go_loopw [42] (fun i wr => ∃ (k : Nat) (ys : List EntM), k ≤ rs.length ∧ i = .int .i64 k ∧ ApI w b k gc ys wr) (fun i _ => (rs.length - intOf i).toNat)
        case atStart => exact ⟨0, _, by omega, rfl, HA.out⟩
        case round =>
          obtain ⟨k, ys, hk, rfl, hI⟩ := hrel
          have HI := Lib.hid hI
          have hlo := hI.lo
          have hbl : b < wr.heap.size := by obtain ⟨es, cl, h, -⟩ := hI.map_; exact (Array.getElem?_eq_some_iff.1 h).1
          clear hI
          by_cases hlt : k < rs.length
          · obtain ⟨r, hrk⟩ : ∃ r, rs[k]? = some r := ⟨_, List.getElem?_eq_getElem hlt⟩
            have HRI := Lib.hid (HR.out r (List.mem_of_getElem? hrk))
            have HRG := Lib.hid (HG.out r (List.mem_of_getElem? hrk))
            obtain ⟨g0, off, cap', ho, hvv, -, -, hc, -⟩ := HV.out.some (by omega)
            cases hvv
            obtain ⟨c0, c1, c2, c3, c4, c5, c6, c7, c8⟩ := rec_at (w := wr) (fun j u hu => HI.out.kept.cell (hc j u hu) (fun h => h)) hrk
            have hgl : g0 < wr.heap.size := lt_of_cell c0
            have HBR1 := Lib.hid (Blk.new wr (recC r) 175)
            have HM1 := Lib.hid (HI.out.map_.kept ((Kept.refl (fun _ => False) wr).alloc (.cells (recC r).toArray 175)) (fun h => h))
            have hlz := HI.out.zb.lt
            clear hc hrk
            rcases look_any HM1.out r.id with ⟨x, hxm, hxid, hlk⟩ | ⟨hno, hlk⟩
            · have HLK := Lib.hid hlk
              have HXO2 := Lib.hid (HI.out.ok x hxm)
              have HXI := Lib.hid hxid
              have HZ2 := Lib.hid ((HI.out.zb.alloc (.cells (recC r).toArray 175)).alloc (.cells (entC x).toArray 39))
              have HK2 := Lib.hid (((Kept.refl (fun _ => False) wr).alloc (.cells (recC r).toArray 175)).alloc (.cells (entC x).toArray 39))
              clear hlk hxm hxid
              by_cases e0 : r.kind = 0
              · have e1 : (r.kind == 0) = true := by simp [e0]
                have HE0 := Lib.hid e0
                clear e0
                have z0 := HZ2.out.cell (i := 0) rfl
                have z1 := HZ2.out.cell (i := 1) rfl
                have z2 := HZ2.out.cell (i := 2) rfl
                have y0 := HZ2.out.free 0
                have y1 := HZ2.out.free 1
                have y2 := HZ2.out.free 2
                go_wp2_with (at_lookup; refine wpList_lookup_run rfl _ _ _ _ rfl _ _ _ rfl rfl HLK.out ?_)
                have hf := ((HZ2.out.set 0 (.int .i64 0)).set 1 (.int .i64 0)).set 2 (.slice none 0 0)
                have r0 := hf.cell (i := 0) rfl
                have r1 := hf.cell (i := 1) rfl
                have r2 := hf.cell (i := 2) rfl
                refine bodyPost_ret (v := .tuple #[snapV 0 0 (.slice none 0 0), .int .i64 15]) (by simp [results, Tryz.f72, Tryz.results72, go_sem, r0, r1, r2]) rfl (apply_bad 15 (by omega) (by omega) (setz_kept (HI.out.kept.trans HK2.out (fun _ h => h.elim))))
              · have e1 : (r.kind == 0) = false := by simp [e0]
                have HE0 := Lib.hid e0
                clear e0
                by_cases e2 : r.kind = 2
                · have e3 : (r.kind == 2) = true := by simp [e2]
                  clear e2
                  obtain ⟨W2, hdel, hDP⟩ := delete_any (HI.out.map_.kept HK2.out (fun h => h)) r.id 0
                  have HD := Lib.hid hdel
                  have HDP := Lib.hid hDP
                  clear hdel hDP
                  go_wp2_with (first
                    | (at_lookup; refine wpList_lookup_run rfl _ _ _ _ rfl _ _ _ rfl rfl HLK.out ?_)
                    | (at_delete; refine wpList_delete_run rfl _ _ _ _ rfl _ _ _ rfl rfl HD.out ?_))
                  obtain ⟨ys2, hM2, hKD, hsub⟩ := HDP.out
                  exact ⟨⟨k + 1, ys2, by omega, by simp, HI.out.to ((HK2.out.mono (G := (· = b)) (fun _ _ h => h.elim)).trans hKD (fun _ h => .inl h)) hM2 (fun y hy => HI.out.ok y (hsub.subset hy)) (by have := hsub.length_le; omega)⟩, by simp [intOf]; omega⟩
                · have e3 : (r.kind == 2) = false := by simp [e2]
                  have HEA := Lib.hid (fun W => eapply_any x HXO2.out r HRI.out HRG.out.ck HXI.out (by have := HRG.out.k0; have := HRG.out.k1; have := HE0.out; omega) W)
                  have HBR2 := Lib.hid (HBR1.out.alloc (.cells (entC x).toArray 39))
                  have HBE2 := Lib.hid (Blk.new_at (w := wr.alloc (.cells (recC r).toArray 175)) (n := wr.heap.size + 1) (by simp) (entC x) 39)
                  have HMP := Lib.hid (HI.out.map_.kept HK2.out (fun h => h))
                  obtain ⟨u0, u1, u2, u3, u4, u5, u6, u7, u8, t0, t1, t2, t3, t4, t5, t6, t7, t8⟩ := rec_ent HBR2.out HBE2.out
                  clear e2
                  go_wp2_with (at_lookup; refine wpList_lookup_run rfl _ _ _ _ rfl _ _ _ rfl rfl HLK.out ?_)
                  go_region_held3 (fun w' => w'.cell? ⟨wr.heap.size, 0, none⟩ = some (.int .i64 r.kind) ∧ w'.cell? ⟨wr.heap.size, 1, none⟩ = some (.int .i64 r.id) ∧ w'.cell? ⟨wr.heap.size, 2, none⟩ = some (.int .i64 r.p0) ∧ w'.cell? ⟨wr.heap.size, 3, none⟩ = some (.int .i64 r.p1) ∧ w'.cell? ⟨wr.heap.size, 4, none⟩ = some (.int .i64 r.p2) ∧ w'.cell? ⟨wr.heap.size, 5, none⟩ = some (.int .i64 r.v0) ∧ w'.cell? ⟨wr.heap.size, 6, none⟩ = some (.int .i64 r.v1) ∧ w'.cell? ⟨wr.heap.size, 7, none⟩ = some (.int .i64 r.v2) ∧ w'.cell? ⟨wr.heap.size, 8, none⟩ = some (.int .u16 r.ang) ∧ w'.cell? ⟨wr.heap.size + 1, 0, none⟩ = some (.int .i64 x.id) ∧ w'.cell? ⟨wr.heap.size + 1, 1, none⟩ = some (.int .i64 x.p0) ∧ w'.cell? ⟨wr.heap.size + 1, 2, none⟩ = some (.int .i64 x.p1) ∧ w'.cell? ⟨wr.heap.size + 1, 3, none⟩ = some (.int .i64 x.p2) ∧ w'.cell? ⟨wr.heap.size + 1, 4, none⟩ = some (.int .i64 x.v0) ∧ w'.cell? ⟨wr.heap.size + 1, 5, none⟩ = some (.int .i64 x.v1) ∧ w'.cell? ⟨wr.heap.size + 1, 6, none⟩ = some (.int .i64 x.v2) ∧ w'.cell? ⟨wr.heap.size + 1, 7, none⟩ = some (.int .u16 x.ang) ∧ w'.cell? ⟨wr.heap.size + 1, 8, none⟩ = some (.int .u8 x.gen))
                    (first | (go_keep; done) | exact rec_ent HR3.out HE3.out | exact rec_ent HR4.out HE4.out | exact rec_ent HBR2.out HBE2.out | exact rec_ent HBR2.out.drew HBE2.out.drew)
                    (first
                      | (go_at_call 118; refine (HEA.out _).mono ?_; rintro e w3 ⟨y, rfl, hyo, hyi, hk3⟩; have HYO := Lib.hid hyo; have HR3 := Lib.hid (hk3.blk HBR2.out.drew (fun h => h)); have HE3 := Lib.hid (hk3.blk HBE2.out.drew (fun h => h)); have HK3 := Lib.hid (HK2.out.drew.trans hk3 (fun _ h => h.elim)); obtain ⟨W4, hup, hUP⟩ := update_any (HI.out.map_.kept HK3.out (fun h => h)) y; rw [hyi, HXI.out] at hup; have HUP := Lib.hid hUP; obtain ⟨-, -, hKU4, -, -⟩ := hUP; have HR4 := Lib.hid (hKU4.blk HR3.out (by omega)); have HE4 := Lib.hid (hKU4.blk HE3.out (by omega)); clear hKU4 hyo hyi hk3)
                      | (refine step_mapUpdate_run (by rfl) _ _ _ _ (by rfl) _ _ _ _ (by rfl) (by rfl) (by rfl) HU.out ?_; intro d))
                  go_wp2_with fail
                  obtain ⟨ys2, hM2, hKU, hin, hle⟩ := HUP.out
                  exact ⟨⟨k + 1, ys2, by omega, by simp, HI.out.to ((HK3.out.mono (G := (· = b)) (fun _ _ h => h.elim)).trans hKU (fun _ h => .inl h)) hM2 (fun z hz => by rcases hin z hz with h | h; exact HI.out.ok z h; rw [h]; exact HYO.out) hle⟩, by simp [intOf]; omega⟩
            · have HLK := Lib.hid hlk
              have HZ2 := Lib.hid ((HI.out.zb.alloc (.cells (recC r).toArray 175)).alloc (.cells zentC.toArray 39))
              have HK2 := Lib.hid (((Kept.refl (fun _ => False) wr).alloc (.cells (recC r).toArray 175)).alloc (.cells zentC.toArray 39))
              clear hlk hno
              by_cases e0 : r.kind = 0
              · have e1 : (r.kind == 0) = true := by simp [e0]
                clear e0
                have HNO : Hid (EntM.Ok ⟨r.id, r.p0, r.p1, r.p2, r.v0, r.v1, r.v2, r.ang, 0⟩) := Lib.hid ⟨HRI.out.ok.ns, HRI.out.ok.ang, Nat.zero_le _, HRG.out.i0, HRG.out.i1⟩
                obtain ⟨W2, hup, hUP⟩ := update_any (HI.out.map_.kept HK2.out (fun h => h)) ⟨r.id, r.p0, r.p1, r.p2, r.v0, r.v1, r.v2, r.ang, 0⟩
                have HU := Lib.hid hup
                have HUP := Lib.hid hUP
                clear hup hUP
                go_wp2_with (first
                  | (at_lookup; refine wpList_lookup_run rfl _ _ _ _ rfl _ _ _ rfl rfl HLK.out ?_)
                  | (at_mapUpdate; refine wpList_mapUpdate_run rfl _ _ _ _ rfl _ _ _ _ rfl rfl rfl HU.out ?_; intro d))
                obtain ⟨ys2, hM2, hKU, hin, hle⟩ := HUP.out
                exact ⟨⟨k + 1, ys2, by omega, by simp, HI.out.to ((HK2.out.mono (G := (· = b)) (fun _ _ h => h.elim)).trans hKU (fun _ h => .inl h)) hM2 (fun z hz => by rcases hin z hz with h | h; exact HI.out.ok z h; rw [h]; exact HNO.out) hle⟩, by simp [intOf]; omega⟩
              · have e1 : (r.kind == 0) = false := by simp [e0]
                clear e0
                have z0 := HZ2.out.cell (i := 0) rfl
                have z1 := HZ2.out.cell (i := 1) rfl
                have z2 := HZ2.out.cell (i := 2) rfl
                have y0 := HZ2.out.free 0
                have y1 := HZ2.out.free 1
                have y2 := HZ2.out.free 2
                go_wp2_with (at_lookup; refine wpList_lookup_run rfl _ _ _ _ rfl _ _ _ rfl rfl HLK.out ?_)
                have hf := ((HZ2.out.set 0 (.int .i64 0)).set 1 (.int .i64 0)).set 2 (.slice none 0 0)
                have r0 := hf.cell (i := 0) rfl
                have r1 := hf.cell (i := 1) rfl
                have r2 := hf.cell (i := 2) rfl
                refine bodyPost_ret (v := .tuple #[snapV 0 0 (.slice none 0 0), .int .i64 15]) (by simp [results, Tryz.f72, Tryz.results72, go_sem, r0, r1, r2]) rfl (apply_bad 15 (by omega) (by omega) (setz_kept (HI.out.kept.trans HK2.out (fun _ h => h.elim))))
          · have HLN := Lib.hid (fun ty => len_any HI.out.map_ ty)
            cases hbig : decide (64 < ys.length) with
            | true =>
              have hbg : 64 < ys.length := by simpa using hbig
              have HIZ := Lib.hid HI.out.zb
              have z0 := HIZ.out.cell (i := 0) rfl
              have z1 := HIZ.out.cell (i := 1) rfl
              have z2 := HIZ.out.cell (i := 2) rfl
              have y0 := HIZ.out.free 0
              have y1 := HIZ.out.free 1
              have y2 := HIZ.out.free 2
              go_wp2_with (at_len; refine wpList_len_run rfl _ _ rfl _ _ rfl (HLN.out _) ?_)
              have hf := ((HIZ.out.set 0 (.int .i64 0)).set 1 (.int .i64 0)).set 2 (.slice none 0 0)
              have r0 := hf.cell (i := 0) rfl
              have r1 := hf.cell (i := 1) rfl
              have r2 := hf.cell (i := 2) rfl
              refine bodyPost_ret (v := .tuple #[snapV 0 0 (.slice none 0 0), .int .i64 4]) (by simp [results, Tryz.f72, Tryz.results72, go_sem, r0, r1, r2]) rfl (apply_bad 4 (by omega) (by omega) (setz_kept HI.out.kept))
            | false =>
              have hbg : ys.length ≤ 64 := by simp at hbig; omega
              have HYS := Lib.hid HI.out.ok
              go_wp2_with (at_len; refine wpList_len_run rfl _ _ rfl _ _ rfl (HLN.out _) ?_)
              refine (HVC.out b _).mono ?_
              rintro e w2 ⟨rfl, hw2⟩
              have hK2 : Kept (fun _ => False) wr w2 := by rw [hw2]; exact (Kept.refl _ _).alloc _
              have hB2 : wr.heap.size < w2.heap.size := by rw [hw2]; simp
              have hC2 : w2.cell? ⟨wr.heap.size, 0, none⟩ = some (.map (some b)) := by
                rw [hw2]; exact (Blk.new wr [.map (some b)] 133).cell (i := 0) rfl
              have HSC2 := Lib.hid (sorted_any ys wr.heap.size b w2 hB2 hC2 (HI.out.map_.kept hK2 (fun h => h)) hbg)
              have HK2 := Lib.hid hK2
              clear hw2 hK2 hB2 hC2
              go_wp2_with fail
              refine (HSC2.out).mono ?_
              rintro e w3 ⟨v3, zs, rfl, hperm, hsrt, hE3, hk3⟩
              obtain ⟨av, cpv, rfl, -, -⟩ := hE3.form
              have HE3 := Lib.hid hE3
              have HPM := Lib.hid (And.intro hperm hsrt)
              have KS0 : Kept (fun _ => False) wr w3 := HK2.out.trans hk3 (fun _ h => h.elim)
              have BG := KS0.blk HI.out.gb (fun h => h)
              rw [← HGCE.out] at BG
              have BR := KS0.blk HI.out.zb (fun h => h)
              have HBR3 := Lib.hid BR
              have HKK := Lib.hid (HI.out.kept.trans KS0 (fun _ h => h.elim))
              have hz := HK2.out.size
              have hzr := HI.out.kept.size
              have g0 := BG.cell (i := 0) rfl
              have g1 := BG.cell (i := 1) rfl
              have r0 := BR.cell (i := 0) rfl
              have r1 := BR.cell (i := 1) rfl
              have r2 := BR.cell (i := 2) rfl
              have f0 := BR.free 0
              have f1 := BR.free 1
              have f2 := BR.free 2
              have HMI := Lib.hid (mapE_ids HI.out.map_)
              clear hE3 hk3 KS0 BG BR hperm hsrt
              go_wp2_with fail
              have hf2 := (((HBR3.out.set 0 (.int .i64 tick)).set 1 (.int .i64 time)).set 2 (.slice av zs.length cpv))
              have KS := (((Kept.refl (· = w.heap.size + 1 + 1) w3).setCell (a := ⟨w.heap.size + 1 + 1, 0, none⟩) (.inl rfl) (.int .i64 tick)).setCell (a := ⟨w.heap.size + 1 + 1, 1, none⟩) (.inl rfl) (.int .i64 time)).setCell (a := ⟨w.heap.size + 1 + 1, 2, none⟩) (.inl rfl) (.slice av zs.length cpv)
              have d0 := hf2.cell (i := 0) rfl
              have d1 := hf2.cell (i := 1) rfl
              have d2 := hf2.cell (i := 2) rfl
              refine bodyPost_ret (v := .tuple #[snapV tick time (.slice av zs.length cpv), .int .i64 0]) (by simp [results, Tryz.f72, Tryz.results72, go_sem, d0, d1, d2]) rfl ⟨tick, time, zs, _, 0, rfl, by omega, by omega, HS.out, ?_, ?_, HKK.out.trans KS (fun i hi => .inr (by omega))⟩
              · have hp := HPM.out.1
                exact ⟨by rw [hp.length_eq]; exact hbg, fun z hz => HYS.out z (hp.mem_iff.1 hz), ents_rise hp HPM.out.2 HMI.out⟩
              · exact (HE3.out.kept KS (fun g hg e => by have hg2 : _ ≤ g := hg; omega)).mono (fun g _ hg => by have hg2 : _ ≤ g := hg; omega)
    · have HA : Hid (ApI w w1.heap.size 0 (gramC tick time base (.slice a rs.length cap)) [] (w1.alloc (.map #[] 0))) := Lib.hid ⟨mapE_new w1, by simp, by simp, by omega, HBG.out.alloc _, HBR.out.alloc _, HK1.out.alloc _⟩
      generalize hgc : gramC tick time base (.slice a rs.length cap) = gc at HA
      have HGCE := Lib.hid hgc
      clear hgc
      generalize hbb : w1.heap.size = b at HA
      go_wp2_with fail
      go_loopw [42] (fun i wr => ∃ (k : Nat) (ys : List EntM), k ≤ rs.length ∧ i = .int .i64 k ∧ ApI w b k gc ys wr) (fun i _ => (rs.length - intOf i).toNat)
      case atStart => exact ⟨0, _, by omega, rfl, HA.out⟩
      case round =>
        obtain ⟨k, ys, hk, rfl, hI⟩ := hrel
        have HI := Lib.hid hI
        have hlo := hI.lo
        have hbl : b < wr.heap.size := by obtain ⟨es, cl, h, -⟩ := hI.map_; exact (Array.getElem?_eq_some_iff.1 h).1
        clear hI
        by_cases hlt : k < rs.length
        · obtain ⟨r, hrk⟩ : ∃ r, rs[k]? = some r := ⟨_, List.getElem?_eq_getElem hlt⟩
          have HRI := Lib.hid (HR.out r (List.mem_of_getElem? hrk))
          have HRG := Lib.hid (HG.out r (List.mem_of_getElem? hrk))
          obtain ⟨g0, off, cap', ho, hvv, -, -, hc, -⟩ := HV.out.some (by omega)
          cases hvv
          obtain ⟨c0, c1, c2, c3, c4, c5, c6, c7, c8⟩ := rec_at (w := wr) (fun j u hu => HI.out.kept.cell (hc j u hu) (fun h => h)) hrk
          have hgl : g0 < wr.heap.size := lt_of_cell c0
          have HBR1 := Lib.hid (Blk.new wr (recC r) 175)
          have HM1 := Lib.hid (HI.out.map_.kept ((Kept.refl (fun _ => False) wr).alloc (.cells (recC r).toArray 175)) (fun h => h))
          have hlz := HI.out.zb.lt
          clear hc hrk
          rcases look_any HM1.out r.id with ⟨x, hxm, hxid, hlk⟩ | ⟨hno, hlk⟩
          · have HLK := Lib.hid hlk
            have HXO2 := Lib.hid (HI.out.ok x hxm)
            have HXI := Lib.hid hxid
            have HZ2 := Lib.hid ((HI.out.zb.alloc (.cells (recC r).toArray 175)).alloc (.cells (entC x).toArray 39))
            have HK2 := Lib.hid (((Kept.refl (fun _ => False) wr).alloc (.cells (recC r).toArray 175)).alloc (.cells (entC x).toArray 39))
            clear hlk hxm hxid
            by_cases e0 : r.kind = 0
            · have e1 : (r.kind == 0) = true := by simp [e0]
              have HE0 := Lib.hid e0
              clear e0
              have z0 := HZ2.out.cell (i := 0) rfl
              have z1 := HZ2.out.cell (i := 1) rfl
              have z2 := HZ2.out.cell (i := 2) rfl
              have y0 := HZ2.out.free 0
              have y1 := HZ2.out.free 1
              have y2 := HZ2.out.free 2
              go_wp2_with (at_lookup; refine wpList_lookup_run rfl _ _ _ _ rfl _ _ _ rfl rfl HLK.out ?_)
              have hf := ((HZ2.out.set 0 (.int .i64 0)).set 1 (.int .i64 0)).set 2 (.slice none 0 0)
              have r0 := hf.cell (i := 0) rfl
              have r1 := hf.cell (i := 1) rfl
              have r2 := hf.cell (i := 2) rfl
              refine bodyPost_ret (v := .tuple #[snapV 0 0 (.slice none 0 0), .int .i64 15]) (by simp [results, Tryz.f72, Tryz.results72, go_sem, r0, r1, r2]) rfl (apply_bad 15 (by omega) (by omega) (setz_kept (HI.out.kept.trans HK2.out (fun _ h => h.elim))))
            · have e1 : (r.kind == 0) = false := by simp [e0]
              have HE0 := Lib.hid e0
              clear e0
              by_cases e2 : r.kind = 2
              · have e3 : (r.kind == 2) = true := by simp [e2]
                clear e2
                obtain ⟨W2, hdel, hDP⟩ := delete_any (HI.out.map_.kept HK2.out (fun h => h)) r.id 0
                have HD := Lib.hid hdel
                have HDP := Lib.hid hDP
                clear hdel hDP
                go_wp2_with (first
                  | (at_lookup; refine wpList_lookup_run rfl _ _ _ _ rfl _ _ _ rfl rfl HLK.out ?_)
                  | (at_delete; refine wpList_delete_run rfl _ _ _ _ rfl _ _ _ rfl rfl HD.out ?_))
                obtain ⟨ys2, hM2, hKD, hsub⟩ := HDP.out
                exact ⟨⟨k + 1, ys2, by omega, by simp, HI.out.to ((HK2.out.mono (G := (· = b)) (fun _ _ h => h.elim)).trans hKD (fun _ h => .inl h)) hM2 (fun y hy => HI.out.ok y (hsub.subset hy)) (by have := hsub.length_le; omega)⟩, by simp [intOf]; omega⟩
              · have e3 : (r.kind == 2) = false := by simp [e2]
                have HEA := Lib.hid (fun W => eapply_any x HXO2.out r HRI.out HRG.out.ck HXI.out (by have := HRG.out.k0; have := HRG.out.k1; have := HE0.out; omega) W)
                have HBR2 := Lib.hid (HBR1.out.alloc (.cells (entC x).toArray 39))
                have HBE2 := Lib.hid (Blk.new_at (w := wr.alloc (.cells (recC r).toArray 175)) (n := wr.heap.size + 1) (by simp) (entC x) 39)
                have HMP := Lib.hid (HI.out.map_.kept HK2.out (fun h => h))
                obtain ⟨u0, u1, u2, u3, u4, u5, u6, u7, u8, t0, t1, t2, t3, t4, t5, t6, t7, t8⟩ := rec_ent HBR2.out HBE2.out
                clear e2
                go_wp2_with (at_lookup; refine wpList_lookup_run rfl _ _ _ _ rfl _ _ _ rfl rfl HLK.out ?_)
                go_region_held3 (fun w' => w'.cell? ⟨wr.heap.size, 0, none⟩ = some (.int .i64 r.kind) ∧ w'.cell? ⟨wr.heap.size, 1, none⟩ = some (.int .i64 r.id) ∧ w'.cell? ⟨wr.heap.size, 2, none⟩ = some (.int .i64 r.p0) ∧ w'.cell? ⟨wr.heap.size, 3, none⟩ = some (.int .i64 r.p1) ∧ w'.cell? ⟨wr.heap.size, 4, none⟩ = some (.int .i64 r.p2) ∧ w'.cell? ⟨wr.heap.size, 5, none⟩ = some (.int .i64 r.v0) ∧ w'.cell? ⟨wr.heap.size, 6, none⟩ = some (.int .i64 r.v1) ∧ w'.cell? ⟨wr.heap.size, 7, none⟩ = some (.int .i64 r.v2) ∧ w'.cell? ⟨wr.heap.size, 8, none⟩ = some (.int .u16 r.ang) ∧ w'.cell? ⟨wr.heap.size + 1, 0, none⟩ = some (.int .i64 x.id) ∧ w'.cell? ⟨wr.heap.size + 1, 1, none⟩ = some (.int .i64 x.p0) ∧ w'.cell? ⟨wr.heap.size + 1, 2, none⟩ = some (.int .i64 x.p1) ∧ w'.cell? ⟨wr.heap.size + 1, 3, none⟩ = some (.int .i64 x.p2) ∧ w'.cell? ⟨wr.heap.size + 1, 4, none⟩ = some (.int .i64 x.v0) ∧ w'.cell? ⟨wr.heap.size + 1, 5, none⟩ = some (.int .i64 x.v1) ∧ w'.cell? ⟨wr.heap.size + 1, 6, none⟩ = some (.int .i64 x.v2) ∧ w'.cell? ⟨wr.heap.size + 1, 7, none⟩ = some (.int .u16 x.ang) ∧ w'.cell? ⟨wr.heap.size + 1, 8, none⟩ = some (.int .u8 x.gen))
                  (first | (go_keep; done) | exact rec_ent HR3.out HE3.out | exact rec_ent HR4.out HE4.out | exact rec_ent HBR2.out HBE2.out | exact rec_ent HBR2.out.drew HBE2.out.drew)
                  (first
                    | (go_at_call 118; refine (HEA.out _).mono ?_; rintro e w3 ⟨y, rfl, hyo, hyi, hk3⟩; have HYO := Lib.hid hyo; have HR3 := Lib.hid (hk3.blk HBR2.out.drew (fun h => h)); have HE3 := Lib.hid (hk3.blk HBE2.out.drew (fun h => h)); have HK3 := Lib.hid (HK2.out.drew.trans hk3 (fun _ h => h.elim)); obtain ⟨W4, hup, hUP⟩ := update_any (HI.out.map_.kept HK3.out (fun h => h)) y; rw [hyi, HXI.out] at hup; have HUP := Lib.hid hUP; obtain ⟨-, -, hKU4, -, -⟩ := hUP; have HR4 := Lib.hid (hKU4.blk HR3.out (by omega)); have HE4 := Lib.hid (hKU4.blk HE3.out (by omega)); clear hKU4 hyo hyi hk3)
                    | (refine step_mapUpdate_run (by rfl) _ _ _ _ (by rfl) _ _ _ _ (by rfl) (by rfl) (by rfl) HU.out ?_; intro d))
                go_wp2_with fail
                obtain ⟨ys2, hM2, hKU, hin, hle⟩ := HUP.out
                exact ⟨⟨k + 1, ys2, by omega, by simp, HI.out.to ((HK3.out.mono (G := (· = b)) (fun _ _ h => h.elim)).trans hKU (fun _ h => .inl h)) hM2 (fun z hz => by rcases hin z hz with h | h; exact HI.out.ok z h; rw [h]; exact HYO.out) hle⟩, by simp [intOf]; omega⟩
          · have HLK := Lib.hid hlk
            have HZ2 := Lib.hid ((HI.out.zb.alloc (.cells (recC r).toArray 175)).alloc (.cells zentC.toArray 39))
            have HK2 := Lib.hid (((Kept.refl (fun _ => False) wr).alloc (.cells (recC r).toArray 175)).alloc (.cells zentC.toArray 39))
            clear hlk hno
            by_cases e0 : r.kind = 0
            · have e1 : (r.kind == 0) = true := by simp [e0]
              clear e0
              have HNO : Hid (EntM.Ok ⟨r.id, r.p0, r.p1, r.p2, r.v0, r.v1, r.v2, r.ang, 0⟩) := Lib.hid ⟨HRI.out.ok.ns, HRI.out.ok.ang, Nat.zero_le _, HRG.out.i0, HRG.out.i1⟩
              obtain ⟨W2, hup, hUP⟩ := update_any (HI.out.map_.kept HK2.out (fun h => h)) ⟨r.id, r.p0, r.p1, r.p2, r.v0, r.v1, r.v2, r.ang, 0⟩
              have HU := Lib.hid hup
              have HUP := Lib.hid hUP
              clear hup hUP
              go_wp2_with (first
                | (at_lookup; refine wpList_lookup_run rfl _ _ _ _ rfl _ _ _ rfl rfl HLK.out ?_)
                | (at_mapUpdate; refine wpList_mapUpdate_run rfl _ _ _ _ rfl _ _ _ _ rfl rfl rfl HU.out ?_; intro d))
              obtain ⟨ys2, hM2, hKU, hin, hle⟩ := HUP.out
              exact ⟨⟨k + 1, ys2, by omega, by simp, HI.out.to ((HK2.out.mono (G := (· = b)) (fun _ _ h => h.elim)).trans hKU (fun _ h => .inl h)) hM2 (fun z hz => by rcases hin z hz with h | h; exact HI.out.ok z h; rw [h]; exact HNO.out) hle⟩, by simp [intOf]; omega⟩
            · have e1 : (r.kind == 0) = false := by simp [e0]
              clear e0
              have z0 := HZ2.out.cell (i := 0) rfl
              have z1 := HZ2.out.cell (i := 1) rfl
              have z2 := HZ2.out.cell (i := 2) rfl
              have y0 := HZ2.out.free 0
              have y1 := HZ2.out.free 1
              have y2 := HZ2.out.free 2
              go_wp2_with (at_lookup; refine wpList_lookup_run rfl _ _ _ _ rfl _ _ _ rfl rfl HLK.out ?_)
              have hf := ((HZ2.out.set 0 (.int .i64 0)).set 1 (.int .i64 0)).set 2 (.slice none 0 0)
              have r0 := hf.cell (i := 0) rfl
              have r1 := hf.cell (i := 1) rfl
              have r2 := hf.cell (i := 2) rfl
              refine bodyPost_ret (v := .tuple #[snapV 0 0 (.slice none 0 0), .int .i64 15]) (by simp [results, Tryz.f72, Tryz.results72, go_sem, r0, r1, r2]) rfl (apply_bad 15 (by omega) (by omega) (setz_kept (HI.out.kept.trans HK2.out (fun _ h => h.elim))))
        · have HLN := Lib.hid (fun ty => len_any HI.out.map_ ty)
          cases hbig : decide (64 < ys.length) with
          | true =>
            have hbg : 64 < ys.length := by simpa using hbig
            have HIZ := Lib.hid HI.out.zb
            have z0 := HIZ.out.cell (i := 0) rfl
            have z1 := HIZ.out.cell (i := 1) rfl
            have z2 := HIZ.out.cell (i := 2) rfl
            have y0 := HIZ.out.free 0
            have y1 := HIZ.out.free 1
            have y2 := HIZ.out.free 2
            go_wp2_with (at_len; refine wpList_len_run rfl _ _ rfl _ _ rfl (HLN.out _) ?_)
            have hf := ((HIZ.out.set 0 (.int .i64 0)).set 1 (.int .i64 0)).set 2 (.slice none 0 0)
            have r0 := hf.cell (i := 0) rfl
            have r1 := hf.cell (i := 1) rfl
            have r2 := hf.cell (i := 2) rfl
            refine bodyPost_ret (v := .tuple #[snapV 0 0 (.slice none 0 0), .int .i64 4]) (by simp [results, Tryz.f72, Tryz.results72, go_sem, r0, r1, r2]) rfl (apply_bad 4 (by omega) (by omega) (setz_kept HI.out.kept))
          | false =>
            have hbg : ys.length ≤ 64 := by simp at hbig; omega
            have HYS := Lib.hid HI.out.ok
            go_wp2_with (at_len; refine wpList_len_run rfl _ _ rfl _ _ rfl (HLN.out _) ?_)
            refine (HVC.out b _).mono ?_
            rintro e w2 ⟨rfl, hw2⟩
            have hK2 : Kept (fun _ => False) wr w2 := by rw [hw2]; exact (Kept.refl _ _).alloc _
            have hB2 : wr.heap.size < w2.heap.size := by rw [hw2]; simp
            have hC2 : w2.cell? ⟨wr.heap.size, 0, none⟩ = some (.map (some b)) := by
              rw [hw2]; exact (Blk.new wr [.map (some b)] 133).cell (i := 0) rfl
            have HSC2 := Lib.hid (sorted_any ys wr.heap.size b w2 hB2 hC2 (HI.out.map_.kept hK2 (fun h => h)) hbg)
            have HK2 := Lib.hid hK2
            clear hw2 hK2 hB2 hC2
            go_wp2_with fail
            refine (HSC2.out).mono ?_
            rintro e w3 ⟨v3, zs, rfl, hperm, hsrt, hE3, hk3⟩
            obtain ⟨av, cpv, rfl, -, -⟩ := hE3.form
            have HE3 := Lib.hid hE3
            have HPM := Lib.hid (And.intro hperm hsrt)
            have KS0 : Kept (fun _ => False) wr w3 := HK2.out.trans hk3 (fun _ h => h.elim)
            have BG := KS0.blk HI.out.gb (fun h => h)
            rw [← HGCE.out] at BG
            have BR := KS0.blk HI.out.zb (fun h => h)
            have HBR3 := Lib.hid BR
            have HKK := Lib.hid (HI.out.kept.trans KS0 (fun _ h => h.elim))
            have hz := HK2.out.size
            have hzr := HI.out.kept.size
            have g0 := BG.cell (i := 0) rfl
            have g1 := BG.cell (i := 1) rfl
            have r0 := BR.cell (i := 0) rfl
            have r1 := BR.cell (i := 1) rfl
            have r2 := BR.cell (i := 2) rfl
            have f0 := BR.free 0
            have f1 := BR.free 1
            have f2 := BR.free 2
            have HMI := Lib.hid (mapE_ids HI.out.map_)
            clear hE3 hk3 KS0 BG BR hperm hsrt
            go_wp2_with fail
            have hf2 := (((HBR3.out.set 0 (.int .i64 tick)).set 1 (.int .i64 time)).set 2 (.slice av zs.length cpv))
            have KS := (((Kept.refl (· = w.heap.size + 1 + 1) w3).setCell (a := ⟨w.heap.size + 1 + 1, 0, none⟩) (.inl rfl) (.int .i64 tick)).setCell (a := ⟨w.heap.size + 1 + 1, 1, none⟩) (.inl rfl) (.int .i64 time)).setCell (a := ⟨w.heap.size + 1 + 1, 2, none⟩) (.inl rfl) (.slice av zs.length cpv)
            have d0 := hf2.cell (i := 0) rfl
            have d1 := hf2.cell (i := 1) rfl
            have d2 := hf2.cell (i := 2) rfl
            refine bodyPost_ret (v := .tuple #[snapV tick time (.slice av zs.length cpv), .int .i64 0]) (by simp [results, Tryz.f72, Tryz.results72, go_sem, d0, d1, d2]) rfl ⟨tick, time, zs, _, 0, rfl, by omega, by omega, HS.out, ?_, ?_, HKK.out.trans KS (fun i hi => .inr (by omega))⟩
            · have hp := HPM.out.1
              exact ⟨by rw [hp.length_eq]; exact hbg, fun z hz => HYS.out z (hp.mem_iff.1 hz), ents_rise hp HPM.out.2 HMI.out⟩
            · exact (HE3.out.kept KS (fun g hg e => by have hg2 : _ ≤ g := hg; omega)).mono (fun g _ hg => by have hg2 : _ ≤ g := hg; omega)
end Go.Proofs.YtekdkckgmleofaaGreat

/- Contract of store.snap of any bytes. -/
namespace Go.Proofs.YtekdkckgmleofaaGreat
open Go.RowKit
/-- What is known of any snapshot. -/
def AnyP (tick time : Int) (ents : List EntM) : Prop := SnapOk tick time ∧ EntsOk ents
def refM (e why : Int) (b : Bool) : Int := if e = 0 ∧ b = true then why else e
theorem refM_bd {e why : Int} {b : Bool} (h0 : 0 ≤ e) (h1 : e ≤ 17) (h2 : 0 ≤ why) (h3 : why ≤ 17) : 0 ≤ refM e why b ∧ refM e why b ≤ 17 := by unfold refM; split <;> omega
theorem refM_zero {e why : Int} {b : Bool} (hw : why ≠ 0) (h : refM e why b = 0) : b = false := by
  unfold refM at h
  split at h
  · exact absurd h hw
  · rename_i hn
    cases b
    · rfl
    · exact absurd ⟨h, rfl⟩ hn
def RefPost (c : Nat) (e why : Int) (b : Bool) (w : World) (e' : Ending) (w' : World) : Prop := e' = .returned (.tuple #[]) ∧ Blk w' c [.int .i64 (refM e why b)] 28 ∧ Kept (· = c) w w'
theorem refuse_any (why : Int) (b : Bool) (c : Nat) (e : Int) (w : World) (hc : Blk w c [.int .i64 e] 28) :
    Calls Tryz.prog 70 #[.bool b, .int .i64 why, .pointer (some ⟨c, 0, none⟩)] w (RefPost c e why b w) := by
  by_cases h : e = 0 ∧ b = true
  · obtain ⟨rfl, rfl⟩ := h
    have c0 := hc.cell (i := 0) rfl
    have f0 := hc.free 0
    have HC := Lib.hid hc
    clear hc
    go_enter Tryz.func70, Tryz.ntmps70
    go_wp2
    go_end0
    exact ⟨rfl, HC.out.set 0 (.int .i64 why), (Kept.refl (· = c) w).setCell (a := ⟨c, 0, none⟩) (.inl rfl) _⟩
  · have hr : refM e why b = e := by unfold refM; rw [if_neg h]
    refine (refuse_no why b c e w ?_ (hc.cell (i := 0) rfl)).mono ?_
    · by_cases he : e = 0
      · left
        cases b
        · rfl
        · exact absurd ⟨he, rfl⟩ h
      · exact .inr he
    · rintro e' w' ⟨rfl, rfl⟩
      exact ⟨rfl, by rw [hr]; exact hc, Kept.refl _ _⟩
/-- On the way through snap. -/
structure SnG (w : World) (g : Nat) (tick time base : Int) (rs : List RecM) (rv : Value) (ro : Option Nat) (xc : List Value) (e : Int) (W : World) : Prop where
  xb : Blk W w.heap.size xc 42
  eb : Blk W (w.heap.size + 1) [.int .i64 e] 28
  gb : Blk W g (gramC tick time base rv) 78
  gl : w.heap.size + 1 < g
  rv : Sl W rv 175 9 rs.length (rsC rs) ro
  rf : ∀ q, ro = some q → w.heap.size + 1 < q
  e0 : 0 ≤ e
  e1 : e ≤ 17
  kept : Kept (fun _ => False) w W
theorem SnG.go {w W W' : World} {g : Nat} {tick time base : Int} {rs : List RecM} {rv : Value} {ro : Option Nat} {xc : List Value} {e : Int} (h : SnG w g tick time base rs rv ro xc e W) (k : Kept (fun _ => False) W W') : SnG w g tick time base rs rv ro xc e W' :=
  ⟨k.blk h.xb (fun h => h), k.blk h.eb (fun h => h), k.blk h.gb (fun h => h), h.gl, h.rv.kept k (fun _ _ h => h), h.rf, h.e0, h.e1, h.kept.trans k (fun _ h => h.elim)⟩
theorem SnG.err {w W W' : World} {g : Nat} {tick time base : Int} {rs : List RecM} {rv : Value} {ro : Option Nat} {xc : List Value} {e e' : Int} (h : SnG w g tick time base rs rv ro xc e W) (k : Kept (· = w.heap.size + 1) W W') (hb : Blk W' (w.heap.size + 1) [.int .i64 e'] 28) (h0 : 0 ≤ e') (h1 : e' ≤ 17) : SnG w g tick time base rs rv ro xc e' W' :=
  ⟨k.blk h.xb (by omega), hb, k.blk h.gb (by have := h.gl; omega), h.gl, h.rv.kept k (fun q hq e => by have := h.rf q hq; omega), h.rf, h0, h1, h.kept.trans k (fun _ h => .inr (by omega))⟩
theorem SnG.none_at {w W : World} {g : Nat} {tick time base : Int} {rs : List RecM} {rv : Value} {ro : Option Nat} {xc : List Value} {e : Int} (_h : SnG w g tick time base rs rv ro xc e W) (fq : Nat → Prop) : EntsAt W (.slice none 0 0) [] fq := ents_none _ _
theorem Sto.on {w W : World} {s p : Nat} {fr fe : Nat → Prop} {most : Nat} {r : RingM SnapS} {cs : List Int} {P : Int → Int → List EntM → Prop} (h : Sto w s p fr fe most r cs P) (k : Kept (fun _ => False) w W) : Sto W s p fr fe most r cs P := h.kept k (fun h => h) (fun _ _ h => h) (fun _ _ h => h)
theorem Sto.base {w : World} {s p : Nat} {fr fe : Nat → Prop} {most : Nat} {r : RingM SnapS} {cs : List Int} (h : Sto w s p fr fe most r cs AnyP) (k : Int) : ∃ xs, EntsAt w (.slice (RingN.getM r.l k).a (RingN.getM r.l k).len (RingN.getM r.l k).cap) xs fe ∧ EntsOk xs ∧ SnapOk (RingN.getM r.l k).tick (RingN.getM r.l k).time := by
  cases hb : there r.l k with
  | true =>
    obtain ⟨y, hy, hk⟩ := RingN.there_some hb
    have hg : RingN.getM r.l k = y.2 := by unfold RingN.getM; rw [hb, hy]; rfl
    obtain ⟨-, ents, -, -, h4, h5⟩ := h.el y (List.mem_of_getElem? hy)
    rw [hg]
    exact ⟨ents, h4, h5.2, h5.1⟩
  | false =>
    have hg : RingN.getM r.l k = zS := by unfold RingN.getM; rw [hb]; rfl
    rw [hg]
    exact ⟨[], ents_none _ _, ⟨by simp, by simp, by simp⟩, ⟨by decide, by decide, by decide, by decide⟩⟩
def SnapG (r : RingM SnapS) (w : World) (e : Ending) (w' : World) : Prop :=
  ∃ (tick time : Int) (ys : List EntM) (v : Value) (er : Int), e = .returned (.tuple #[snapV tick time v, .int .i64 er]) ∧ 0 ≤ er ∧ er ≤ 17 ∧ SnapOk tick time ∧ EntsOk ys ∧ EntsAt w' v ys (fun g => w.heap.size ≤ g) ∧ (er = 0 → timelyM r.l tick time = true) ∧ Kept (fun _ => False) w w'
theorem EntsAt.drew {w : World} {v : Value} {xs : List EntM} {fe : Nat → Prop} (h : EntsAt w v xs fe) : EntsAt w.drew v xs fe := h
set_option maxRecDepth 100000 in
set_option maxHeartbeats 16000000 in
theorem snap_any (bs : List Nat) (hb : ∀ c ∈ bs, c < 256) (w : World) (s p : Nat) (fr fe : Nat → Prop) (most : Nat) (r : RingM SnapS) (cs : List Int) (h : Sto w s p fr fe most r cs AnyP)
    (v : Value) (hv : ByAt w v bs) :
    Calls Tryz.prog 43 #[.pointer (some ⟨s, 0, none⟩), v] w (SnapG r w) := by
  have HG := Lib.hid (fun W v h => gread_any bs W v h hb)
  have HGT := Lib.hid (fun W (h : Sto W s p fr fe most r cs AnyP) k => RingN.get_calls W p fr most r k h.ring h.m2)
  have HST := Lib.hid (fun tick W (h : Sto W s p fr fe most r cs AnyP) => stale_calls tick W s p fr fe most r cs AnyP h)
  have HTM := Lib.hid (fun tick time W (h : Sto W s p fr fe most r cs AnyP) v => timely_calls tick time v W s p fr fe most r cs AnyP h)
  have HSO := Lib.hid h
  obtain ⟨a0, cap0, rfl, -, -⟩ := hv.form
  have HV := Lib.hid hv
  have hsl := h.blk.lt
  have hmf := hmfA
  clear h hv
  generalize bs.length = nb at *
  go_enter Tryz.func43, Tryz.ntmps43
  go_wp2_with fail
  have K0 := ((Kept.refl (fun _ => False) w).alloc (.cells #[.int .i64 0, .int .i64 0, .slice none 0 0] 42)).alloc (.cells #[.int .i64 0] 28)
  refine (HG.out _ _ (HV.out.kept K0)).mono ?_
  rintro e w1 ⟨tick, time, base, rs, rv, ro, er, rfl, he0, he1, hHd, hSr, hro, hri, hrl, hk1⟩
  have B0 := hk1.blk ((Blk.new w [.int .i64 0, .int .i64 0, .slice none 0 0] 42).alloc (.cells #[.int .i64 0] 28)) (fun h => h)
  have B1 := hk1.blk (Blk.new_at (w := w.alloc (.cells #[.int .i64 0, .int .i64 0, .slice none 0 0] 42)) (n := w.heap.size + 1) (by simp) [.int .i64 0] 28) (fun h => h)
  obtain ⟨ar, cr, rfl, -, -⟩ := hSr.form
  have hrf : ∀ q, ro = some q → w.heap.size + 1 < q := fun q hq => by
    rcases hro with e | ⟨q', e, h2⟩
    · rw [e] at hq; cases hq
    · rw [e] at hq; cases hq; simp at h2; omega
  have kg := (Kept.refl (fun _ => False) w1).alloc (.cells (gramC tick time base (.slice ar rs.length cr)).toArray 78)
  have e0 := (B1.alloc (.cells (gramC tick time base (.slice ar rs.length cr)).toArray 78)).cell (i := 0) rfl
  have ef := (B1.alloc (.cells (gramC tick time base (.slice ar rs.length cr)).toArray 78)).free 0
  have KK := (K0.trans hk1 (fun _ h => h.elim)).trans kg (fun _ h => h.elim)
  have hI0 : SnG w w1.heap.size tick time base rs (.slice ar rs.length cr) ro [.int .i64 0, .int .i64 0, .slice none 0 0] 0 (w1.alloc (.cells (gramC tick time base (.slice ar rs.length cr)).toArray 78)) :=
    ⟨B0.alloc _, B1.alloc _, Blk.new w1 _ _, B1.lt, hSr.kept kg (fun _ _ h => h), hrf, by omega, by omega, KK⟩
  have HI1 : Hid (SnG w w1.heap.size tick time base rs (.slice ar rs.length cr) ro [.int .i64 0, .int .i64 0, .slice none 0 0] er ((w1.alloc (.cells (gramC tick time base (.slice ar rs.length cr)).toArray 78)).setCell ⟨w.heap.size + 1, 0, none⟩ (.int .i64 er))) := Lib.hid (hI0.err ((Kept.refl (· = w.heap.size + 1) _).setCell (a := ⟨w.heap.size + 1, 0, none⟩) (.inl rfl) (.int .i64 er)) (hI0.eb.set 0 (.int .i64 er)) he0 he1)
  have HHD := Lib.hid hHd
  have HRI := Lib.hid (And.intro hri hrl)
  clear hI0 hSr hro hrf hk1 K0 kg KK B0 B1 hHd hri hrl
  cases hne : (er != 0) with
  | true =>
    generalize hwg : ((w1.alloc (.cells (gramC tick time base (.slice ar rs.length cr)).toArray 78)).setCell ⟨w.heap.size + 1, 0, none⟩ (.int .i64 er)) = WG at HI1
    have HWG := Lib.hid hwg
    clear hwg
    go_upto_region 2 with (fail)
    refine at_world (fun W => SnG w w1.heap.size tick time base rs (.slice ar rs.length cr) ro [.int .i64 0, .int .i64 0, .slice none 0 0] er W) (by rw [← HWG.out] at HI1; exact HI1.out) ?_
    clear HI1 e0 ef HWG
    rintro W hI
    have HI := Lib.hid hI
    clear hI
    have x0 := HI.out.xb.cell (i := 0) rfl
    have x1 := HI.out.xb.cell (i := 1) rfl
    have x2 := HI.out.xb.cell (i := 2) rfl
    have f0 := HI.out.xb.free 0
    have f1 := HI.out.xb.free 1
    have f2 := HI.out.xb.free 2
    have y0 := HI.out.eb.cell (i := 0) rfl
    have yf := HI.out.eb.free 0
    go_wp2_with fail
    go_region
    go_wp2_with fail
    have kf := ((((Kept.refl (fun k => k = w.heap.size ∨ k = w.heap.size + 1) W).setCell (a := ⟨w.heap.size, 0, none⟩) (.inl (.inl rfl)) (.int .i64 0)).setCell (a := ⟨w.heap.size, 1, none⟩) (.inl (.inl rfl)) (.int .i64 0)).setCell (a := ⟨w.heap.size, 2, none⟩) (.inl (.inl rfl)) (.slice none 0 0)).setCell (a := ⟨w.heap.size + 1, 0, none⟩) (.inl (.inr rfl)) (.int .i64 er)
    have hx := ((((HI.out.xb.set 0 (.int .i64 0)).set 1 (.int .i64 0)).set 2 (.slice none 0 0)).set_ne (a := ⟨w.heap.size + 1, 0, none⟩) (by simp) (.int .i64 er)).drew
    have he := ((((HI.out.eb.set_ne (a := ⟨w.heap.size, 0, none⟩) (by simp) (.int .i64 0)).set_ne (a := ⟨w.heap.size, 1, none⟩) (by simp) (.int .i64 0)).set_ne (a := ⟨w.heap.size, 2, none⟩) (by simp) (.slice none 0 0)).set 0 (.int .i64 er)).drew
    have r0 := hx.cell (i := 0) rfl
    have r1 := hx.cell (i := 1) rfl
    have r2 := hx.cell (i := 2) rfl
    have r3 := he.cell (i := 0) rfl
    refine bodyPost_ret (v := .tuple #[snapV 0 0 (.slice none 0 0), .int .i64 er]) (by simp [results, Tryz.f43, Tryz.results43, go_sem, r0, r1, r2, r3]) rfl ?_
    refine ⟨0, 0, [], _, er, rfl, he0, he1, ⟨by omega, by omega, by omega, by omega⟩, ⟨by simp, by simp, by simp⟩, ents_none _ _, fun h => ?_, (HI.out.kept.trans kf (fun i hi => .inr (by omega))).drew⟩
    rw [h] at hne
    simp at hne
  | false =>
    obtain rfl : er = 0 := by simpa using hne
    clear hne he0 he1
    go_wp2_with fail
    refine at_world (fun W => SnG w w1.heap.size tick time base rs (.slice ar rs.length cr) ro [.int .i64 0, .int .i64 0, .slice none 0 0] 0 W) HI1.out ?_
    clear HI1 e0 ef
    rintro W hI
    generalize hth : there r.l tick = tb at *
    have HTH := Lib.hid hth
    clear hth
    go_cut [9] from 12 (fun s9 wr => s9 = .bool tb ∧ SnG w w1.heap.size tick time base rs (.slice ar rs.length cr) ro [.int .i64 0, .int .i64 0, .slice none 0 0] 0 wr)
    case first =>
      have s0 := (HSO.out.on hI.kept).blk.cell (i := 0) rfl
      have gb0 := hI.gb.cell (i := 0) rfl
      have hsW := (HSO.out.on hI.kept).blk.lt
      have hgW := hI.gb.lt
      have ns : s ≠ W.heap.size := by omega
      have ng : w1.heap.size ≠ W.heap.size := by omega
      have HI := Lib.hid hI
      have HGA := Lib.hid (fun W' (k : Kept (fun _ => False) W W') => HGT.out W' (HSO.out.on (HI.out.go k).kept) tick)
      rw [HTH.out] at HGA
      generalize RingN.getM r.l tick = tx0 at *
      clear hI
      have HKB : Hid (∀ W', Kept (fun k => k = W.heap.size) W W' → W'.cell? ⟨s, 0, none⟩ = some (.pointer (some ⟨p, 0, none⟩)) ∧ W'.cell? ⟨w1.heap.size, 0, none⟩ = some (.int .i64 tick)) := Lib.hid (fun W' k => ⟨k.cell s0 ns, k.cell gb0 ng⟩)
      go_region_held3 (fun w' => w'.cell? ⟨s, 0, none⟩ = some (.pointer (some ⟨p, 0, none⟩)) ∧ w'.cell? ⟨w1.heap.size, 0, none⟩ = some (.int .i64 tick))
        (first | (go_keep; done) | (refine HKB.out _ ?_; with_reducible (first
          | exact ((Kept.refl (fun k => k = W.heap.size) W).drew).trans hk2 (fun _ h => h.elim)
          | exact (((Kept.refl (fun k => k = W.heap.size) W).alloc _).drew).trans hk2 (fun _ h => h.elim)
          | exact (((Kept.refl (fun k => k = W.heap.size) W).drew).trans hk2 (fun _ h => h.elim)).alloc _
          | exact (((((((Kept.refl (fun k => k = W.heap.size) W).alloc _).drew).trans hk2 (fun _ h => h.elim)).setCell (a := ⟨W.heap.size, 0, none⟩) (.inl rfl) _).setCell (a := ⟨W.heap.size, 1, none⟩) (.inl rfl) _).setCell (a := ⟨W.heap.size, 2, none⟩) (.inl rfl) _))))
        ((first
          | (go_at_call 46; refine (HGA.out _ ((Kept.refl _ W).drew)).mono ?_; rintro e w2 ⟨rfl, hk2⟩)
          | (go_at_call 46; refine (HGA.out (W.alloc (.cells #[.int .i64 0, .int .i64 0, .slice none 0 0] 42)).drew (((Kept.refl _ W).alloc _).drew)).mono ?_; rintro e w2 ⟨rfl, hk2⟩; have hn := hk2.blk (Blk.new W [.int .i64 0, .int .i64 0, .slice none 0 0] 42).drew (fun h => h); have q0 := hn.cell (i := 0) rfl; have q1 := hn.cell (i := 1) rfl; have q2 := hn.cell (i := 2) rfl; have p0 := hn.free 0; have p1 := hn.free 1; have p2 := hn.free 2)))
      all_goals
        go_wp2_with fail
        go_meet
        refine ⟨rfl, HI.out.go ?_⟩
        with_reducible (first
          | exact (((Kept.refl (fun _ => False) W).drew).trans hk2 (fun _ h => h.elim)).alloc _
          | exact ((((((((Kept.refl (fun k => k = W.heap.size) W).alloc _).drew).trans hk2 (fun _ h => h.elim)).setCell (a := ⟨W.heap.size, 0, none⟩) (.inl rfl) _).setCell (a := ⟨W.heap.size, 1, none⟩) (.inl rfl) _).setCell (a := ⟨W.heap.size, 2, none⟩) (.inl rfl) _).mono (fun k hk e => by omega)))
    case rest =>
      obtain ⟨rfl, hI2⟩ := hcut
      have HR2 := Lib.hid (refuse_any 12 tb (w.heap.size + 1) 0 _ hI2.eb)
      have HI2 := Lib.hid hI2
      clear hI2
      go_wp2_with fail
      refine (HR2.out).mono ?_
      rintro e w3 ⟨rfl, hb3, hk3⟩
      have hbd := refM_bd (e := 0) (b := tb) (by omega) (by omega) (show (0 : Int) ≤ 12 by omega) (show (12 : Int) ≤ 17 by omega)
      have HI3 := Lib.hid (HI2.out.err hk3 hb3 hbd.1 hbd.2)
      generalize refM 0 12 tb = e3 at *
      have gc0 := HI3.out.gb.cell (i := 0) rfl
      clear hk3 hb3 HI2 HR2 hbd
      go_wp2_with fail
      refine (HST.out tick _ (HSO.out.on HI3.out.kept)).mono ?_
      rintro e w4 ⟨rfl, hk4⟩
      have HI4 := Lib.hid (HI3.out.go hk4)
      generalize staleM most r tick = sb at *
      have HR4 := Lib.hid (refuse_any 13 sb (w.heap.size + 1) e3 w4 HI4.out.eb)
      clear hk4 gc0
      go_wp2_with fail
      refine (HR4.out).mono ?_
      rintro e w5 ⟨rfl, hb5, hk5⟩
      have hbd := refM_bd (b := sb) HI4.out.e0 HI4.out.e1 (show (0 : Int) ≤ 13 by omega) (show (13 : Int) ≤ 17 by omega)
      have HI5 := Lib.hid (HI4.out.err hk5 hb5 hbd.1 hbd.2)
      generalize refM e3 13 sb = e5 at *
      clear hk5 hb5 hbd HI3 HI4 HR4
      go_upto_region 8 with (fail)
      refine at_world (fun W => SnG w w1.heap.size tick time base rs (.slice ar rs.length cr) ro [.int .i64 0, .int .i64 0, .slice none 0 0] e5 W) HI5.out ?_
      clear HI5
      rintro W hI
      obtain ⟨bxs, hbx1, hbx2, hbx3⟩ := HSO.out.base base
      have HBX := Lib.hid (And.intro hbx1 (And.intro hbx2 hbx3))
      clear hbx1 hbx2 hbx3
      have HGB := Lib.hid (fun W' (k : Kept (fun _ => False) w W') => HGT.out W' (HSO.out.on k) base)
      generalize there r.l base = tb2 at *
      generalize RingN.getM r.l base = tx at *
      go_cut [10, 11] from 12 (fun s10 s11 wr => ∃ hb b, s10 = .pointer (some ⟨hb, 0, none⟩) ∧ s11 = .bool b ∧ SnG w w1.heap.size tick time base rs (.slice ar rs.length cr) ro [.int .i64 0, .int .i64 0, .slice none 0 0] e5 wr ∧ Blk wr hb (snapC tx.tick tx.time (.slice tx.a tx.len tx.cap)) 42 ∧ w.heap.size + 1 < hb)
      case first =>
        have s0 := (HSO.out.on hI.kept).blk.cell (i := 0) rfl
        have gb2 := hI.gb.cell (i := 2) rfl
        have hsW := (HSO.out.on hI.kept).blk.lt
        have hgW := hI.gb.lt
        have ns : s ≠ W.heap.size := by omega
        have ng : w1.heap.size ≠ W.heap.size := by omega
        have HI := Lib.hid hI
        have HGA := Lib.hid (fun W' (k : Kept (fun _ => False) W W') => HGB.out W' (HI.out.go k).kept)
        clear hI
        have HKB : Hid (∀ W', Kept (fun k => k = W.heap.size) W W' → W'.cell? ⟨s, 0, none⟩ = some (.pointer (some ⟨p, 0, none⟩)) ∧ W'.cell? ⟨w1.heap.size, 2, none⟩ = some (.int .i64 base)) := Lib.hid (fun W' k => ⟨k.cell s0 ns, k.cell gb2 ng⟩)
        go_region_held3 (fun w' => w'.cell? ⟨s, 0, none⟩ = some (.pointer (some ⟨p, 0, none⟩)) ∧ w'.cell? ⟨w1.heap.size, 2, none⟩ = some (.int .i64 base))
          (first | (go_keep; done) | (refine HKB.out _ ?_; with_reducible (first
            | exact ((Kept.refl (fun k => k = W.heap.size) W).drew).trans hk2 (fun _ h => h.elim)
            | exact (((Kept.refl (fun k => k = W.heap.size) W).alloc _).drew).trans hk2 (fun _ h => h.elim)
            | exact (((Kept.refl (fun k => k = W.heap.size) W).drew).trans hk2 (fun _ h => h.elim)).alloc _
            | exact (((((((Kept.refl (fun k => k = W.heap.size) W).alloc _).drew).trans hk2 (fun _ h => h.elim)).setCell (a := ⟨W.heap.size, 0, none⟩) (.inl rfl) _).setCell (a := ⟨W.heap.size, 1, none⟩) (.inl rfl) _).setCell (a := ⟨W.heap.size, 2, none⟩) (.inl rfl) _))))
          ((first
            | (go_at_call 46; refine (HGA.out _ ((Kept.refl _ W).drew)).mono ?_; rintro e w2 ⟨rfl, hk2⟩)
            | (go_at_call 46; refine (HGA.out (W.alloc (.cells #[.int .i64 0, .int .i64 0, .slice none 0 0] 42)).drew (((Kept.refl _ W).alloc _).drew)).mono ?_; rintro e w2 ⟨rfl, hk2⟩; have hn := hk2.blk (Blk.new W [.int .i64 0, .int .i64 0, .slice none 0 0] 42).drew (fun h => h); have q0 := hn.cell (i := 0) rfl; have q1 := hn.cell (i := 1) rfl; have q2 := hn.cell (i := 2) rfl; have p0 := hn.free 0; have p1 := hn.free 1; have p2 := hn.free 2)))
        all_goals
          go_wp2_with fail
          go_meet
          first
            | (with_reducible exact ⟨_, tb2, rfl, rfl, HI.out.go ((((Kept.refl (fun _ => False) W).drew).trans hk2 (fun _ h => h.elim)).alloc _), Blk.new w2 (snapC tx.tick tx.time (.slice tx.a tx.len tx.cap)) 42, by have := hk2.size; have := HI.out.kept.size; have := HI.out.eb.lt; simp at *; omega⟩)
            | (have hB9 : Blk _ W.heap.size (snapC tx.tick tx.time (.slice tx.a tx.len tx.cap)) 42 := ((hn.set 0 (.int .i64 tx.tick)).set 1 (.int .i64 tx.time)).set 2 (.slice tx.a tx.len tx.cap)
               with_reducible exact ⟨_, tb2, rfl, rfl, HI.out.go ((((((((Kept.refl (fun k => k = W.heap.size) W).alloc _).drew).trans hk2 (fun _ h => h.elim)).setCell (a := ⟨W.heap.size, 0, none⟩) (.inl rfl) _).setCell (a := ⟨W.heap.size, 1, none⟩) (.inl rfl) _).setCell (a := ⟨W.heap.size, 2, none⟩) (.inl rfl) _).mono (fun k hk e => by omega)), hB9, HI.out.eb.lt⟩)
      case rest =>
        obtain ⟨hb, tb, rfl, rfl, hI2, hB2, hbl⟩ := hcut
        clear hI HGB
        go_upto_region 9 with (fail)
        go_cut [] from 12 (fun wr => ∃ e7, SnG w w1.heap.size tick time base rs (.slice ar rs.length cr) ro [.int .i64 0, .int .i64 0, .slice none 0 0] e7 wr ∧ Blk wr hb (snapC tx.tick tx.time (.slice tx.a tx.len tx.cap)) 42)
        case first =>
          have gb2 := hI2.gb.cell (i := 2) rfl
          have HRW := Lib.hid (fun b => refuse_any 14 b (w.heap.size + 1) e5 _ hI2.eb)
          have HI := Lib.hid hI2
          have HB := Lib.hid hB2
          have HE5 := Lib.hid (And.intro hI2.e0 hI2.e1)
          have hgwr := hI2.gb.lt
          clear hI2 hB2
          cases tb
          all_goals
            go_wp2_with fail
            refine (HRW.out _).mono ?_
            rintro e w4 ⟨rfl, hb4, hk4⟩
            have hbd := fun b => refM_bd (e := e5) (b := b) HE5.out.1 HE5.out.2 (show (0 : Int) ≤ 14 by omega) (show (14 : Int) ≤ 17 by omega)
            have HI4 := Lib.hid (HI.out.err hk4 hb4 (hbd _).1 (hbd _).2)
            have HB4 := Lib.hid (hk4.blk HB.out (by omega))
            clear hbd hb4 hk4
            go_wp2_with fail
            go_meet
            exact ⟨_, HI4.out, HB4.out⟩
        case rest =>
          obtain ⟨e7, hI3, hB3⟩ := hcut
          clear hI2 hB2
          have c0 := hI3.eb.cell (i := 0) rfl
          have HI := Lib.hid hI3
          have HB := Lib.hid hB3
          cases hez : (e7 == 0) with
          | true =>
            obtain rfl : e7 = 0 := by simpa using hez
            have g0 := hI3.gb.cell (i := 0) rfl
            have g1 := hI3.gb.cell (i := 1) rfl
            have g2 := hI3.gb.cell (i := 2) rfl
            have g3 := hI3.gb.cell (i := 3) rfl
            have q0 := hB3.cell (i := 0) rfl
            have q1 := hB3.cell (i := 1) rfl
            have q2 := hB3.cell (i := 2) rfl
            have HAP2 := Lib.hid (apply_any tick time base HHD.out rs HRI.out.1 (by have := HRI.out.2; omega) tx.tick tx.time HBX.out.2.2 bxs HBX.out.2.1 _ _ _ ro fe hI3.rv (HBX.out.1.kept hI3.kept (fun _ _ h => h)))
            clear hI3 hB3 hez
            go_wp2_with fail
            refine (HAP2.out).mono ?_
            rintro e w5 ⟨k0, k1, ys, ev, er6, rfl, he0, he1, hso, heo, hP5, hk5⟩
            have hI5 := HI.out.go hk5
            obtain ⟨ae, ce, rfl, -, -⟩ := hP5.form
            have x0 := hI5.xb.cell (i := 0) rfl
            have x1 := hI5.xb.cell (i := 1) rfl
            have x2 := hI5.xb.cell (i := 2) rfl
            have f0 := hI5.xb.free 0
            have f1 := hI5.xb.free 1
            have f2 := hI5.xb.free 2
            have y0 := hI5.eb.cell (i := 0) rfl
            have yf := hI5.eb.free 0
            have HI5 := Lib.hid hI5
            have HSE5 := Lib.hid hP5
            have hz5 := HI.out.eb.lt
            have HKO := Lib.hid (And.intro hso heo)
            clear hI5 hP5 hk5 g0 g1 g2 g3 q0 q1 q2 c0 hso heo
            go_wp2_with fail
            have hI6 : SnG w w1.heap.size tick time base rs (.slice ar rs.length cr) ro (snapC k0 k1 (.slice ae ys.length ce)) er6 ((((w5.setCell ⟨w.heap.size, 0, none⟩ (.int .i64 k0)).setCell ⟨w.heap.size, 1, none⟩ (.int .i64 k1)).setCell ⟨w.heap.size, 2, none⟩ (.slice ae ys.length ce)).setCell ⟨w.heap.size + 1, 0, none⟩ (.int .i64 er6)) := by
              have k6 := ((((Kept.refl (fun k => k = w.heap.size ∨ k = w.heap.size + 1) w5).setCell (a := ⟨w.heap.size, 0, none⟩) (.inl (.inl rfl)) (.int .i64 k0)).setCell (a := ⟨w.heap.size, 1, none⟩) (.inl (.inl rfl)) (.int .i64 k1)).setCell (a := ⟨w.heap.size, 2, none⟩) (.inl (.inl rfl)) (.slice ae ys.length ce)).setCell (a := ⟨w.heap.size + 1, 0, none⟩) (.inl (.inr rfl)) (.int .i64 er6)
              have gl5 := HI5.out.gl
              exact ⟨(((HI5.out.xb.set 0 (.int .i64 k0)).set 1 (.int .i64 k1)).set 2 (.slice ae ys.length ce)).set_ne (a := ⟨w.heap.size + 1, 0, none⟩) (by simp) (.int .i64 er6), (((HI5.out.eb.set_ne (a := ⟨w.heap.size, 0, none⟩) (by simp) (.int .i64 k0)).set_ne (a := ⟨w.heap.size, 1, none⟩) (by simp) (.int .i64 k1)).set_ne (a := ⟨w.heap.size, 2, none⟩) (by simp) (.slice ae ys.length ce)).set 0 (.int .i64 er6), k6.blk HI5.out.gb (by omega), gl5, HI5.out.rv.kept k6 (fun q hq e => by have := HI5.out.rf q hq; omega), HI5.out.rf, he0, he1, HI5.out.kept.trans k6 (fun i h => .inr (by omega))⟩
            have HI6 := Lib.hid hI6
            have HSE6 : Hid (EntsAt _ (.slice ae ys.length ce) ys (fun g => w.heap.size + 1 < g)) := Lib.hid ((HSE5.out.mono (fq := fun g => w.heap.size + 1 < g) (fun q _ hq => by have hq2 : _ ≤ q := hq; omega)).kept (((((Kept.refl (fun k => k = w.heap.size ∨ k = w.heap.size + 1) w5).setCell (a := ⟨w.heap.size, 0, none⟩) (.inl (.inl rfl)) (.int .i64 k0)).setCell (a := ⟨w.heap.size, 1, none⟩) (.inl (.inl rfl)) (.int .i64 k1)).setCell (a := ⟨w.heap.size, 2, none⟩) (.inl (.inl rfl)) (.slice ae ys.length ce)).setCell (a := ⟨w.heap.size + 1, 0, none⟩) (.inl (.inr rfl)) (.int .i64 er6)) (fun q hq e => by have hq2 : _ < q := hq; omega))
            clear hI6 HI5 HSE5 x0 x1 x2 f0 f1 f2 y0 yf
            generalize er6 = e6 at *
            refine (HTM.out k0 k1 _ (HSO.out.on HI6.out.kept) _).mono ?_
            rintro e w7 ⟨rfl, hk7⟩
            have HI7 := Lib.hid (HI6.out.go hk7)
            have HSE7 := Lib.hid (HSE6.out.kept hk7 (fun _ _ h => h))
            generalize htm : timelyM r.l k0 k1 = tmb at *
            have HTB := Lib.hid htm
            have HR7 := Lib.hid (refuse_any 16 (!tmb) (w.heap.size + 1) e6 w7 HI7.out.eb)
            clear hk7 HI6 HSE6 htm
            go_wp2_with fail
            refine (HR7.out).mono ?_
            rintro e w8 ⟨rfl, hb8, hk8⟩
            have hbd := refM_bd (b := !tmb) HI7.out.e0 HI7.out.e1 (show (0 : Int) ≤ 16 by omega) (show (16 : Int) ≤ 17 by omega)
            have HZR := Lib.hid (fun h : refM e6 16 (!tmb) = 0 => refM_zero (by omega) h)
            have HI8 := Lib.hid (HI7.out.err hk8 hb8 hbd.1 hbd.2)
            have HSE8 := Lib.hid (HSE7.out.kept hk8 (fun q hq e => by have hq2 : _ < q := hq; omega))
            have HBD := Lib.hid hbd
            generalize refM e6 16 (!tmb) = e8 at *
            clear hk8 hb8 hbd
            have x0 := HI8.out.xb.cell (i := 0) rfl
            have x1 := HI8.out.xb.cell (i := 1) rfl
            have x2 := HI8.out.xb.cell (i := 2) rfl
            have f0 := HI8.out.xb.free 0
            have f1 := HI8.out.xb.free 1
            have f2 := HI8.out.xb.free 2
            have y0 := HI8.out.eb.cell (i := 0) rfl
            have yf := HI8.out.eb.free 0
            go_wp2_with fail
            go_region
            go_wp2_with fail
            have kf := ((((Kept.refl (fun k => k = w.heap.size ∨ k = w.heap.size + 1) w8).setCell (a := ⟨w.heap.size, 0, none⟩) (.inl (.inl rfl)) (.int .i64 k0)).setCell (a := ⟨w.heap.size, 1, none⟩) (.inl (.inl rfl)) (.int .i64 k1)).setCell (a := ⟨w.heap.size, 2, none⟩) (.inl (.inl rfl)) (.slice ae ys.length ce)).setCell (a := ⟨w.heap.size + 1, 0, none⟩) (.inl (.inr rfl)) (.int .i64 e8)
            have hx := ((((HI8.out.xb.set 0 (.int .i64 k0)).set 1 (.int .i64 k1)).set 2 (.slice ae ys.length ce)).set_ne (a := ⟨w.heap.size + 1, 0, none⟩) (by simp) (.int .i64 e8)).drew
            have he := ((((HI8.out.eb.set_ne (a := ⟨w.heap.size, 0, none⟩) (by simp) (.int .i64 k0)).set_ne (a := ⟨w.heap.size, 1, none⟩) (by simp) (.int .i64 k1)).set_ne (a := ⟨w.heap.size, 2, none⟩) (by simp) (.slice ae ys.length ce)).set 0 (.int .i64 e8)).drew
            have r0 := hx.cell (i := 0) rfl
            have r1 := hx.cell (i := 1) rfl
            have r2 := hx.cell (i := 2) rfl
            have r3 := he.cell (i := 0) rfl
            refine bodyPost_ret (v := .tuple #[snapV k0 k1 (.slice ae ys.length ce), .int .i64 e8]) (by simp [results, Tryz.f43, Tryz.results43, go_sem, r0, r1, r2, r3]) rfl ?_
            refine ⟨k0, k1, ys, _, e8, rfl, HBD.out.1, HBD.out.2, HKO.out.1, HKO.out.2, (HSE8.out.kept kf (fun q hq e => by have hq2 : _ < q := hq; omega)).drew.mono (fun q _ hq => by have hq2 : _ < q := hq; omega), fun h => ?_, (HI8.out.kept.trans kf (fun i hi => .inr (by omega))).drew⟩
            have := HZR.out h
            rw [HTB.out]
            simpa using this
          | false =>
            have x0 := hI3.xb.cell (i := 0) rfl
            have x1 := hI3.xb.cell (i := 1) rfl
            have x2 := hI3.xb.cell (i := 2) rfl
            have HI6 := HI
            have HSE6 := Lib.hid (SnG.none_at HI.out (fun g => w.heap.size + 1 < g))
            have HKO : Hid (SnapOk 0 0 ∧ EntsOk []) := Lib.hid ⟨⟨by omega, by omega, by omega, by omega⟩, ⟨by simp, by simp, by simp⟩⟩
            clear hI3 hB3
            go_wp2_with fail
            refine (HTM.out 0 0 _ (HSO.out.on HI6.out.kept) _).mono ?_
            rintro e w7 ⟨rfl, hk7⟩
            have HI7 := Lib.hid (HI6.out.go hk7)
            have HSE7 := Lib.hid (HSE6.out.kept hk7 (fun _ _ h => h))
            generalize htm : timelyM r.l 0 0 = tmb at *
            have HTB := Lib.hid htm
            have HR7 := Lib.hid (refuse_any 16 (!tmb) (w.heap.size + 1) e7 w7 HI7.out.eb)
            clear hk7 HI6 HSE6 htm
            go_wp2_with fail
            refine (HR7.out).mono ?_
            rintro e w8 ⟨rfl, hb8, hk8⟩
            have hbd := refM_bd (b := !tmb) HI7.out.e0 HI7.out.e1 (show (0 : Int) ≤ 16 by omega) (show (16 : Int) ≤ 17 by omega)
            have HZR := Lib.hid (fun h : refM e7 16 (!tmb) = 0 => refM_zero (by omega) h)
            have HI8 := Lib.hid (HI7.out.err hk8 hb8 hbd.1 hbd.2)
            have HSE8 := Lib.hid (HSE7.out.kept hk8 (fun q hq e => by have hq2 : _ < q := hq; omega))
            have HBD := Lib.hid hbd
            generalize refM e7 16 (!tmb) = e8 at *
            clear hk8 hb8 hbd
            have x0 := HI8.out.xb.cell (i := 0) rfl
            have x1 := HI8.out.xb.cell (i := 1) rfl
            have x2 := HI8.out.xb.cell (i := 2) rfl
            have f0 := HI8.out.xb.free 0
            have f1 := HI8.out.xb.free 1
            have f2 := HI8.out.xb.free 2
            have y0 := HI8.out.eb.cell (i := 0) rfl
            have yf := HI8.out.eb.free 0
            go_wp2_with fail
            go_region
            go_wp2_with fail
            have kf := ((((Kept.refl (fun k => k = w.heap.size ∨ k = w.heap.size + 1) w8).setCell (a := ⟨w.heap.size, 0, none⟩) (.inl (.inl rfl)) (.int .i64 0)).setCell (a := ⟨w.heap.size, 1, none⟩) (.inl (.inl rfl)) (.int .i64 0)).setCell (a := ⟨w.heap.size, 2, none⟩) (.inl (.inl rfl)) (.slice none 0 0)).setCell (a := ⟨w.heap.size + 1, 0, none⟩) (.inl (.inr rfl)) (.int .i64 e8)
            have hx := ((((HI8.out.xb.set 0 (.int .i64 0)).set 1 (.int .i64 0)).set 2 (.slice none 0 0)).set_ne (a := ⟨w.heap.size + 1, 0, none⟩) (by simp) (.int .i64 e8)).drew
            have he := ((((HI8.out.eb.set_ne (a := ⟨w.heap.size, 0, none⟩) (by simp) (.int .i64 0)).set_ne (a := ⟨w.heap.size, 1, none⟩) (by simp) (.int .i64 0)).set_ne (a := ⟨w.heap.size, 2, none⟩) (by simp) (.slice none 0 0)).set 0 (.int .i64 e8)).drew
            have r0 := hx.cell (i := 0) rfl
            have r1 := hx.cell (i := 1) rfl
            have r2 := hx.cell (i := 2) rfl
            have r3 := he.cell (i := 0) rfl
            refine bodyPost_ret (v := .tuple #[snapV 0 0 (.slice none 0 0), .int .i64 e8]) (by simp [results, Tryz.f43, Tryz.results43, go_sem, r0, r1, r2, r3]) rfl ?_
            refine ⟨0, 0, [], _, e8, rfl, HBD.out.1, HBD.out.2, HKO.out.1, HKO.out.2, (HSE8.out.kept kf (fun q hq e => by have hq2 : _ < q := hq; omega)).drew.mono (fun q _ hq => by have hq2 : _ < q := hq; omega), fun h => ?_, (HI8.out.kept.trans kf (fun i hi => .inr (by omega))).drew⟩
            have := HZR.out h
            rw [HTB.out]
            simpa using this
end Go.Proofs.YtekdkckgmleofaaGreat

/- Contract of store.Accept of any bytes. -/
namespace Go.Proofs.YtekdkckgmleofaaGreat
open Go.RowKit
/-- The times of what is kept rise. -/
def TimesR (l : List (Int × SnapS)) : Prop := l.Pairwise (fun a b => a.2.time < b.2.time)
theorem TimesR.lt {l : List (Int × SnapS)} (h : TimesR l) {i j : Nat} {a b : Int × SnapS} (ha : l[i]? = some a) (hb : l[j]? = some b) (hij : i < j) : a.2.time < b.2.time := by
  obtain ⟨h1, rfl⟩ := List.getElem?_eq_some_iff.1 ha
  obtain ⟨h2, rfl⟩ := List.getElem?_eq_some_iff.1 hb
  exact List.pairwise_iff_getElem.1 h i j h1 h2 hij
theorem ins_times {l : List (Int × SnapS)} {tick time : Int} (hT : TimesR l) (hn : there l tick = false) (htm : timelyM l tick time = true) (sx : SnapS) (hsx : sx.time = time) : TimesR (insAt l tick sx) := by
  have hu : RingN.untilM l tick = plc l tick := by unfold RingN.untilM; rw [hn]; simp
  unfold timelyM at htm
  rw [hu, Bool.and_eq_true] at htm
  obtain ⟨ha, hb⟩ := htm
  have hpl := plc_le l tick
  have hlo : ∀ y ∈ l.take (plc l tick), y.2.time < time := by
    intro y hy
    obtain ⟨t, ht, he⟩ := mem_take_idx hy
    obtain ⟨y0, hy0⟩ : ∃ y0, l[plc l tick - 1]? = some y0 := ⟨_, List.getElem?_eq_getElem (by omega)⟩
    have h1 : atM l ((plc l tick : Int) - 1) = some y0 := by
      unfold atM
      rw [if_neg (by omega), show (((plc l tick : Int) - 1).toNat) = plc l tick - 1 by omega, hy0]
    rw [h1] at ha
    have h2 : y0.2.time < time := of_decide_eq_true ha
    by_cases e : t = plc l tick - 1
    · subst e
      rw [hy0] at he
      cases he
      exact h2
    · exact Int.lt_trans (hT.lt he hy0 (by omega)) h2
  have hhi : ∀ y ∈ l.drop (plc l tick), time < y.2.time := by
    intro y hy
    obtain ⟨t, ht, he⟩ := mem_drop_idx hy
    have htl := (List.getElem?_eq_some_iff.1 he).1
    obtain ⟨y0, hy0⟩ : ∃ y0, l[plc l tick]? = some y0 := ⟨_, List.getElem?_eq_getElem (by omega)⟩
    have h1 : atM l (plc l tick : Int) = some y0 := by
      unfold atM
      rw [if_neg (by omega), Int.toNat_natCast, hy0]
    rw [h1] at hb
    have h2 : time < y0.2.time := of_decide_eq_true hb
    by_cases e : t = plc l tick
    · subst e
      rw [hy0] at he
      cases he
      exact h2
    · exact Int.lt_trans h2 (hT.lt hy0 he (by omega))
  unfold insAt TimesR
  rw [List.pairwise_append]
  refine ⟨List.Pairwise.sublist (List.take_sublist _ _) hT, ?_, ?_⟩
  · rw [List.pairwise_cons]
    exact ⟨fun y hy => by rw [hsx]; exact hhi y hy, List.Pairwise.sublist (List.drop_sublist _ _) hT⟩
  · intro a ha b hb
    rcases List.mem_cons.1 hb with rfl | hb
    · show a.2.time < sx.time
      rw [hsx]; exact hlo a ha
    · exact Int.lt_trans (hlo a ha) (hhi b hb)
def LayKind (r : RingM SnapS) (tick : Int) (sx : SnapS) (R : RingM SnapS × Int × Bool × Int) : Prop :=
  TimesR R.1.l ∧ (∀ y ∈ R.1.l, y ∈ r.l ∨ y = (tick, sx)) ∧ 0 ≤ R.2.2.2 ∧ R.2.2.2 ≤ 17 ∧ ((R.2.2.2 = 0 ∧ R.1.l ≠ []) ∨ (R.2.2.2 ≠ 0 ∧ R.1 = r))
theorem lay_kind {most : Nat} {r : RingM SnapS} {tick time : Int} (hm : 1 ≤ most) (hT : TimesR r.l) (htm : timelyM r.l tick time = true) (sx : SnapS) (hsx : sx.time = time) : LayKind r tick sx (layM most r tick sx) := by
  have hin : ∀ y ∈ insAt r.l tick sx, y ∈ r.l ∨ y = (tick, sx) := by
    intro y hy
    unfold insAt at hy
    rcases List.mem_append.1 hy with hy | hy
    · exact .inl (List.mem_of_mem_take hy)
    · rcases List.mem_cons.1 hy with hy | hy
      · exact .inr hy
      · exact .inl (List.mem_of_mem_drop hy)
  unfold layM LayKind
  cases hn : there r.l tick with
  | true =>
    rw [if_pos rfl]
    exact ⟨hT, fun y hy => .inl hy, by simp, by simp, .inr ⟨by simp, rfl⟩⟩
  | false =>
    have hI := ins_times hT hn htm sx hsx
    rw [if_neg (by simp)]
    split
    · exact ⟨hT, fun y hy => .inl hy, by simp, by simp, .inr ⟨by simp, rfl⟩⟩
    · split
      · exact ⟨hI, hin, by simp, by simp, .inl ⟨rfl, by simp [insAt]⟩⟩
      · rename_i hlt
        have hlen := insAt_len r.l tick sx
        split
        · rename_i he
          rw [he] at hlen
          simp at hlen
        · rename_i y0 t he
          rw [he] at hI hlen
          refine ⟨(List.pairwise_cons.1 hI).2, fun y hy => hin y (by rw [he]; exact List.mem_cons_of_mem _ hy), by simp, by simp, .inl ⟨rfl, ?_⟩⟩
          intro e
          subst e
          have h0 : r.l.length + 1 = 1 := by rw [← hlen]; rfl
          omega
def AccG (w : World) (s p : Nat) (fr fe : Nat → Prop) (most : Nat) (r : RingM SnapS) (e : Ending) (w' : World) : Prop :=
  ∃ (tick er : Int) (r' : RingM SnapS) (fr' fe' : Nat → Prop) (cs' : List Int), e = .returned (.tuple #[.int .i64 tick, .int .i64 er]) ∧ Sto w' s p fr' fe' most r' cs' AnyP ∧ TimesR r'.l ∧ ((er = 0 ∧ r'.l ≠ []) ∨ (er ≠ 0 ∧ r' = r)) ∧ (∀ g, fr' g → fr g ∨ w.heap.size ≤ g) ∧ (∀ g, fe' g → fe g ∨ w.heap.size ≤ g) ∧ Kept (fun g => g = s ∨ fr g) w w'
theorem stoC_set (p : Nat) (most : Int) (cs : List Int) (n : Nat) (z : Int) : (stoC p most cs).set (2 + n) (.int .i64 z) = stoC p most (cs.set n z) := by
  rw [Nat.add_comm]
  show .pointer _ :: .int .i64 most :: ((cs.map (Value.int .i64)).set n (.int .i64 z)) = _
  rw [← List.map_set]
theorem stoC_at (p : Nat) (most : Int) (cs : List Int) (n : Nat) (hn : n < cs.length) : (stoC p most cs)[2 + n]? = some (.int .i64 cs[n]) := by
  rw [Nat.add_comm]
  show (cs.map (Value.int .i64))[n]? = _
  rw [List.getElem?_map, List.getElem?_eq_getElem hn]
  rfl
set_option maxRecDepth 100000 in
set_option maxHeartbeats 16000000 in
theorem accept_g1 (bs : List Nat) (hb : ∀ c ∈ bs, c < 256) (w : World) (s p : Nat) (fr fe : Nat → Prop) (most : Nat) (r : RingM SnapS) (cs : List Int) (h : Sto w s p fr fe most r cs AnyP) (hT : TimesR r.l)
    (hfr : ∀ g, fr g → g < w.heap.size) (hfe : ∀ g, fe g → g < w.heap.size) (v : Value) (hv : ByAt w v bs) :
    Calls Tryz.prog 20 #[.pointer (some ⟨s, 0, none⟩), v] w (AccG w s p fr fe most r) := by
  have HSN := Lib.hid (snap_any bs hb w s p fr fe most r cs h v hv)
  have HOW := Lib.hid (fun tick time v xs fe W h (hl : xs.length ≤ 1000) => own_calls tick time v xs fe W h hl)
  have HLA : Hid (∀ W, Sto W s p fr fe most r cs AnyP → ∀ tick (sx : SnapS), Calls Tryz.prog 44 #[.pointer (some ⟨p, 0, none⟩), .int .i64 tick, sv sx] W fun e w' => e = .returned (.tuple #[.int .i64 (layM most r tick sx).2.1, .bool (layM most r tick sx).2.2.1, .int .i64 (layM most r tick sx).2.2.2]) ∧ RingN.Ring w' p (fun g => fr g ∨ (W.heap.size ≤ g ∧ g < w'.heap.size)) most (layM most r tick sx).1 ∧ Kept fr W w') := Lib.hid (fun W h tick sx => RingN.lay_calls W p fr most r tick sx h.ring h.m2)
  have HMY := Lib.hid (fun tick time (htm : timelyM r.l tick time = true) sx hsx => lay_kind (most := most) h.m1 hT htm sx hsx)
  have HS := Lib.hid h
  have HT := Lib.hid hT
  have hcl := h.cl
  obtain ⟨a0, cap0, rfl, -, -⟩ := hv.form
  have hsl := h.blk.lt
  unfold SnapG at HSN
  unfold OwnPost at HOW
  clear h hv hT
  generalize bs.length = nb at *
  go_enter Tryz.func20, Tryz.ntmps20
  go_wp2_with fail
  refine (HSN.out).mono ?_
  rintro e w1 ⟨tick, time, ys, ev, er, rfl, he0, he1, hso, heo, hE, htz, hk1⟩
  obtain ⟨ae, ce, rfl, -, -⟩ := hE.form
  have hyl := heo.len
  have kA := (Kept.refl (fun _ => False) w1).alloc (.cells (snapC tick time (.slice ae ys.length ce)).toArray 42)
  have HK1 := Lib.hid (hk1.trans kA (fun _ h => h.elim))
  have HB1 := Lib.hid (Blk.new w1 (snapC tick time (.slice ae ys.length ce)) 42)
  have HE1 := Lib.hid (hE.kept kA (fun _ _ h => h))
  have HKO := Lib.hid (And.intro hso heo)
  have HTZ := Lib.hid htz
  have hw1 := hk1.size
  clear hE hk1 kA hso heo htz
  cases hne : (er == 0) with
  | false =>
    obtain ⟨ne, rfl⟩ : ∃ ne : Nat, er = ne := ⟨er.toNat, by omega⟩
    have hne' : ne < cs.length := by omega
    go_upto_region 6 with (fail)
    refine at_world (fun W => Blk W w1.heap.size (snapC tick time (.slice ae ys.length ce)) 42 ∧ Kept (fun _ => False) w W) ⟨HB1.out, HK1.out⟩ ?_
    rintro W ⟨hB, hK⟩
    have HX := Lib.hid hB
    have HK := Lib.hid hK
    have HB := Lib.hid (HS.out.on hK).blk
    have hw1W := hB.lt
    have nx : w1.heap.size ≠ s := by omega
    clear hB hK HB1 HE1
    have cn := (HB.out).cell (i := 2 + ne) (stoC_at p most cs ne hne')
    have fn := (HB.out).free (2 + ne)
    have xx := (HX.out).cell (i := 0) rfl
    have hne0 : (0 : Int) ≤ (ne : Int) := by omega
    have hne1 : (ne : Int) < 18 := by omega
    generalize cs[ne] = cz at cn
    go_wp2_with fail
    go_region
    go_wp2_with fail
    go_ret2
    have kS := ((Kept.refl (· = s) W).setCell (a := ⟨s, 2 + ne, none⟩) (.inl rfl) (.int .i64 (wrap64 (cz + 1)))).drew
    have hB9 : Blk ((W.setCell ⟨s, 2 + ne, none⟩ (.int .i64 (wrap64 (cz + 1)))).drew) s (stoC p most (cs.set ne (wrap64 (cz + 1)))) 120 := by
      rw [← stoC_set]
      exact (HB.out.set (2 + ne) (.int .i64 (wrap64 (cz + 1)))).drew
    refine ⟨0, ne, r, fr, fe, cs.set ne (wrap64 (cz + 1)), rfl, ?_, HT.out, .inr ⟨by simpa using hne, rfl⟩, fun g hg => .inl hg, fun g hg => .inl hg, (HK.out.mono (fun _ _ h => h.elim)).trans kS (fun i hi => .inl (.inl hi))⟩
    exact { HS.out with
      blk := hB9
      cl := by rw [List.length_set]; exact HS.out.cl
      ring := (HS.out.on HK.out).ring.kept kS (fun g hg e => by subst e; exact HS.out.sr hg)
      el := fun y hy => ((HS.out.on HK.out).el y hy).kept kS (fun g hg e => by subst e; exact HS.out.se hg) }
  | true =>
    obtain rfl : er = 0 := by simpa using hne
    have HTM := Lib.hid (HTZ.out rfl)
    go_upto_region 5 with (fail)
    refine at_world (fun W => Blk W w1.heap.size (snapC tick time (.slice ae ys.length ce)) 42 ∧ EntsAt W (.slice ae ys.length ce) ys (fun g => w.heap.size ≤ g) ∧ Kept (fun _ => False) w W) ⟨HB1.out, HE1.out, HK1.out⟩ ?_
    rintro W ⟨hB, hE, hK⟩
    clear HB1 HE1 HK1
    have HSW := Lib.hid (HS.out.kept hK (fun h => h) (fun _ _ h => h) (fun _ _ h => h))
    have s0 := HSW.out.blk.cell (i := 0) rfl
    have x0 := hB.cell (i := 0) rfl
    have x1 := hB.cell (i := 1) rfl
    have x2 := hB.cell (i := 2) rfl
    have HBW := Lib.hid hB
    have HKW := Lib.hid hK
    have HEW := Lib.hid hE
    have hbl := hB.lt
    clear hB hE hK
    have HKB : Hid (∀ W', Kept (fun _ => False) W W' → W'.cell? ⟨s, 0, none⟩ = some (.pointer (some ⟨p, 0, none⟩)) ∧ W'.cell? ⟨w1.heap.size, 0, none⟩ = some (.int .i64 tick) ∧ W'.cell? ⟨w1.heap.size, 1, none⟩ = some (.int .i64 time) ∧ W'.cell? ⟨w1.heap.size, 2, none⟩ = some (.slice ae ys.length ce)) := Lib.hid (fun W' k => ⟨k.cell s0 (fun h => h), k.cell x0 (fun h => h), k.cell x1 (fun h => h), k.cell x2 (fun h => h)⟩)
    have HKC : Hid (∀ W', Kept fr W W' → W'.cell? ⟨s, 0, none⟩ = some (.pointer (some ⟨p, 0, none⟩)) ∧ W'.cell? ⟨w1.heap.size, 0, none⟩ = some (.int .i64 tick) ∧ W'.cell? ⟨w1.heap.size, 1, none⟩ = some (.int .i64 time) ∧ W'.cell? ⟨w1.heap.size, 2, none⟩ = some (.slice ae ys.length ce)) := Lib.hid (fun W' k => ⟨k.cell s0 HS.out.sr, k.cell x0 (fun h => by have : w1.heap.size < w.heap.size := hfr _ h; omega), k.cell x1 (fun h => by have : w1.heap.size < w.heap.size := hfr _ h; omega), k.cell x2 (fun h => by have : w1.heap.size < w.heap.size := hfr _ h; omega)⟩)
    go_region_held3 (fun w' => w'.cell? ⟨s, 0, none⟩ = some (.pointer (some ⟨p, 0, none⟩)) ∧ w'.cell? ⟨w1.heap.size, 0, none⟩ = some (.int .i64 tick) ∧ w'.cell? ⟨w1.heap.size, 1, none⟩ = some (.int .i64 time) ∧ w'.cell? ⟨w1.heap.size, 2, none⟩ = some (.slice ae ys.length ce))
      (first
        | (go_keep; done)
        | (refine HKB.out _ ?_; with_reducible exact ((Kept.refl (fun _ => False) W).drew).trans hk2 (fun _ h => h.elim))
        | (refine HKC.out _ ?_; with_reducible exact ((((Kept.refl (fun _ => False) W).drew).trans hk2 (fun _ h => h.elim)).mono (G := fr) (fun _ _ h => h.elim)).trans hk3 (fun _ h => .inl h)))
      ((first
        | (go_at_call 45; refine (HOW.out tick time _ ys _ _ (HEW.out.kept ((Kept.refl (fun _ => False) W).drew) (fun _ _ h => h)) (by omega)).mono ?_; rintro e w2 ⟨v2, rfl, hE2, hk2⟩; obtain ⟨a2, c2, rfl, -, -⟩ := hE2.form)
        | (go_at_call 44; refine (HLA.out _ (HSW.out.kept (((Kept.refl (fun _ => False) W).drew).trans hk2 (fun _ h => h.elim)) (fun h => h) (fun _ _ h => h) (fun _ _ h => h)) tick ⟨tick, time, a2, ys.length, c2⟩).mono ?_; rintro e w3 ⟨rfl, hR3, hk3⟩)))
    have K2 : Kept (fun _ => False) W w2 := ((Kept.refl (fun _ => False) W).drew).trans hk2 (fun _ h => h.elim)
    have KW2 := HKW.out.trans K2 (fun _ h => h.elim)
    have hz0 := HKW.out.size
    have hz2 := K2.size
    have hz3 := hk3.size
    have B2 := K2.blk HSW.out.blk (fun h => h)
    have B3 := hk3.blk B2 HS.out.sr
    have X3 := hk3.blk (K2.blk HBW.out (fun h => h)) (fun h => by have : w1.heap.size < w.heap.size := hfr _ h; omega)
    have nx : w1.heap.size ≠ s := by omega
    have KW3 : Kept fr w w3 := (KW2.mono (G := fr) (fun _ _ h => h.elim)).trans hk3 (fun _ h => .inl h)
    have HB3 := Lib.hid B3
    have HX3 := Lib.hid X3
    have HR3 := Lib.hid hR3
    have HK3 := Lib.hid KW3
    have HE3 : Hid (EntsAt w3 (.slice a2 ys.length c2) ys (fun g => w.heap.size ≤ g ∧ g < w2.heap.size)) := Lib.hid ((hE2.mono (fq := fun g => w.heap.size ≤ g ∧ g < w2.heap.size) (fun g hg h => ⟨by have hh : W.heap.size ≤ g := h; omega, hg⟩)).kept hk3 (fun g hg h => by have := hfr _ h; omega))
    have HMY2 := Lib.hid (HMY.out tick time HTM.out ⟨tick, time, a2, ys.length, c2⟩ rfl)
    clear K2 KW2 B2 B3 X3 hR3 hk3 hk2 hE2 KW3 s0 x0 x1 x2 HKB HKC HLA HMY HOW HSN
    generalize hRR : layM most r tick ⟨tick, time, a2, ys.length, c2⟩ = RR at *
    obtain ⟨r2, e1, e2, le⟩ := RR
    dsimp only at *
    clear hRR
    have hle := HMY2.out.2.2.1
    have hle2 := HMY2.out.2.2.2.1
    dsimp only at hle hle2
    obtain ⟨ne, rfl⟩ : ∃ ne : Nat, le = ne := ⟨le.toNat, by omega⟩
    have hne' : ne < cs.length := by omega
    cases hnz : ((ne : Int) != 0) with
    | true =>
      have cn := (HB3.out).cell (i := 2 + ne) (stoC_at p most cs ne hne')
      have fn := (HB3.out).free (2 + ne)
      have xx := (HX3.out).cell (i := 0) rfl
      have hne0 : (0 : Int) ≤ (ne : Int) := by omega
      have hne1 : (ne : Int) < 18 := by omega
      generalize cs[ne] = cz at cn
      go_wp2_with fail
      go_region
      go_wp2_with fail
      go_ret2
      have kS := ((Kept.refl (· = s) w3).setCell (a := ⟨s, 2 + ne, none⟩) (.inl rfl) (.int .i64 (wrap64 (cz + 1)))).drew
      have hB9 : Blk ((w3.setCell ⟨s, 2 + ne, none⟩ (.int .i64 (wrap64 (cz + 1)))).drew) s (stoC p most (cs.set ne (wrap64 (cz + 1)))) 120 := by
        rw [← stoC_set]
        exact (HB3.out.set (2 + ne) (.int .i64 (wrap64 (cz + 1)))).drew
      have KF : Kept (fun g => g = s ∨ fr g) w ((w3.setCell ⟨s, 2 + ne, none⟩ (.int .i64 (wrap64 (cz + 1)))).drew) := (HK3.out.mono (fun _ _ h => .inr h)).trans kS (fun _ h => .inl (.inl h))
      refine ⟨0, ne, r2, fun g => fr g ∨ (w2.heap.size ≤ g ∧ g < w3.heap.size), fun g => fe g ∨ (w.heap.size ≤ g ∧ g < w2.heap.size), cs.set ne (wrap64 (cz + 1)), rfl, ⟨hB9, by rw [List.length_set]; exact HS.out.cl, HR3.out.kept kS (fun g hg e => ?_), HS.out.m1, HS.out.m2, ?_, ?_, ?_, ?_⟩, HMY2.out.1, (HMY2.out.2.2.2.2.imp (fun h => h) (fun h => h)), ?_, ?_, KF⟩
      · subst e
        rcases hg with hg | hg
        · exact HS.out.sr hg
        · omega
      · rintro (hg | hg)
        · exact HS.out.sr hg
        · omega
      · rintro (hg | hg)
        · exact HS.out.se hg
        · omega
      · rintro g (hg | hg) (he | he)
        · exact HS.out.re g hg he
        · have := hfr g hg; omega
        · have := hfe g he; omega
        · omega
      · intro y hy
        rcases HMY2.out.2.1 y hy with h | h
        · exact ((HS.out.el y h).kept KF (fun g hg e => by
            rcases e with e | e
            · subst e; exact HS.out.se hg
            · exact HS.out.re g e hg)).mono (fun g _ h => .inl h)
        · subst h
          exact ⟨rfl, ys, rfl, by omega, (HE3.out.kept kS (fun g hg e => by omega)).mono (fun g _ h => .inr h), HKO.out⟩
      · rintro g (hg | hg)
        · exact .inl hg
        · exact .inr (by omega)
      · rintro g (hg | hg)
        · exact .inl hg
        · exact .inr (by omega)
    | false =>
      obtain rfl : ne = 0 := by simp at hnz; omega
      have hnn : ((0 : Nat) : Int) = 0 := rfl
      have cn := (HB3.out).cell (i := 2 + 0) (stoC_at p most cs 0 hne')
      have fn := (HB3.out).free (2 + 0)
      have xx := (HX3.out).cell (i := 0) rfl
      have hne0 : (0 : Int) ≤ (0 : Int) := by omega
      have hne1 : (0 : Int) < 18 := by omega
      generalize cs[0] = cz at cn
      go_wp2_with fail
      go_region
      go_wp2_with fail
      go_ret2
      have kS := ((Kept.refl (· = s) w3).setCell (a := ⟨s, 2, none⟩) (.inl rfl) (.int .i64 (wrap64 (cz + 1)))).drew
      have hB9 : Blk ((w3.setCell ⟨s, 2, none⟩ (.int .i64 (wrap64 (cz + 1)))).drew) s (stoC p most (cs.set 0 (wrap64 (cz + 1)))) 120 := by
        rw [← stoC_set]
        exact (HB3.out.set (2 + 0) (.int .i64 (wrap64 (cz + 1)))).drew
      have KF : Kept (fun g => g = s ∨ fr g) w ((w3.setCell ⟨s, 2, none⟩ (.int .i64 (wrap64 (cz + 1)))).drew) := (HK3.out.mono (fun _ _ h => .inr h)).trans kS (fun _ h => .inl (.inl h))
      refine ⟨tick, 0, r2, fun g => fr g ∨ (w2.heap.size ≤ g ∧ g < w3.heap.size), fun g => fe g ∨ (w.heap.size ≤ g ∧ g < w2.heap.size), cs.set 0 (wrap64 (cz + 1)), rfl, ⟨hB9, by rw [List.length_set]; exact HS.out.cl, HR3.out.kept kS (fun g hg e => ?_), HS.out.m1, HS.out.m2, ?_, ?_, ?_, ?_⟩, HMY2.out.1, .inl (HMY2.out.2.2.2.2.elim (fun h => ⟨rfl, h.2⟩) (fun h => absurd rfl h.1)), ?_, ?_, KF⟩
      · subst e
        rcases hg with hg | hg
        · exact HS.out.sr hg
        · omega
      · rintro (hg | hg)
        · exact HS.out.sr hg
        · omega
      · rintro (hg | hg)
        · exact HS.out.se hg
        · omega
      · rintro g (hg | hg) (he | he)
        · exact HS.out.re g hg he
        · have := hfr g hg; omega
        · have := hfe g he; omega
        · omega
      · intro y hy
        rcases HMY2.out.2.1 y hy with h | h
        · exact ((HS.out.el y h).kept KF (fun g hg e => by
            rcases e with e | e
            · subst e; exact HS.out.se hg
            · exact HS.out.re g e hg)).mono (fun g _ h => .inl h)
        · subst h
          exact ⟨rfl, ys, rfl, by omega, (HE3.out.kept kS (fun g hg e => by omega)).mono (fun g _ h => .inr h), HKO.out⟩
      · rintro g (hg | hg)
        · exact .inl hg
        · exact .inr (by omega)
      · rintro g (hg | hg)
        · exact .inl hg
        · exact .inr (by omega)
theorem accept_any (bs : List Nat) (hb : ∀ c ∈ bs, c < 256) (w : World) (s p : Nat) (fr fe : Nat → Prop) (most : Nat) (r : RingM SnapS) (cs : List Int) (h : Sto w s p fr fe most r cs AnyP) (hT : TimesR r.l) (v : Value) (hv : ByAt w v bs) :
    Calls Tryz.prog 20 #[.pointer (some ⟨s, 0, none⟩), v] w (AccG w s p fr fe most r) := by
  have h2 : Sto w s p (fun g => fr g ∧ g < w.heap.size) (fun g => fe g ∧ g < w.heap.size) most r cs AnyP := h.mono (fun g hg => ⟨fun h => h.1, fun h => ⟨h, hg⟩⟩) (fun g hg => ⟨fun h => h.1, fun h => ⟨h, hg⟩⟩) (fun g h1 h2 => h.re g h1.1 h2.1)
  refine (accept_g1 bs hb w s p _ _ most r cs h2 hT (fun g h => h.2) (fun g h => h.2) v hv).mono ?_
  rintro e w' ⟨tick, er, r', fr', fe', cs', he, hS, hT', hK, h3, h4, hk⟩
  exact ⟨tick, er, r', fr', fe', cs', he, hS, hT', hK, fun g hg => (h3 g hg).imp And.left id, fun g hg => (h4 g hg).imp And.left id, hk.mono (fun k _ h => h.imp id And.left)⟩
end Go.Proofs.YtekdkckgmleofaaGreat
