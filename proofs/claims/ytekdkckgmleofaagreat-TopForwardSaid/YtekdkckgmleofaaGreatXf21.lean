/- Contracts of package record's functions at any bytes: Read. -/
import Derived.Test.YtekdkckgmleofaaGreatXf20
set_option linter.unusedVariables false
set_option linter.unusedSimpArgs false
namespace Go.Proofs.YtekdkckgmleofaaGreat
open Go.RowKit
theorem RdG.drew {w : World} {p g off cap : Nat} {bs : List Nat} {a : Nat} {er : Int} (h : RdG w p g off cap bs a er) : RdG w.drew p g off cap bs a er := h.kept (Kept.refl (fun _ => False) w).drew (fun h => h) (fun h => h)
theorem none2_calls (w : World) (u v : Value) : Calls Tryz.prog 169 #[u, v] w fun e w' => e = .returned (.tuple #[]) ∧ w = w' := by
  go_enter Tryz.func169, Tryz.ntmps169
  go_wp2_with fail
  go_end0
  exact ⟨rfl, rfl⟩
def GRecPost (last : Int) (p g off cap : Nat) (bs : List Nat) (w : World) (e : Ending) (w' : World) : Prop :=
  ∃ (r : RecM) (er2 : Int) (a' : Nat) (er' : Int), e = .returned (.tuple #[recV r, .int .i64 er2]) ∧ RdG w' p g off cap bs a' er' ∧ r.Ok ∧ 0 ≤ er2 ∧ er2 ≤ 17 ∧ (er2 = 0 → last < r.id ∧ r.id ≤ 65535 ∧ 0 ≤ r.kind ∧ r.kind ≤ 3) ∧ Kept (· = p) w w'
abbrev zR : RecM := ⟨0, 0, 0, 0, 0, 0, 0, 0, 0⟩
theorem zR_ok : zR.Ok := rec_ok (by unfold I64; omega) (by unfold I64; omega) (by unfold I64; omega) (by unfold I64; omega) (by unfold I64; omega) (by unfold I64; omega) (by omega)
abbrev set9 (W : World) (n : Nat) (r : RecM) : World := ((((((((W.setCell ⟨n, 0, none⟩ (.int .i64 r.kind)).setCell ⟨n, 1, none⟩ (.int .i64 r.id)).setCell ⟨n, 2, none⟩ (.int .i64 r.p0)).setCell ⟨n, 3, none⟩ (.int .i64 r.p1)).setCell ⟨n, 4, none⟩ (.int .i64 r.p2)).setCell ⟨n, 5, none⟩ (.int .i64 r.v0)).setCell ⟨n, 6, none⟩ (.int .i64 r.v1)).setCell ⟨n, 7, none⟩ (.int .i64 r.v2)).setCell ⟨n, 8, none⟩ (.int .u16 r.ang)
theorem blk9 {W : World} {n : Nat} {T : TypeId} {r0 : RecM} (h : Blk W n (recC r0) T) (r : RecM) : Blk (set9 W n r) n (recC r) T :=
  ((((((((h.set 0 (.int .i64 r.kind)).set 1 (.int .i64 r.id)).set 2 (.int .i64 r.p0)).set 3 (.int .i64 r.p1)).set 4 (.int .i64 r.p2)).set 5 (.int .i64 r.v0)).set 6 (.int .i64 r.v1)).set 7 (.int .i64 r.v2)).set 8 (.int .u16 r.ang)
theorem kept9 (W : World) (n : Nat) (r : RecM) : Kept (· = n) W (set9 W n r) :=
  ((((((((((Kept.refl (· = n) W).setCell (a := ⟨n, 0, none⟩) (.inl rfl) _).setCell (a := ⟨n, 1, none⟩) (.inl rfl) _).setCell (a := ⟨n, 2, none⟩) (.inl rfl) _).setCell (a := ⟨n, 3, none⟩) (.inl rfl) _).setCell (a := ⟨n, 4, none⟩) (.inl rfl) _).setCell (a := ⟨n, 5, none⟩) (.inl rfl) _).setCell (a := ⟨n, 6, none⟩) (.inl rfl) _).setCell (a := ⟨n, 7, none⟩) (.inl rfl) _).setCell (a := ⟨n, 8, none⟩) (.inl rfl) _)
set_option maxRecDepth 100000 in
set_option maxHeartbeats 40000000 in
theorem greadRec_calls (last : Int) (w : World) (p g off cap : Nat) (bs : List Nat) (a : Nat) (er : Int) (h : RdG w p g off cap bs a er) (h1 : -1 ≤ last) (h2 : last ≤ 65535) :
    Calls Tryz.prog 151 #[.pointer (some ⟨p, 0, none⟩), .int .i64 last] w (GRecPost last p g off cap bs w) := by
  have HKD := Lib.hid (fun W => kinds_calls W)
  have HU := Lib.hid (fun (m : Nat) W a er (h : RdG W p g off cap bs a er) => guint_calls m W p g off cap bs a er h)
  have HB := Lib.hid (fun W a er (h : RdG W p g off cap bs a er) => gbyte_calls W p g off cap bs a er h)
  have HF := Lib.hid (fun c W a er (c0 : 0 < c) (c1 : c ≤ 17) (h : RdG W p g off cap bs a er) => gfail_calls W p g off cap bs a er c h c0 c1)
  have HE := Lib.hid (fun W a er (h : RdG W p g off cap bs a er) => gerr_calls W p g off cap bs a er h)
  have HRA := Lib.hid (fun r W a er q (h : RdG W p g off cap bs a er) hq hqp hqg => greadAll_calls r W p g off cap q bs a er h hq hqp hqg)
  have HRS := Lib.hid (fun r (hr : RecM.Ok r) W a er q (h : RdG W p g off cap bs a er) hq hqp hqg => greadSome_calls r hr W p g off cap q bs a er h hq hqp hqg)
  have HRN := Lib.hid (fun W u v => none2_calls W u v)
  have hp := h.blk.lt
  have hgl := h.gl
  have HH := Lib.hid h
  clear h
  have g1 : ¬ last < -1 := by omega
  have g2 : ¬ 65535 < last := by omega
  by_cases g3 : last = 65535
  · subst g3
    have HZ0 := Lib.hid (Blk.new w zrec 175)
    have HR0 := Lib.hid (HH.out.kept ((Kept.refl (fun _ => False) w).alloc (.cells zrec.toArray 175)) (fun h => h) (fun h => h))
    go_enter Tryz.func151, Tryz.ntmps151
    go_wp2_with fail
    refine (HF.out 10 _ _ _ (by omega) (by omega) HR0.out).mono ?_
    rintro e w2 ⟨er2, rfl, hr2, hne, -, hk2⟩
    have HR2 := Lib.hid hr2
    have HNE := Lib.hid hne
    have HZ := Lib.hid (hk2.blk HZ0.out (by omega))
    have HK2 := Lib.hid (((Kept.refl (· = p) w).alloc (.cells zrec.toArray 175)).trans hk2 (fun _ h => .inl h))
    have f0 := HZ.out.free 0
    have f1 := HZ.out.free 1
    have f2 := HZ.out.free 2
    have f3 := HZ.out.free 3
    have f4 := HZ.out.free 4
    have f5 := HZ.out.free 5
    have f6 := HZ.out.free 6
    have f7 := HZ.out.free 7
    have f8 := HZ.out.free 8
    have d0 := HZ.out.cell (i := 0) rfl
    have d1 := HZ.out.cell (i := 1) rfl
    have d2 := HZ.out.cell (i := 2) rfl
    have d3 := HZ.out.cell (i := 3) rfl
    have d4 := HZ.out.cell (i := 4) rfl
    have d5 := HZ.out.cell (i := 5) rfl
    have d6 := HZ.out.cell (i := 6) rfl
    have d7 := HZ.out.cell (i := 7) rfl
    have d8 := HZ.out.cell (i := 8) rfl
    clear hr2 hne hk2
    go_wp2_with fail
    refine (HE.out _ _ _ HR2.out).mono ?_
    rintro e w3 ⟨rfl, rfl⟩
    go_wp2_with fail
    have HRD := HR2
    have HK := HK2
    have t0 := (HZ.out.set 0 (.int .i64 (zR).kind)).cell (i := 0) rfl
    have t1 := ((HZ.out.set 0 (.int .i64 (zR).kind)).set 1 (.int .i64 (zR).id)).cell (i := 1) rfl
    have t2 := (((HZ.out.set 0 (.int .i64 (zR).kind)).set 1 (.int .i64 (zR).id)).set 2 (.int .i64 (zR).p0)).cell (i := 2) rfl
    have t3 := ((((HZ.out.set 0 (.int .i64 (zR).kind)).set 1 (.int .i64 (zR).id)).set 2 (.int .i64 (zR).p0)).set 3 (.int .i64 (zR).p1)).cell (i := 3) rfl
    have t4 := (((((HZ.out.set 0 (.int .i64 (zR).kind)).set 1 (.int .i64 (zR).id)).set 2 (.int .i64 (zR).p0)).set 3 (.int .i64 (zR).p1)).set 4 (.int .i64 (zR).p2)).cell (i := 4) rfl
    have t5 := ((((((HZ.out.set 0 (.int .i64 (zR).kind)).set 1 (.int .i64 (zR).id)).set 2 (.int .i64 (zR).p0)).set 3 (.int .i64 (zR).p1)).set 4 (.int .i64 (zR).p2)).set 5 (.int .i64 (zR).v0)).cell (i := 5) rfl
    have t6 := (((((((HZ.out.set 0 (.int .i64 (zR).kind)).set 1 (.int .i64 (zR).id)).set 2 (.int .i64 (zR).p0)).set 3 (.int .i64 (zR).p1)).set 4 (.int .i64 (zR).p2)).set 5 (.int .i64 (zR).v0)).set 6 (.int .i64 (zR).v1)).cell (i := 6) rfl
    have t7 := ((((((((HZ.out.set 0 (.int .i64 (zR).kind)).set 1 (.int .i64 (zR).id)).set 2 (.int .i64 (zR).p0)).set 3 (.int .i64 (zR).p1)).set 4 (.int .i64 (zR).p2)).set 5 (.int .i64 (zR).v0)).set 6 (.int .i64 (zR).v1)).set 7 (.int .i64 (zR).v2)).cell (i := 7) rfl
    have t8 := (((((((((HZ.out.set 0 (.int .i64 (zR).kind)).set 1 (.int .i64 (zR).id)).set 2 (.int .i64 (zR).p0)).set 3 (.int .i64 (zR).p1)).set 4 (.int .i64 (zR).p2)).set 5 (.int .i64 (zR).v0)).set 6 (.int .i64 (zR).v1)).set 7 (.int .i64 (zR).v2)).set 8 (.int .u16 (zR).ang)).cell (i := 8) rfl
    (try dsimp only [zR] at t0 t1 t2 t3 t4 t5 t6 t7 t8)
    (try rw [show (((0 : Nat)) : Int) = 0 from rfl] at t8)
    refine bodyPost_ret (v := .tuple #[recV zR, .int .i64 er2]) (by simp [results, Tryz.f151, Tryz.results151, go_sem, t0, t1, t2, t3, t4, t5, t6, t7, t8]) rfl ⟨zR, er2, a, er2, rfl, HRD.out.kept (kept9 _ _ zR) (by omega) (by omega), zR_ok, HR2.out.e0, HR2.out.e1, fun e => absurd e HNE.out, HK.out.trans (kept9 _ _ zR) (fun i hi => .inr (by omega))⟩
  · go_enter Tryz.func151, Tryz.ntmps151
    go_wp2_with fail
    refine at_world (fun W => Blk W w.heap.size zrec 175 ∧ Blk W (w.heap.size + 1) (hrec 0 (last + 1)) 175 ∧ Kept (fun _ => False) w W ∧ w.heap.size + 2 ≤ W.heap.size) ⟨(Blk.new w zrec _).alloc _, Blk.new_at (by simp) (hrec 0 (last + 1)) _, ((Kept.refl _ w).alloc _).alloc _, by simp⟩ ?_
    rintro W ⟨B0, B1, K, hs⟩
    have b1 := B1.cell (i := 1) rfl
    have f1 := B1.free 1
    have hp1 : w.heap.size + 1 ≠ p := by omega
    have hg1 : w.heap.size + 1 ≠ g := by omega
    have HB0 := Lib.hid B0
    have HB1 := Lib.hid B1
    have HK := Lib.hid K
    have HR := Lib.hid (HH.out.kept K (fun h => h) (fun h => h))
    clear B0 B1 K
    obtain ⟨mm, hmm⟩ : ∃ mm : Nat, (mm : Int) = 65535 - (last + 1) := ⟨(65535 - (last + 1)).toNat, by omega⟩
    have q1 : IntKind.i64.wrap (65535 - (last + 1)) = 65535 - (last + 1) := IntWalk.i64_in _ (by omega)
    have q2 : IntKind.u64.wrap (65535 - (last + 1)) = 65535 - (last + 1) := IntWalk.u64_in _ (by omega)
    have HUM : Hid (∀ W a er, RdG W p g off cap bs a er → Calls Tryz.prog 148 #[.pointer (some ⟨p, 0, none⟩), .int .u64 (65535 - (last + 1))] W (TkPost .u64 mm W p g off cap bs a er)) := Lib.hid (fun W a er h => by rw [← hmm]; exact HU.out mm W a er h)
    go_region_with ((go_at_call 148; refine (HUM.out _ _ _ HR.out.drew).mono ?_; rintro e w2 ⟨xx, a2, er2, rfl, hxx, hr2, -, hk2⟩; have d1 := (hk2.blk HB1.out.drew hp1).cell (i := 1) rfl; have df := (hk2.blk HB1.out.drew hp1).free 1; have q3 : IntKind.i64.wrap (xx : Int) = xx := IntWalk.i64_in _ (by omega); have q5 : IntKind.i64.wrap (last + 1 + xx) = last + 1 + xx := IntWalk.i64_in _ (by omega)))
    all_goals
      obtain ⟨idn, hidn, hid1, hid2⟩ : ∃ i : Int, last + 1 + (xx : Int) = i ∧ last < i ∧ i ≤ 65535 := ⟨_, rfl, by omega, by omega⟩
      rw [hidn]
      have HB3 := Lib.hid ((hk2.blk HB1.out.drew hp1).set 1 (.int .i64 idn))
      have KS := (Kept.refl (· = w.heap.size + 1) w2).setCell (a := ⟨w.heap.size + 1, 1, none⟩) (.inl rfl) (.int .i64 idn)
      have HR3 := Lib.hid (hr2.kept KS (fun e => hp1 e.symm) (fun e => hg1 e.symm))
      have HB4 := Lib.hid ((hk2.blk HB0.out.drew (show w.heap.size ≠ p by omega)).set_ne (a := ⟨w.heap.size + 1, 1, none⟩) (show w.heap.size ≠ w.heap.size + 1 by omega) (.int .i64 idn))
      have HK3 := Lib.hid ((((HK.out.mono (G := (· = p)) (fun _ _ h => h.elim)).drew).trans hk2 (fun _ h => .inl h)).trans KS (fun i h => .inr (by omega)))
      have hs3 : w.heap.size + 2 ≤ (w2.setCell ⟨w.heap.size + 1, 1, none⟩ (.int .i64 idn)).heap.size := by
        rw [size_setCell]; have := hk2.size; have : W.heap.size ≤ w2.heap.size := this; omega
      have HID := Lib.hid (And.intro hid1 hid2)
      clear hr2 hk2 KS d1 df b1 f1 q1 q2 q3 q5 hidn hid1 hid2 hxx hmm
      go_wp2_with fail
      refine (HB.out _ _ _ HR3.out).mono ?_
      rintro e w4 ⟨kd, a4, er4, rfl, hkd, hr4, -, hk4⟩
      have B4 := hk4.blk HB3.out hp1
      have e0 := B4.cell (i := 0) rfl
      have e1 := B4.free 0
      have HB5 := Lib.hid (B4.set 0 (.int .i64 kd))
      have KS := (Kept.refl (· = w.heap.size + 1) w4).setCell (a := ⟨w.heap.size + 1, 0, none⟩) (.inl rfl) (.int .i64 kd)
      have HB6 := Lib.hid ((hk4.blk HB4.out (show w.heap.size ≠ p by omega)).set_ne (a := ⟨w.heap.size + 1, 0, none⟩) (show w.heap.size ≠ w.heap.size + 1 by omega) (.int .i64 kd))
      have HR4 := Lib.hid (hr4.kept KS (fun e => hp1 e.symm) (fun e => hg1 e.symm))
      have HK4 := Lib.hid ((HK3.out.trans hk4 (fun _ h => .inl h)).trans KS (fun i h => .inr (by omega)))
      have hs4 : w.heap.size + 2 ≤ (w4.setCell ⟨w.heap.size + 1, 0, none⟩ (.int .i64 kd)).heap.size := by
        rw [size_setCell]; have := hk4.size; omega
      have hwk : wrap64 (kd : Int) = kd := by unfold wrap64; omega
      clear B4 KS hr4 hk4 HB3 HB4 HR3 HK3
      go_wp2_with fail
      refine (HKD.out _).mono ?_
      rintro e w5 ⟨rfl, hk5⟩
      have B5 := hk5.blk HB5.out (fun h => h)
      have z5 := hk5.size
      have hs5 : w.heap.size + 2 ≤ w5.heap.size := by omega
      have K6 := (Kept.refl (fun _ => False) w5).alloc (.cells #[fnV 170, fnV 171, fnV 172, fnV 173, fnV 168, fnV 169, fnV 170, fnV 171] 245)
      have HR6 := Lib.hid ((HR4.out.kept hk5 (fun h => h) (fun h => h)).kept K6 (fun h => h) (fun h => h))
      have HB7 : Hid (Blk (w5.alloc (.cells #[fnV 170, fnV 171, fnV 172, fnV 173, fnV 168, fnV 169, fnV 170, fnV 171] 245)) (w.heap.size + 1) (recC ⟨kd, idn, 0, 0, 0, 0, 0, 0, 0⟩) 175) := Lib.hid (B5.alloc (.cells #[fnV 170, fnV 171, fnV 172, fnV 173, fnV 168, fnV 169, fnV 170, fnV 171] 245))
      have HB8 := Lib.hid ((hk5.blk HB6.out (fun h => h)).alloc (.cells #[fnV 170, fnV 171, fnV 172, fnV 173, fnV 168, fnV 169, fnV 170, fnV 171] 245))
      have HK6 := Lib.hid ((HK4.out.trans hk5 (fun _ h => h.elim)).trans K6 (fun _ h => h.elim))
      have HZOK : Hid (RecM.Ok ⟨kd, idn, 0, 0, 0, 0, 0, 0, 0⟩) := Lib.hid (rec_ok (by unfold I64; omega) (by unfold I64; omega) (by unfold I64; omega) (by unfold I64; omega) (by unfold I64; omega) (by unfold I64; omega) (by omega))
      have k0' := HB7.out.cell (i := 0) rfl
      clear B5 K6 hk5 HB5 HB6 HR4 HK4 hwk e0 e1
      have hne5 : w.heap.size + 1 ≠ w5.heap.size := by omega
      have hne6 : ¬ w5.heap.size = w.heap.size + 1 := by omega
      by_cases hk4 : (kd : Int) < 4
      · have hd4 : decide ((kd : Int) < 4) = true := decide_eq_true hk4
        rcases (by omega : kd = 0 ∨ kd = 1 ∨ kd = 2 ∨ kd = 3) with rfl | rfl | rfl | rfl
        · go_wp2_with fail
          refine (HRA.out _ _ _ _ (w.heap.size + 1) HR6.out HB7.out hp1 hg1).mono ?_
          rintro e w7 ⟨r7, a7, er7, rfl, hr7, hq7, hok, hkk, hii, hk7⟩
          have HRD := Lib.hid hr7
          have HZ := Lib.hid (hk7.blk HB8.out (fun e => by rcases e with e | e <;> omega))
          have HK := Lib.hid (HK6.out.trans hk7 (fun i hi => by rcases hi with hi | hi; exact .inl hi; exact .inr (by omega)))
          have HOK : Hid (r7.Ok ∧ last < r7.id ∧ r7.id ≤ 65535 ∧ 0 ≤ r7.kind ∧ r7.kind ≤ 3) := Lib.hid ⟨hok, by rw [hii]; exact HID.out.1, by rw [hii]; exact HID.out.2, by rw [hkk]; simp, by rw [hkk]; simp⟩
          clear hr7 hk7 hok hkk hii k0'
          have f0 := HZ.out.free 0
          have f1 := HZ.out.free 1
          have f2 := HZ.out.free 2
          have f3 := HZ.out.free 3
          have f4 := HZ.out.free 4
          have f5 := HZ.out.free 5
          have f6 := HZ.out.free 6
          have f7 := HZ.out.free 7
          have f8 := HZ.out.free 8
          have d0 := HZ.out.cell (i := 0) rfl
          have d1 := HZ.out.cell (i := 1) rfl
          have d2 := HZ.out.cell (i := 2) rfl
          have d3 := HZ.out.cell (i := 3) rfl
          have d4 := HZ.out.cell (i := 4) rfl
          have d5 := HZ.out.cell (i := 5) rfl
          have d6 := HZ.out.cell (i := 6) rfl
          have d7 := HZ.out.cell (i := 7) rfl
          have d8 := HZ.out.cell (i := 8) rfl
          have c0 := hq7.cell (i := 0) rfl
          have c1 := hq7.cell (i := 1) rfl
          have c2 := hq7.cell (i := 2) rfl
          have c3 := hq7.cell (i := 3) rfl
          have c4 := hq7.cell (i := 4) rfl
          have c5 := hq7.cell (i := 5) rfl
          have c6 := hq7.cell (i := 6) rfl
          have c7 := hq7.cell (i := 7) rfl
          have c8 := hq7.cell (i := 8) rfl
          clear hq7
          go_wp2_with fail
          refine (HE.out _ _ _ HRD.out).mono ?_
          rintro e8 w8 ⟨rfl, rfl⟩
          have HE0 := Lib.hid HRD.out.e0
          have HE1 := Lib.hid HRD.out.e1
          cases hz7 : (er7 == 0) with
          | false =>
            have hne7 : er7 ≠ 0 := by simpa using hz7
            go_wp2_with fail
            have t0 := (HZ.out.set 0 (.int .i64 (zR).kind)).cell (i := 0) rfl
            have t1 := ((HZ.out.set 0 (.int .i64 (zR).kind)).set 1 (.int .i64 (zR).id)).cell (i := 1) rfl
            have t2 := (((HZ.out.set 0 (.int .i64 (zR).kind)).set 1 (.int .i64 (zR).id)).set 2 (.int .i64 (zR).p0)).cell (i := 2) rfl
            have t3 := ((((HZ.out.set 0 (.int .i64 (zR).kind)).set 1 (.int .i64 (zR).id)).set 2 (.int .i64 (zR).p0)).set 3 (.int .i64 (zR).p1)).cell (i := 3) rfl
            have t4 := (((((HZ.out.set 0 (.int .i64 (zR).kind)).set 1 (.int .i64 (zR).id)).set 2 (.int .i64 (zR).p0)).set 3 (.int .i64 (zR).p1)).set 4 (.int .i64 (zR).p2)).cell (i := 4) rfl
            have t5 := ((((((HZ.out.set 0 (.int .i64 (zR).kind)).set 1 (.int .i64 (zR).id)).set 2 (.int .i64 (zR).p0)).set 3 (.int .i64 (zR).p1)).set 4 (.int .i64 (zR).p2)).set 5 (.int .i64 (zR).v0)).cell (i := 5) rfl
            have t6 := (((((((HZ.out.set 0 (.int .i64 (zR).kind)).set 1 (.int .i64 (zR).id)).set 2 (.int .i64 (zR).p0)).set 3 (.int .i64 (zR).p1)).set 4 (.int .i64 (zR).p2)).set 5 (.int .i64 (zR).v0)).set 6 (.int .i64 (zR).v1)).cell (i := 6) rfl
            have t7 := ((((((((HZ.out.set 0 (.int .i64 (zR).kind)).set 1 (.int .i64 (zR).id)).set 2 (.int .i64 (zR).p0)).set 3 (.int .i64 (zR).p1)).set 4 (.int .i64 (zR).p2)).set 5 (.int .i64 (zR).v0)).set 6 (.int .i64 (zR).v1)).set 7 (.int .i64 (zR).v2)).cell (i := 7) rfl
            have t8 := (((((((((HZ.out.set 0 (.int .i64 (zR).kind)).set 1 (.int .i64 (zR).id)).set 2 (.int .i64 (zR).p0)).set 3 (.int .i64 (zR).p1)).set 4 (.int .i64 (zR).p2)).set 5 (.int .i64 (zR).v0)).set 6 (.int .i64 (zR).v1)).set 7 (.int .i64 (zR).v2)).set 8 (.int .u16 (zR).ang)).cell (i := 8) rfl
            (try dsimp only [zR] at t0 t1 t2 t3 t4 t5 t6 t7 t8)
            (try rw [show (((0 : Nat)) : Int) = 0 from rfl] at t8)
            refine bodyPost_ret (v := .tuple #[recV zR, .int .i64 er7]) (by simp [results, Tryz.f151, Tryz.results151, go_sem, t0, t1, t2, t3, t4, t5, t6, t7, t8]) rfl ⟨zR, er7, a7, er7, rfl, HRD.out.kept (kept9 _ _ zR) (by omega) (by omega), zR_ok, HE0.out, HE1.out, fun e => absurd e hne7, HK.out.trans (kept9 _ _ zR) (fun i hi => .inr (by omega))⟩
          | true =>
            have hne7 : er7 = 0 := by simpa using hz7
            subst hne7
            go_wp2_with fail
            have t0 := (HZ.out.set 0 (.int .i64 (r7).kind)).cell (i := 0) rfl
            have t1 := ((HZ.out.set 0 (.int .i64 (r7).kind)).set 1 (.int .i64 (r7).id)).cell (i := 1) rfl
            have t2 := (((HZ.out.set 0 (.int .i64 (r7).kind)).set 1 (.int .i64 (r7).id)).set 2 (.int .i64 (r7).p0)).cell (i := 2) rfl
            have t3 := ((((HZ.out.set 0 (.int .i64 (r7).kind)).set 1 (.int .i64 (r7).id)).set 2 (.int .i64 (r7).p0)).set 3 (.int .i64 (r7).p1)).cell (i := 3) rfl
            have t4 := (((((HZ.out.set 0 (.int .i64 (r7).kind)).set 1 (.int .i64 (r7).id)).set 2 (.int .i64 (r7).p0)).set 3 (.int .i64 (r7).p1)).set 4 (.int .i64 (r7).p2)).cell (i := 4) rfl
            have t5 := ((((((HZ.out.set 0 (.int .i64 (r7).kind)).set 1 (.int .i64 (r7).id)).set 2 (.int .i64 (r7).p0)).set 3 (.int .i64 (r7).p1)).set 4 (.int .i64 (r7).p2)).set 5 (.int .i64 (r7).v0)).cell (i := 5) rfl
            have t6 := (((((((HZ.out.set 0 (.int .i64 (r7).kind)).set 1 (.int .i64 (r7).id)).set 2 (.int .i64 (r7).p0)).set 3 (.int .i64 (r7).p1)).set 4 (.int .i64 (r7).p2)).set 5 (.int .i64 (r7).v0)).set 6 (.int .i64 (r7).v1)).cell (i := 6) rfl
            have t7 := ((((((((HZ.out.set 0 (.int .i64 (r7).kind)).set 1 (.int .i64 (r7).id)).set 2 (.int .i64 (r7).p0)).set 3 (.int .i64 (r7).p1)).set 4 (.int .i64 (r7).p2)).set 5 (.int .i64 (r7).v0)).set 6 (.int .i64 (r7).v1)).set 7 (.int .i64 (r7).v2)).cell (i := 7) rfl
            have t8 := (((((((((HZ.out.set 0 (.int .i64 (r7).kind)).set 1 (.int .i64 (r7).id)).set 2 (.int .i64 (r7).p0)).set 3 (.int .i64 (r7).p1)).set 4 (.int .i64 (r7).p2)).set 5 (.int .i64 (r7).v0)).set 6 (.int .i64 (r7).v1)).set 7 (.int .i64 (r7).v2)).set 8 (.int .u16 (r7).ang)).cell (i := 8) rfl
            (try dsimp only [zR] at t0 t1 t2 t3 t4 t5 t6 t7 t8)
            (try rw [show (((0 : Nat)) : Int) = 0 from rfl] at t8)
            refine bodyPost_ret (v := .tuple #[recV r7, .int .i64 0]) (by simp [results, Tryz.f151, Tryz.results151, go_sem, t0, t1, t2, t3, t4, t5, t6, t7, t8]) rfl ⟨r7, 0, a7, 0, rfl, HRD.out.kept (kept9 _ _ r7) (by omega) (by omega), HOK.out.1, by omega, by omega, fun _ => HOK.out.2, HK.out.trans (kept9 _ _ r7) (fun i hi => .inr (by omega))⟩
        · go_wp2_with fail
          refine (HRS.out _ HZOK.out _ _ _ (w.heap.size + 1) HR6.out HB7.out hp1 hg1).mono ?_
          rintro e w7 ⟨r7, a7, er7, rfl, hr7, hq7, hok, hkk, hii, hk7⟩
          have HRD := Lib.hid hr7
          have HZ := Lib.hid (hk7.blk HB8.out (fun e => by rcases e with e | e <;> omega))
          have HK := Lib.hid (HK6.out.trans hk7 (fun i hi => by rcases hi with hi | hi; exact .inl hi; exact .inr (by omega)))
          have HOK : Hid (r7.Ok ∧ last < r7.id ∧ r7.id ≤ 65535 ∧ 0 ≤ r7.kind ∧ r7.kind ≤ 3) := Lib.hid ⟨hok, by rw [hii]; exact HID.out.1, by rw [hii]; exact HID.out.2, by rw [hkk]; simp, by rw [hkk]; simp⟩
          clear hr7 hk7 hok hkk hii k0'
          have f0 := HZ.out.free 0
          have f1 := HZ.out.free 1
          have f2 := HZ.out.free 2
          have f3 := HZ.out.free 3
          have f4 := HZ.out.free 4
          have f5 := HZ.out.free 5
          have f6 := HZ.out.free 6
          have f7 := HZ.out.free 7
          have f8 := HZ.out.free 8
          have d0 := HZ.out.cell (i := 0) rfl
          have d1 := HZ.out.cell (i := 1) rfl
          have d2 := HZ.out.cell (i := 2) rfl
          have d3 := HZ.out.cell (i := 3) rfl
          have d4 := HZ.out.cell (i := 4) rfl
          have d5 := HZ.out.cell (i := 5) rfl
          have d6 := HZ.out.cell (i := 6) rfl
          have d7 := HZ.out.cell (i := 7) rfl
          have d8 := HZ.out.cell (i := 8) rfl
          have c0 := hq7.cell (i := 0) rfl
          have c1 := hq7.cell (i := 1) rfl
          have c2 := hq7.cell (i := 2) rfl
          have c3 := hq7.cell (i := 3) rfl
          have c4 := hq7.cell (i := 4) rfl
          have c5 := hq7.cell (i := 5) rfl
          have c6 := hq7.cell (i := 6) rfl
          have c7 := hq7.cell (i := 7) rfl
          have c8 := hq7.cell (i := 8) rfl
          clear hq7
          go_wp2_with fail
          refine (HE.out _ _ _ HRD.out).mono ?_
          rintro e8 w8 ⟨rfl, rfl⟩
          have HE0 := Lib.hid HRD.out.e0
          have HE1 := Lib.hid HRD.out.e1
          cases hz7 : (er7 == 0) with
          | false =>
            have hne7 : er7 ≠ 0 := by simpa using hz7
            go_wp2_with fail
            have t0 := (HZ.out.set 0 (.int .i64 (zR).kind)).cell (i := 0) rfl
            have t1 := ((HZ.out.set 0 (.int .i64 (zR).kind)).set 1 (.int .i64 (zR).id)).cell (i := 1) rfl
            have t2 := (((HZ.out.set 0 (.int .i64 (zR).kind)).set 1 (.int .i64 (zR).id)).set 2 (.int .i64 (zR).p0)).cell (i := 2) rfl
            have t3 := ((((HZ.out.set 0 (.int .i64 (zR).kind)).set 1 (.int .i64 (zR).id)).set 2 (.int .i64 (zR).p0)).set 3 (.int .i64 (zR).p1)).cell (i := 3) rfl
            have t4 := (((((HZ.out.set 0 (.int .i64 (zR).kind)).set 1 (.int .i64 (zR).id)).set 2 (.int .i64 (zR).p0)).set 3 (.int .i64 (zR).p1)).set 4 (.int .i64 (zR).p2)).cell (i := 4) rfl
            have t5 := ((((((HZ.out.set 0 (.int .i64 (zR).kind)).set 1 (.int .i64 (zR).id)).set 2 (.int .i64 (zR).p0)).set 3 (.int .i64 (zR).p1)).set 4 (.int .i64 (zR).p2)).set 5 (.int .i64 (zR).v0)).cell (i := 5) rfl
            have t6 := (((((((HZ.out.set 0 (.int .i64 (zR).kind)).set 1 (.int .i64 (zR).id)).set 2 (.int .i64 (zR).p0)).set 3 (.int .i64 (zR).p1)).set 4 (.int .i64 (zR).p2)).set 5 (.int .i64 (zR).v0)).set 6 (.int .i64 (zR).v1)).cell (i := 6) rfl
            have t7 := ((((((((HZ.out.set 0 (.int .i64 (zR).kind)).set 1 (.int .i64 (zR).id)).set 2 (.int .i64 (zR).p0)).set 3 (.int .i64 (zR).p1)).set 4 (.int .i64 (zR).p2)).set 5 (.int .i64 (zR).v0)).set 6 (.int .i64 (zR).v1)).set 7 (.int .i64 (zR).v2)).cell (i := 7) rfl
            have t8 := (((((((((HZ.out.set 0 (.int .i64 (zR).kind)).set 1 (.int .i64 (zR).id)).set 2 (.int .i64 (zR).p0)).set 3 (.int .i64 (zR).p1)).set 4 (.int .i64 (zR).p2)).set 5 (.int .i64 (zR).v0)).set 6 (.int .i64 (zR).v1)).set 7 (.int .i64 (zR).v2)).set 8 (.int .u16 (zR).ang)).cell (i := 8) rfl
            (try dsimp only [zR] at t0 t1 t2 t3 t4 t5 t6 t7 t8)
            (try rw [show (((0 : Nat)) : Int) = 0 from rfl] at t8)
            refine bodyPost_ret (v := .tuple #[recV zR, .int .i64 er7]) (by simp [results, Tryz.f151, Tryz.results151, go_sem, t0, t1, t2, t3, t4, t5, t6, t7, t8]) rfl ⟨zR, er7, a7, er7, rfl, HRD.out.kept (kept9 _ _ zR) (by omega) (by omega), zR_ok, HE0.out, HE1.out, fun e => absurd e hne7, HK.out.trans (kept9 _ _ zR) (fun i hi => .inr (by omega))⟩
          | true =>
            have hne7 : er7 = 0 := by simpa using hz7
            subst hne7
            go_wp2_with fail
            have t0 := (HZ.out.set 0 (.int .i64 (r7).kind)).cell (i := 0) rfl
            have t1 := ((HZ.out.set 0 (.int .i64 (r7).kind)).set 1 (.int .i64 (r7).id)).cell (i := 1) rfl
            have t2 := (((HZ.out.set 0 (.int .i64 (r7).kind)).set 1 (.int .i64 (r7).id)).set 2 (.int .i64 (r7).p0)).cell (i := 2) rfl
            have t3 := ((((HZ.out.set 0 (.int .i64 (r7).kind)).set 1 (.int .i64 (r7).id)).set 2 (.int .i64 (r7).p0)).set 3 (.int .i64 (r7).p1)).cell (i := 3) rfl
            have t4 := (((((HZ.out.set 0 (.int .i64 (r7).kind)).set 1 (.int .i64 (r7).id)).set 2 (.int .i64 (r7).p0)).set 3 (.int .i64 (r7).p1)).set 4 (.int .i64 (r7).p2)).cell (i := 4) rfl
            have t5 := ((((((HZ.out.set 0 (.int .i64 (r7).kind)).set 1 (.int .i64 (r7).id)).set 2 (.int .i64 (r7).p0)).set 3 (.int .i64 (r7).p1)).set 4 (.int .i64 (r7).p2)).set 5 (.int .i64 (r7).v0)).cell (i := 5) rfl
            have t6 := (((((((HZ.out.set 0 (.int .i64 (r7).kind)).set 1 (.int .i64 (r7).id)).set 2 (.int .i64 (r7).p0)).set 3 (.int .i64 (r7).p1)).set 4 (.int .i64 (r7).p2)).set 5 (.int .i64 (r7).v0)).set 6 (.int .i64 (r7).v1)).cell (i := 6) rfl
            have t7 := ((((((((HZ.out.set 0 (.int .i64 (r7).kind)).set 1 (.int .i64 (r7).id)).set 2 (.int .i64 (r7).p0)).set 3 (.int .i64 (r7).p1)).set 4 (.int .i64 (r7).p2)).set 5 (.int .i64 (r7).v0)).set 6 (.int .i64 (r7).v1)).set 7 (.int .i64 (r7).v2)).cell (i := 7) rfl
            have t8 := (((((((((HZ.out.set 0 (.int .i64 (r7).kind)).set 1 (.int .i64 (r7).id)).set 2 (.int .i64 (r7).p0)).set 3 (.int .i64 (r7).p1)).set 4 (.int .i64 (r7).p2)).set 5 (.int .i64 (r7).v0)).set 6 (.int .i64 (r7).v1)).set 7 (.int .i64 (r7).v2)).set 8 (.int .u16 (r7).ang)).cell (i := 8) rfl
            (try dsimp only [zR] at t0 t1 t2 t3 t4 t5 t6 t7 t8)
            (try rw [show (((0 : Nat)) : Int) = 0 from rfl] at t8)
            refine bodyPost_ret (v := .tuple #[recV r7, .int .i64 0]) (by simp [results, Tryz.f151, Tryz.results151, go_sem, t0, t1, t2, t3, t4, t5, t6, t7, t8]) rfl ⟨r7, 0, a7, 0, rfl, HRD.out.kept (kept9 _ _ r7) (by omega) (by omega), HOK.out.1, by omega, by omega, fun _ => HOK.out.2, HK.out.trans (kept9 _ _ r7) (fun i hi => .inr (by omega))⟩
        · go_wp2_with fail
          refine (HRN.out _ _ _).mono ?_
          rintro e w7 ⟨rfl, hw7⟩
          subst hw7
          have hq7 := HB7.out
          have HRD := HR6
          have HZ := HB8
          have HK := HK6
          have HOK : Hid (RecM.Ok ⟨2, idn, 0, 0, 0, 0, 0, 0, 0⟩ ∧ last < idn ∧ idn ≤ 65535 ∧ (0 : Int) ≤ 2 ∧ (2 : Int) ≤ 3) := Lib.hid ⟨HZOK.out, HID.out.1, HID.out.2, by omega, by omega⟩
          obtain ⟨a7, er7, HRD⟩ : ∃ (a7 : Nat) (er7 : Int), Hid (RdG (w5.alloc (.cells #[fnV 170, fnV 171, fnV 172, fnV 173, fnV 168, fnV 169, fnV 170, fnV 171] 245)) p g off cap bs a7 er7) := ⟨_, _, HRD⟩
          obtain ⟨r7, hr7e⟩ : ∃ r7 : RecM, r7 = ⟨2, idn, 0, 0, 0, 0, 0, 0, 0⟩ := ⟨_, rfl⟩
          have hq7 : Blk (w5.alloc (.cells #[fnV 170, fnV 171, fnV 172, fnV 173, fnV 168, fnV 169, fnV 170, fnV 171] 245)) (w.heap.size + 1) (recC r7) 175 := by rw [hr7e]; exact hq7
          have HOK : Hid (r7.Ok ∧ last < r7.id ∧ r7.id ≤ 65535 ∧ 0 ≤ r7.kind ∧ r7.kind ≤ 3) := by rw [hr7e]; exact HOK
          clear hr7e k0'
          have f0 := HZ.out.free 0
          have f1 := HZ.out.free 1
          have f2 := HZ.out.free 2
          have f3 := HZ.out.free 3
          have f4 := HZ.out.free 4
          have f5 := HZ.out.free 5
          have f6 := HZ.out.free 6
          have f7 := HZ.out.free 7
          have f8 := HZ.out.free 8
          have d0 := HZ.out.cell (i := 0) rfl
          have d1 := HZ.out.cell (i := 1) rfl
          have d2 := HZ.out.cell (i := 2) rfl
          have d3 := HZ.out.cell (i := 3) rfl
          have d4 := HZ.out.cell (i := 4) rfl
          have d5 := HZ.out.cell (i := 5) rfl
          have d6 := HZ.out.cell (i := 6) rfl
          have d7 := HZ.out.cell (i := 7) rfl
          have d8 := HZ.out.cell (i := 8) rfl
          have c0 := hq7.cell (i := 0) rfl
          have c1 := hq7.cell (i := 1) rfl
          have c2 := hq7.cell (i := 2) rfl
          have c3 := hq7.cell (i := 3) rfl
          have c4 := hq7.cell (i := 4) rfl
          have c5 := hq7.cell (i := 5) rfl
          have c6 := hq7.cell (i := 6) rfl
          have c7 := hq7.cell (i := 7) rfl
          have c8 := hq7.cell (i := 8) rfl
          clear hq7
          go_wp2_with fail
          refine (HE.out _ _ _ HRD.out).mono ?_
          rintro e8 w8 ⟨rfl, rfl⟩
          have HE0 := Lib.hid HRD.out.e0
          have HE1 := Lib.hid HRD.out.e1
          cases hz7 : (er7 == 0) with
          | false =>
            have hne7 : er7 ≠ 0 := by simpa using hz7
            go_wp2_with fail
            have t0 := (HZ.out.set 0 (.int .i64 (zR).kind)).cell (i := 0) rfl
            have t1 := ((HZ.out.set 0 (.int .i64 (zR).kind)).set 1 (.int .i64 (zR).id)).cell (i := 1) rfl
            have t2 := (((HZ.out.set 0 (.int .i64 (zR).kind)).set 1 (.int .i64 (zR).id)).set 2 (.int .i64 (zR).p0)).cell (i := 2) rfl
            have t3 := ((((HZ.out.set 0 (.int .i64 (zR).kind)).set 1 (.int .i64 (zR).id)).set 2 (.int .i64 (zR).p0)).set 3 (.int .i64 (zR).p1)).cell (i := 3) rfl
            have t4 := (((((HZ.out.set 0 (.int .i64 (zR).kind)).set 1 (.int .i64 (zR).id)).set 2 (.int .i64 (zR).p0)).set 3 (.int .i64 (zR).p1)).set 4 (.int .i64 (zR).p2)).cell (i := 4) rfl
            have t5 := ((((((HZ.out.set 0 (.int .i64 (zR).kind)).set 1 (.int .i64 (zR).id)).set 2 (.int .i64 (zR).p0)).set 3 (.int .i64 (zR).p1)).set 4 (.int .i64 (zR).p2)).set 5 (.int .i64 (zR).v0)).cell (i := 5) rfl
            have t6 := (((((((HZ.out.set 0 (.int .i64 (zR).kind)).set 1 (.int .i64 (zR).id)).set 2 (.int .i64 (zR).p0)).set 3 (.int .i64 (zR).p1)).set 4 (.int .i64 (zR).p2)).set 5 (.int .i64 (zR).v0)).set 6 (.int .i64 (zR).v1)).cell (i := 6) rfl
            have t7 := ((((((((HZ.out.set 0 (.int .i64 (zR).kind)).set 1 (.int .i64 (zR).id)).set 2 (.int .i64 (zR).p0)).set 3 (.int .i64 (zR).p1)).set 4 (.int .i64 (zR).p2)).set 5 (.int .i64 (zR).v0)).set 6 (.int .i64 (zR).v1)).set 7 (.int .i64 (zR).v2)).cell (i := 7) rfl
            have t8 := (((((((((HZ.out.set 0 (.int .i64 (zR).kind)).set 1 (.int .i64 (zR).id)).set 2 (.int .i64 (zR).p0)).set 3 (.int .i64 (zR).p1)).set 4 (.int .i64 (zR).p2)).set 5 (.int .i64 (zR).v0)).set 6 (.int .i64 (zR).v1)).set 7 (.int .i64 (zR).v2)).set 8 (.int .u16 (zR).ang)).cell (i := 8) rfl
            (try dsimp only [zR] at t0 t1 t2 t3 t4 t5 t6 t7 t8)
            (try rw [show (((0 : Nat)) : Int) = 0 from rfl] at t8)
            refine bodyPost_ret (v := .tuple #[recV zR, .int .i64 er7]) (by simp [results, Tryz.f151, Tryz.results151, go_sem, t0, t1, t2, t3, t4, t5, t6, t7, t8]) rfl ⟨zR, er7, a7, er7, rfl, HRD.out.kept (kept9 _ _ zR) (by omega) (by omega), zR_ok, HE0.out, HE1.out, fun e => absurd e hne7, HK.out.trans (kept9 _ _ zR) (fun i hi => .inr (by omega))⟩
          | true =>
            have hne7 : er7 = 0 := by simpa using hz7
            subst hne7
            go_wp2_with fail
            have t0 := (HZ.out.set 0 (.int .i64 (r7).kind)).cell (i := 0) rfl
            have t1 := ((HZ.out.set 0 (.int .i64 (r7).kind)).set 1 (.int .i64 (r7).id)).cell (i := 1) rfl
            have t2 := (((HZ.out.set 0 (.int .i64 (r7).kind)).set 1 (.int .i64 (r7).id)).set 2 (.int .i64 (r7).p0)).cell (i := 2) rfl
            have t3 := ((((HZ.out.set 0 (.int .i64 (r7).kind)).set 1 (.int .i64 (r7).id)).set 2 (.int .i64 (r7).p0)).set 3 (.int .i64 (r7).p1)).cell (i := 3) rfl
            have t4 := (((((HZ.out.set 0 (.int .i64 (r7).kind)).set 1 (.int .i64 (r7).id)).set 2 (.int .i64 (r7).p0)).set 3 (.int .i64 (r7).p1)).set 4 (.int .i64 (r7).p2)).cell (i := 4) rfl
            have t5 := ((((((HZ.out.set 0 (.int .i64 (r7).kind)).set 1 (.int .i64 (r7).id)).set 2 (.int .i64 (r7).p0)).set 3 (.int .i64 (r7).p1)).set 4 (.int .i64 (r7).p2)).set 5 (.int .i64 (r7).v0)).cell (i := 5) rfl
            have t6 := (((((((HZ.out.set 0 (.int .i64 (r7).kind)).set 1 (.int .i64 (r7).id)).set 2 (.int .i64 (r7).p0)).set 3 (.int .i64 (r7).p1)).set 4 (.int .i64 (r7).p2)).set 5 (.int .i64 (r7).v0)).set 6 (.int .i64 (r7).v1)).cell (i := 6) rfl
            have t7 := ((((((((HZ.out.set 0 (.int .i64 (r7).kind)).set 1 (.int .i64 (r7).id)).set 2 (.int .i64 (r7).p0)).set 3 (.int .i64 (r7).p1)).set 4 (.int .i64 (r7).p2)).set 5 (.int .i64 (r7).v0)).set 6 (.int .i64 (r7).v1)).set 7 (.int .i64 (r7).v2)).cell (i := 7) rfl
            have t8 := (((((((((HZ.out.set 0 (.int .i64 (r7).kind)).set 1 (.int .i64 (r7).id)).set 2 (.int .i64 (r7).p0)).set 3 (.int .i64 (r7).p1)).set 4 (.int .i64 (r7).p2)).set 5 (.int .i64 (r7).v0)).set 6 (.int .i64 (r7).v1)).set 7 (.int .i64 (r7).v2)).set 8 (.int .u16 (r7).ang)).cell (i := 8) rfl
            (try dsimp only [zR] at t0 t1 t2 t3 t4 t5 t6 t7 t8)
            (try rw [show (((0 : Nat)) : Int) = 0 from rfl] at t8)
            refine bodyPost_ret (v := .tuple #[recV r7, .int .i64 0]) (by simp [results, Tryz.f151, Tryz.results151, go_sem, t0, t1, t2, t3, t4, t5, t6, t7, t8]) rfl ⟨r7, 0, a7, 0, rfl, HRD.out.kept (kept9 _ _ r7) (by omega) (by omega), HOK.out.1, by omega, by omega, fun _ => HOK.out.2, HK.out.trans (kept9 _ _ r7) (fun i hi => .inr (by omega))⟩
        · go_wp2_with fail
          refine (HRA.out _ _ _ _ (w.heap.size + 1) HR6.out HB7.out hp1 hg1).mono ?_
          rintro e w7 ⟨r7, a7, er7, rfl, hr7, hq7, hok, hkk, hii, hk7⟩
          have HRD := Lib.hid hr7
          have HZ := Lib.hid (hk7.blk HB8.out (fun e => by rcases e with e | e <;> omega))
          have HK := Lib.hid (HK6.out.trans hk7 (fun i hi => by rcases hi with hi | hi; exact .inl hi; exact .inr (by omega)))
          have HOK : Hid (r7.Ok ∧ last < r7.id ∧ r7.id ≤ 65535 ∧ 0 ≤ r7.kind ∧ r7.kind ≤ 3) := Lib.hid ⟨hok, by rw [hii]; exact HID.out.1, by rw [hii]; exact HID.out.2, by rw [hkk]; simp, by rw [hkk]; simp⟩
          clear hr7 hk7 hok hkk hii k0'
          have f0 := HZ.out.free 0
          have f1 := HZ.out.free 1
          have f2 := HZ.out.free 2
          have f3 := HZ.out.free 3
          have f4 := HZ.out.free 4
          have f5 := HZ.out.free 5
          have f6 := HZ.out.free 6
          have f7 := HZ.out.free 7
          have f8 := HZ.out.free 8
          have d0 := HZ.out.cell (i := 0) rfl
          have d1 := HZ.out.cell (i := 1) rfl
          have d2 := HZ.out.cell (i := 2) rfl
          have d3 := HZ.out.cell (i := 3) rfl
          have d4 := HZ.out.cell (i := 4) rfl
          have d5 := HZ.out.cell (i := 5) rfl
          have d6 := HZ.out.cell (i := 6) rfl
          have d7 := HZ.out.cell (i := 7) rfl
          have d8 := HZ.out.cell (i := 8) rfl
          have c0 := hq7.cell (i := 0) rfl
          have c1 := hq7.cell (i := 1) rfl
          have c2 := hq7.cell (i := 2) rfl
          have c3 := hq7.cell (i := 3) rfl
          have c4 := hq7.cell (i := 4) rfl
          have c5 := hq7.cell (i := 5) rfl
          have c6 := hq7.cell (i := 6) rfl
          have c7 := hq7.cell (i := 7) rfl
          have c8 := hq7.cell (i := 8) rfl
          clear hq7
          go_wp2_with fail
          refine (HE.out _ _ _ HRD.out).mono ?_
          rintro e8 w8 ⟨rfl, rfl⟩
          have HE0 := Lib.hid HRD.out.e0
          have HE1 := Lib.hid HRD.out.e1
          cases hz7 : (er7 == 0) with
          | false =>
            have hne7 : er7 ≠ 0 := by simpa using hz7
            go_wp2_with fail
            have t0 := (HZ.out.set 0 (.int .i64 (zR).kind)).cell (i := 0) rfl
            have t1 := ((HZ.out.set 0 (.int .i64 (zR).kind)).set 1 (.int .i64 (zR).id)).cell (i := 1) rfl
            have t2 := (((HZ.out.set 0 (.int .i64 (zR).kind)).set 1 (.int .i64 (zR).id)).set 2 (.int .i64 (zR).p0)).cell (i := 2) rfl
            have t3 := ((((HZ.out.set 0 (.int .i64 (zR).kind)).set 1 (.int .i64 (zR).id)).set 2 (.int .i64 (zR).p0)).set 3 (.int .i64 (zR).p1)).cell (i := 3) rfl
            have t4 := (((((HZ.out.set 0 (.int .i64 (zR).kind)).set 1 (.int .i64 (zR).id)).set 2 (.int .i64 (zR).p0)).set 3 (.int .i64 (zR).p1)).set 4 (.int .i64 (zR).p2)).cell (i := 4) rfl
            have t5 := ((((((HZ.out.set 0 (.int .i64 (zR).kind)).set 1 (.int .i64 (zR).id)).set 2 (.int .i64 (zR).p0)).set 3 (.int .i64 (zR).p1)).set 4 (.int .i64 (zR).p2)).set 5 (.int .i64 (zR).v0)).cell (i := 5) rfl
            have t6 := (((((((HZ.out.set 0 (.int .i64 (zR).kind)).set 1 (.int .i64 (zR).id)).set 2 (.int .i64 (zR).p0)).set 3 (.int .i64 (zR).p1)).set 4 (.int .i64 (zR).p2)).set 5 (.int .i64 (zR).v0)).set 6 (.int .i64 (zR).v1)).cell (i := 6) rfl
            have t7 := ((((((((HZ.out.set 0 (.int .i64 (zR).kind)).set 1 (.int .i64 (zR).id)).set 2 (.int .i64 (zR).p0)).set 3 (.int .i64 (zR).p1)).set 4 (.int .i64 (zR).p2)).set 5 (.int .i64 (zR).v0)).set 6 (.int .i64 (zR).v1)).set 7 (.int .i64 (zR).v2)).cell (i := 7) rfl
            have t8 := (((((((((HZ.out.set 0 (.int .i64 (zR).kind)).set 1 (.int .i64 (zR).id)).set 2 (.int .i64 (zR).p0)).set 3 (.int .i64 (zR).p1)).set 4 (.int .i64 (zR).p2)).set 5 (.int .i64 (zR).v0)).set 6 (.int .i64 (zR).v1)).set 7 (.int .i64 (zR).v2)).set 8 (.int .u16 (zR).ang)).cell (i := 8) rfl
            (try dsimp only [zR] at t0 t1 t2 t3 t4 t5 t6 t7 t8)
            (try rw [show (((0 : Nat)) : Int) = 0 from rfl] at t8)
            refine bodyPost_ret (v := .tuple #[recV zR, .int .i64 er7]) (by simp [results, Tryz.f151, Tryz.results151, go_sem, t0, t1, t2, t3, t4, t5, t6, t7, t8]) rfl ⟨zR, er7, a7, er7, rfl, HRD.out.kept (kept9 _ _ zR) (by omega) (by omega), zR_ok, HE0.out, HE1.out, fun e => absurd e hne7, HK.out.trans (kept9 _ _ zR) (fun i hi => .inr (by omega))⟩
          | true =>
            have hne7 : er7 = 0 := by simpa using hz7
            subst hne7
            go_wp2_with fail
            have t0 := (HZ.out.set 0 (.int .i64 (r7).kind)).cell (i := 0) rfl
            have t1 := ((HZ.out.set 0 (.int .i64 (r7).kind)).set 1 (.int .i64 (r7).id)).cell (i := 1) rfl
            have t2 := (((HZ.out.set 0 (.int .i64 (r7).kind)).set 1 (.int .i64 (r7).id)).set 2 (.int .i64 (r7).p0)).cell (i := 2) rfl
            have t3 := ((((HZ.out.set 0 (.int .i64 (r7).kind)).set 1 (.int .i64 (r7).id)).set 2 (.int .i64 (r7).p0)).set 3 (.int .i64 (r7).p1)).cell (i := 3) rfl
            have t4 := (((((HZ.out.set 0 (.int .i64 (r7).kind)).set 1 (.int .i64 (r7).id)).set 2 (.int .i64 (r7).p0)).set 3 (.int .i64 (r7).p1)).set 4 (.int .i64 (r7).p2)).cell (i := 4) rfl
            have t5 := ((((((HZ.out.set 0 (.int .i64 (r7).kind)).set 1 (.int .i64 (r7).id)).set 2 (.int .i64 (r7).p0)).set 3 (.int .i64 (r7).p1)).set 4 (.int .i64 (r7).p2)).set 5 (.int .i64 (r7).v0)).cell (i := 5) rfl
            have t6 := (((((((HZ.out.set 0 (.int .i64 (r7).kind)).set 1 (.int .i64 (r7).id)).set 2 (.int .i64 (r7).p0)).set 3 (.int .i64 (r7).p1)).set 4 (.int .i64 (r7).p2)).set 5 (.int .i64 (r7).v0)).set 6 (.int .i64 (r7).v1)).cell (i := 6) rfl
            have t7 := ((((((((HZ.out.set 0 (.int .i64 (r7).kind)).set 1 (.int .i64 (r7).id)).set 2 (.int .i64 (r7).p0)).set 3 (.int .i64 (r7).p1)).set 4 (.int .i64 (r7).p2)).set 5 (.int .i64 (r7).v0)).set 6 (.int .i64 (r7).v1)).set 7 (.int .i64 (r7).v2)).cell (i := 7) rfl
            have t8 := (((((((((HZ.out.set 0 (.int .i64 (r7).kind)).set 1 (.int .i64 (r7).id)).set 2 (.int .i64 (r7).p0)).set 3 (.int .i64 (r7).p1)).set 4 (.int .i64 (r7).p2)).set 5 (.int .i64 (r7).v0)).set 6 (.int .i64 (r7).v1)).set 7 (.int .i64 (r7).v2)).set 8 (.int .u16 (r7).ang)).cell (i := 8) rfl
            (try dsimp only [zR] at t0 t1 t2 t3 t4 t5 t6 t7 t8)
            (try rw [show (((0 : Nat)) : Int) = 0 from rfl] at t8)
            refine bodyPost_ret (v := .tuple #[recV r7, .int .i64 0]) (by simp [results, Tryz.f151, Tryz.results151, go_sem, t0, t1, t2, t3, t4, t5, t6, t7, t8]) rfl ⟨r7, 0, a7, 0, rfl, HRD.out.kept (kept9 _ _ r7) (by omega) (by omega), HOK.out.1, by omega, by omega, fun _ => HOK.out.2, HK.out.trans (kept9 _ _ r7) (fun i hi => .inr (by omega))⟩
      · have hd4 : decide ((kd : Int) < 4) = false := decide_eq_false hk4
        go_wp2_with fail
        refine (HF.out 11 _ _ _ (by omega) (by omega) HR6.out).mono ?_
        rintro e w7 ⟨er7, rfl, hr7, hne, -, hk7⟩
        have HRD := Lib.hid hr7
        have HZ := Lib.hid (hk7.blk HB8.out (by omega))
        have HK := Lib.hid (HK6.out.trans hk7 (fun i hi => .inl hi))
        have hne7 : (er7 != 0) = true := by simp [hne]
        have HNE := Lib.hid hne
        have f0 := HZ.out.free 0
        have f1 := HZ.out.free 1
        have f2 := HZ.out.free 2
        have f3 := HZ.out.free 3
        have f4 := HZ.out.free 4
        have f5 := HZ.out.free 5
        have f6 := HZ.out.free 6
        have f7 := HZ.out.free 7
        have f8 := HZ.out.free 8
        have d0 := HZ.out.cell (i := 0) rfl
        have d1 := HZ.out.cell (i := 1) rfl
        have d2 := HZ.out.cell (i := 2) rfl
        have d3 := HZ.out.cell (i := 3) rfl
        have d4 := HZ.out.cell (i := 4) rfl
        have d5 := HZ.out.cell (i := 5) rfl
        have d6 := HZ.out.cell (i := 6) rfl
        have d7 := HZ.out.cell (i := 7) rfl
        have d8 := HZ.out.cell (i := 8) rfl
        clear hr7 hk7 k0' hne
        go_wp2_with fail
        refine (HE.out _ _ _ HRD.out).mono ?_
        rintro e8 w8 ⟨rfl, rfl⟩
        have HE0 := Lib.hid HRD.out.e0
        have HE1 := Lib.hid HRD.out.e1
        go_wp2_with fail
        have t0 := (HZ.out.set 0 (.int .i64 (zR).kind)).cell (i := 0) rfl
        have t1 := ((HZ.out.set 0 (.int .i64 (zR).kind)).set 1 (.int .i64 (zR).id)).cell (i := 1) rfl
        have t2 := (((HZ.out.set 0 (.int .i64 (zR).kind)).set 1 (.int .i64 (zR).id)).set 2 (.int .i64 (zR).p0)).cell (i := 2) rfl
        have t3 := ((((HZ.out.set 0 (.int .i64 (zR).kind)).set 1 (.int .i64 (zR).id)).set 2 (.int .i64 (zR).p0)).set 3 (.int .i64 (zR).p1)).cell (i := 3) rfl
        have t4 := (((((HZ.out.set 0 (.int .i64 (zR).kind)).set 1 (.int .i64 (zR).id)).set 2 (.int .i64 (zR).p0)).set 3 (.int .i64 (zR).p1)).set 4 (.int .i64 (zR).p2)).cell (i := 4) rfl
        have t5 := ((((((HZ.out.set 0 (.int .i64 (zR).kind)).set 1 (.int .i64 (zR).id)).set 2 (.int .i64 (zR).p0)).set 3 (.int .i64 (zR).p1)).set 4 (.int .i64 (zR).p2)).set 5 (.int .i64 (zR).v0)).cell (i := 5) rfl
        have t6 := (((((((HZ.out.set 0 (.int .i64 (zR).kind)).set 1 (.int .i64 (zR).id)).set 2 (.int .i64 (zR).p0)).set 3 (.int .i64 (zR).p1)).set 4 (.int .i64 (zR).p2)).set 5 (.int .i64 (zR).v0)).set 6 (.int .i64 (zR).v1)).cell (i := 6) rfl
        have t7 := ((((((((HZ.out.set 0 (.int .i64 (zR).kind)).set 1 (.int .i64 (zR).id)).set 2 (.int .i64 (zR).p0)).set 3 (.int .i64 (zR).p1)).set 4 (.int .i64 (zR).p2)).set 5 (.int .i64 (zR).v0)).set 6 (.int .i64 (zR).v1)).set 7 (.int .i64 (zR).v2)).cell (i := 7) rfl
        have t8 := (((((((((HZ.out.set 0 (.int .i64 (zR).kind)).set 1 (.int .i64 (zR).id)).set 2 (.int .i64 (zR).p0)).set 3 (.int .i64 (zR).p1)).set 4 (.int .i64 (zR).p2)).set 5 (.int .i64 (zR).v0)).set 6 (.int .i64 (zR).v1)).set 7 (.int .i64 (zR).v2)).set 8 (.int .u16 (zR).ang)).cell (i := 8) rfl
        (try dsimp only [zR] at t0 t1 t2 t3 t4 t5 t6 t7 t8)
        (try rw [show (((0 : Nat)) : Int) = 0 from rfl] at t8)
        refine bodyPost_ret (v := .tuple #[recV zR, .int .i64 er7]) (by simp [results, Tryz.f151, Tryz.results151, go_sem, t0, t1, t2, t3, t4, t5, t6, t7, t8]) rfl ⟨zR, er7, _, er7, rfl, HRD.out.kept (kept9 _ _ zR) (by omega) (by omega), zR_ok, HE0.out, HE1.out, fun e => absurd e HNE.out, HK.out.trans (kept9 _ _ zR) (fun i hi => .inr (by omega))⟩
end Go.Proofs.YtekdkckgmleofaaGreat
