/- TopStill: the walk of the statement's function. -/
import Derived.Test.YtekdkckgmleofaaGreatXs38
import Derived.Test.YtekdkckgmleofaaGreatXs33
import Derived.Test.YtekdkckgmleofaaGreatXs18
import Derived.Test.YtekdkckgmleofaaGreatXs39
set_option linter.unusedVariables false
set_option linter.unusedSimpArgs false
namespace Go.Proofs.YtekdkckgmleofaaGreat
open Go.RowKit
/-- What becomes of the entity. -/
def restM (x : EntM) (id : Int) : EntM := ⟨id, x.p0, x.p1, x.p2, 0, 0, 0, x.ang, 0⟩
theorem id_bd (n : Int) : 0 ≤ wrap64 ((IntKind.u64.wrap n).tmod 65536) ∧ wrap64 ((IntKind.u64.wrap n).tmod 65536) ≤ 65535 := by
  obtain ⟨A, h1, h2, -⟩ := wrap_nat n
  rw [h1, Int.tmod_eq_emod_of_nonneg (by omega)]
  unfold wrap64
  omega
theorem rest_ok {x : EntM} {id : Int} (h0 : I64 x.p0) (h1 : I64 x.p1) (h2 : I64 x.p2) (hang : x.ang ≤ 65535) (i0 : 0 ≤ id) (i1 : id ≤ 65535) : Rest (restM x id) := by
  unfold I64 at h0 h1 h2
  refine ⟨⟨?_, hang, by simp [restM], i0, i1⟩, rfl, rfl, rfl, rfl⟩
  intro n hn
  simp only [EntM.ns, restM, List.mem_cons, List.not_mem_nil, or_false] at hn
  rcases hn with rfl | rfl | rfl | rfl | rfl | rfl <;> omega
theorem lay_floor {most : Nat} {r : RingM SnapS} {tick time : Int} (h : May most r tick time) {B : Int} (hk : ∀ y ∈ r.l, y.1 < B) (ht : tick < B) (hf : r.gone = true → r.floor < B) (sx : SnapS) : (layM most r tick sx).1.gone = true → (layM most r tick sx).1.floor < B := by
  have hin : ∀ y ∈ insAt r.l tick sx, y.1 < B := by
    intro y hy
    unfold insAt at hy
    rcases List.mem_append.1 hy with hy | hy
    · exact hk y (List.mem_of_mem_take hy)
    · rcases List.mem_cons.1 hy with hy | hy
      · subst hy
        exact ht
      · exact hk y (List.mem_of_mem_drop hy)
  unfold layM
  split
  · exact hf
  · split
    · exact hf
    · split
      · exact hf
      · split
        · exact hf
        · rename_i y0 t0 he
          intro _
          exact hin y0 (by rw [he]; exact List.mem_cons_self ..)
theorem shown_fd (at_ : Int) (a : Option Addr) (n cp : Nat) (W : World) : Sem.run Tryz.prog (Instr.field 45 (.agg #[.bool true, .int .i64 at_, .slice a n cp]) 2) W = .ok (.slice a n cp) W := by kernel_rfl
/-- Behind so many steps. -/
structure StI (c : Cfg) (x : EntM) (q n0 : Nat) (k : Nat) (W wr : World) (m : ClkM) (K : Nat) (r : RingM SnapS) : Prop where
  cli : Cli wr q (fun g => n0 ≤ g) c m K r (OneE (RS x))
  K : K ≤ k
  keys : ∀ y ∈ r.l, y.1 < k
  floor : r.gone = true → r.floor < k
  some : 0 < k → r.l ≠ [] ∧ m.last ≠ []
  kept : Kept (fun g => n0 ≤ g) W wr
theorem Cli.facts {F : Nat → Prop} {w : World} {q : Nat} {c : Cfg} {m : ClkM} {K : Nat} {r : RingM SnapS} {R : Int → Int → EntM → Prop} (h : Cli w q F c m K r (OneE R)) : Srt r.l ∧ r.l.length ≤ c.ring.toNat ∧ 1 ≤ c.ring.toNat ∧ ∀ y ∈ r.l, y.1 = y.2.tick ∧ ∃ x, R y.2.tick y.2.time x := by
  obtain ⟨s, p, k, fr, fe, fk, cs, n, h⟩ := h
  refine ⟨h.sto.ring.srt, h.sto.ring.len, h.sto.m1, fun y hy => ?_⟩
  obtain ⟨h0, ents, -, -, -, x, -, -, -, hR⟩ := h.sto.el y hy
  exact ⟨h0, x, hR⟩
set_option maxRecDepth 100000 in
set_option maxHeartbeats 16000000 in
theorem still_walk (c : Cfg) (x : EntM) (hid : I64 x.id) (h0 : I64 x.p0) (h1 : I64 x.p1) (h2 : I64 x.p2) (hang : x.ang ≤ 65535) (a : Option Addr) (cap : Nat) (l : List Int) (w : World) (hr : Reads w .u8 a l) (hm : l.length ≤ maxLen) (hwf : ∀ n ∈ l, (Lit.int .u8 n).wf = true) :
    Calls Tryz.prog 4 #[cfgV c, entV x, .slice a l.length cap] w fun e w' => e = .returned (.bool true) ∧ Below w.heap.size w w' := by
  unfold maxLen at hm
  have HAL := Lib.hid (fun W => alive_calls W)
  have HCH := Lib.hid (fun W => refchk_calls c W)
  have HR := Lib.hid hr
  have HWF := Lib.hid hwf
  clear hr hwf
  go_enter Tryz.func4, Tryz.ntmps4
  go_wp2_with fail
  refine (HAL.out _).mono ?_
  rintro e w1 ⟨rfl, hk1⟩
  have kk0 := ((Kept.refl (fun _ => False) w).alloc (.cells (cfgC c).toArray 26)).alloc (.cells (entC x).toArray 39)
  have BC := hk1.blk ((Blk.new w (cfgC c) 26).alloc (.cells (entC x).toArray 39)) (fun h => h)
  have BX := hk1.blk (Blk.new_at (w := w.alloc (.cells (cfgC c).toArray 26)) (n := w.heap.size + 1) (by simp) (entC x) 39) (fun h => h)
  have HK1 := Lib.hid (kk0.trans hk1 (fun _ h => h.elim))
  have HBC := Lib.hid BC
  have HBX := Lib.hid BX
  have b0 := BC.cell (i := 0) rfl
  have b1 := BC.cell (i := 1) rfl
  have b2 := BC.cell (i := 2) rfl
  have b3 := BC.cell (i := 3) rfl
  have b4 := BC.cell (i := 4) rfl
  have b5 := BC.cell (i := 5) rfl
  have b6 := BC.cell (i := 6) rfl
  have b7 := BC.cell (i := 7) rfl
  have b8 := BC.cell (i := 8) rfl
  have b9 := BC.cell (i := 9) rfl
  have b10 := BC.cell (i := 10) rfl
  clear hk1 kk0 BC BX
  by_cases h40 : (40 : Int) < l.length
  · go_wp2_with fail
    refine (HAL.out _).mono ?_
    rintro e w2 ⟨rfl, hk2⟩
    have HK2 := Lib.hid (HK1.out.trans hk2 (fun _ h => h.elim))
    clear hk2
    go_wp2_with fail
    go_ret
    exact ⟨rfl, HK2.out.below (Nat.le_refl _) (fun _ h => h.elim)⟩
  · go_wp2_with fail
    refine (HCH.out _).mono ?_
    rintro e w2 ⟨n, rfl, hn, hk2⟩
    have HN := Lib.hid hn
    have HK2 := Lib.hid (HK1.out.trans hk2 (fun _ h => h.elim))
    have HBC2 := Lib.hid (hk2.blk HBC.out (fun h => h))
    have HBX2 := Lib.hid (hk2.blk HBX.out (fun h => h))
    clear hk2 hn b0 b1 b2 b3 b4 b5 b6 b7 b8 b9 b10
    by_cases hn0 : n = 0
    · have hc := HN.out hn0
      subst hn0
      have x0 := HBX2.out.cell (i := 0) rfl
      have x4 := HBX2.out.cell (i := 4) rfl
      have x5 := HBX2.out.cell (i := 5) rfl
      have x6 := HBX2.out.cell (i := 6) rfl
      have x8 := HBX2.out.cell (i := 8) rfl
      have g0 := HBX2.out.free 0
      have g4 := HBX2.out.free 4
      have g5 := HBX2.out.free 5
      have g6 := HBX2.out.free 6
      have g8 := HBX2.out.free 8
      have HCO := Lib.hid hc
      clear hc HN
      go_upto_region 4 with fail
      have hib := id_bd x.id
      generalize wrap64 ((IntKind.u64.wrap x.id).tmod 65536) = idn at *
      have HREST := Lib.hid (rest_ok h0 h1 h2 hang hib.1 hib.2)
      have HXW : Hid (Blk (((((w2.setCell ⟨w.heap.size + 1, 0, none⟩ (.int .i64 idn)).setCell ⟨w.heap.size + 1, 8, none⟩ (.int .u8 0)).setCell ⟨w.heap.size + 1, 4, none⟩ (.int .i64 0)).setCell ⟨w.heap.size + 1, 5, none⟩ (.int .i64 0)).setCell ⟨w.heap.size + 1, 6, none⟩ (.int .i64 0)) (w.heap.size + 1) (entC (restM x idn)) 39) := Lib.hid (((((HBX2.out.set 0 (.int .i64 idn)).set 8 (.int .u8 0)).set 4 (.int .i64 0)).set 5 (.int .i64 0)).set 6 (.int .i64 0))
      have hnn : ¬ w.heap.size = w.heap.size + 1 := by omega
      have HBW : Hid (Blk (((((w2.setCell ⟨w.heap.size + 1, 0, none⟩ (.int .i64 idn)).setCell ⟨w.heap.size + 1, 8, none⟩ (.int .u8 0)).setCell ⟨w.heap.size + 1, 4, none⟩ (.int .i64 0)).setCell ⟨w.heap.size + 1, 5, none⟩ (.int .i64 0)).setCell ⟨w.heap.size + 1, 6, none⟩ (.int .i64 0)) w.heap.size (cfgC c) 26) := Lib.hid (((((HBC2.out.set_ne (a := ⟨w.heap.size + 1, 0, none⟩) (by simp) (.int .i64 idn)).set_ne (a := ⟨w.heap.size + 1, 8, none⟩) (by simp) (.int .u8 0)).set_ne (a := ⟨w.heap.size + 1, 4, none⟩) (by simp) (.int .i64 0)).set_ne (a := ⟨w.heap.size + 1, 5, none⟩) (by simp) (.int .i64 0)).set_ne (a := ⟨w.heap.size + 1, 6, none⟩) (by simp) (.int .i64 0))
      have hsz : w.heap.size ≤ w.heap.size + 1 := by omega
      have HKW : Hid (Kept (fun _ => False) w (((((w2.setCell ⟨w.heap.size + 1, 0, none⟩ (.int .i64 idn)).setCell ⟨w.heap.size + 1, 8, none⟩ (.int .u8 0)).setCell ⟨w.heap.size + 1, 4, none⟩ (.int .i64 0)).setCell ⟨w.heap.size + 1, 5, none⟩ (.int .i64 0)).setCell ⟨w.heap.size + 1, 6, none⟩ (.int .i64 0))) := Lib.hid (((((HK2.out.setCell (a := ⟨w.heap.size + 1, 0, none⟩) (.inr hsz) (.int .i64 idn)).setCell (a := ⟨w.heap.size + 1, 8, none⟩) (.inr hsz) (.int .u8 0)).setCell (a := ⟨w.heap.size + 1, 4, none⟩) (.inr hsz) (.int .i64 0)).setCell (a := ⟨w.heap.size + 1, 5, none⟩) (.inr hsz) (.int .i64 0)).setCell (a := ⟨w.heap.size + 1, 6, none⟩) (.inr hsz) (.int .i64 0))
      generalize (((((w2.setCell ⟨w.heap.size + 1, 0, none⟩ (.int .i64 idn)).setCell ⟨w.heap.size + 1, 8, none⟩ (.int .u8 0)).setCell ⟨w.heap.size + 1, 4, none⟩ (.int .i64 0)).setCell ⟨w.heap.size + 1, 5, none⟩ (.int .i64 0)).setCell ⟨w.heap.size + 1, 6, none⟩ (.int .i64 0)) = W at *
      generalize restM x idn = xr at *
      have b0 := HBW.out.cell (i := 0) rfl
      have b1 := HBW.out.cell (i := 1) rfl
      have b2 := HBW.out.cell (i := 2) rfl
      have b3 := HBW.out.cell (i := 3) rfl
      have b4 := HBW.out.cell (i := 4) rfl
      have b5 := HBW.out.cell (i := 5) rfl
      have b6 := HBW.out.cell (i := 6) rfl
      have b7 := HBW.out.cell (i := 7) rfl
      have b8 := HBW.out.cell (i := 8) rfl
      have b9 := HBW.out.cell (i := 9) rfl
      have b10 := HBW.out.cell (i := 10) rfl
      have hnW := HXW.out.lt
      have HNEW := Lib.hid (clinew_calls c HCO.out (OneE (RS xr)) W)
      clear x0 x4 x5 x6 x8 g0 g4 g5 g6 g8 hid h0 h1 h2 hang hib hnn hsz
      go_wp2_with fail
      refine HNEW.out.mono ?_
      rintro e w3 ⟨q, rfl, hcl, hq, hk3⟩
      have HC3 := Lib.hid (hcl.mono (F' := fun g => W.heap.size ≤ g) (fun g _ h => h.1))
      have HK3 := Lib.hid hk3
      clear hcl hk3 b0 b1 b2 b3 b4 b5 b6 b7 b8 b9 b10
      go_wp2_with fail
      go_loopw [9, 49] (fun nw i wr => ∃ (k : Nat) (t : Int) (m : ClkM) (K : Nat) (r : RingM SnapS), i = .int .i64 k ∧ nw = .int .i64 t ∧ k ≤ l.length ∧ 0 ≤ t ∧ t ≤ 255 * k ∧ StI c xr q W.heap.size k W wr m K r) (fun _ i _ => (l.length - intOf i).toNat)
      case atStart => exact ⟨0, 0, _, 0, _, rfl, rfl, Nat.zero_le _, Int.le_refl _, by decide, ⟨HC3.out, Nat.le_refl _, fun y hy => (by cases hy), fun h => (by cases h), fun h => absurd h (by decide), HK3.out.mono (fun _ _ h => h.elim)⟩⟩
      case round =>
        obtain ⟨k, t, m, K, r, rfl, rfl, hk, ht0, ht1, hI⟩ := hrel
        have HI := Lib.hid hI
        have HXR := Lib.hid (hI.kept.blk HXW.out (by omega))
        clear hI
        by_cases hlt : k < l.length
        · obtain ⟨b, off, rfl, hb, hcells⟩ := HR.out (by omega)
          have hcl := HI.out.kept.cell (HKW.out.cell (hcells k hlt) (fun h => h)) (by show ¬ W.heap.size ≤ b; have := HKW.out.size; omega)
          have hs := HWF.out (l.getD k 0) (by rw [List.getD_eq_getElem?_getD, List.getElem?_eq_getElem hlt]; exact List.getElem_mem hlt)
          obtain ⟨s0, s1⟩ := u8_bd hs
          generalize l.getD k 0 = s at *
          clear hs hcells hb
          have hw1 : wrap64 s = s := (by unfold wrap64; omega)
          have hw2 : wrap64 (t + s) = t + s := (by unfold wrap64; omega)
          have hw3 : wrap64 ((k : Int) * 20) = (k : Int) * 20 := (by unfold wrap64; omega)
          rcases Nat.mod_two_eq_zero_or_one k with hk2 | hk2
          · have hm2 : (k : Int).tmod 2 = 0 := by rw [Int.tmod_eq_emod_of_nonneg (by omega)]; omega
            have x0 := HXR.out.cell (i := 0) rfl
            have x1 := HXR.out.cell (i := 1) rfl
            have x2 := HXR.out.cell (i := 2) rfl
            have x3 := HXR.out.cell (i := 3) rfl
            have x4 := HXR.out.cell (i := 4) rfl
            have x5 := HXR.out.cell (i := 5) rfl
            have x6 := HXR.out.cell (i := 6) rfl
            have x7 := HXR.out.cell (i := 7) rfl
            have x8 := HXR.out.cell (i := 8) rfl
            have HF := Lib.hid (tfull_calls k ((k : Int) * 20) ⟨by omega, by omega, by omega, by omega⟩ xr HREST.out.ok HREST.out.gen (wr.alloc (.cells (entC xr).toArray 39)) _ _ (sl_of_blk (Blk.new wr (entC xr) 39)))
            go_wp2_with fail
            refine HF.out.mono ?_
            rintro e w5 ⟨v5, g5, rfl, hv5, -, hk5⟩
            have HK5 := Lib.hid (((Kept.refl (fun _ => False) wr).alloc (.cells (entC xr).toArray 39)).trans hk5 (fun _ h => h.elim))
            obtain ⟨f1, f2, f3, f4⟩ := HI.out.cli.facts
            have hmay : May c.ring.toNat r k ((k : Int) * 20) := may_next f1 f3 (fun y hy => by
              obtain ⟨e1, z, -, e2, -⟩ := f4 y hy
              have := HI.out.keys y hy
              omega) HI.out.floor
            have HMAY := Lib.hid hmay
            have HF1 := Lib.hid f1
            have HF2 := Lib.hid f2
            have HAR := Lib.hid (arrive_calls (RS xr) w5 q _ c HCO.out m K r (HI.out.cli.kept HK5.out (fun _ _ h => h)) k ((k : Int) * 20) ⟨by omega, by omega, by omega, by omega⟩ xr HREST.out.ok HREST.out.gen hmay ⟨rfl, rfl, by omega, by omega⟩ (RS_one _) (t + s) (by unfold I64; omega) (by unfold I64; omega) (by have := HI.out.K; omega) v5 _ hv5)
            clear hv5 hk5 hmay f1 f2 f3 f4 x0 x1 x2 x3 x4 x5 x6 x7 x8
            go_wp2_with fail
            refine HAR.out.mono ?_
            rintro e w6 ⟨rfl, a6, cap6, hc6, hk6⟩
            have HC6 := Lib.hid hc6
            have HK6 := Lib.hid hk6
            clear hc6 hk6
            go_wp2_with fail
            refine ⟨⟨k + 1, t + s, _, K + 1, _, by simp, rfl, by omega, by omega, by omega, ⟨HC6.out.mono (fun g _ h => ?_), by have := HI.out.K; omega, fun y hy => ?_, lay_floor HMAY.out (fun y hy => ?_) (by omega) (fun h => ?_) _, fun _ => ⟨List.ne_nil_of_mem (lay_there HMAY.out HF1.out HF2.out _), addL_ne⟩, (HI.out.kept.trans HK5.out (fun _ h => h.elim)).trans HK6.out (fun g h => .inl h)⟩⟩, by simp [intOf]; omega⟩
            · rcases h with h | h
              · exact h
              · have := HI.out.kept.size
                have := HK5.out.size
                have h1 := h.1
                show W.heap.size ≤ g
                omega
            · rcases (lay_may HMAY.out _).2 y hy with h | rfl
              · have := HI.out.keys y h
                omega
              · show (k : Int) < ((k + 1 : Nat) : Int)
                omega
            · have := HI.out.keys y hy
              omega
            · have := HI.out.floor h
              omega
          · have hm2 : (k : Int).tmod 2 = 1 := by rw [Int.tmod_eq_emod_of_nonneg (by omega)]; omega
            have hkp : 0 < k := by omega
            obtain ⟨f1, f2, f3, f4⟩ := HI.out.cli.facts
            have HFR := Lib.hid (frame_calls (RS xr) wr q _ c HCO.out m K r HI.out.cli (HI.out.some hkp).2 (t + s) (by unfold I64; omega) (HI.out.some hkp).1 (fun ys h1 h2 => still_ys h1 f1 (fun z hz => (f4 z hz).1) h2))
            clear f1 f2 f3 f4
            go_wp2_with fail
            refine HFR.out.mono ?_
            rintro e w5 ⟨v5, ys, rfl, hc5, hk5, -, hR5, hp5⟩
            have hv := still_poses HREST.out hR5 hp5
            have hfd := shown_fd
            generalize (frmM c m (t + s)).sl.at_ = at_ at *
            have HC5 := Lib.hid hc5
            have HK5 := Lib.hid hk5
            have HXR5 := Lib.hid (HK5.out.blk HXR.out (by omega))
            clear hc5 hk5 hR5 hp5
            rcases hv with rfl | ⟨mm, g, o, cp, rfl, hg, hcc⟩
            · go_wp2_with fail
              go_loopw [77] (fun i wi => i = .int .i64 0 ∧ Kept (fun _ => False) w5 wi) (fun i _ => 0)
              case atStart => exact ⟨rfl, Kept.refl _ _⟩
              case round =>
                obtain ⟨rfl, hK⟩ := hrel
                have HK := Lib.hid hK
                clear hK
                go_wp2_with fail
                have hK := HK.out
                refine ⟨⟨k + 1, t + s, _, K, r, by simp, rfl, by omega, by omega, by omega, ⟨HC5.out.kept hK (fun _ _ h => h), by have := HI.out.K; omega, fun y hy => by have := HI.out.keys y hy; omega, fun h => by have := HI.out.floor h; omega, fun _ => HI.out.some hkp, (HI.out.kept.trans HK5.out (fun g h => .inl h)).trans hK (fun _ h => h.elim)⟩⟩, by simp [intOf]; omega⟩
            · have HCC := Lib.hid hcc
              go_wp2_with fail
              go_loopw [77] (fun i wi => ∃ j : Nat, i = .int .i64 j ∧ j ≤ 1 ∧ Kept (fun _ => False) w5 wi) (fun i _ => (1 - intOf i).toNat)
              case atStart => exact ⟨0, rfl, by omega, Kept.refl _ _⟩
              case round =>
                obtain ⟨j, rfl, hj, hK⟩ := hrel
                have HK := Lib.hid hK
                have HXI := Lib.hid (hK.blk HXR5.out (fun h => h))
                have p0 := hK.cell (HCC.out 0 _ rfl) (fun h => h)
                have p1 := hK.cell (HCC.out 1 _ rfl) (fun h => h)
                have p2 := hK.cell (HCC.out 2 _ rfl) (fun h => h)
                have p3 := hK.cell (HCC.out 3 _ rfl) (fun h => h)
                have p4 := hK.cell (HCC.out 4 _ rfl) (fun h => h)
                have p5 := hK.cell (HCC.out 5 _ rfl) (fun h => h)
                have hgl : g < wr.heap.size := lt_of_cell p0
                simp only [Nat.add_zero] at p0
                have B := HXI.out.alloc (.cells #[.int .i64 xr.id, .int .i64 xr.p0, .int .i64 xr.p1, .int .i64 xr.p2, .int .u16 xr.ang, .int .i64 mm] 48)
                have q0 := B.cell (i := 0) rfl
                have q1 := B.cell (i := 1) rfl
                have q2 := B.cell (i := 2) rfl
                have q3 := B.cell (i := 3) rfl
                have q7 := B.cell (i := 7) rfl
                have hq : ∀ W, Sem.run Tryz.prog (Op.equalIn 10000 36 (.agg #[.int .i64 xr.p0, .int .i64 xr.p1, .int .i64 xr.p2]) (.agg #[.int .i64 xr.p0, .int .i64 xr.p1, .int .i64 xr.p2])) W = .ok true W := eq36g 9998 xr.p0 xr.p1 xr.p2
                clear B
                clear hK
                rcases j with _ | j
                · go_wp2_with fail
                  exact ⟨⟨1, by simp, by omega, HK.out.alloc _⟩, by simp [intOf]⟩
                · go_wp2_with fail
                  have hK := HK.out
                  refine ⟨⟨k + 1, t + s, _, K, r, by simp, rfl, by omega, by omega, by omega, ⟨HC5.out.kept hK (fun _ _ h => h), by have := HI.out.K; omega, fun y hy => by have := HI.out.keys y hy; omega, fun h => by have := HI.out.floor h; omega, fun _ => HI.out.some hkp, (HI.out.kept.trans HK5.out (fun g h => .inl h)).trans hK (fun _ h => h.elim)⟩⟩, by simp [intOf]; omega⟩
        · go_wp2_with fail
          go_ret
          exact ⟨rfl, (HKW.out.trans HI.out.kept (fun g h => .inr (Nat.le_trans HKW.out.size h))).below (Nat.le_refl _) (fun _ h => h.elim)⟩
    · have hnb : (n != 0) = true := by simp [hn0]
      go_wp2_with fail
      refine (HAL.out _).mono ?_
      rintro e w3 ⟨rfl, hk3⟩
      have HK3 := Lib.hid (HK2.out.trans hk3 (fun _ h => h.elim))
      clear hk3
      go_wp2_with fail
      go_ret
      exact ⟨rfl, HK3.out.below (Nat.le_refl _) (fun _ h => h.elim)⟩
end Go.Proofs.YtekdkckgmleofaaGreat
