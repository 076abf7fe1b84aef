/- For every config and events, by whatever readings: the times that are shown never go back; one goes on by at most the ratio times how far the reading is beyond the greatest earlier one of a frame, and 1. No condition. -/
import Derived.Test.YtekdkckgmleofaaGreatXf45
import Derived.Test.YtekdkckgmleofaaGreatXf49
import Derived.ChangeSlices
import Derived.Test.YtekdkckgmleofaaGreatRows
import Derived.WalkKit
import Derived.ProofKit
import Derived.OpenShut
import Derived.ShutString
import Derived.ChangeOld
import Derived.Below
import Derived.Carry
import Derived.SizedLaws
import Derived.SliceStrings
set_option linter.unusedVariables false
set_option linter.unusedSimpArgs false
/- Events that came in, as the statement's row reads them. -/
namespace Go.Proofs.YtekdkckgmleofaaGreat
open Go.RowKit Go.Deep Go.ChangeShapes Go.WideShapes
instance : Inhabited EvM := ⟨⟨0, 0, none, 0, []⟩⟩
section
variable {H : Type} {enc : TypeId × Value → H} {w : World} {base : Nat} {spare : Nat → Bool} {held : Bool} {n : Nat} {cs : List Value}
theorem list3 {α : Type} {l : List α} (h : l.length = 3) : ∃ c0 c1 c2, l = [c0, c1, c2] := by
  match l, h with
  | [c0, c1, c2], _ => exact ⟨c0, c1, c2, rfl⟩
theorem bytes_of_trod {x : DataW H × List MemPlace} (h : DataW.trod enc Tryz.prog w base spare held n 23 cs = some x) :
    ∃ (a : Option Addr) (cap : Nat) (bs : List Nat), cs = [.slice a bs.length cap] ∧ ByAt w (.slice a bs.length cap) bs ∧ ∀ c ∈ bs, c < 256 := by
  rcases open_ints Tryz.underlying23 Tryz.underlying5 (by kernel_rfl) h with ⟨hcs, -⟩ | ⟨a, len, cap, zs, hcs, -, hl, hm, hz, -, hc, hw⟩
  · exact ⟨none, 0, [], hcs, ⟨none, 0, rfl, Nat.le_refl _, Nat.zero_le _, fun h => absurd h (by simp)⟩, by simp⟩
  · have hlz : len ≤ zs.length := by rw [hz]; split <;> omega
    have hlen : ((zs.take len).map Int.toNat).length = len := by rw [List.length_map, List.length_take]; omega
    have hb : ∀ z ∈ zs, 0 ≤ z ∧ z ≤ 255 := fun z hz => u8_bd (hw z hz)
    refine ⟨some a, cap, (zs.take len).map Int.toNat, by rw [hlen]; exact hcs, ⟨some a, cap, rfl, by rw [hlen]; exact hl, hm, fun hn => ?_⟩, fun c hcm => ?_⟩
    · rw [hlen] at hn
      have c0 := hc 0 (by omega)
      have hs := spot_of_cell c0
      obtain ⟨blk, off, spot⟩ := a
      have hsp : spot = none := by
        unfold Addr.add at hs
        simpa using hs
      subst hsp
      refine ⟨blk, off, rfl, fun j u hu => ?_⟩
      have hj : j < len := by
        have := (List.getElem?_eq_some_iff.1 hu).1
        rw [u8s_len, hlen] at this
        exact this
      have hcj := hc j (by omega)
      rw [add_plain] at hcj
      rw [hcj]
      have hzj : zs[j]? = some zs[j] := List.getElem?_eq_getElem (by omega)
      have hbs : ((zs.take len).map Int.toNat)[j]? = some zs[j].toNat := by
        rw [List.getElem?_map, List.getElem?_take_of_lt hj, hzj]
        rfl
      have hu2 := u8s_get hbs
      rw [hu2] at hu
      have := hb zs[j] (List.getElem_mem _)
      rw [← Option.some.inj hu, List.getD_eq_getElem?_getD, hzj]
      congr 2
      show zs[j] = ((zs[j].toNat : Nat) : Int)
      omega
    · obtain ⟨z, hz, rfl⟩ := List.mem_map.1 hcm
      have := hb z (List.mem_of_mem_take hz)
      omega
theorem ev_of_trod {x : DataW H × List MemPlace} (h : DataW.trod enc Tryz.prog w base spare held n 56 cs = some x) : ∃ e : EvM, cs = evC e ∧ EvAt w e := by
  obtain ⟨xs, m, -, -, hl, hxl, hf⟩ := DataW.trod_struct Tryz.underlying56 h
  have kc : Tryz.prog.cellsOf 56 = 3 := by kernel_rfl
  have ki : Tryz.prog.cellsOf 3 = 1 := by kernel_rfl
  have kj : Tryz.prog.cellsOf 2 = 1 := by kernel_rfl
  have ks : Tryz.prog.cellsOf 23 = 1 := by kernel_rfl
  obtain ⟨y0, h0⟩ := fld hf hxl 0 _ rfl
  obtain ⟨y1, h1⟩ := fld hf hxl 1 _ rfl
  obtain ⟨y2, h2⟩ := fld hf hxl 2 _ rfl
  obtain ⟨n0, e0, -, -⟩ := DataW.trod_int Tryz.underlying3 h0
  obtain ⟨n1, e1, -, w1⟩ := DataW.trod_int Tryz.underlying2 h1
  obtain ⟨a, cap, bs, e2, hB, h8⟩ := bytes_of_trod h2
  have g0 : (cs.drop 0).take (Tryz.prog.cellsOf 3) = [.int .i64 n0] := e0
  have g1 : (cs.drop 1).take (Tryz.prog.cellsOf 2) = [.int .i64 n1] := e1
  have g2 : (cs.drop 2).take (Tryz.prog.cellsOf 23) = [.slice a bs.length cap] := e2
  rw [ki] at g0
  rw [kj] at g1
  rw [ks] at g2
  rw [kc] at hl
  obtain ⟨c0, c1, c2, rfl⟩ := list3 hl
  simp only [List.drop_zero, List.drop_succ_cons, List.take_succ_cons, List.take_zero, List.cons.injEq, and_true] at g0 g1 g2
  exact ⟨⟨n0, n1, a, cap, bs⟩, by rw [g0, g1, g2], ⟨hB, h8, wf_i64 w1⟩⟩
theorem evs_of_trod {x : DataW H × List MemPlace} (h : DataW.trod enc Tryz.prog w base spare held n 53 cs = some x) : ∃ (v : Value) (evs : List EvM), cs = [v] ∧ EvsAt w v evs := by
  have kc : Tryz.prog.cellsOf 56 = 3 := by kernel_rfl
  rcases open_slice Tryz.underlying53 h with ⟨hcs, -⟩ | ⟨a, len, cap, m, k, D, Pl, hcs, -, hl, hm, hmm, -, hx⟩
  · exact ⟨_, [], hcs, none, 0, rfl, Nat.le_refl _, Nat.zero_le _, fun h => absurd h (by simp), by simp⟩
  · have hlm : len ≤ m := by rw [hmm]; split <;> omega
    obtain ⟨q, hq⟩ := choose_lt (α := EvM) (n := len) (p := fun i e => w.cells? base (a.add (i * 3)) 3 = some (evC e) ∧ EvAt w e) (fun i hi => by
      obtain ⟨cs', h1, h2⟩ := hx i (by omega)
      obtain ⟨e, rfl, he⟩ := ev_of_trod h2
      rw [kc] at h1
      exact ⟨e, h1, he⟩)
    have hlen : ((List.range len).map q).length = len := by simp
    refine ⟨_, (List.range len).map q, by rw [hcs], some a, cap, by rw [hlen], by rw [hlen]; exact hl, hm, fun hn => ?_, fun e he => ?_⟩
    · rw [hlen] at hn
      have hcell : ∀ i, i < len → ∀ j u, (evC (q i))[j]? = some u → w.cell? (a.add (i * 3 + j)) = some u := by
        intro i hi j u hu
        obtain ⟨-, -, h3⟩ := World.cells?_some (hq i hi).1
        have hj : j < 3 := (List.getElem?_eq_some_iff.1 hu).1
        rw [← add_add, h3 j hj, hu]
      have c0 := hcell 0 hn 0 _ rfl
      have hs := spot_of_cell c0
      have hbl := lt_of_cell c0
      obtain ⟨blk, off, spot⟩ := a
      have hsp : spot = none := by
        unfold Addr.add at hs
        simpa using hs
      subst hsp
      rw [add_plain] at hbl
      refine ⟨blk, off, rfl, hbl, fun j u hu => ?_⟩
      have hj : j < len * 3 := by
        have := (List.getElem?_eq_some_iff.1 hu).1
        rw [cellsL_len evC_len, hlen] at this
        exact this
      have ht : j / 3 < len := by omega
      have hget : ((List.range len).map q)[j / 3]? = some (q (j / 3)) := by
        rw [List.getElem?_map, List.getElem?_range ht]
        rfl
      have e := cellsL_get evC_len ((List.range len).map q) (j / 3) (j % 3) _ hget (by omega)
      rw [show j / 3 * 3 + j % 3 = j by omega, hu] at e
      have := hcell (j / 3) ht (j % 3) u e.symm
      rw [add_plain, show j / 3 * 3 + j % 3 = j by omega] at this
      exact this
    · obtain ⟨i, hi, rfl⟩ := List.mem_map.1 he
      exact (hq i (List.mem_range.1 hi)).2
end
end Go.Proofs.YtekdkckgmleofaaGreat

/- TopForward: the times that are shown never go back, nor on by more than the ratio lets them. -/
namespace Go.Proofs.YtekdkckgmleofaaGreat
open Go.RowKit
/-- Behind some events. -/
structure FwI (W : World) (q : Nat) (c : Cfg) (m : ClkM) (K : Nat) (r : RingM SnapS) (F : Nat → Prop) (L T : Int) (wr : World) : Prop where
  cli : CliI wr q F c m K r
  f0 : ∀ g, F g → W.heap.size < g
  f1 : ∀ g, F g → g < wr.heap.size
  eq : m.sl.begun = true → L = m.sl.at_ ∧ T = m.sl.last
  cfg : Blk wr W.heap.size (cfgC c) 26
  kept : Kept (fun _ => False) W wr
theorem FwI.next {W wr w3 w4 : World} {q : Nat} {c : Cfg} {m m' : ClkM} {K K' : Nat} {r r' : RingM SnapS} {F : Nat → Prop} {L T L' T' : Int} (h : FwI W q c m K r F L T wr) (hI : CliI w3 q (fun g => F g ∨ (wr.heap.size ≤ g ∧ g < w3.heap.size)) c m' K' r') (hk : Kept F wr w3) (k4 : Kept (fun _ => False) w3 w4) (he : m'.sl.begun = true → L' = m'.sl.at_ ∧ T' = m'.sl.last) :
    FwI W q c m' K' r' (fun g => F g ∨ (wr.heap.size ≤ g ∧ g < w3.heap.size)) L' T' w4 := by
  have hz := h.kept.size
  have hz2 := hk.size
  have hz4 := k4.size
  refine ⟨hI.kept k4 (fun _ _ h => h), fun g hg => ?_, fun g hg => ?_, he, k4.blk (hk.blk h.cfg (fun e => by have := h.f0 _ e; omega)) (fun h => h), (h.kept.trans hk (fun g hg => .inr (by have := h.f0 g hg; omega))).trans k4 (fun _ h => h.elim)⟩
  · rcases hg with hg | hg
    · exact h.f0 g hg
    · have := h.cfg.lt; omega
  · rcases hg with hg | hg
    · have := h.f1 g hg; omega
    · omega
def Fw (W : World) (e : Ending) (w' : World) : Prop := e = .returned (.bool true) ∧ Kept (fun _ => False) W w'
set_option maxRecDepth 100000 in
set_option maxHeartbeats 16000000 in
theorem forward_k (c : Cfg) (evs : List EvM) (W : World) (v : Value) (h : EvsAt W v evs) : Calls Tryz.prog 5 #[cfgV c, v] W (Fw W) := by
  have K0 := Lib.hid ((Kept.refl (fun _ => False) W).alloc (.cells (cfgC c).toArray 26))
  have HG := Lib.hid (begin_any c evs _ v (h.kept K0.out))
  have HAL := Lib.hid (fun W' => alive_calls W')
  have HEV := Lib.hid h
  obtain ⟨a, cap, rfl, h2, h3, h4, h5⟩ := h
  have HV := Lib.hid h4
  have HE := Lib.hid h5
  unfold maxLen at h3
  clear h4 h5
  go_enter Tryz.func5, Tryz.ntmps5
  go_wp2_with fail
  refine HG.out.mono ?_
  intro e w1 hb
  rcases hb with ⟨q, rfl, h60, hc, hI, hk⟩ | ⟨rfl, hk⟩
  · have HI0 : Hid (FwI W q c ⟨[], 0, tgtM c 0, ⟨0, 0, false⟩⟩ 0 ⟨[], 0, false⟩ (fun g => (W.alloc (.cells (cfgC c).toArray 26)).heap.size < g ∧ g < w1.heap.size) 0 0 w1) := Lib.hid
      ⟨hI, fun g hg => by have := hg.1; simp only [size_alloc] at this; omega, fun g hg => hg.2, fun h => (by cases h), hk.blk (Blk.new W (cfgC c) 26) (fun h => h), K0.out.trans hk (fun _ h => h.elim)⟩
    have HC := Lib.hid hc
    clear hI hk hc
    go_wp2_with fail
    refine (HAL.out _).mono ?_
    rintro e w2 ⟨rfl, hk2⟩
    have HI1 : Hid (FwI W q c ⟨[], 0, tgtM c 0, ⟨0, 0, false⟩⟩ 0 ⟨[], 0, false⟩ (fun g => (W.alloc (.cells (cfgC c).toArray 26)).heap.size < g ∧ g < w1.heap.size) 0 0 w2) := Lib.hid
      { HI0.out with
        cli := HI0.out.cli.kept hk2 (fun _ _ h => h)
        f1 := fun g hg => Nat.lt_of_lt_of_le (HI0.out.f1 g hg) hk2.size
        cfg := hk2.blk HI0.out.cfg (fun h => h)
        kept := HI0.out.kept.trans hk2 (fun _ h => h.elim) }
    clear hk2
    go_wp2_with fail
    go_loopw [6, 7, 8, 27] (fun bg l t i wr => ∃ (k : Nat) (m : ClkM) (K : Nat) (r : RingM SnapS) (F : Nat → Prop) (L T : Int), k ≤ evs.length ∧ i = .int .i64 k ∧ bg = .bool m.sl.begun ∧ l = .int .i64 L ∧ t = .int .i64 T ∧ FwI W q c m K r F L T wr ∧ K ≤ k) (fun _ _ _ i _ => (evs.length - intOf i).toNat)
    case atStart => exact ⟨0, _, _, _, _, 0, 0, by omega, rfl, rfl, rfl, rfl, HI1.out, by omega⟩
    case round =>
      obtain ⟨k, m, K, r, F, L, T, hk, rfl, rfl, rfl, rfl, hF, hKk⟩ := hrel
      have HF := Lib.hid hF
      clear hF
      by_cases hlt : k < evs.length
      · obtain ⟨x, hxk⟩ : ∃ x, evs[k]? = some x := ⟨_, List.getElem?_eq_getElem hlt⟩
        obtain ⟨g, off, rfl, hgl, hcc⟩ := HV.out (by omega)
        obtain ⟨c0, c1, c2⟩ := ev_at (w := wr) (fun j u hu => HF.out.kept.cell (hcc j u hu) (fun h => h)) hxk
        have hgw : g < wr.heap.size := lt_of_cell c0
        have KA := (Kept.refl (fun _ => False) wr).alloc (.cells (evC x).toArray 56)
        have HX := Lib.hid ((HE.out x (List.mem_of_getElem? hxk)).kept HF.out.kept)
        have HDO := Lib.hid (do_any (wr.alloc (.cells (evC x).toArray 56)) q F (fun g hg => by have := HF.out.f1 g hg; simp; omega) c HC.out m K (by omega) r (HF.out.cli.kept KA (fun _ _ h => h)) x (HX.out.kept KA))
        have HB1 := Lib.hid (Blk.new wr (evC x) 56)
        obtain ⟨h6, h7⟩ := HF.out.cli.sl64
        have H64 := Lib.hid (And.intro h6 h7)
        clear hcc hxk KA h6 h7
        obtain ⟨kind, at_, da, dcap, bs⟩ := x
        dsimp only at *
        go_wp2_with fail
        refine HDO.out.mono ?_
        rintro e w3 ⟨b, tt, pa, pn, pc, er, m', K', r', rfl, hI3, hK3, hsl, hbk, hk3⟩
        have HK3 := Lib.hid (((Kept.refl F wr).alloc (.cells (evC ⟨kind, at_, da, dcap, bs⟩).toArray 56)).trans hk3 (fun _ h => .inl h))
        have HI3 : Hid (CliI w3 q (fun g => F g ∨ (wr.heap.size ≤ g ∧ g < w3.heap.size)) c m' K' r') := Lib.hid (hI3.mono (fun g hgl hg => hg.imp id (fun h => ⟨by have := h.1; simp at this; omega, h.2⟩)))
        have HB3 := Lib.hid (hk3.blk HB1.out (fun e => by have := HF.out.f1 _ e; omega))
        have HBC := Lib.hid (HK3.out.blk HF.out.cfg (fun e => by have := HF.out.f0 _ e; omega))
        have hz3 := HB3.out.lt
        have hzW := HF.out.cfg.lt
        have HSL := Lib.hid (And.intro hsl hbk)
        have hKn : K' ≤ k + 1 := by omega
        have e0 := (HB3.out.alloc (.cells #[.bool b, .int .i64 tt, .slice pa pn pc] 45)).cell (i := 0) rfl
        have e1 := (HB3.out.alloc (.cells #[.bool b, .int .i64 tt, .slice pa pn pc] 45)).cell (i := 1) rfl
        have s0 := (Blk.new w3 [.bool b, .int .i64 tt, .slice pa pn pc] 45).cell (i := 0) rfl
        have s1 := (Blk.new w3 [.bool b, .int .i64 tt, .slice pa pn pc] 45).cell (i := 1) rfl
        have HK4 := Lib.hid ((Kept.refl (fun _ => False) w3).alloc (.cells #[.bool b, .int .i64 tt, .slice pa pn pc] 45))
        clear hk3 hI3 hK3 hsl hbk c0 c1 c2
        by_cases hk1 : kind = 1
        · subst hk1
          cases b with
          | false =>
            have hse : m'.sl = m.sl := by
              rcases HSL.out.1 with ⟨h, -⟩ | ⟨-, h⟩
              · cases h
              · exact h
            have HN := Lib.hid (HF.out.next HI3.out HK3.out HK4.out (L' := L) (T' := T) (by rw [hse]; exact HF.out.eq))
            have HSE := Lib.hid hse
            clear hse
            go_wp2_with fail
            exact ⟨⟨k + 1, m', K', r', _, L, T, by omega, by simp, by rw [HSE.out], rfl, rfl, HN.out, by omega⟩, by simp [intOf]; omega⟩
          | true =>
            obtain ⟨want, hst, htt⟩ : ∃ want, m'.sl = toM c.num.toNat c.den.toNat m.sl at_ want ∧ tt = m'.sl.at_ := by
              rcases HSL.out.1 with ⟨-, want, h1, h2⟩ | ⟨h, -⟩
              · exact ⟨want, h1, h2⟩
              · cases h
            cases hbg : m.sl.begun with
            | false =>
              obtain ⟨g1, g2⟩ := fwd_first (n := c.num.toNat) (d := c.den.toNat) (sl := m.sl) (r := at_) (want := want) hbg
              rw [← hst] at g1 g2
              have HN := Lib.hid (fun w4 k4 => HF.out.next HI3.out HK3.out (w4 := w4) k4 (L' := tt) (T' := at_) (fun _ => ⟨htt, g1.symm⟩))
              have HG2 := Lib.hid g2
              clear g1 g2 hst htt hbg
              go_wp2_with fail
              go_quiet (fail)
              go_wp2_with fail
              exact ⟨⟨k + 1, m', K', r', _, tt, at_, by omega, by simp, by rw [HG2.out], rfl, rfl, HN.out _ (HK4.out.drewN _), by omega⟩, by simp [intOf]; omega⟩
            | true =>
              obtain ⟨g1, g2, g3, g4⟩ := fwd_begun (n := c.num.toNat) (d := c.den.toNat) (sl := m.sl) (r := at_) (want := want) hbg H64.out.1 H64.out.2 HX.out.at_
              rw [← hst] at g1 g2 g3 g4
              obtain ⟨hL, hT⟩ := HF.out.eq hbg
              rw [← hL, ← hT, ← htt] at g2
              rw [← hL, ← htt] at g1
              rw [← hT] at g3
              have hI1 : I64 L := by rw [hL]; exact H64.out.1
              have hI2 : I64 T := by rw [hT]; exact H64.out.2
              have HN := Lib.hid (fun w4 k4 => HF.out.next HI3.out HK3.out (w4 := w4) k4 (L' := tt) (T' := max T at_) (fun _ => ⟨htt, g3.symm⟩))
              have HG4 := Lib.hid g4
              have hcc := HC.out
              have hn0 := hcc.n0
              have hn1 := hcc.n1
              have hd0 := hcc.e0
              have hd1 := hcc.e1
              have HSB := Lib.hid (fun W' => fsub_calls at_ T W' HX.out.at_ hI2)
              have hsb := satI_bd (at_ - T)
              have HRM : Hid (∀ W', Calls Tryz.prog 14 #[.int .i64 (max 0 (satI (at_ - T))), .int .i64 c.num, .int .i64 c.den] W' fun e w' => e = .returned (.tuple #[.int .i64 (roomM (max 0 (satI (at_ - T))).toNat c.num.toNat c.den.toNat), .int .i64 0]) ∧ ∃ n, w' = W'.drewN n) := Lib.hid (fun W' => by
                have := room_calls (max 0 (satI (at_ - T))).toNat c.num.toNat c.den.toNat W' (by unfold I64 at hsb; omega) (by omega) (by omega) (by omega) (by omega)
                rw [show ((c.num.toNat : Nat) : Int) = c.num by omega, show ((c.den.toNat : Nat) : Int) = c.den by omega, show (((max 0 (satI (at_ - T))).toNat : Nat) : Int) = max 0 (satI (at_ - T)) by omega] at this
                exact this)
              have hrb := roomM_bd (max 0 (satI (at_ - T))).toNat c.num.toNat c.den.toNat
              generalize roomM (max 0 (satI (at_ - T))).toNat c.num.toNat c.den.toNat = R at *
              have HAD := Lib.hid (fun W' => fadd_calls L R W' hI1 (by unfold I64; omega))
              have hd1' : decide (tt < L) = false := decide_eq_false (by omega)
              have hd2 : decide (satI (L + R) < tt) = false := decide_eq_false (by omega)
              have b7 := (HBC.out.alloc (.cells #[.bool true, .int .i64 tt, .slice pa pn pc] 45)).cell (i := 7) rfl
              have b8 := (HBC.out.alloc (.cells #[.bool true, .int .i64 tt, .slice pa pn pc] 45)).cell (i := 8) rfl
              clear g1 g2 g3 g4 hst htt hbg hL hT hsb hn0 hn1 hd0 hd1 hcc hrb
              go_wp2_with fail
              go_quiet ((first | (go_at_call 15; exact Calls.quiet_of_same ((HSB.out _).mono (fun _ _ h => ⟨h.1, h.2.symm⟩))) | (go_at_call 14; exact Calls.quiet_of (HRM.out _))))
              go_wp2_with fail
              refine at_world (fun W9 => W9.cell? ⟨w3.heap.size, 1, none⟩ = some (.int .i64 tt) ∧ W9.cell? ⟨wr.heap.size, 1, none⟩ = some (.int .i64 at_) ∧ Kept (fun _ => False) w3 W9) ⟨s1, e1, HK4.out.drewN _⟩ ?_
              clear s0 s1 e0 e1 b7 b8
              rintro W9 ⟨s1, e1, hK9⟩
              have HK9 := Lib.hid hK9
              clear hK9
              go_quiet ((go_at_call 16; exact Calls.quiet_of_same ((HAD.out _).mono (fun _ _ h => ⟨h.1, h.2.symm⟩))))
              go_wp2_with fail
              refine at_world (fun W8 => W8.cell? ⟨w3.heap.size, 1, none⟩ = some (.int .i64 tt) ∧ Kept (fun _ => False) w3 W8) ⟨s1, HK9.out.drewN _⟩ ?_
              clear s1 e1
              rintro W8 ⟨s1, hK8⟩
              have HK8 := Lib.hid hK8
              clear hK8
              go_quiet (fail)
              go_wp2_with fail
              exact ⟨⟨k + 1, m', K', r', _, tt, max T at_, by omega, by simp, by rw [HG4.out], rfl, rfl, HN.out _ (HK8.out.drewN _), by omega⟩, by simp [intOf]; omega⟩
        · have hbf : b = false := HSL.out.2 hk1
          have hse : m'.sl = m.sl := by
            rcases HSL.out.1 with ⟨h, -⟩ | ⟨-, h⟩
            · rw [hbf] at h; cases h
            · exact h
          have HN := Lib.hid (HF.out.next HI3.out HK3.out HK4.out (L' := L) (T' := T) (by rw [hse]; exact HF.out.eq))
          have HSE := Lib.hid hse
          have hnk : (kind != 1) = true := by simpa using hk1
          clear hse hbf
          go_wp2_with fail
          exact ⟨⟨k + 1, m', K', r', _, L, T, by omega, by simp, by rw [HSE.out], rfl, rfl, HN.out, by omega⟩, by simp [intOf]; omega⟩
      · go_wp2_with fail
        go_ret
        exact ⟨rfl, HF.out.kept⟩
  · have HK := Lib.hid (K0.out.trans hk (fun _ h => h.elim))
    clear hk
    go_wp2_with fail
    refine (HAL.out _).mono ?_
    rintro e w2 ⟨rfl, hk2⟩
    have HK2 := Lib.hid (HK.out.trans hk2 (fun _ h => h.elim))
    clear hk2
    go_wp2_with fail
    refine (HAL.out _).mono ?_
    rintro e w3 ⟨rfl, hk3⟩
    have HK3 := Lib.hid (HK2.out.trans hk3 (fun _ h => h.elim))
    clear hk3
    go_wp2_with fail
    go_ret
    exact ⟨rfl, HK3.out⟩
theorem forward_walk (c : Cfg) (evs : List EvM) (W : World) (v : Value) (h : EvsAt W v evs) : Calls Tryz.prog 5 #[cfgV c, v] W fun e w' => e = .returned (.bool true) ∧ Below W.heap.size W w' :=
  (forward_k c evs W v h).mono fun _ _ h => ⟨h.1, h.2.below (Nat.le_refl _) (fun _ h => h.elim)⟩
end Go.Proofs.YtekdkckgmleofaaGreat

/- For every config and events, by whatever readings: the times that are shown never go back; one goes on by at most the ratio times how far the reading is beyond the greatest earlier one of a frame, and 1. No condition. -/
namespace Go.Proofs.YtekdkckgmleofaaGreat.topForward
open Go.ChangeShapes Go.WideShapes Go.ChangeAt Go.RowKit
open Go.ChangeMaps (open_string shut_string)
set_option linter.unusedVariables false
theorem own : ownKnob Tryz.prog.godebug = none := by kernel_rfl
theorem laidOut : laidOutB Tryz.prog = true := by kernel_rfl
def IsRow (k : IntKind) (w : World) (a : Option Addr) (len cap : Nat) (zs : List Int) : Prop :=
  (a = none ∧ len = 0 ∧ cap = 0 ∧ zs = []) ∨
  ∃ x, a = some x ∧ len ≤ cap ∧ cap ≤ maxLen ∧ zs.length = cap ∧ (∀ i, i < zs.length → w.cell? (x.add i) = some (.int k (zs.getD i 0))) ∧ ∀ n ∈ zs, (Lit.int k n).wf = true
set_option maxRecDepth 100000 in
theorem lifted (os : Os) (started : os.Started) (H : Type) (enc : TypeId × Value → H) :
    ReturnsInHanded {} Tryz.checked os 5 .any (Rows.topForwardSpec.pre6 enc Tryz.prog Tryz.f5 Rows.topForwardRow.domain false) (Rows.topForwardSpec.post enc Tryz.prog Tryz.f5 false true false false) := by
  refine returnsInHanded_of_change_sized (C := Tryz.checked) own started (by kernel_rfl) Tryz.func5
    (ChangeSpec.witness6 (enc := enc) (C := Tryz.checked) false ⟨#[], #[.agg #[.int .i64 0, .int .i64 0, .int .i64 0, .int .i64 0, .int .i64 0, .int .i64 0, .int .i64 0, .int .i64 0, .int .i64 0, .int .i64 0, .bool false], .slice none 0 0], []⟩ 8 (by kernel_rfl) (by kernel_rfl) (by kernel_rfl) (by kernel_rfl)) ?_
  intro W base args ds gs before hval0 hW hcnd hsz0 _
  have hsz : (DataW.weightsEach Tryz.prog (Tryz.f5.params.toList ++ Rows.topForwardSpec.plain.varTypes Tryz.prog) (ds ++ gs)).all (· ≤ reachBytes) = true := hsz0
  have hval : ∀ (j : Nat) t v, Tryz.f5.params[j]? = some t → args[j]? = some v → Value.okWide Tryz.prog W .any base t v := hval0
  have hW' := hW
  obtain ⟨p, q, hA0, hV, rfl, hfz, hnd⟩ := hW
  have hA : DataW.TrodAll enc Tryz.prog W 0 (fun _ => true) true Tryz.f5.params.toList args.toList ds p := hA0
  rw [Tryz.params5] at hA hval hsz
  obtain ⟨v0, vs0, d0, ds0, p0, q0, hargs, rfl, rfl, h0, r0⟩ := trodAll_cons hA
  obtain ⟨v1, vs1, d1, ds1, p1, q1, rfl, rfl, rfl, h1, r1⟩ := trodAll_cons r0
  obtain ⟨rfl, rfl, rfl⟩ := trodAll_nil r1
  obtain rfl : args = #[v0, v1] := by cases args; simp_all
  obtain ⟨rfl, rfl⟩ := trodVars_none hV
  have k0 := h0
  have lt0 : ∀ x ∈ p0, x.block < W.heap.size := by obtain ⟨m, hm⟩ := k0; exact DataW.trod_lt m _ _ _ hm
  have k1 := h1
  have lt1 : ∀ x ∈ p1, x.block < W.heap.size := by obtain ⟨m, hm⟩ := k1; exact DataW.trod_lt m _ _ _ hm
  obtain ⟨c0, hc0⟩ : ∃ c : Cfg, v0.cells.toList = cfgC c := by
    obtain ⟨fuel, hf⟩ := h0
    exact cfg_of_trod hf
  obtain ⟨cs0, rfl, -⟩ := okWide_struct Tryz.underlying26 (hval 0 26 v0 rfl rfl)
  have hs0 : cs0 = (cfgC c0).toArray := by
    rw [← hc0]
    simp [Value.cells]
  obtain ⟨vv1, evs1, he1, hE1⟩ : ∃ (v : Value) (evs : List EvM), v1.cells.toList = [v] ∧ EvsAt W v evs := by
    obtain ⟨fuel, hf⟩ := h1
    exact evs_of_trod hf
  obtain ⟨a1, len1, cap1, rfl⟩ := okWide_slice Tryz.underlying53 (hval 1 53 v1 rfl rfl)
  have hv1 : vv1 = .slice a1 len1 cap1 := by simpa [Value.cells] using he1.symm
  subst hv1
  clear hc0 he1
  subst hs0
  clear hA0 hval0 hsz0 hsz
  refine (forward_walk c0 evs1 W _ hE1).mono fun e W' ⟨he, bel⟩ => ?_
  subst he
  exact ⟨_, rfl, _, _, _, [], _, [], hW', trodAll_mk1 (shut_bool Tryz.underlying4 _), (trodAll_cons_mk (Below.trod laidOut (by kernel_rfl) (of_decide_eq_true (by kernel_rfl)) k0 bel lt0) (trodAll_cons_mk (Below.trod laidOut (by kernel_rfl) (of_decide_eq_true (by kernel_rfl)) k1 bel lt1) trodAll_mk0)), rfl, bel.frame _, fun h => by cases h⟩
theorem over : Rows.topForwardRow.holds Tryz.pinned (OpenSpec.ofChange Rows.topForwardSpec) :=
  OpenClaim.holds_of_wide 5 Tryz.f5 rfl rfl rfl rfl rfl rfl rfl ⟨rfl, rfl, rfl, rfl, rfl⟩ rfl rfl rfl rfl rfl (by kernel_rfl) Tryz.func5 (by kernel_rfl)
    (of_decide_eq_true (by kernel_rfl)) (by unfold Func.isWrapper; first | (rw [if_pos (by decide +kernel)]; kernel_rfl) | (rw [if_neg (by decide +kernel)]; exact ⟨rfl, rfl⟩))
    (fun os started H enc _ => lifted os started H enc)
theorem proved : Rows.TopForwardSaid := over
#print axioms proved
end Go.Proofs.YtekdkckgmleofaaGreat.topForward
namespace Go.Proofs.YtekdkckgmleofaaGreat
/-- The row, under a short name, for the claim. -/
theorem topForward_holds : Rows.TopForwardSaid := topForward.proved
end Go.Proofs.YtekdkckgmleofaaGreat
