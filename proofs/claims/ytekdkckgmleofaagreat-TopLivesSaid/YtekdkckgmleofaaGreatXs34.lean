/- Contracts of package clock's functions, the third: Frame, New. -/
import Derived.Test.YtekdkckgmleofaaGreatXs33
set_option linter.unusedVariables false
set_option linter.unusedSimpArgs false
namespace Go.Proofs.YtekdkckgmleofaaGreat
open Go.RowKit

theorem cframe_none (w : World) (k : Nat) (fp : Nat → Prop) (c : Cfg) (m : ClkM) (K : Nat) (loc : Int) (h : Clk w k fp c m K) (he : m.last = []) :
    Calls Tryz.prog 25 #[.pointer (some ⟨k, 0, none⟩), .int .i64 loc] w fun e w' => e = .returned (.tuple #[.int .i64 0, .bool false]) ∧ w = w' := by
  have HO := Lib.hid (offset_calls w k fp c m K h)
  rw [he] at HO
  clear h
  go_enter Tryz.func25, Tryz.ntmps25
  go_wp2_with fail
  refine (HO.out).mono ?_
  rintro e w' ⟨rfl, rfl⟩
  go_wp2_with fail
  go_ret2
  exact ⟨rfl, rfl⟩

/-- Where is wanted at a reading. -/
def wantM (m : ClkM) (loc : Int) : Int := satI (satI (loc - leastM m) - m.now)
/-- A frame. -/
def frmM (c : Cfg) (m : ClkM) (loc : Int) : ClkM := { m with sl := toM c.num.toNat c.den.toNat m.sl loc (wantM m loc) }

def FrmPost (w : World) (k : Nat) (fp : Nat → Prop) (c : Cfg) (m : ClkM) (K : Nat) (e : Ending) (w' : World) : Prop :=
  e = .returned (.tuple #[.int .i64 m.sl.at_, .bool true]) ∧ Clk w' k fp c m K ∧ Kept fp w w'

theorem slew_calls (w : World) (p num den : Nat) (s : SlewM) (r want : Int) (h : Slew w p num den s) (hr : I64 r) (hw : I64 want) (h1 : 1 ≤ num) (h2 : 1 ≤ den) (h3 : num ≤ 1048576) (h4 : den ≤ 1048576) :
    Calls Tryz.prog 57 #[.pointer (some ⟨p, 0, none⟩), .int .i64 r, .int .i64 want] w fun e w' => e = .returned (.tuple #[.int .i64 (toM num den s r want).at_, .int .i64 0]) ∧
      Slew w' p num den (toM num den s r want) ∧ Kept (· = p) w w' := by
  obtain ⟨a, l, b⟩ := s
  cases b
  · exact to_first w p num den a l r want h hr hw h1 h2 h3 h4
  · exact to_begun w p num den a l r want h hr hw h1 h2 h3 h4

set_option maxRecDepth 100000 in
set_option maxHeartbeats 2000000 in
theorem cframe_calls (w : World) (k : Nat) (fp : Nat → Prop) (c : Cfg) (m : ClkM) (K : Nat) (loc : Int) (hc : COk c) (h : Clk w k fp c m K) (he : m.last ≠ []) (hl : I64 loc) :
    Calls Tryz.prog 25 #[.pointer (some ⟨k, 0, none⟩), .int .i64 loc] w (FrmPost w k fp c (frmM c m loc) K) := by
  have HC := Lib.hid h
  have HO := Lib.hid (offset_calls w k fp c m K h)
  rw [show (!m.last.isEmpty) = true by cases hh : m.last with | nil => exact absurd hh he | cons a t => rfl] at HO
  have HDL := Lib.hid (fun W (hW : Clk W k fp c m K) => delay_calls W k fp c m K hW)
  obtain ⟨fw, wp, sp, jp, dp, cnt, n, h, hk, hsp, hj, hd, hw⟩ := h
  have c1 := h.blk.cell (i := 1) rfl
  have HH := Lib.hid h
  have hlf := least_fit h.fit
  have HSUB : Hid (∀ a b W, I64 a → I64 b → Calls Tryz.prog 15 #[.int .i64 a, .int .i64 b] W fun e w' => e = .returned (.int .i64 (satI (a - b))) ∧ w' = W) := Lib.hid (fun a b W ha hb => (fsub_calls a b W ha hb).mono (fun _ _ h => ⟨h.1, h.2.symm⟩))
  have hf1 := satI_bd (loc - leastM m)
  have hnow : I64 m.now := by have := h.t0; have := h.t1; have := hc.d.l0; have := hc.d.m1; exact ⟨by omega, by omega⟩
  have hf2 := satI_bd (satI (loc - leastM m) - m.now)
  have hn0 := hc.n0
  have hn1 := hc.n1
  have he0 := hc.e0
  have he1 := hc.e1
  have HT := Lib.hid (fun W (hW : Slew W sp c.num.toNat c.den.toNat m.sl) => slew_calls W sp c.num.toNat c.den.toNat m.sl loc (satI (satI (loc - leastM m) - m.now)) hW hl hf2 (by omega) (by omega) (by omega) (by omega))
  have HF : Hid (frmM c m loc = { m with sl := toM c.num.toNat c.den.toNat m.sl loc (satI (satI (loc - leastM m) - m.now)) }) := Lib.hid rfl
  generalize leastM m = x at *
  clear h he
  go_enter Tryz.func25, Tryz.ntmps25
  go_wp2_with fail
  refine (HO.out).mono ?_
  rintro e w' ⟨rfl, rfl⟩
  go_wp2_with fail
  go_region_held3 (fun w' => w'.cell? ⟨k, 1, none⟩ = some (.pointer (some ⟨sp, 0, none⟩)))
    (first | go_keep | exact HK2.out.cell (by assumption) HH.out.ks)
    ((first
      | (go_at_call 15; refine (HSUB.out _ _ _ (by assumption) (by assumption)).mono ?_; rintro e w' ⟨rfl, rfl⟩)
      | (go_at_call 58; refine (HDL.out _ (HC.out.kept ((Kept.refl (fun _ => False) w).drewN 1) (fun _ _ h => h))).mono ?_; rintro e w' ⟨rfl, rfl⟩)
      | (go_at_call 57; refine (HT.out _ ⟨Blk.drewN HH.out.slew.1 1, HH.out.slew.2⟩).mono ?_; rintro e w2 ⟨rfl, hs2, hk2⟩; have HS3 := Lib.hid hs2; have HK2 := Lib.hid hk2; clear hs2 hk2)))
  all_goals
    have HK3 := Lib.hid (((Kept.refl (· = sp) w).drewN 1).trans HK2.out (fun _ h => .inl h))
    go_wp2_with fail
    go_ret2
    rw [HF.out]
    refine ⟨rfl, ⟨fw, wp, sp, jp, dp, cnt, n, { HH.out with
      blk := HK3.out.blk HH.out.blk HH.out.ks
      win := HH.out.win.kept HK3.out (fun g hg e => HH.out.sf (by rw [← e]; exact hg))
      slew := HS3.out
      jit := HK3.out.blk HH.out.jit (fun e => HH.out.sj e.symm)
      dly := HK3.out.blk HH.out.dly (fun e => HH.out.sd e.symm) }, hk, hsp, hj, hd, hw⟩, HK3.out.mono (fun g _ hg => by rw [hg]; exact hsp)⟩

theorem tgt_now {c : Cfg} (h : DOk c) : c.least ≤ tgtM c 0 ∧ tgtM c 0 ≤ c.most := tgtM_bd h 0

def CNewPost (w : World) (c : Cfg) (e : Ending) (w' : World) : Prop :=
  ∃ k, e = .returned (.tuple #[.pointer (some ⟨k, 0, none⟩), .int .i64 0]) ∧ Clk w' k (fun g => w.heap.size ≤ g ∧ g < w'.heap.size) c ⟨[], 0, tgtM c 0, ⟨0, 0, false⟩⟩ 0 ∧ Kept (fun _ => False) w w'

theorem cnew_end {w w1 W w4 : World} {c : Cfg} {p : Nat} {o : Obj} (hb : Blk W w.heap.size (cfgC c) 26) (hw : Win64.Win W w1.heap.size (fun g => g = w1.heap.size) c.window.toNat []) (hs : Slew W (w1.heap.size + 1) c.num.toNat c.den.toNat ⟨0, 0, false⟩) (hkw : Kept (fun _ => False) w W ∧ w.heap.size ≤ w1.heap.size) (hsz : w1.heap.size + 1 < W.heap.size)
    (hd : Delay w4 p c (tgtM c 0) 0) (hk4 : Kept (fun _ => False) W w4) (hp : W.heap.size ≤ p) (t0 : c.least ≤ tgtM c 0) (t1 : tgtM c 0 ≤ c.most) :
    Clk (((w4.alloc o).alloc (.cells #[.int .i64 0, .int .i64 0] 156)).alloc (.cells #[.pointer (some ⟨w1.heap.size, 0, none⟩), .pointer (some ⟨w1.heap.size + 1, 0, none⟩), .pointer (some ⟨w4.heap.size + 1, 0, none⟩), .pointer (some ⟨p, 0, none⟩)] 114)) (w4.heap.size + 1 + 1)
      (fun g => w.heap.size ≤ g ∧ g < (((w4.alloc o).alloc (.cells #[.int .i64 0, .int .i64 0] 156)).alloc (.cells #[.pointer (some ⟨w1.heap.size, 0, none⟩), .pointer (some ⟨w1.heap.size + 1, 0, none⟩), .pointer (some ⟨w4.heap.size + 1, 0, none⟩), .pointer (some ⟨p, 0, none⟩)] 114)).heap.size) c ⟨[], 0, tgtM c 0, ⟨0, 0, false⟩⟩ 0 := by
  have z4 := hk4.size
  have zp := Blk.lt hd
  have K3 := (((Kept.refl (fun _ => False) w4).alloc o).alloc (.cells #[.int .i64 0, .int .i64 0] 156)).alloc (.cells #[.pointer (some ⟨w1.heap.size, 0, none⟩), .pointer (some ⟨w1.heap.size + 1, 0, none⟩), .pointer (some ⟨w4.heap.size + 1, 0, none⟩), .pointer (some ⟨p, 0, none⟩)] 114)
  have e1 : ((w4.alloc o).alloc (.cells #[.int .i64 0, .int .i64 0] 156)).heap.size = w4.heap.size + 1 + 1 := by rw [size_alloc, size_alloc]
  refine ⟨fun g => g = w1.heap.size, w1.heap.size, w1.heap.size + 1, w4.heap.size + 1, p, 0, 0, {
    blk := Blk.new_at e1.symm _ _
    win := (hw.kept hk4 (fun _ _ h => h)).kept K3 (fun _ _ h => h)
    slew := ⟨K3.blk (hk4.blk hs.1 (fun h => h)) (fun h => h), hs.2⟩
    jit := (Blk.new_at (size_alloc w4 o).symm _ _).alloc _
    dly := K3.blk hd (fun h => h)
    kf := by omega, sf := by omega, jf := by omega, df := by omega, ks := by omega, kj := by omega, kd := by omega, sj := by omega, sd := by omega, jd := by omega
    len := Nat.zero_le _, fit := fun y hy => by cases hy
    j0 := Int.le_refl 0, j1 := (by decide : (0 : Int) ≤ 9223372036854775807), c0 := by decide, c1 := by decide, n0 := by decide, n1 := by decide, t0 := t0, t1 := t1 }, ?_, ?_, ?_, ?_, ?_⟩
  all_goals
    simp only [size_alloc]
    omega

set_option maxRecDepth 100000 in
set_option maxHeartbeats 2000000 in
theorem cnew_good (c : Cfg) (w : World) (h : COk c) : Calls Tryz.prog 18 #[cfgV c] w (CNewPost w c) := by
  have HC := Lib.hid (fun W => ccheck_good c W h)
  have HD := Lib.hid (fun W => dnew_good c W h.d)
  have hw0 := h.w0
  have hw1 := h.w1
  have hn0 := h.n0
  have hn1 := h.n1
  have he0 := h.e0
  have he1 := h.e1
  have HCO := Lib.hid h
  have hd0 := (tgt_now h.d).1
  have hd1 := (tgt_now h.d).2
  clear h
  go_enter Tryz.func18, Tryz.ntmps18
  go_wp2_with fail
  refine (HC.out _).mono ?_
  rintro e w1 ⟨rfl, hk⟩
  have HK1 := Lib.hid (((Kept.refl (fun _ => False) w).alloc (.cells (cfgC c).toArray 26)).trans hk (fun _ h => h.elim))
  have hww := HK1.out.size
  have hB := hk.blk (Blk.new w (cfgC c) 26) (fun h => h)
  have HB := Lib.hid hB
  have b1 := hB.cell (i := 1) rfl
  clear hk hB
  go_upto_region 6 with (first
    | (refine (Win64.new_good _ c.window hw0 hw1).mono ?_; rintro e w2 ⟨rfl, rfl⟩; have b7 := (HB.out.alloc (.cells #[.int .i64 c.window, .slice none 0 0, .slice none 0 0, .slice none 0 0] 149)).cell (i := 7) rfl; have b8 := (HB.out.alloc (.cells #[.int .i64 c.window, .slice none 0 0, .slice none 0 0, .slice none 0 0] 149)).cell (i := 8) rfl)
    | (refine (snew_good c.num c.den _ hn0 he0 hn1 he1).mono ?_; rintro e w3 ⟨rfl, rfl⟩))
  refine at_world (fun W => Blk W w.heap.size (cfgC c) 26 ∧ Win64.Win W w1.heap.size (fun g => g = w1.heap.size) c.window.toNat [] ∧ Slew W (w1.heap.size + 1) c.num.toNat c.den.toNat ⟨0, 0, false⟩ ∧ Kept (fun _ => False) w W ∧ w1.heap.size + 1 < W.heap.size) ?_ ?_
  · have q1 : ((c.window.toNat : Nat) : Int) = c.window := by omega
    have q2 : ((c.num.toNat : Nat) : Int) = c.num := by omega
    have q3 : ((c.den.toNat : Nat) : Int) = c.den := by omega
    have hwn := Win64.win_new w1 c.window.toNat
    rw [q1] at hwn
    have hsn : Slew ((w1.alloc (.cells #[.int .i64 c.window, .slice none 0 0, .slice none 0 0, .slice none 0 0] 149)).alloc (.cells #[.int .i64 c.num, .int .i64 c.den, .int .i64 0, .int .i64 0, .int .i64 0] 151)) (w1.heap.size + 1) c.num.toNat c.den.toNat ⟨0, 0, false⟩ := by
      refine ⟨?_, ⟨by decide, by decide⟩, ⟨by decide, by decide⟩⟩
      rw [q2, q3]
      exact Blk.new_at (size_alloc w1 _).symm [.int .i64 c.num, .int .i64 c.den, .int .i64 0, .int .i64 0, .int .i64 0] _
    exact ⟨(HB.out.alloc _).alloc _, hwn.kept ((Kept.refl (fun _ => False) _).alloc _) (fun _ _ h => h), hsn, (HK1.out.alloc _).alloc _, by simp⟩
  rintro W ⟨hb, hwn, hsl, hkw, hsz⟩
  have HB := Lib.hid hb
  have HW := Lib.hid hwn
  have HS := Lib.hid hsl
  have HKW := Lib.hid hkw
  have d0 := hb.cell (i := 0) rfl
  have d1 := hb.cell (i := 1) rfl
  have d2 := hb.cell (i := 2) rfl
  have d3 := hb.cell (i := 3) rfl
  have d4 := hb.cell (i := 4) rfl
  have d5 := hb.cell (i := 5) rfl
  have d6 := hb.cell (i := 6) rfl
  have d7 := hb.cell (i := 7) rfl
  have d8 := hb.cell (i := 8) rfl
  have d9 := hb.cell (i := 9) rfl
  have d10 := hb.cell (i := 10) rfl
  clear hb hwn hsl hkw b1
  go_wp2_with fail
  refine (HD.out _).mono ?_
  rintro e w4 ⟨p, rfl, hd4, hk4, hp4⟩
  have HD4 := Lib.hid hd4
  have HK4 := Lib.hid hk4
  clear hd4 hk4 d0 d1 d2 d3 d4 d5 d6 d7 d8 d9 d10
  go_wp2_with fail
  have z0 := (Blk.new w4 [.int .i64 0, .int .i64 0, .int .i64 0] 28).cell (i := 0) rfl
  have z1 := (Blk.new w4 [.int .i64 0, .int .i64 0, .int .i64 0] 28).cell (i := 1) rfl
  have z2 := (Blk.new w4 [.int .i64 0, .int .i64 0, .int .i64 0] 28).cell (i := 2) rfl
  go_loop [42] (fun i => ∃ k : Nat, k ≤ 3 ∧ i = .int .i64 k) (fun i => 3 - (intOf i).toNat)
  case atStart => exact ⟨0, by omega, rfl⟩
  case round =>
    obtain ⟨k, hk3, rfl⟩ := hrel
    by_cases h3 : k = 3
    · subst h3
      go_wp2_with (refine (jnew_calls _).mono ?_; rintro e w5 ⟨rfl, rfl⟩)
      go_ret2
      exact ⟨w4.heap.size + 1 + 1, rfl, cnew_end HB.out HW.out HS.out ⟨HKW.out, hww⟩ hsz HD4.out HK4.out hp4 hd0 hd1, ((((HKW.out.trans HK4.out (fun _ h => h.elim)).alloc _).alloc _).alloc _)⟩
    · have hk : k = 0 ∨ k = 1 ∨ k = 2 := by omega
      rcases hk with rfl | rfl | rfl
      · go_wp2_with fail
        exact ⟨⟨1, by omega, rfl⟩, by simp [intOf]⟩
      · go_wp2_with fail
        exact ⟨⟨2, by omega, rfl⟩, by simp [intOf]⟩
      · go_wp2_with fail
        exact ⟨⟨3, by omega, rfl⟩, by simp [intOf]⟩
end Go.Proofs.YtekdkckgmleofaaGreat
