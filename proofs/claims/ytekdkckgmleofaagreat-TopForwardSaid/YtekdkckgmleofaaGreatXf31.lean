/- Joined texts. -/
import Derived.Test.YtekdkckgmleofaaGreatXf11
import Derived.Test.YtekdkckgmleofaaGreatXf04
import Derived.Test.YtekdkckgmleofaaGreatXf30
set_option linter.unusedVariables false
set_option linter.unusedSimpArgs false
/- Contracts of package clock's functions. -/
namespace Go.Proofs.YtekdkckgmleofaaGreat
open Go.RowKit

/-- A config that may be. -/
structure COk (c : Cfg) : Prop where
  d : DOk c
  r0 : 1 ≤ c.ring
  r1 : c.ring ≤ 64
  w0 : 1 ≤ c.window
  w1 : c.window ≤ 64
  n0 : 1 ≤ c.num
  n1 : c.num ≤ 1048576
  e0 : 1 ≤ c.den
  e1 : c.den ≤ 1048576
  x0 : 0 ≤ c.extra
  x1 : c.extra ≤ 2305843009213693952

set_option maxRecDepth 100000 in
set_option maxHeartbeats 2000000 in
theorem ccheck_good (c : Cfg) (w : World) (h : COk c) :
    Calls Tryz.prog 37 #[cfgV c] w fun e w' => e = .returned (.int .i64 0) ∧ Kept (fun _ => False) w w' := by
  have HD := Lib.hid (fun W => dcheck_good c W h.d)
  obtain ⟨-, r0, r1, w0, w1, n0, n1, e0, e1, x0, x1⟩ := h
  have HR : Hid (∀ W, Calls Tryz.prog 14 #[.int .i64 0, .int .i64 c.num, .int .i64 c.den] W fun e w' => e = .returned (.tuple #[.int .i64 1, .int .i64 0]) ∧ ∃ n, w' = W.drewN n) := Lib.hid (fun W => by
    have := room_calls 0 c.num.toNat c.den.toNat W (by omega) (by omega) (by omega) (by omega) (by omega)
    rw [show ((c.num.toNat : Nat) : Int) = c.num by omega, show ((c.den.toNat : Nat) : Int) = c.den by omega] at this
    exact this.mono (fun e w' h => ⟨by rw [h.1, roomM_zero], h.2⟩))
  go_enter Tryz.func37, Tryz.ntmps37
  go_wp2_with fail
  refine (HD.out _).mono ?_
  rintro e w1' ⟨rfl, hk⟩
  have HK := Lib.hid (((Kept.refl (fun _ => False) w).alloc (.cells (cfgC c).toArray 26)).trans hk (fun _ h => h.elim))
  have hB := hk.blk (Blk.new w (cfgC c) 26) (fun h => h)
  have b7 := hB.cell (i := 7) rfl
  have b8 := hB.cell (i := 8) rfl
  have b9 := hB.cell (i := 9) rfl
  clear hk hB
  go_wp2_with fail
  refine (HR.out _).mono ?_
  rintro e w2' ⟨rfl, nd, rfl⟩
  go_wp2_with fail
  go_ret
  exact ⟨rfl, HK.out.drewN _⟩

/-- A clock, in plain words: the samples that are looked at, the estimate, the delay, where it stands. -/
structure ClkM where
  last : List Int
  jit : Int
  now : Int
  sl : SlewM

/-- Where the parts of a clock lie. -/
structure ClkAt (w : World) (k : Nat) (c : Cfg) (m : ClkM) (K : Nat) (fw : Nat → Prop) (wp sp jp dp : Nat) (cnt n : Int) : Prop where
  blk : Blk w k [.pointer (some ⟨wp, 0, none⟩), .pointer (some ⟨sp, 0, none⟩), .pointer (some ⟨jp, 0, none⟩), .pointer (some ⟨dp, 0, none⟩)] 114
  win : Win64.Win w wp fw c.window.toNat m.last
  slew : Slew w sp c.num.toNat c.den.toNat m.sl
  jit : Blk w jp [.int .i64 m.jit, .int .i64 cnt] 156
  dly : Delay w dp c m.now n
  kf : ¬ fw k
  sf : ¬ fw sp
  jf : ¬ fw jp
  df : ¬ fw dp
  ks : k ≠ sp
  kj : k ≠ jp
  kd : k ≠ dp
  sj : sp ≠ jp
  sd : sp ≠ dp
  jd : jp ≠ dp
  len : m.last.length ≤ c.window.toNat
  fit : ∀ y ∈ m.last, I64 y
  j0 : 0 ≤ m.jit
  j1 : m.jit ≤ 9223372036854775807
  c0 : 0 ≤ cnt
  c1 : cnt ≤ K
  n0 : 0 ≤ n
  n1 : n ≤ K
  t0 : c.least ≤ m.now
  t1 : m.now ≤ c.most

/-- A clock at block k, of which all memory lies in fp, behind at most K samples. -/
def Clk (w : World) (k : Nat) (fp : Nat → Prop) (c : Cfg) (m : ClkM) (K : Nat) : Prop :=
  ∃ fw wp sp jp dp cnt n, ClkAt w k c m K fw wp sp jp dp cnt n ∧ fp k ∧ fp sp ∧ fp jp ∧ fp dp ∧ (∀ g, fw g → fp g)

theorem Clk.kept {F : Nat → Prop} {w w' : World} {k : Nat} {fp : Nat → Prop} {c : Cfg} {m : ClkM} {K : Nat} (h : Clk w k fp c m K) (kp : Kept F w w') (hF : ∀ g, fp g → ¬ F g) : Clk w' k fp c m K := by
  obtain ⟨fw, wp, sp, jp, dp, cnt, n, h, hk, hs, hj, hd, hw⟩ := h
  exact ⟨fw, wp, sp, jp, dp, cnt, n, { h with
    blk := kp.blk h.blk (hF k hk)
    win := h.win.kept kp (fun g hg => hF g (hw g hg))
    slew := ⟨kp.blk h.slew.1 (hF sp hs), h.slew.2⟩
    jit := kp.blk h.jit (hF jp hj)
    dly := kp.blk h.dly (hF dp hd) }, hk, hs, hj, hd, hw⟩
theorem Clk.mono {w : World} {k : Nat} {fp fq : Nat → Prop} {c : Cfg} {m : ClkM} {K : Nat} (h : Clk w k fp c m K) (hF : ∀ g, g < w.heap.size → fp g → fq g) : Clk w k fq c m K := by
  obtain ⟨fw, wp, sp, jp, dp, cnt, n, h, hk, hs, hj, hd, hw⟩ := h
  exact ⟨fun g => fw g ∧ g < w.heap.size, wp, sp, jp, dp, cnt, n, { h with
    win := h.win.mono (fun g hg h => ⟨h, hg⟩)
    kf := fun x => h.kf x.1, sf := fun x => h.sf x.1, jf := fun x => h.jf x.1, df := fun x => h.df x.1 },
    hF k h.blk.lt hk, hF sp h.slew.1.lt hs, hF jp h.jit.lt hj, hF dp (Blk.lt h.dly) hd, fun g hg => hF g hg.2 (hw g hg.1)⟩

/-- The least of the samples. -/
def leastM (m : ClkM) : Int := Win64.hd (minsL Win64.lt m.last)
/-- A sample more. -/
def addL (c : Cfg) (m : ClkM) (d : Int) : List Int := (if m.last.length = c.window.toNat then m.last.tail else m.last) ++ [d]
def smpM (c : Cfg) (m : ClkM) (local_ server : Int) : ClkM :=
  let l := addL c m (satI (local_ - server))
  let j := stepJ m.jit (satI (satI (local_ - server) - Win64.hd (minsL Win64.lt l)))
  ⟨l, j, updM c m.now j, m.sl⟩
end Go.Proofs.YtekdkckgmleofaaGreat

/- Contracts of package clock's functions, the second: Offset, Delay, Sample, Frame. -/
namespace Go.Proofs.YtekdkckgmleofaaGreat
open Go.RowKit

theorem least_mem {m : ClkM} (h : m.last ≠ []) : leastM m ∈ m.last ∧ ∀ y ∈ m.last, leastM m ≤ y := by
  unfold leastM Win64.hd
  cases hl : minsL Win64.lt m.last with
  | nil => exact absurd hl (minsL_ne h)
  | cons a t =>
    obtain ⟨h1, h2⟩ := minsL_head Win64.tot m.last a t hl
    refine ⟨h1, fun y hy => ?_⟩
    have := h2 y hy
    simp [Win64.lt] at this
    exact this
theorem least_has {m : ClkM} : (!(minsL Win64.lt m.last).isEmpty) = !m.last.isEmpty := by
  cases hl : m.last with
  | nil => rfl
  | cons a t =>
    have := minsL_ne (lt := Win64.lt) (l := a :: t) (by simp)
    cases hm : minsL Win64.lt (a :: t) with
    | nil => exact absurd hm this
    | cons b u => rfl
theorem least_fit {m : ClkM} (h : ∀ y ∈ m.last, I64 y) : I64 (leastM m) := by
  by_cases hn : m.last = []
  · unfold leastM
    rw [hn]
    exact ⟨by decide, by decide⟩
  · exact h _ (least_mem hn).1

theorem offset_calls (w : World) (k : Nat) (fp : Nat → Prop) (c : Cfg) (m : ClkM) (K : Nat) (h : Clk w k fp c m K) :
    Calls Tryz.prog 56 #[.pointer (some ⟨k, 0, none⟩)] w fun e w' => e = .returned (.tuple #[.int .i64 (leastM m), .bool !m.last.isEmpty]) ∧ w = w' := by
  obtain ⟨fw, wp, sp, jp, dp, cnt, n, h, -⟩ := h
  have c0 := h.blk.cell (i := 0) rfl
  have HL := Lib.hid (Win64.least_calls w wp fw c.window.toNat m.last h.win)
  rw [least_has] at HL
  clear h
  have HE : Hid (leastM m = Win64.hd (minsL Win64.lt m.last)) := Lib.hid rfl
  generalize Win64.hd (minsL Win64.lt m.last) = x at *
  generalize m.last.isEmpty = b at *
  go_enter Tryz.func56, Tryz.ntmps56
  go_wp2_with fail
  refine (HL.out).mono ?_
  rintro e w' ⟨rfl, rfl⟩
  go_wp2_with fail
  go_ret2
  exact ⟨by rw [HE.out]; rfl, rfl⟩
theorem delay_calls (w : World) (k : Nat) (fp : Nat → Prop) (c : Cfg) (m : ClkM) (K : Nat) (h : Clk w k fp c m K) :
    Calls Tryz.prog 58 #[.pointer (some ⟨k, 0, none⟩)] w fun e w' => e = .returned (.int .i64 m.now) ∧ w = w' := by
  obtain ⟨fw, wp, sp, jp, dp, cnt, n, h, -⟩ := h
  have c3 := h.blk.cell (i := 3) rfl
  have HL := Lib.hid (dnow_calls c m.now n dp w h.dly)
  clear h
  go_enter Tryz.func58, Tryz.ntmps58
  go_wp2_with fail
  refine (HL.out).mono ?_
  rintro e w' ⟨rfl, rfl⟩
  go_wp2_with fail
  go_ret
  exact ⟨rfl, rfl⟩

theorem updM_bd {c : Cfg} (h : DOk c) {now j : Int} (h0 : c.least ≤ now) (h1 : now ≤ c.most) : c.least ≤ updM c now j ∧ updM c now j ≤ c.most := by
  have := tgtM_bd h j
  unfold updM
  split <;> omega
theorem addL_fit {c : Cfg} {m : ClkM} {d : Int} (h : ∀ y ∈ m.last, I64 y) (hd : I64 d) : ∀ y ∈ addL c m d, I64 y := by
  intro y hy
  unfold addL at hy
  rcases List.mem_append.1 hy with hy | hy
  · split at hy
    · exact h y (List.mem_of_mem_tail hy)
    · exact h y hy
  · simp at hy; subst hy; exact hd
theorem addL_ne {c : Cfg} {m : ClkM} {d : Int} : addL c m d ≠ [] := by unfold addL; simp
theorem addL_len {c : Cfg} {m : ClkM} {d : Int} (h : m.last.length ≤ c.window.toNat) (h1 : 1 ≤ c.window.toNat) : (addL c m d).length ≤ c.window.toNat := by
  unfold addL
  rw [List.length_append]
  split
  · rw [List.length_tail]; simp; omega
  · simp; omega

def SmpPost (w : World) (k : Nat) (fp : Nat → Prop) (c : Cfg) (m : ClkM) (K : Nat) (e : Ending) (w' : World) : Prop :=
  e = .returned (.int .i64 0) ∧ Clk w' k (fun g => fp g ∨ (w.heap.size ≤ g ∧ g < w'.heap.size)) c m K ∧ Kept fp w w'

theorem sample_end {w w1 w2 w3 : World} {k : Nat} {fp fw : Nat → Prop} {c : Cfg} {m : ClkM} {K wp sp jp dp : Nat} {cnt n cnt' n' j u : Int} {l : List Int} (h : ClkAt w k c m K fw wp sp jp dp cnt n) (hk : fp k) (hs : fp sp) (hj : fp jp) (hd : fp dp) (hw : ∀ g, fw g → fp g)
    (hW1 : Win64.Win w1 wp (fun g => fw g ∨ (w.heap.size ≤ g ∧ g < w1.heap.size)) c.window.toNat l) (k1 : Kept fw w w1) (hJ2 : Blk w2 jp [.int .i64 j, .int .i64 cnt'] 156) (k2 : Kept (· = jp) w1 w2) (hD3 : Delay w3 dp c u n') (k3 : Kept (· = dp) w2 w3)
    (len : l.length ≤ c.window.toNat) (fit : ∀ y ∈ l, I64 y) (j0 : 0 ≤ j) (j1 : j ≤ 9223372036854775807) (c0 : 0 ≤ cnt') (c1 : cnt' ≤ (K : Int) + 1) (n0 : 0 ≤ n') (n1 : n' ≤ (K : Int) + 1) (t0 : c.least ≤ u) (t1 : u ≤ c.most) :
    Clk w3 k (fun g => fp g ∨ (w.heap.size ≤ g ∧ g < w3.heap.size)) c ⟨l, j, u, m.sl⟩ (K + 1) ∧ Kept fp w w3 := by
  have z1 := k1.size
  have z2 := k2.size
  have z3 := k3.size
  have lk := h.blk.lt
  have ls := h.slew.1.lt
  have lj := h.jit.lt
  have ld := Blk.lt h.dly
  refine ⟨⟨fun g => fw g ∨ (w.heap.size ≤ g ∧ g < w1.heap.size), wp, sp, jp, dp, cnt', n', { h with
    blk := k3.blk (k2.blk (k1.blk h.blk h.kf) h.kj) h.kd
    win := (hW1.kept k2 ?_).kept k3 ?_
    slew := ⟨k3.blk (k2.blk (k1.blk h.slew.1 h.sf) h.sj) h.sd, h.slew.2⟩
    jit := k3.blk hJ2 h.jd
    dly := hD3
    kf := ?_, sf := ?_, jf := ?_, df := ?_
    len := len, fit := fit, j0 := j0, j1 := j1, c0 := c0, c1 := by exact_mod_cast c1, n0 := n0, n1 := by exact_mod_cast n1, t0 := t0, t1 := t1 },
    .inl hk, .inl hs, .inl hj, .inl hd, fun g hg => hg.elim (fun h => .inl (hw g h)) (fun h => .inr ⟨h.1, by omega⟩)⟩, ?_⟩
  · rintro g (hg | hg) e
    · exact h.jf (by rw [← e]; exact hg)
    · omega
  · rintro g (hg | hg) e
    · exact h.df (by rw [← e]; exact hg)
    · omega
  · rintro (hg | hg)
    · exact h.kf hg
    · omega
  · rintro (hg | hg)
    · exact h.sf hg
    · omega
  · rintro (hg | hg)
    · exact h.jf hg
    · omega
  · rintro (hg | hg)
    · exact h.df hg
    · omega
  · exact (((k1.mono (G := fp) (fun g _ hg => hw g hg)).trans k2 (fun i hi => .inl (by rw [hi]; exact hj))).trans k3 (fun i hi => .inl (by rw [hi]; exact hd)))

set_option maxRecDepth 100000 in
set_option maxHeartbeats 2000000 in
theorem sample_calls (w : World) (k : Nat) (fp : Nat → Prop) (c : Cfg) (m : ClkM) (K : Nat) (loc srv : Int) (hc : COk c) (h : Clk w k fp c m K) (hK : K < 100000) (hl : I64 loc) (hs : I64 srv) :
    Calls Tryz.prog 22 #[.pointer (some ⟨k, 0, none⟩), .int .i64 loc, .int .i64 srv] w (SmpPost w k fp c (smpM c m loc srv) (K + 1)) := by
  obtain ⟨fw, wp, sp, jp, dp, cnt, n, h, hk, hsp, hj, hd, hw⟩ := h
  have c0 := h.blk.cell (i := 0) rfl
  have HH := Lib.hid h
  have hw0 := hc.w0
  have hw1 := hc.w1
  have HD := Lib.hid (fun W => fsub_calls loc srv W hl hs)
  have hfit := satI_bd (loc - srv)
  have HA := Lib.hid (Win64.add_calls w wp fw c.window.toNat m.last (satI (loc - srv)) (by omega) (by omega) h.len h.win)
  have HSM : Hid (smpM c m loc srv = ⟨addL c m (satI (loc - srv)), stepJ m.jit (satI (satI (loc - srv) - Win64.hd (minsL Win64.lt (addL c m (satI (loc - srv)))))), updM c m.now (stepJ m.jit (satI (satI (loc - srv) - Win64.hd (minsL Win64.lt (addL c m (satI (loc - srv))))))), m.sl⟩) := Lib.hid rfl
  have HLA : Hid ((if m.last.length = c.window.toNat then m.last.tail else m.last) ++ [satI (loc - srv)] = addL c m (satI (loc - srv))) := Lib.hid rfl
  have HFT := Lib.hid (addL_fit (c := c) h.fit hfit)
  have HLN := Lib.hid (addL_len (d := satI (loc - srv)) h.len (by omega))
  rw [HLA.out] at HA
  clear h HLA
  generalize hdd : satI (loc - srv) = d at *
  generalize hll : addL c m d = l at *
  clear hdd hll
  go_enter Tryz.func22, Tryz.ntmps22
  go_wp2_with fail
  refine (HD.out _).mono ?_
  rintro e w' ⟨rfl, rfl⟩
  go_wp2_with fail
  refine (HA.out).mono ?_
  rintro e w1 ⟨rfl, hw1', hk1⟩
  have HW1 := Lib.hid hw1'
  have HK1 := Lib.hid hk1
  have HL := Lib.hid (Win64.least_calls w1 wp _ c.window.toNat l hw1')
  have hb1 := hk1.blk HH.out.blk HH.out.kf
  have d0 := hb1.cell (i := 0) rfl
  have d2 := hb1.cell (i := 2) rfl
  have d3 := hb1.cell (i := 3) rfl
  have HB1 := Lib.hid hb1
  clear hw1' hk1 hb1 c0
  have hmf : I64 (Win64.hd (minsL Win64.lt l)) := least_fit (m := ⟨l, 0, 0, m.sl⟩) HFT.out
  generalize Win64.hd (minsL Win64.lt l) = x at *
  generalize hbb : (!(minsL Win64.lt l).isEmpty) = b at *
  clear hbb
  have HD2 := Lib.hid (fun W => fsub_calls d x W hfit hmf)
  have hfit2 := satI_bd (d - x)
  generalize satI (d - x) = y at *
  go_wp2_with fail
  refine (HL.out).mono ?_
  rintro e w' ⟨rfl, rfl⟩
  go_wp2_with fail
  refine region_tail 8 (by kernel_rfl) (by kernel_rfl) ?_
  simp only [List.take_succ_cons, List.take_zero, List.drop_succ_cons, List.drop_zero]
  repeat still_step
  still_call ((HD2.out _).mono (fun _ _ h => ⟨h.1, h.2.symm⟩))
  repeat still_step
  refine wpStill_nil ?_
  go_wp2_with fail
  have HJ1 := Lib.hid (HK1.out.blk HH.out.jit HH.out.jf)
  have HCN := HH.out.c0
  have HCN1 := HH.out.c1
  have HJ0 := HH.out.j0
  have HJ9 := HH.out.j1
  refine (add_calls _ jp m.jit cnt y hfit2.1 hfit2.2 HJ0 HJ9 HCN (by omega) (Blk.drew HJ1.out)).mono ?_
  rintro e w2 ⟨rfl, hj2, hk2⟩
  have HJ2 := Lib.hid hj2
  have HK2 := Lib.hid ((Kept.refl (· = jp) w').drew.trans hk2 (fun _ h => .inl h))
  have hb2 := hk2.blk (Blk.drew HB1.out) (fun e => HH.out.kj e)
  have e2 := hb2.cell (i := 2) rfl
  have e3 := hb2.cell (i := 3) rfl
  have HB2 := Lib.hid hb2
  have hsj := stepJ_nonneg m.jit y
  have hsj2 := stepJ_le m.jit y HJ9 hfit2.2
  have HNW := Lib.hid (now_calls w2.drew jp (stepJ m.jit y) (cnt + 1) (Blk.drew hj2))
  clear hj2 hk2 hb2 d0 d2 d3
  have HSM2 := HSM
  generalize stepJ m.jit y = j at *
  go_wp2_with fail
  refine region_tail 11 (by kernel_rfl) (by kernel_rfl) ?_
  simp only [List.take_succ_cons, List.take_zero, List.drop_succ_cons, List.drop_zero]
  repeat still_step
  still_call (HNW.out)
  repeat still_step
  refine wpStill_nil ?_
  go_wp2_with fail
  have HD1 := Lib.hid (HK1.out.blk HH.out.dly HH.out.df)
  have HD2' := Lib.hid (HK2.out.blk HD1.out (fun e => HH.out.jd e.symm))
  have ht0 := HH.out.t0
  have ht1 := HH.out.t1
  have hl0 := hc.d.l0
  have hm1 := hc.d.m1
  have hn0 := HH.out.n0
  have hn1 := HH.out.n1
  have hub := updM_bd (j := j) hc.d ht0 ht1
  refine (update_calls c m.now n j dp _ (Blk.drew HD2'.out) hc.d ⟨by omega, by omega⟩ (by omega) (by omega) hn0 (by omega)).mono ?_
  rintro e w3 ⟨n', rfl, hd3, hk3, hn3, hn4⟩
  have HD3 := Lib.hid hd3
  have HK3 := Lib.hid ((Kept.refl (· = dp) w2).drew.trans hk3 (fun _ h => .inl h))
  clear hd3 hk3 ht0 ht1 hl0 hm1
  go_wp2_with fail
  go_ret
  rw [HSM.out]
  exact ⟨rfl, sample_end HH.out hk hsp hj hd hw HW1.out HK1.out HJ2.out HK2.out HD3.out HK3.out HLN.out HFT.out hsj hsj2 (by omega) (by omega) (by omega) (by omega) hub.1 hub.2⟩
end Go.Proofs.YtekdkckgmleofaaGreat

/- Contracts of package clock's functions, the third: Frame, New. -/
namespace Go.Proofs.YtekdkckgmleofaaGreat
open Go.RowKit

theorem cframe_none (w : World) (k : Nat) (fp : Nat → Prop) (c : Cfg) (m : ClkM) (K : Nat) (loc : Int) (h : Clk w k fp c m K) (he : m.last = []) :
    Calls Tryz.prog 25 #[.pointer (some ⟨k, 0, none⟩), .int .i64 loc] w fun e w' => e = .returned (.tuple #[.int .i64 0, .bool false]) ∧ w = w' := by
  have HO := Lib.hid (offset_calls w k fp c m K h)
  rw [he] at HO
  clear h
  go_enter Tryz.func25, Tryz.ntmps25
  go_wp2_with fail
  refine (HO.out).mono ?_
  rintro e w' ⟨rfl, rfl⟩
  go_wp2_with fail
  go_ret2
  exact ⟨rfl, rfl⟩

/-- Where is wanted at a reading. -/
def wantM (m : ClkM) (loc : Int) : Int := satI (satI (loc - leastM m) - m.now)
/-- A frame. -/
def frmM (c : Cfg) (m : ClkM) (loc : Int) : ClkM := { m with sl := toM c.num.toNat c.den.toNat m.sl loc (wantM m loc) }

def FrmPost (w : World) (k : Nat) (fp : Nat → Prop) (c : Cfg) (m : ClkM) (K : Nat) (e : Ending) (w' : World) : Prop :=
  e = .returned (.tuple #[.int .i64 m.sl.at_, .bool true]) ∧ Clk w' k fp c m K ∧ Kept fp w w'

theorem slew_calls (w : World) (p num den : Nat) (s : SlewM) (r want : Int) (h : Slew w p num den s) (hr : I64 r) (hw : I64 want) (h1 : 1 ≤ num) (h2 : 1 ≤ den) (h3 : num ≤ 1048576) (h4 : den ≤ 1048576) :
    Calls Tryz.prog 57 #[.pointer (some ⟨p, 0, none⟩), .int .i64 r, .int .i64 want] w fun e w' => e = .returned (.tuple #[.int .i64 (toM num den s r want).at_, .int .i64 0]) ∧
      Slew w' p num den (toM num den s r want) ∧ Kept (· = p) w w' := by
  obtain ⟨a, l, b⟩ := s
  cases b
  · exact to_first w p num den a l r want h hr hw h1 h2 h3 h4
  · exact to_begun w p num den a l r want h hr hw h1 h2 h3 h4

set_option maxRecDepth 100000 in
set_option maxHeartbeats 2000000 in
theorem cframe_calls (w : World) (k : Nat) (fp : Nat → Prop) (c : Cfg) (m : ClkM) (K : Nat) (loc : Int) (hc : COk c) (h : Clk w k fp c m K) (he : m.last ≠ []) (hl : I64 loc) :
    Calls Tryz.prog 25 #[.pointer (some ⟨k, 0, none⟩), .int .i64 loc] w (FrmPost w k fp c (frmM c m loc) K) := by
  have HC := Lib.hid h
  have HO := Lib.hid (offset_calls w k fp c m K h)
  rw [show (!m.last.isEmpty) = true by cases hh : m.last with | nil => exact absurd hh he | cons a t => rfl] at HO
  have HDL := Lib.hid (fun W (hW : Clk W k fp c m K) => delay_calls W k fp c m K hW)
  obtain ⟨fw, wp, sp, jp, dp, cnt, n, h, hk, hsp, hj, hd, hw⟩ := h
  have c1 := h.blk.cell (i := 1) rfl
  have HH := Lib.hid h
  have hlf := least_fit h.fit
  have HSUB : Hid (∀ a b W, I64 a → I64 b → Calls Tryz.prog 15 #[.int .i64 a, .int .i64 b] W fun e w' => e = .returned (.int .i64 (satI (a - b))) ∧ w' = W) := Lib.hid (fun a b W ha hb => (fsub_calls a b W ha hb).mono (fun _ _ h => ⟨h.1, h.2.symm⟩))
  have hf1 := satI_bd (loc - leastM m)
  have hnow : I64 m.now := by have := h.t0; have := h.t1; have := hc.d.l0; have := hc.d.m1; exact ⟨by omega, by omega⟩
  have hf2 := satI_bd (satI (loc - leastM m) - m.now)
  have hn0 := hc.n0
  have hn1 := hc.n1
  have he0 := hc.e0
  have he1 := hc.e1
  have HT := Lib.hid (fun W (hW : Slew W sp c.num.toNat c.den.toNat m.sl) => slew_calls W sp c.num.toNat c.den.toNat m.sl loc (satI (satI (loc - leastM m) - m.now)) hW hl hf2 (by omega) (by omega) (by omega) (by omega))
  have HF : Hid (frmM c m loc = { m with sl := toM c.num.toNat c.den.toNat m.sl loc (satI (satI (loc - leastM m) - m.now)) }) := Lib.hid rfl
  generalize leastM m = x at *
  clear h he
  go_enter Tryz.func25, Tryz.ntmps25
  go_wp2_with fail
  refine (HO.out).mono ?_
  rintro e w' ⟨rfl, rfl⟩
  go_wp2_with fail
  go_region_held3 (fun w' => w'.cell? ⟨k, 1, none⟩ = some (.pointer (some ⟨sp, 0, none⟩)))
    (first | go_keep | exact HK2.out.cell (by assumption) HH.out.ks)
    ((first
      | (go_at_call 15; refine (HSUB.out _ _ _ (by assumption) (by assumption)).mono ?_; rintro e w' ⟨rfl, rfl⟩)
      | (go_at_call 58; refine (HDL.out _ (HC.out.kept ((Kept.refl (fun _ => False) w).drewN 1) (fun _ _ h => h))).mono ?_; rintro e w' ⟨rfl, rfl⟩)
      | (go_at_call 57; refine (HT.out _ ⟨Blk.drewN HH.out.slew.1 1, HH.out.slew.2⟩).mono ?_; rintro e w2 ⟨rfl, hs2, hk2⟩; have HS3 := Lib.hid hs2; have HK2 := Lib.hid hk2; clear hs2 hk2)))
  all_goals
    have HK3 := Lib.hid (((Kept.refl (· = sp) w).drewN 1).trans HK2.out (fun _ h => .inl h))
    go_wp2_with fail
    go_ret2
    rw [HF.out]
    refine ⟨rfl, ⟨fw, wp, sp, jp, dp, cnt, n, { HH.out with
      blk := HK3.out.blk HH.out.blk HH.out.ks
      win := HH.out.win.kept HK3.out (fun g hg e => HH.out.sf (by rw [← e]; exact hg))
      slew := HS3.out
      jit := HK3.out.blk HH.out.jit (fun e => HH.out.sj e.symm)
      dly := HK3.out.blk HH.out.dly (fun e => HH.out.sd e.symm) }, hk, hsp, hj, hd, hw⟩, HK3.out.mono (fun g _ hg => by rw [hg]; exact hsp)⟩

theorem tgt_now {c : Cfg} (h : DOk c) : c.least ≤ tgtM c 0 ∧ tgtM c 0 ≤ c.most := tgtM_bd h 0

def CNewPost (w : World) (c : Cfg) (e : Ending) (w' : World) : Prop :=
  ∃ k, e = .returned (.tuple #[.pointer (some ⟨k, 0, none⟩), .int .i64 0]) ∧ Clk w' k (fun g => w.heap.size ≤ g ∧ g < w'.heap.size) c ⟨[], 0, tgtM c 0, ⟨0, 0, false⟩⟩ 0 ∧ Kept (fun _ => False) w w'

theorem cnew_end {w w1 W w4 : World} {c : Cfg} {p : Nat} {o : Obj} (hb : Blk W w.heap.size (cfgC c) 26) (hw : Win64.Win W w1.heap.size (fun g => g = w1.heap.size) c.window.toNat []) (hs : Slew W (w1.heap.size + 1) c.num.toNat c.den.toNat ⟨0, 0, false⟩) (hkw : Kept (fun _ => False) w W ∧ w.heap.size ≤ w1.heap.size) (hsz : w1.heap.size + 1 < W.heap.size)
    (hd : Delay w4 p c (tgtM c 0) 0) (hk4 : Kept (fun _ => False) W w4) (hp : W.heap.size ≤ p) (t0 : c.least ≤ tgtM c 0) (t1 : tgtM c 0 ≤ c.most) :
    Clk (((w4.alloc o).alloc (.cells #[.int .i64 0, .int .i64 0] 156)).alloc (.cells #[.pointer (some ⟨w1.heap.size, 0, none⟩), .pointer (some ⟨w1.heap.size + 1, 0, none⟩), .pointer (some ⟨w4.heap.size + 1, 0, none⟩), .pointer (some ⟨p, 0, none⟩)] 114)) (w4.heap.size + 1 + 1)
      (fun g => w.heap.size ≤ g ∧ g < (((w4.alloc o).alloc (.cells #[.int .i64 0, .int .i64 0] 156)).alloc (.cells #[.pointer (some ⟨w1.heap.size, 0, none⟩), .pointer (some ⟨w1.heap.size + 1, 0, none⟩), .pointer (some ⟨w4.heap.size + 1, 0, none⟩), .pointer (some ⟨p, 0, none⟩)] 114)).heap.size) c ⟨[], 0, tgtM c 0, ⟨0, 0, false⟩⟩ 0 := by
  have z4 := hk4.size
  have zp := Blk.lt hd
  have K3 := (((Kept.refl (fun _ => False) w4).alloc o).alloc (.cells #[.int .i64 0, .int .i64 0] 156)).alloc (.cells #[.pointer (some ⟨w1.heap.size, 0, none⟩), .pointer (some ⟨w1.heap.size + 1, 0, none⟩), .pointer (some ⟨w4.heap.size + 1, 0, none⟩), .pointer (some ⟨p, 0, none⟩)] 114)
  have e1 : ((w4.alloc o).alloc (.cells #[.int .i64 0, .int .i64 0] 156)).heap.size = w4.heap.size + 1 + 1 := by rw [size_alloc, size_alloc]
  refine ⟨fun g => g = w1.heap.size, w1.heap.size, w1.heap.size + 1, w4.heap.size + 1, p, 0, 0, {
    blk := Blk.new_at e1.symm _ _
    win := (hw.kept hk4 (fun _ _ h => h)).kept K3 (fun _ _ h => h)
    slew := ⟨K3.blk (hk4.blk hs.1 (fun h => h)) (fun h => h), hs.2⟩
    jit := (Blk.new_at (size_alloc w4 o).symm _ _).alloc _
    dly := K3.blk hd (fun h => h)
    kf := by omega, sf := by omega, jf := by omega, df := by omega, ks := by omega, kj := by omega, kd := by omega, sj := by omega, sd := by omega, jd := by omega
    len := Nat.zero_le _, fit := fun y hy => by cases hy
    j0 := Int.le_refl 0, j1 := (by decide : (0 : Int) ≤ 9223372036854775807), c0 := by decide, c1 := by decide, n0 := by decide, n1 := by decide, t0 := t0, t1 := t1 }, ?_, ?_, ?_, ?_, ?_⟩
  all_goals
    simp only [size_alloc]
    omega

set_option maxRecDepth 100000 in
set_option maxHeartbeats 2000000 in
theorem cnew_good (c : Cfg) (w : World) (h : COk c) : Calls Tryz.prog 18 #[cfgV c] w (CNewPost w c) := by
  have HC := Lib.hid (fun W => ccheck_good c W h)
  have HD := Lib.hid (fun W => dnew_good c W h.d)
  have hw0 := h.w0
  have hw1 := h.w1
  have hn0 := h.n0
  have hn1 := h.n1
  have he0 := h.e0
  have he1 := h.e1
  have HCO := Lib.hid h
  have hd0 := (tgt_now h.d).1
  have hd1 := (tgt_now h.d).2
  clear h
  go_enter Tryz.func18, Tryz.ntmps18
  go_wp2_with fail
  refine (HC.out _).mono ?_
  rintro e w1 ⟨rfl, hk⟩
  have HK1 := Lib.hid (((Kept.refl (fun _ => False) w).alloc (.cells (cfgC c).toArray 26)).trans hk (fun _ h => h.elim))
  have hww := HK1.out.size
  have hB := hk.blk (Blk.new w (cfgC c) 26) (fun h => h)
  have HB := Lib.hid hB
  have b1 := hB.cell (i := 1) rfl
  clear hk hB
  go_upto_region 6 with (first
    | (refine (Win64.new_good _ c.window hw0 hw1).mono ?_; rintro e w2 ⟨rfl, rfl⟩; have b7 := (HB.out.alloc (.cells #[.int .i64 c.window, .slice none 0 0, .slice none 0 0, .slice none 0 0] 149)).cell (i := 7) rfl; have b8 := (HB.out.alloc (.cells #[.int .i64 c.window, .slice none 0 0, .slice none 0 0, .slice none 0 0] 149)).cell (i := 8) rfl)
    | (refine (snew_good c.num c.den _ hn0 he0 hn1 he1).mono ?_; rintro e w3 ⟨rfl, rfl⟩))
  refine at_world (fun W => Blk W w.heap.size (cfgC c) 26 ∧ Win64.Win W w1.heap.size (fun g => g = w1.heap.size) c.window.toNat [] ∧ Slew W (w1.heap.size + 1) c.num.toNat c.den.toNat ⟨0, 0, false⟩ ∧ Kept (fun _ => False) w W ∧ w1.heap.size + 1 < W.heap.size) ?_ ?_
  · have q1 : ((c.window.toNat : Nat) : Int) = c.window := by omega
    have q2 : ((c.num.toNat : Nat) : Int) = c.num := by omega
    have q3 : ((c.den.toNat : Nat) : Int) = c.den := by omega
    have hwn := Win64.win_new w1 c.window.toNat
    rw [q1] at hwn
    have hsn : Slew ((w1.alloc (.cells #[.int .i64 c.window, .slice none 0 0, .slice none 0 0, .slice none 0 0] 149)).alloc (.cells #[.int .i64 c.num, .int .i64 c.den, .int .i64 0, .int .i64 0, .int .i64 0] 151)) (w1.heap.size + 1) c.num.toNat c.den.toNat ⟨0, 0, false⟩ := by
      refine ⟨?_, ⟨by decide, by decide⟩, ⟨by decide, by decide⟩⟩
      rw [q2, q3]
      exact Blk.new_at (size_alloc w1 _).symm [.int .i64 c.num, .int .i64 c.den, .int .i64 0, .int .i64 0, .int .i64 0] _
    exact ⟨(HB.out.alloc _).alloc _, hwn.kept ((Kept.refl (fun _ => False) _).alloc _) (fun _ _ h => h), hsn, (HK1.out.alloc _).alloc _, by simp⟩
  rintro W ⟨hb, hwn, hsl, hkw, hsz⟩
  have HB := Lib.hid hb
  have HW := Lib.hid hwn
  have HS := Lib.hid hsl
  have HKW := Lib.hid hkw
  have d0 := hb.cell (i := 0) rfl
  have d1 := hb.cell (i := 1) rfl
  have d2 := hb.cell (i := 2) rfl
  have d3 := hb.cell (i := 3) rfl
  have d4 := hb.cell (i := 4) rfl
  have d5 := hb.cell (i := 5) rfl
  have d6 := hb.cell (i := 6) rfl
  have d7 := hb.cell (i := 7) rfl
  have d8 := hb.cell (i := 8) rfl
  have d9 := hb.cell (i := 9) rfl
  have d10 := hb.cell (i := 10) rfl
  clear hb hwn hsl hkw b1
  go_wp2_with fail
  refine (HD.out _).mono ?_
  rintro e w4 ⟨p, rfl, hd4, hk4, hp4⟩
  have HD4 := Lib.hid hd4
  have HK4 := Lib.hid hk4
  clear hd4 hk4 d0 d1 d2 d3 d4 d5 d6 d7 d8 d9 d10
  go_wp2_with fail
  have z0 := (Blk.new w4 [.int .i64 0, .int .i64 0, .int .i64 0] 28).cell (i := 0) rfl
  have z1 := (Blk.new w4 [.int .i64 0, .int .i64 0, .int .i64 0] 28).cell (i := 1) rfl
  have z2 := (Blk.new w4 [.int .i64 0, .int .i64 0, .int .i64 0] 28).cell (i := 2) rfl
  go_loop [42] (fun i => ∃ k : Nat, k ≤ 3 ∧ i = .int .i64 k) (fun i => 3 - (intOf i).toNat)
  case atStart => exact ⟨0, by omega, rfl⟩
  case round =>
    obtain ⟨k, hk3, rfl⟩ := hrel
    by_cases h3 : k = 3
    · subst h3
      go_wp2_with (refine (jnew_calls _).mono ?_; rintro e w5 ⟨rfl, rfl⟩)
      go_ret2
      exact ⟨w4.heap.size + 1 + 1, rfl, cnew_end HB.out HW.out HS.out ⟨HKW.out, hww⟩ hsz HD4.out HK4.out hp4 hd0 hd1, ((((HKW.out.trans HK4.out (fun _ h => h.elim)).alloc _).alloc _).alloc _)⟩
    · have hk : k = 0 ∨ k = 1 ∨ k = 2 := by omega
      rcases hk with rfl | rfl | rfl
      · go_wp2_with fail
        exact ⟨⟨1, by omega, rfl⟩, by simp [intOf]⟩
      · go_wp2_with fail
        exact ⟨⟨2, by omega, rfl⟩, by simp [intOf]⟩
      · go_wp2_with fail
        exact ⟨⟨3, by omega, rfl⟩, by simp [intOf]⟩
end Go.Proofs.YtekdkckgmleofaaGreat
