/- Joined texts. -/
import Derived.Test.YtekdkckgmleofaaGreatXs32
import Derived.Deep.RegionHeld3
import Derived.Test.YtekdkckgmleofaaGreatXs04
import Derived.Test.YtekdkckgmleofaaGreatXs27
set_option linter.unusedVariables false
set_option linter.unusedSimpArgs false
/- A config; contracts of package delay's functions. -/
namespace Go.Proofs.YtekdkckgmleofaaGreat
open Go.RowKit

/-- A config. -/
structure Cfg where
  ring : Int
  window : Int
  base : Int
  gain : Int
  least : Int
  most : Int
  slack : Int
  num : Int
  den : Int
  extra : Int
  curved : Bool
/-- Its cells. -/
def cfgC (c : Cfg) : List Value := [.int .i64 c.ring, .int .i64 c.window, .int .i64 c.base, .int .i64 c.gain, .int .i64 c.least, .int .i64 c.most, .int .i64 c.slack, .int .i64 c.num, .int .i64 c.den, .int .i64 c.extra, .bool c.curved]
/-- The value. -/
abbrev cfgV (c : Cfg) : Value := .agg #[.int .i64 c.ring, .int .i64 c.window, .int .i64 c.base, .int .i64 c.gain, .int .i64 c.least, .int .i64 c.most, .int .i64 c.slack, .int .i64 c.num, .int .i64 c.den, .int .i64 c.extra, .bool c.curved]
/-- Its numbers for delays are right. -/
structure DOk (c : Cfg) : Prop where
  b0 : 0 ≤ c.base
  b1 : c.base ≤ 2305843009213693952
  g0 : 0 ≤ c.gain
  g1 : c.gain ≤ 68719476736
  l0 : 0 ≤ c.least
  l1 : c.least ≤ 2305843009213693952
  m0 : 0 ≤ c.most
  m1 : c.most ≤ 2305843009213693952
  s0 : 0 ≤ c.slack
  s1 : c.slack ≤ 2305843009213693952
  lm : c.least ≤ c.most

abbrev numsV (c : Cfg) : Value := .agg #[.int .i64 c.base, .int .i64 2305843009213693952, .int .i64 c.least, .int .i64 2305843009213693952, .int .i64 c.most, .int .i64 2305843009213693952, .int .i64 c.slack, .int .i64 2305843009213693952, .int .i64 c.gain, .int .i64 68719476736]
set_option maxRecDepth 100000 in
theorem dnumbers_calls (c : Cfg) (w : World) :
    Calls Tryz.prog 104 #[cfgV c] w fun e w' => e = .returned (numsV c) ∧ Kept (fun _ => False) w w' := by
  go_enter Tryz.func104, Tryz.ntmps104
  go_wp2
  exact bodyPost_ret (v := numsV c) (by simp [results, Tryz.results104, go_sem]) rfl ⟨rfl, ((Kept.refl _ w).alloc _).alloc _⟩

def Ends (P : Int → Prop) (F : Nat → Prop) (w : World) (e : Ending) (w' : World) : Prop := ∃ x, P x ∧ e = .returned (.int .i64 x) ∧ Kept F w w'

theorem idx0 (c : Cfg) (w : World) : (Instr.index 204 (numsV c) (.int .i64 0)).run Tryz.prog w = .ok (.agg #[.int .i64 c.base, .int .i64 2305843009213693952]) w := by kernel_rfl
theorem idx1 (c : Cfg) (w : World) : (Instr.index 204 (numsV c) (.int .i64 1)).run Tryz.prog w = .ok (.agg #[.int .i64 c.least, .int .i64 2305843009213693952]) w := by kernel_rfl
theorem idx2 (c : Cfg) (w : World) : (Instr.index 204 (numsV c) (.int .i64 2)).run Tryz.prog w = .ok (.agg #[.int .i64 c.most, .int .i64 2305843009213693952]) w := by kernel_rfl
theorem idx3 (c : Cfg) (w : World) : (Instr.index 204 (numsV c) (.int .i64 3)).run Tryz.prog w = .ok (.agg #[.int .i64 c.slack, .int .i64 2305843009213693952]) w := by kernel_rfl
theorem idx4 (c : Cfg) (w : World) : (Instr.index 204 (numsV c) (.int .i64 4)).run Tryz.prog w = .ok (.agg #[.int .i64 c.gain, .int .i64 68719476736]) w := by kernel_rfl
set_option maxRecDepth 100000 in
set_option maxHeartbeats 2000000 in
theorem dcheck_good (c : Cfg) (w : World) (h : DOk c) :
    Calls Tryz.prog 67 #[cfgV c] w fun e w' => e = .returned (.int .i64 0) ∧ Kept (fun _ => False) w w' := by
  obtain ⟨b0, b1, g0, g1, l0, l1, m0, m1, s0, s1, lm⟩ := h
  go_enter Tryz.func67, Tryz.ntmps67
  go_wp2_with fail
  refine (dnumbers_calls c _).mono ?_
  rintro e w1 ⟨rfl, hk⟩
  have HKW := Lib.hid (((Kept.refl (fun _ => False) w).alloc (.cells (cfgC c).toArray 26)).trans hk (fun _ h => h.elim))
  have HB := Lib.hid (hk.blk (Blk.new w (cfgC c) 26) (fun h => h))
  clear hk
  go_wp2_with fail
  go_loopw [7] (fun i wr => ∃ k : Nat, k ≤ 5 ∧ i = .int .i64 k ∧ Kept (fun _ => False) w1 wr) (fun i _ => 5 - (intOf i).toNat)
  case atStart => exact ⟨0, by omega, rfl, Kept.refl _ _⟩
  case round =>
    obtain ⟨k, hk5, rfl, hkr⟩ := hrel
    have HK := Lib.hid hkr
    clear hkr
    by_cases h5 : k = 5
    · subst h5
      have b4 := (HK.out.blk HB.out (fun h => h)).cell (i := 4) rfl
      have b5 := (HK.out.blk HB.out (fun h => h)).cell (i := 5) rfl
      go_wp2_with fail
      go_ret
      exact ⟨rfl, HKW.out.trans HK.out (fun _ h => h.elim)⟩
    · have hk : k = 0 ∨ k = 1 ∨ k = 2 ∨ k = 3 ∨ k = 4 := by omega
      rcases hk with rfl | rfl | rfl | rfl | rfl
      ·
        have hix := idx0 c
        go_wp2_with fail
        exact ⟨⟨1, by omega, by rfl, HK.out.alloc _⟩, by simp [intOf]⟩
      ·
        have hix := idx1 c
        go_wp2_with fail
        exact ⟨⟨2, by omega, by rfl, HK.out.alloc _⟩, by simp [intOf]⟩
      ·
        have hix := idx2 c
        go_wp2_with fail
        exact ⟨⟨3, by omega, by rfl, HK.out.alloc _⟩, by simp [intOf]⟩
      ·
        have hix := idx3 c
        go_wp2_with fail
        exact ⟨⟨4, by omega, by rfl, HK.out.alloc _⟩, by simp [intOf]⟩
      ·
        have hix := idx4 c
        go_wp2_with fail
        exact ⟨⟨5, by omega, by rfl, HK.out.alloc _⟩, by simp [intOf]⟩

/-- The delay that an estimate asks for. -/
def tgtM (c : Cfg) (j : Int) : Int := min (max (satI (c.base + mulF c.gain (max 0 j))) (min c.least c.most)) (max c.least c.most)
theorem tgtM_bd {c : Cfg} (h : DOk c) (j : Int) : c.least ≤ tgtM c j ∧ tgtM c j ≤ c.most := by
  have := h.lm
  unfold tgtM
  omega

set_option maxRecDepth 100000 in
set_option maxHeartbeats 2000000 in
theorem target_calls (c : Cfg) (j : Int) (w : World) (h : DOk c) (hj : I64 j) :
    Calls Tryz.prog 68 #[cfgV c, .int .i64 j] w fun e w' => e = .returned (.int .i64 (tgtM c j)) ∧ Kept (fun _ => False) w w' := by
  have HC := Lib.hid (fun W => dcheck_good c W h)
  have hg : I64 c.gain := by obtain ⟨b0, b1, g0, g1, -⟩ := h; exact ⟨by omega, by omega⟩
  have hb : I64 c.base := by obtain ⟨b0, b1, g0, g1, -⟩ := h; exact ⟨by omega, by omega⟩
  have hm : I64 (max 0 j) := by unfold I64 at *; omega
  have HM := Lib.hid (fun W => fmul_calls c.gain (max 0 j) W hg hm)
  have HA := Lib.hid (fun W => fadd_calls c.base (mulF c.gain (max 0 j)) W hb (mulF_bd _ _))
  have HL := Lib.hid (fun W => fclamp_calls (satI (c.base + mulF c.gain (max 0 j))) c.least c.most W)
  have HT : Hid (tgtM c j = min (max (satI (c.base + mulF c.gain (max 0 j))) (min c.least c.most)) (max c.least c.most)) := Lib.hid rfl
  generalize mulF c.gain (max 0 j) = mm at *
  generalize satI (c.base + mm) = ss at *
  clear h hg hb hm
  go_enter Tryz.func68, Tryz.ntmps68
  go_wp2_with fail
  refine (HC.out _).mono ?_
  rintro e w1 ⟨rfl, hk⟩
  have HK := Lib.hid (((Kept.refl (fun _ => False) w).alloc (.cells (cfgC c).toArray 26)).trans hk (fun _ h => h.elim))
  have hB := hk.blk (Blk.new w (cfgC c) 26) (fun h => h)
  have b2 := hB.cell (i := 2) rfl
  have b3 := hB.cell (i := 3) rfl
  have b4 := hB.cell (i := 4) rfl
  have b5 := hB.cell (i := 5) rfl
  clear hk hB
  go_wp2_with fail
  go_quiet ((first | (go_at_call 106; exact Calls.quiet_of_same ((HM.out _).mono (fun _ _ h => ⟨h.1, h.2.symm⟩))) | (go_at_call 16; exact Calls.quiet_of_same ((HA.out _).mono (fun _ _ h => ⟨h.1, h.2.symm⟩))) | (go_at_call 105; exact Calls.quiet_of_same ((HL.out _).mono (fun _ _ h => ⟨h.1, h.2.symm⟩)))))
  go_wp2_with fail
  go_ret
  exact ⟨by rw [HT.out]; rfl, HK.out.drewN _⟩

/-- A delay at block p. -/
def Delay (w : World) (p : Nat) (c : Cfg) (now n : Int) : Prop := Blk w p (cfgC c ++ [.int .i64 now, .int .i64 n]) 154

def DNewPost (w : World) (c : Cfg) (e : Ending) (w' : World) : Prop := ∃ p, e = .returned (.tuple #[.pointer (some ⟨p, 0, none⟩), .int .i64 0]) ∧ Delay w' p c (tgtM c 0) 0 ∧ Kept (fun _ => False) w w' ∧ w.heap.size ≤ p
set_option maxRecDepth 100000 in
set_option maxHeartbeats 2000000 in
theorem dnew_good (c : Cfg) (w : World) (h : DOk c) :
    Calls Tryz.prog 40 #[cfgV c] w (DNewPost w c) := by
  have HC := Lib.hid (fun W => dcheck_good c W h)
  have HT := Lib.hid (fun W => target_calls c 0 W h (by unfold I64; omega))
  go_enter Tryz.func40, Tryz.ntmps40
  go_wp2_with fail
  refine (HC.out _).mono ?_
  rintro e w1 ⟨rfl, hk⟩
  have HK := Lib.hid (((Kept.refl (fun _ => False) w).alloc (.cells (cfgC c).toArray 26)).trans hk (fun _ h => h.elim))
  have HB := Lib.hid (hk.blk (Blk.new w (cfgC c) 26) (fun h => h))
  clear hk
  go_wp2_with fail
  have b0 := HB.out.cell (i := 0) rfl
  have b1 := HB.out.cell (i := 1) rfl
  have b2 := HB.out.cell (i := 2) rfl
  have b3 := HB.out.cell (i := 3) rfl
  have b4 := HB.out.cell (i := 4) rfl
  have b5 := HB.out.cell (i := 5) rfl
  have b6 := HB.out.cell (i := 6) rfl
  have b7 := HB.out.cell (i := 7) rfl
  have b8 := HB.out.cell (i := 8) rfl
  have b9 := HB.out.cell (i := 9) rfl
  have b10 := HB.out.cell (i := 10) rfl
  have hlt : w.heap.size < w1.heap.size := HB.out.lt
  have HNE : Hid (w.heap.size ≤ w1.heap.size) := Lib.hid (Nat.le_of_lt hlt)
  go_region_held3 (fun w' => w'.cell? ⟨w.heap.size, 0, none⟩ = some (.int .i64 c.ring) ∧ w'.cell? ⟨w.heap.size, 1, none⟩ = some (.int .i64 c.window) ∧ w'.cell? ⟨w.heap.size, 2, none⟩ = some (.int .i64 c.base) ∧ w'.cell? ⟨w.heap.size, 3, none⟩ = some (.int .i64 c.gain) ∧ w'.cell? ⟨w.heap.size, 4, none⟩ = some (.int .i64 c.least) ∧ w'.cell? ⟨w.heap.size, 5, none⟩ = some (.int .i64 c.most) ∧ w'.cell? ⟨w.heap.size, 6, none⟩ = some (.int .i64 c.slack) ∧ w'.cell? ⟨w.heap.size, 7, none⟩ = some (.int .i64 c.num) ∧ w'.cell? ⟨w.heap.size, 8, none⟩ = some (.int .i64 c.den) ∧ w'.cell? ⟨w.heap.size, 9, none⟩ = some (.int .i64 c.extra) ∧ w'.cell? ⟨w.heap.size, 10, none⟩ = some (.bool c.curved))
    (first | go_keep | (go_split_ands; refine ⟨?_, ?_, ?_, ?_, ?_, ?_, ?_, ?_, ?_, ?_, ?_⟩ <;> exact hk4.cell (by assumption) (fun h => h)))
    ((go_at_call 68; refine (HT.out _).mono ?_; rintro e w4 ⟨rfl, hk4⟩))
  have HK4 := Lib.hid (HK.out.trans (((Kept.refl (fun _ => False) w1).drewN 1).trans hk4 (fun _ h => h.elim)) (fun _ h => h.elim))
  clear hk4
  go_wp2_with fail
  go_ret2
  exact ⟨w4.heap.size, rfl, Blk.new w4 (cfgC c ++ [Value.int IntKind.i64 (tgtM c 0), Value.int IntKind.i64 0]) 154, HK4.out.alloc _, HK4.out.size⟩

/-- The delay behind an estimate. -/
def updM (c : Cfg) (now j : Int) : Int := if max (tgtM c j - now) (now - tgtM c j) > c.slack then tgtM c j else now

def UpdPost (w : World) (p : Nat) (c : Cfg) (n u : Int) (e : Ending) (w' : World) : Prop := ∃ n', e = .returned (.int .i64 u) ∧ Delay w' p c u n' ∧ Kept (· = p) w w' ∧ 0 ≤ n' ∧ n' ≤ n + 1
set_option maxRecDepth 100000 in
set_option maxHeartbeats 2000000 in
theorem update_calls (c : Cfg) (now n j : Int) (p : Nat) (w : World) (hp : Delay w p c now n) (h : DOk c) (hj : I64 j) (h0 : 0 ≤ now) (h1 : now ≤ 2305843009213693952) (hn0 : 0 ≤ n) (hn1 : n < 1000000) :
    Calls Tryz.prog 50 #[.pointer (some ⟨p, 0, none⟩), .int .i64 j] w (UpdPost w p c n (updM c now j)) := by
  have HT := Lib.hid (fun W => target_calls c j W h hj)
  have htb := tgtM_bd h j
  have hl0 := h.l0
  have hm1 := h.m1
  have hs0 := h.s0
  have hs1 := h.s1
  have HU : Hid (updM c now j = if max (tgtM c j - now) (now - tgtM c j) > c.slack then tgtM c j else now) := Lib.hid rfl
  have HP := Lib.hid hp
  generalize tgtM c j = t at *
  have ht0 : 0 ≤ t := by omega
  have ht1 : t ≤ 2305843009213693952 := by omega
  unfold Delay at hp
  have b0 := Blk.cell hp (i := 0) rfl
  have b1 := Blk.cell hp (i := 1) rfl
  have b2 := Blk.cell hp (i := 2) rfl
  have b3 := Blk.cell hp (i := 3) rfl
  have b4 := Blk.cell hp (i := 4) rfl
  have b5 := Blk.cell hp (i := 5) rfl
  have b6 := Blk.cell hp (i := 6) rfl
  have b7 := Blk.cell hp (i := 7) rfl
  have b8 := Blk.cell hp (i := 8) rfl
  have b9 := Blk.cell hp (i := 9) rfl
  have b10 := Blk.cell hp (i := 10) rfl
  have b11 := Blk.cell hp (i := 11) rfl
  have b12 := Blk.cell hp (i := 12) rfl
  clear hp h
  go_enter Tryz.func50, Tryz.ntmps50
  go_wp2_with fail
  refine (HT.out _).mono ?_
  rintro e w1 ⟨rfl, hk⟩
  have hB := hk.blk HP.out (fun h => h)
  have HK := Lib.hid hk
  have c6 := hB.cell (i := 6) rfl
  have c11 := hB.cell (i := 11) rfl
  have c12 := hB.cell (i := 12) rfl
  have f11 := hB.free 11
  have f12 := hB.free 12
  have HB := Lib.hid hB
  clear hk hB
  by_cases hc : c.slack < max (t - now) (now - t)
  · go_wp2_with fail
    go_quiet (fail)
    go_wp2_with fail
    go_ret
    rw [HU.out, if_pos hc]
    refine ⟨n + 1, rfl, ((HB.out.drewN _).set 11 _).set 12 _, ((HK.out.mono (G := (· = p)) (fun _ _ h => h.elim)).drewN _).setCell (a := ⟨p, 11, none⟩) (.inl rfl) _ |>.setCell (a := ⟨p, 12, none⟩) (.inl rfl) _, by omega, by omega⟩
  · go_wp2_with fail
    go_quiet (fail)
    go_wp2_with fail
    go_ret
    rw [HU.out, if_neg (by omega)]
    refine ⟨n, rfl, HB.out.drewN _, (HK.out.mono (fun _ _ h => h.elim)).drewN _, by omega, by omega⟩

theorem dnow_calls (c : Cfg) (now n : Int) (p : Nat) (w : World) (hp : Delay w p c now n) :
    Calls Tryz.prog 91 #[.pointer (some ⟨p, 0, none⟩)] w fun e w' => e = .returned (.int .i64 now) ∧ w = w' := by
  have c11 := Blk.cell hp (i := 11) rfl
  go_enter Tryz.func91, Tryz.ntmps91
  go_wp2
  go_ret
  exact ⟨rfl, rfl⟩

/-- Where a config's numbers are wrong it is told. -/
def DBad (w : World) (e : Ending) (w' : World) : Prop := ∃ x : Int, (x = 3 ∨ x = 10) ∧ e = .returned (.int .i64 x) ∧ Kept (fun _ => False) w w'
end Go.Proofs.YtekdkckgmleofaaGreat

/- Contracts of package clock's functions. -/
namespace Go.Proofs.YtekdkckgmleofaaGreat
open Go.RowKit

/-- A config that may be. -/
structure COk (c : Cfg) : Prop where
  d : DOk c
  r0 : 1 ≤ c.ring
  r1 : c.ring ≤ 64
  w0 : 1 ≤ c.window
  w1 : c.window ≤ 64
  n0 : 1 ≤ c.num
  n1 : c.num ≤ 1048576
  e0 : 1 ≤ c.den
  e1 : c.den ≤ 1048576
  x0 : 0 ≤ c.extra
  x1 : c.extra ≤ 2305843009213693952

set_option maxRecDepth 100000 in
set_option maxHeartbeats 2000000 in
theorem ccheck_good (c : Cfg) (w : World) (h : COk c) :
    Calls Tryz.prog 37 #[cfgV c] w fun e w' => e = .returned (.int .i64 0) ∧ Kept (fun _ => False) w w' := by
  have HD := Lib.hid (fun W => dcheck_good c W h.d)
  obtain ⟨-, r0, r1, w0, w1, n0, n1, e0, e1, x0, x1⟩ := h
  have HR : Hid (∀ W, Calls Tryz.prog 14 #[.int .i64 0, .int .i64 c.num, .int .i64 c.den] W fun e w' => e = .returned (.tuple #[.int .i64 1, .int .i64 0]) ∧ ∃ n, w' = W.drewN n) := Lib.hid (fun W => by
    have := room_calls 0 c.num.toNat c.den.toNat W (by omega) (by omega) (by omega) (by omega) (by omega)
    rw [show ((c.num.toNat : Nat) : Int) = c.num by omega, show ((c.den.toNat : Nat) : Int) = c.den by omega] at this
    exact this.mono (fun e w' h => ⟨by rw [h.1, roomM_zero], h.2⟩))
  go_enter Tryz.func37, Tryz.ntmps37
  go_wp2_with fail
  refine (HD.out _).mono ?_
  rintro e w1' ⟨rfl, hk⟩
  have HK := Lib.hid (((Kept.refl (fun _ => False) w).alloc (.cells (cfgC c).toArray 26)).trans hk (fun _ h => h.elim))
  have hB := hk.blk (Blk.new w (cfgC c) 26) (fun h => h)
  have b7 := hB.cell (i := 7) rfl
  have b8 := hB.cell (i := 8) rfl
  have b9 := hB.cell (i := 9) rfl
  clear hk hB
  go_wp2_with fail
  refine (HR.out _).mono ?_
  rintro e w2' ⟨rfl, nd, rfl⟩
  go_wp2_with fail
  go_ret
  exact ⟨rfl, HK.out.drewN _⟩

/-- A clock, in plain words: the samples that are looked at, the estimate, the delay, where it stands. -/
structure ClkM where
  last : List Int
  jit : Int
  now : Int
  sl : SlewM

/-- Where the parts of a clock lie. -/
structure ClkAt (w : World) (k : Nat) (c : Cfg) (m : ClkM) (K : Nat) (fw : Nat → Prop) (wp sp jp dp : Nat) (cnt n : Int) : Prop where
  blk : Blk w k [.pointer (some ⟨wp, 0, none⟩), .pointer (some ⟨sp, 0, none⟩), .pointer (some ⟨jp, 0, none⟩), .pointer (some ⟨dp, 0, none⟩)] 114
  win : Win64.Win w wp fw c.window.toNat m.last
  slew : Slew w sp c.num.toNat c.den.toNat m.sl
  jit : Blk w jp [.int .i64 m.jit, .int .i64 cnt] 156
  dly : Delay w dp c m.now n
  kf : ¬ fw k
  sf : ¬ fw sp
  jf : ¬ fw jp
  df : ¬ fw dp
  ks : k ≠ sp
  kj : k ≠ jp
  kd : k ≠ dp
  sj : sp ≠ jp
  sd : sp ≠ dp
  jd : jp ≠ dp
  len : m.last.length ≤ c.window.toNat
  fit : ∀ y ∈ m.last, I64 y
  j0 : 0 ≤ m.jit
  j1 : m.jit ≤ 9223372036854775807
  c0 : 0 ≤ cnt
  c1 : cnt ≤ K
  n0 : 0 ≤ n
  n1 : n ≤ K
  t0 : c.least ≤ m.now
  t1 : m.now ≤ c.most

/-- A clock at block k, of which all memory lies in fp, behind at most K samples. -/
def Clk (w : World) (k : Nat) (fp : Nat → Prop) (c : Cfg) (m : ClkM) (K : Nat) : Prop :=
  ∃ fw wp sp jp dp cnt n, ClkAt w k c m K fw wp sp jp dp cnt n ∧ fp k ∧ fp sp ∧ fp jp ∧ fp dp ∧ (∀ g, fw g → fp g)

theorem Clk.kept {F : Nat → Prop} {w w' : World} {k : Nat} {fp : Nat → Prop} {c : Cfg} {m : ClkM} {K : Nat} (h : Clk w k fp c m K) (kp : Kept F w w') (hF : ∀ g, fp g → ¬ F g) : Clk w' k fp c m K := by
  obtain ⟨fw, wp, sp, jp, dp, cnt, n, h, hk, hs, hj, hd, hw⟩ := h
  exact ⟨fw, wp, sp, jp, dp, cnt, n, { h with
    blk := kp.blk h.blk (hF k hk)
    win := h.win.kept kp (fun g hg => hF g (hw g hg))
    slew := ⟨kp.blk h.slew.1 (hF sp hs), h.slew.2⟩
    jit := kp.blk h.jit (hF jp hj)
    dly := kp.blk h.dly (hF dp hd) }, hk, hs, hj, hd, hw⟩
theorem Clk.mono {w : World} {k : Nat} {fp fq : Nat → Prop} {c : Cfg} {m : ClkM} {K : Nat} (h : Clk w k fp c m K) (hF : ∀ g, g < w.heap.size → fp g → fq g) : Clk w k fq c m K := by
  obtain ⟨fw, wp, sp, jp, dp, cnt, n, h, hk, hs, hj, hd, hw⟩ := h
  exact ⟨fun g => fw g ∧ g < w.heap.size, wp, sp, jp, dp, cnt, n, { h with
    win := h.win.mono (fun g hg h => ⟨h, hg⟩)
    kf := fun x => h.kf x.1, sf := fun x => h.sf x.1, jf := fun x => h.jf x.1, df := fun x => h.df x.1 },
    hF k h.blk.lt hk, hF sp h.slew.1.lt hs, hF jp h.jit.lt hj, hF dp (Blk.lt h.dly) hd, fun g hg => hF g hg.2 (hw g hg.1)⟩

/-- The least of the samples. -/
def leastM (m : ClkM) : Int := Win64.hd (minsL Win64.lt m.last)
/-- A sample more. -/
def addL (c : Cfg) (m : ClkM) (d : Int) : List Int := (if m.last.length = c.window.toNat then m.last.tail else m.last) ++ [d]
def smpM (c : Cfg) (m : ClkM) (local_ server : Int) : ClkM :=
  let l := addL c m (satI (local_ - server))
  let j := stepJ m.jit (satI (satI (local_ - server) - Win64.hd (minsL Win64.lt l)))
  ⟨l, j, updM c m.now j, m.sl⟩
end Go.Proofs.YtekdkckgmleofaaGreat

/- The document's check of a config: 0 only of one that may be. -/
namespace Go.Proofs.YtekdkckgmleofaaGreat
open Go.RowKit
def BoolIs (b : Bool) (w : World) (e : Ending) (w' : World) : Prop := e = .returned (.bool b) ∧ w = w'
def finB (n : Int) : Bool := decide (0 ≤ n) && decide (n ≤ 2305843009213693952)
theorem fine_calls (n : Int) (w : World) : Calls Tryz.prog 65 #[.int .i64 n] w (BoolIs (finB n) w) := by
  by_cases h0 : 0 ≤ n
  · by_cases h1 : n ≤ 2305843009213693952
    · have e : finB n = true := by unfold finB; simp [h0, h1]
      rw [e]
      clear e
      go_enter Tryz.func65, Tryz.ntmps65
      go_wp2_with fail
      go_ret
      exact ⟨rfl, rfl⟩
    · have e : finB n = false := by unfold finB; simp [h0, h1]
      rw [e]
      clear e
      go_enter Tryz.func65, Tryz.ntmps65
      go_wp2_with fail
      go_ret
      exact ⟨rfl, rfl⟩
  · have e : finB n = false := by unfold finB; simp [h0]
    rw [e]
    clear e
    go_enter Tryz.func65, Tryz.ntmps65
    go_wp2_with fail
    go_ret
    exact ⟨rfl, rfl⟩
def ratB (n d : Int) : Bool := decide (1 ≤ n) && decide (n ≤ 1048576) && decide (1 ≤ d) && decide (d ≤ 1048576)
theorem rat_calls (n d : Int) (w : World) : Calls Tryz.prog 29 #[.int .i64 n, .int .i64 d] w (BoolIs (ratB n d) w) := by
  by_cases h0 : 1 ≤ n
  · by_cases h1 : n ≤ 1048576
    · by_cases h2 : 1 ≤ d
      · by_cases h3 : d ≤ 1048576
        · skip
          have e : ratB n d = true := by unfold ratB; simp [h0, h1, h2, h3]
          rw [e]
          clear e
          go_enter Tryz.func29, Tryz.ntmps29
          go_wp2_with fail
          go_ret
          exact ⟨rfl, rfl⟩
        · skip
          have e : ratB n d = false := by unfold ratB; simp [h3]
          rw [e]
          clear e
          go_enter Tryz.func29, Tryz.ntmps29
          go_wp2_with fail
          go_ret
          exact ⟨rfl, rfl⟩
      · skip
        have e : ratB n d = false := by unfold ratB; simp [h2]
        rw [e]
        clear e
        go_enter Tryz.func29, Tryz.ntmps29
        go_wp2_with fail
        go_ret
        exact ⟨rfl, rfl⟩
    · skip
      have e : ratB n d = false := by unfold ratB; simp [h1]
      rw [e]
      clear e
      go_enter Tryz.func29, Tryz.ntmps29
      go_wp2_with fail
      go_ret
      exact ⟨rfl, rfl⟩
  · skip
    have e : ratB n d = false := by unfold ratB; simp [h0]
    rw [e]
    clear e
    go_enter Tryz.func29, Tryz.ntmps29
    go_wp2_with fail
    go_ret
    exact ⟨rfl, rfl⟩
def DlyPost (c : Cfg) (w : World) (e : Ending) (w' : World) : Prop := ∃ n : Int, e = .returned (.int .i64 n) ∧ (n = 0 → DOk c) ∧ Kept (fun _ => False) w w'
theorem finB_iff (n : Int) : finB n = true ↔ 0 ≤ n ∧ n ≤ 2305843009213693952 := by unfold finB; simp
set_option maxRecDepth 100000 in
set_option maxHeartbeats 4000000 in
theorem refdly_calls (c : Cfg) (w : World) : Calls Tryz.prog 28 #[cfgV c] w (DlyPost c w) := by
  have HF := Lib.hid (fun n W => fine_calls n W)
  cases e1 : finB c.base with
  | false =>
    go_enter Tryz.func28, Tryz.ntmps28
    go_wp2_with fail
    refine (HF.out c.base _).mono ?_
    rintro e W ⟨rfl, hw⟩
    subst hw
    rw [e1]
    go_wp2_with fail
    go_ret
    exact ⟨_, rfl, fun h => absurd h (by decide), (Kept.refl (fun _ => False) w).alloc _⟩
  | true =>
    cases e2 : finB c.least with
    | false =>
      go_enter Tryz.func28, Tryz.ntmps28
      go_wp2_with fail
      refine (HF.out c.base _).mono ?_
      rintro e W ⟨rfl, hw⟩
      subst hw
      rw [e1]
      go_wp2_with fail
      refine (HF.out c.least _).mono ?_
      rintro e W ⟨rfl, hw⟩
      subst hw
      rw [e2]
      go_wp2_with fail
      go_ret
      exact ⟨_, rfl, fun h => absurd h (by decide), (Kept.refl (fun _ => False) w).alloc _⟩
    | true =>
      cases e3 : finB c.most with
      | false =>
        go_enter Tryz.func28, Tryz.ntmps28
        go_wp2_with fail
        refine (HF.out c.base _).mono ?_
        rintro e W ⟨rfl, hw⟩
        subst hw
        rw [e1]
        go_wp2_with fail
        refine (HF.out c.least _).mono ?_
        rintro e W ⟨rfl, hw⟩
        subst hw
        rw [e2]
        go_wp2_with fail
        refine (HF.out c.most _).mono ?_
        rintro e W ⟨rfl, hw⟩
        subst hw
        rw [e3]
        go_wp2_with fail
        go_ret
        exact ⟨_, rfl, fun h => absurd h (by decide), (Kept.refl (fun _ => False) w).alloc _⟩
      | true =>
        cases e4 : finB c.slack with
        | false =>
          go_enter Tryz.func28, Tryz.ntmps28
          go_wp2_with fail
          refine (HF.out c.base _).mono ?_
          rintro e W ⟨rfl, hw⟩
          subst hw
          rw [e1]
          go_wp2_with fail
          refine (HF.out c.least _).mono ?_
          rintro e W ⟨rfl, hw⟩
          subst hw
          rw [e2]
          go_wp2_with fail
          refine (HF.out c.most _).mono ?_
          rintro e W ⟨rfl, hw⟩
          subst hw
          rw [e3]
          go_wp2_with fail
          refine (HF.out c.slack _).mono ?_
          rintro e W ⟨rfl, hw⟩
          subst hw
          rw [e4]
          go_wp2_with fail
          go_ret
          exact ⟨_, rfl, fun h => absurd h (by decide), (Kept.refl (fun _ => False) w).alloc _⟩
        | true =>
          by_cases h5 : c.gain < 0
          · skip
            go_enter Tryz.func28, Tryz.ntmps28
            go_wp2_with fail
            refine (HF.out c.base _).mono ?_
            rintro e W ⟨rfl, hw⟩
            subst hw
            rw [e1]
            go_wp2_with fail
            refine (HF.out c.least _).mono ?_
            rintro e W ⟨rfl, hw⟩
            subst hw
            rw [e2]
            go_wp2_with fail
            refine (HF.out c.most _).mono ?_
            rintro e W ⟨rfl, hw⟩
            subst hw
            rw [e3]
            go_wp2_with fail
            refine (HF.out c.slack _).mono ?_
            rintro e W ⟨rfl, hw⟩
            subst hw
            rw [e4]
            go_wp2_with fail
            go_ret
            exact ⟨_, rfl, fun h => absurd h (by decide), (Kept.refl (fun _ => False) w).alloc _⟩
          · by_cases h6 : 68719476736 < c.gain
            · skip
              go_enter Tryz.func28, Tryz.ntmps28
              go_wp2_with fail
              refine (HF.out c.base _).mono ?_
              rintro e W ⟨rfl, hw⟩
              subst hw
              rw [e1]
              go_wp2_with fail
              refine (HF.out c.least _).mono ?_
              rintro e W ⟨rfl, hw⟩
              subst hw
              rw [e2]
              go_wp2_with fail
              refine (HF.out c.most _).mono ?_
              rintro e W ⟨rfl, hw⟩
              subst hw
              rw [e3]
              go_wp2_with fail
              refine (HF.out c.slack _).mono ?_
              rintro e W ⟨rfl, hw⟩
              subst hw
              rw [e4]
              go_wp2_with fail
              go_ret
              exact ⟨_, rfl, fun h => absurd h (by decide), (Kept.refl (fun _ => False) w).alloc _⟩
            · by_cases h7 : c.most < c.least
              · skip
                go_enter Tryz.func28, Tryz.ntmps28
                go_wp2_with fail
                refine (HF.out c.base _).mono ?_
                rintro e W ⟨rfl, hw⟩
                subst hw
                rw [e1]
                go_wp2_with fail
                refine (HF.out c.least _).mono ?_
                rintro e W ⟨rfl, hw⟩
                subst hw
                rw [e2]
                go_wp2_with fail
                refine (HF.out c.most _).mono ?_
                rintro e W ⟨rfl, hw⟩
                subst hw
                rw [e3]
                go_wp2_with fail
                refine (HF.out c.slack _).mono ?_
                rintro e W ⟨rfl, hw⟩
                subst hw
                rw [e4]
                go_wp2_with fail
                go_ret
                exact ⟨_, rfl, fun h => absurd h (by decide), (Kept.refl (fun _ => False) w).alloc _⟩
              · skip
                go_enter Tryz.func28, Tryz.ntmps28
                go_wp2_with fail
                refine (HF.out c.base _).mono ?_
                rintro e W ⟨rfl, hw⟩
                subst hw
                rw [e1]
                go_wp2_with fail
                refine (HF.out c.least _).mono ?_
                rintro e W ⟨rfl, hw⟩
                subst hw
                rw [e2]
                go_wp2_with fail
                refine (HF.out c.most _).mono ?_
                rintro e W ⟨rfl, hw⟩
                subst hw
                rw [e3]
                go_wp2_with fail
                refine (HF.out c.slack _).mono ?_
                rintro e W ⟨rfl, hw⟩
                subst hw
                rw [e4]
                go_wp2_with fail
                go_ret
                obtain ⟨a1, b1⟩ := (finB_iff _).1 e1
                obtain ⟨a2, b2⟩ := (finB_iff _).1 e2
                obtain ⟨a3, b3⟩ := (finB_iff _).1 e3
                obtain ⟨a4, b4⟩ := (finB_iff _).1 e4
                exact ⟨_, rfl, fun _ => ⟨a1, b1, by omega, by omega, a2, b2, a3, b3, a4, b4, by omega⟩, (Kept.refl (fun _ => False) w).alloc _⟩
def ChkPost (c : Cfg) (w : World) (e : Ending) (w' : World) : Prop := ∃ n : Int, e = .returned (.int .i64 n) ∧ (n = 0 → COk c) ∧ Kept (fun _ => False) w w'
theorem ratB_iff (n d : Int) : ratB n d = true ↔ (1 ≤ n ∧ n ≤ 1048576) ∧ 1 ≤ d ∧ d ≤ 1048576 := by unfold ratB; simp [and_assoc]
set_option maxRecDepth 100000 in
set_option maxHeartbeats 4000000 in
theorem refchk_calls (c : Cfg) (w : World) : Calls Tryz.prog 11 #[cfgV c] w (ChkPost c w) := by
  have HD := Lib.hid (fun W => refdly_calls c W)
  have HR := Lib.hid (fun n d W => rat_calls n d W)
  by_cases h1 : c.ring < 1
  · skip
    go_enter Tryz.func11, Tryz.ntmps11
    go_wp2_with fail
    go_ret
    exact ⟨_, rfl, fun h => absurd h (by decide), (Kept.refl (fun _ => False) w).alloc _⟩
  · by_cases h2 : 64 < c.ring
    · skip
      go_enter Tryz.func11, Tryz.ntmps11
      go_wp2_with fail
      go_ret
      exact ⟨_, rfl, fun h => absurd h (by decide), (Kept.refl (fun _ => False) w).alloc _⟩
    · by_cases h3 : c.window < 1
      · skip
        go_enter Tryz.func11, Tryz.ntmps11
        go_wp2_with fail
        go_ret
        exact ⟨_, rfl, fun h => absurd h (by decide), (Kept.refl (fun _ => False) w).alloc _⟩
      · by_cases h4 : 64 < c.window
        · skip
          go_enter Tryz.func11, Tryz.ntmps11
          go_wp2_with fail
          go_ret
          exact ⟨_, rfl, fun h => absurd h (by decide), (Kept.refl (fun _ => False) w).alloc _⟩
        · skip
          go_enter Tryz.func11, Tryz.ntmps11
          go_wp2_with fail
          refine (HD.out _).mono ?_
          rintro e w1 ⟨n, rfl, hn, hk1⟩
          have HN := Lib.hid hn
          have HK := Lib.hid (((Kept.refl (fun _ => False) w).alloc (.cells (cfgC c).toArray 26)).trans hk1 (fun _ h => h.elim))
          have BC := hk1.blk (Blk.new w (cfgC c) 26) (fun h => h)
          have b7 := BC.cell (i := 7) rfl
          have b8 := BC.cell (i := 8) rfl
          have b9 := BC.cell (i := 9) rfl
          clear hn hk1 BC
          by_cases hn0 : n = 0
          · have HN0 := Lib.hid (HN.out hn0)
            subst hn0
            cases e5 : ratB c.num c.den with
            | false =>
              go_wp2_with fail
              refine (HR.out _ _ _).mono ?_
              rintro e W ⟨rfl, hw⟩
              subst hw
              rw [e5]
              go_wp2_with fail
              go_ret
              exact ⟨_, rfl, fun h => absurd h (by decide), HK.out⟩
            | true =>
              by_cases h6 : c.extra < 0
              · go_wp2_with fail
                refine (HR.out _ _ _).mono ?_
                rintro e W ⟨rfl, hw⟩
                subst hw
                rw [e5]
                go_wp2_with fail
                go_ret
                exact ⟨_, rfl, fun h => absurd h (by decide), HK.out⟩
              · by_cases h7 : 2305843009213693952 < c.extra
                · go_wp2_with fail
                  refine (HR.out _ _ _).mono ?_
                  rintro e W ⟨rfl, hw⟩
                  subst hw
                  rw [e5]
                  go_wp2_with fail
                  go_ret
                  exact ⟨_, rfl, fun h => absurd h (by decide), HK.out⟩
                · go_wp2_with fail
                  refine (HR.out _ _ _).mono ?_
                  rintro e W ⟨rfl, hw⟩
                  subst hw
                  rw [e5]
                  go_wp2_with fail
                  go_ret
                  obtain ⟨⟨a1, a2⟩, a3, a4⟩ := (ratB_iff _ _).1 e5
                  exact ⟨_, rfl, fun _ => ⟨HN0.out, by omega, by omega, by omega, by omega, a1, a2, a3, a4, by omega, by omega⟩, HK.out⟩
          · go_wp2_with fail
            go_ret
            exact ⟨_, rfl, fun h => absurd h hn0, HK.out⟩
end Go.Proofs.YtekdkckgmleofaaGreat

/- Contracts of package clock's functions, the second: Offset, Delay, Sample, Frame. -/
namespace Go.Proofs.YtekdkckgmleofaaGreat
open Go.RowKit

theorem least_mem {m : ClkM} (h : m.last ≠ []) : leastM m ∈ m.last ∧ ∀ y ∈ m.last, leastM m ≤ y := by
  unfold leastM Win64.hd
  cases hl : minsL Win64.lt m.last with
  | nil => exact absurd hl (minsL_ne h)
  | cons a t =>
    obtain ⟨h1, h2⟩ := minsL_head Win64.tot m.last a t hl
    refine ⟨h1, fun y hy => ?_⟩
    have := h2 y hy
    simp [Win64.lt] at this
    exact this
theorem least_has {m : ClkM} : (!(minsL Win64.lt m.last).isEmpty) = !m.last.isEmpty := by
  cases hl : m.last with
  | nil => rfl
  | cons a t =>
    have := minsL_ne (lt := Win64.lt) (l := a :: t) (by simp)
    cases hm : minsL Win64.lt (a :: t) with
    | nil => exact absurd hm this
    | cons b u => rfl
theorem least_fit {m : ClkM} (h : ∀ y ∈ m.last, I64 y) : I64 (leastM m) := by
  by_cases hn : m.last = []
  · unfold leastM
    rw [hn]
    exact ⟨by decide, by decide⟩
  · exact h _ (least_mem hn).1

theorem offset_calls (w : World) (k : Nat) (fp : Nat → Prop) (c : Cfg) (m : ClkM) (K : Nat) (h : Clk w k fp c m K) :
    Calls Tryz.prog 56 #[.pointer (some ⟨k, 0, none⟩)] w fun e w' => e = .returned (.tuple #[.int .i64 (leastM m), .bool !m.last.isEmpty]) ∧ w = w' := by
  obtain ⟨fw, wp, sp, jp, dp, cnt, n, h, -⟩ := h
  have c0 := h.blk.cell (i := 0) rfl
  have HL := Lib.hid (Win64.least_calls w wp fw c.window.toNat m.last h.win)
  rw [least_has] at HL
  clear h
  have HE : Hid (leastM m = Win64.hd (minsL Win64.lt m.last)) := Lib.hid rfl
  generalize Win64.hd (minsL Win64.lt m.last) = x at *
  generalize m.last.isEmpty = b at *
  go_enter Tryz.func56, Tryz.ntmps56
  go_wp2_with fail
  refine (HL.out).mono ?_
  rintro e w' ⟨rfl, rfl⟩
  go_wp2_with fail
  go_ret2
  exact ⟨by rw [HE.out]; rfl, rfl⟩
theorem delay_calls (w : World) (k : Nat) (fp : Nat → Prop) (c : Cfg) (m : ClkM) (K : Nat) (h : Clk w k fp c m K) :
    Calls Tryz.prog 58 #[.pointer (some ⟨k, 0, none⟩)] w fun e w' => e = .returned (.int .i64 m.now) ∧ w = w' := by
  obtain ⟨fw, wp, sp, jp, dp, cnt, n, h, -⟩ := h
  have c3 := h.blk.cell (i := 3) rfl
  have HL := Lib.hid (dnow_calls c m.now n dp w h.dly)
  clear h
  go_enter Tryz.func58, Tryz.ntmps58
  go_wp2_with fail
  refine (HL.out).mono ?_
  rintro e w' ⟨rfl, rfl⟩
  go_wp2_with fail
  go_ret
  exact ⟨rfl, rfl⟩

theorem updM_bd {c : Cfg} (h : DOk c) {now j : Int} (h0 : c.least ≤ now) (h1 : now ≤ c.most) : c.least ≤ updM c now j ∧ updM c now j ≤ c.most := by
  have := tgtM_bd h j
  unfold updM
  split <;> omega
theorem addL_fit {c : Cfg} {m : ClkM} {d : Int} (h : ∀ y ∈ m.last, I64 y) (hd : I64 d) : ∀ y ∈ addL c m d, I64 y := by
  intro y hy
  unfold addL at hy
  rcases List.mem_append.1 hy with hy | hy
  · split at hy
    · exact h y (List.mem_of_mem_tail hy)
    · exact h y hy
  · simp at hy; subst hy; exact hd
theorem addL_ne {c : Cfg} {m : ClkM} {d : Int} : addL c m d ≠ [] := by unfold addL; simp
theorem addL_len {c : Cfg} {m : ClkM} {d : Int} (h : m.last.length ≤ c.window.toNat) (h1 : 1 ≤ c.window.toNat) : (addL c m d).length ≤ c.window.toNat := by
  unfold addL
  rw [List.length_append]
  split
  · rw [List.length_tail]; simp; omega
  · simp; omega

def SmpPost (w : World) (k : Nat) (fp : Nat → Prop) (c : Cfg) (m : ClkM) (K : Nat) (e : Ending) (w' : World) : Prop :=
  e = .returned (.int .i64 0) ∧ Clk w' k (fun g => fp g ∨ (w.heap.size ≤ g ∧ g < w'.heap.size)) c m K ∧ Kept fp w w'

theorem sample_end {w w1 w2 w3 : World} {k : Nat} {fp fw : Nat → Prop} {c : Cfg} {m : ClkM} {K wp sp jp dp : Nat} {cnt n cnt' n' j u : Int} {l : List Int} (h : ClkAt w k c m K fw wp sp jp dp cnt n) (hk : fp k) (hs : fp sp) (hj : fp jp) (hd : fp dp) (hw : ∀ g, fw g → fp g)
    (hW1 : Win64.Win w1 wp (fun g => fw g ∨ (w.heap.size ≤ g ∧ g < w1.heap.size)) c.window.toNat l) (k1 : Kept fw w w1) (hJ2 : Blk w2 jp [.int .i64 j, .int .i64 cnt'] 156) (k2 : Kept (· = jp) w1 w2) (hD3 : Delay w3 dp c u n') (k3 : Kept (· = dp) w2 w3)
    (len : l.length ≤ c.window.toNat) (fit : ∀ y ∈ l, I64 y) (j0 : 0 ≤ j) (j1 : j ≤ 9223372036854775807) (c0 : 0 ≤ cnt') (c1 : cnt' ≤ (K : Int) + 1) (n0 : 0 ≤ n') (n1 : n' ≤ (K : Int) + 1) (t0 : c.least ≤ u) (t1 : u ≤ c.most) :
    Clk w3 k (fun g => fp g ∨ (w.heap.size ≤ g ∧ g < w3.heap.size)) c ⟨l, j, u, m.sl⟩ (K + 1) ∧ Kept fp w w3 := by
  have z1 := k1.size
  have z2 := k2.size
  have z3 := k3.size
  have lk := h.blk.lt
  have ls := h.slew.1.lt
  have lj := h.jit.lt
  have ld := Blk.lt h.dly
  refine ⟨⟨fun g => fw g ∨ (w.heap.size ≤ g ∧ g < w1.heap.size), wp, sp, jp, dp, cnt', n', { h with
    blk := k3.blk (k2.blk (k1.blk h.blk h.kf) h.kj) h.kd
    win := (hW1.kept k2 ?_).kept k3 ?_
    slew := ⟨k3.blk (k2.blk (k1.blk h.slew.1 h.sf) h.sj) h.sd, h.slew.2⟩
    jit := k3.blk hJ2 h.jd
    dly := hD3
    kf := ?_, sf := ?_, jf := ?_, df := ?_
    len := len, fit := fit, j0 := j0, j1 := j1, c0 := c0, c1 := by exact_mod_cast c1, n0 := n0, n1 := by exact_mod_cast n1, t0 := t0, t1 := t1 },
    .inl hk, .inl hs, .inl hj, .inl hd, fun g hg => hg.elim (fun h => .inl (hw g h)) (fun h => .inr ⟨h.1, by omega⟩)⟩, ?_⟩
  · rintro g (hg | hg) e
    · exact h.jf (by rw [← e]; exact hg)
    · omega
  · rintro g (hg | hg) e
    · exact h.df (by rw [← e]; exact hg)
    · omega
  · rintro (hg | hg)
    · exact h.kf hg
    · omega
  · rintro (hg | hg)
    · exact h.sf hg
    · omega
  · rintro (hg | hg)
    · exact h.jf hg
    · omega
  · rintro (hg | hg)
    · exact h.df hg
    · omega
  · exact (((k1.mono (G := fp) (fun g _ hg => hw g hg)).trans k2 (fun i hi => .inl (by rw [hi]; exact hj))).trans k3 (fun i hi => .inl (by rw [hi]; exact hd)))

set_option maxRecDepth 100000 in
set_option maxHeartbeats 2000000 in
theorem sample_calls (w : World) (k : Nat) (fp : Nat → Prop) (c : Cfg) (m : ClkM) (K : Nat) (loc srv : Int) (hc : COk c) (h : Clk w k fp c m K) (hK : K < 100000) (hl : I64 loc) (hs : I64 srv) :
    Calls Tryz.prog 22 #[.pointer (some ⟨k, 0, none⟩), .int .i64 loc, .int .i64 srv] w (SmpPost w k fp c (smpM c m loc srv) (K + 1)) := by
  obtain ⟨fw, wp, sp, jp, dp, cnt, n, h, hk, hsp, hj, hd, hw⟩ := h
  have c0 := h.blk.cell (i := 0) rfl
  have HH := Lib.hid h
  have hw0 := hc.w0
  have hw1 := hc.w1
  have HD := Lib.hid (fun W => fsub_calls loc srv W hl hs)
  have hfit := satI_bd (loc - srv)
  have HA := Lib.hid (Win64.add_calls w wp fw c.window.toNat m.last (satI (loc - srv)) (by omega) (by omega) h.len h.win)
  have HSM : Hid (smpM c m loc srv = ⟨addL c m (satI (loc - srv)), stepJ m.jit (satI (satI (loc - srv) - Win64.hd (minsL Win64.lt (addL c m (satI (loc - srv)))))), updM c m.now (stepJ m.jit (satI (satI (loc - srv) - Win64.hd (minsL Win64.lt (addL c m (satI (loc - srv))))))), m.sl⟩) := Lib.hid rfl
  have HLA : Hid ((if m.last.length = c.window.toNat then m.last.tail else m.last) ++ [satI (loc - srv)] = addL c m (satI (loc - srv))) := Lib.hid rfl
  have HFT := Lib.hid (addL_fit (c := c) h.fit hfit)
  have HLN := Lib.hid (addL_len (d := satI (loc - srv)) h.len (by omega))
  rw [HLA.out] at HA
  clear h HLA
  generalize hdd : satI (loc - srv) = d at *
  generalize hll : addL c m d = l at *
  clear hdd hll
  go_enter Tryz.func22, Tryz.ntmps22
  go_wp2_with fail
  refine (HD.out _).mono ?_
  rintro e w' ⟨rfl, rfl⟩
  go_wp2_with fail
  refine (HA.out).mono ?_
  rintro e w1 ⟨rfl, hw1', hk1⟩
  have HW1 := Lib.hid hw1'
  have HK1 := Lib.hid hk1
  have HL := Lib.hid (Win64.least_calls w1 wp _ c.window.toNat l hw1')
  have hb1 := hk1.blk HH.out.blk HH.out.kf
  have d0 := hb1.cell (i := 0) rfl
  have d2 := hb1.cell (i := 2) rfl
  have d3 := hb1.cell (i := 3) rfl
  have HB1 := Lib.hid hb1
  clear hw1' hk1 hb1 c0
  have hmf : I64 (Win64.hd (minsL Win64.lt l)) := least_fit (m := ⟨l, 0, 0, m.sl⟩) HFT.out
  generalize Win64.hd (minsL Win64.lt l) = x at *
  generalize hbb : (!(minsL Win64.lt l).isEmpty) = b at *
  clear hbb
  have HD2 := Lib.hid (fun W => fsub_calls d x W hfit hmf)
  have hfit2 := satI_bd (d - x)
  generalize satI (d - x) = y at *
  go_wp2_with fail
  refine (HL.out).mono ?_
  rintro e w' ⟨rfl, rfl⟩
  go_wp2_with fail
  refine region_tail 8 (by kernel_rfl) (by kernel_rfl) ?_
  simp only [List.take_succ_cons, List.take_zero, List.drop_succ_cons, List.drop_zero]
  repeat still_step
  still_call ((HD2.out _).mono (fun _ _ h => ⟨h.1, h.2.symm⟩))
  repeat still_step
  refine wpStill_nil ?_
  go_wp2_with fail
  have HJ1 := Lib.hid (HK1.out.blk HH.out.jit HH.out.jf)
  have HCN := HH.out.c0
  have HCN1 := HH.out.c1
  have HJ0 := HH.out.j0
  have HJ9 := HH.out.j1
  refine (add_calls _ jp m.jit cnt y hfit2.1 hfit2.2 HJ0 HJ9 HCN (by omega) (Blk.drew HJ1.out)).mono ?_
  rintro e w2 ⟨rfl, hj2, hk2⟩
  have HJ2 := Lib.hid hj2
  have HK2 := Lib.hid ((Kept.refl (· = jp) w').drew.trans hk2 (fun _ h => .inl h))
  have hb2 := hk2.blk (Blk.drew HB1.out) (fun e => HH.out.kj e)
  have e2 := hb2.cell (i := 2) rfl
  have e3 := hb2.cell (i := 3) rfl
  have HB2 := Lib.hid hb2
  have hsj := stepJ_nonneg m.jit y
  have hsj2 := stepJ_le m.jit y HJ9 hfit2.2
  have HNW := Lib.hid (now_calls w2.drew jp (stepJ m.jit y) (cnt + 1) (Blk.drew hj2))
  clear hj2 hk2 hb2 d0 d2 d3
  have HSM2 := HSM
  generalize stepJ m.jit y = j at *
  go_wp2_with fail
  refine region_tail 11 (by kernel_rfl) (by kernel_rfl) ?_
  simp only [List.take_succ_cons, List.take_zero, List.drop_succ_cons, List.drop_zero]
  repeat still_step
  still_call (HNW.out)
  repeat still_step
  refine wpStill_nil ?_
  go_wp2_with fail
  have HD1 := Lib.hid (HK1.out.blk HH.out.dly HH.out.df)
  have HD2' := Lib.hid (HK2.out.blk HD1.out (fun e => HH.out.jd e.symm))
  have ht0 := HH.out.t0
  have ht1 := HH.out.t1
  have hl0 := hc.d.l0
  have hm1 := hc.d.m1
  have hn0 := HH.out.n0
  have hn1 := HH.out.n1
  have hub := updM_bd (j := j) hc.d ht0 ht1
  refine (update_calls c m.now n j dp _ (Blk.drew HD2'.out) hc.d ⟨by omega, by omega⟩ (by omega) (by omega) hn0 (by omega)).mono ?_
  rintro e w3 ⟨n', rfl, hd3, hk3, hn3, hn4⟩
  have HD3 := Lib.hid hd3
  have HK3 := Lib.hid ((Kept.refl (· = dp) w2).drew.trans hk3 (fun _ h => .inl h))
  clear hd3 hk3 ht0 ht1 hl0 hm1
  go_wp2_with fail
  go_ret
  rw [HSM.out]
  exact ⟨rfl, sample_end HH.out hk hsp hj hd hw HW1.out HK1.out HJ2.out HK2.out HD3.out HK3.out HLN.out HFT.out hsj hsj2 (by omega) (by omega) (by omega) (by omega) hub.1 hub.2⟩
end Go.Proofs.YtekdkckgmleofaaGreat
