/- A config; contracts of package delay's functions. -/
import Derived.Test.YtekdkckgmleofaaGreatXf10
import Derived.Deep.RegionHeld3
set_option linter.unusedVariables false
set_option linter.unusedSimpArgs false
namespace Go.Proofs.YtekdkckgmleofaaGreat
open Go.RowKit

/-- A config. -/
structure Cfg where
  ring : Int
  window : Int
  base : Int
  gain : Int
  least : Int
  most : Int
  slack : Int
  num : Int
  den : Int
  extra : Int
  curved : Bool
/-- Its cells. -/
def cfgC (c : Cfg) : List Value := [.int .i64 c.ring, .int .i64 c.window, .int .i64 c.base, .int .i64 c.gain, .int .i64 c.least, .int .i64 c.most, .int .i64 c.slack, .int .i64 c.num, .int .i64 c.den, .int .i64 c.extra, .bool c.curved]
/-- The value. -/
abbrev cfgV (c : Cfg) : Value := .agg #[.int .i64 c.ring, .int .i64 c.window, .int .i64 c.base, .int .i64 c.gain, .int .i64 c.least, .int .i64 c.most, .int .i64 c.slack, .int .i64 c.num, .int .i64 c.den, .int .i64 c.extra, .bool c.curved]
/-- Its numbers for delays are right. -/
structure DOk (c : Cfg) : Prop where
  b0 : 0 ≤ c.base
  b1 : c.base ≤ 2305843009213693952
  g0 : 0 ≤ c.gain
  g1 : c.gain ≤ 68719476736
  l0 : 0 ≤ c.least
  l1 : c.least ≤ 2305843009213693952
  m0 : 0 ≤ c.most
  m1 : c.most ≤ 2305843009213693952
  s0 : 0 ≤ c.slack
  s1 : c.slack ≤ 2305843009213693952
  lm : c.least ≤ c.most

abbrev numsV (c : Cfg) : Value := .agg #[.int .i64 c.base, .int .i64 2305843009213693952, .int .i64 c.least, .int .i64 2305843009213693952, .int .i64 c.most, .int .i64 2305843009213693952, .int .i64 c.slack, .int .i64 2305843009213693952, .int .i64 c.gain, .int .i64 68719476736]
set_option maxRecDepth 100000 in
theorem dnumbers_calls (c : Cfg) (w : World) :
    Calls Tryz.prog 104 #[cfgV c] w fun e w' => e = .returned (numsV c) ∧ Kept (fun _ => False) w w' := by
  go_enter Tryz.func104, Tryz.ntmps104
  go_wp2
  exact bodyPost_ret (v := numsV c) (by simp [results, Tryz.results104, go_sem]) rfl ⟨rfl, ((Kept.refl _ w).alloc _).alloc _⟩

def Ends (P : Int → Prop) (F : Nat → Prop) (w : World) (e : Ending) (w' : World) : Prop := ∃ x, P x ∧ e = .returned (.int .i64 x) ∧ Kept F w w'

theorem idx0 (c : Cfg) (w : World) : (Instr.index 204 (numsV c) (.int .i64 0)).run Tryz.prog w = .ok (.agg #[.int .i64 c.base, .int .i64 2305843009213693952]) w := by kernel_rfl
theorem idx1 (c : Cfg) (w : World) : (Instr.index 204 (numsV c) (.int .i64 1)).run Tryz.prog w = .ok (.agg #[.int .i64 c.least, .int .i64 2305843009213693952]) w := by kernel_rfl
theorem idx2 (c : Cfg) (w : World) : (Instr.index 204 (numsV c) (.int .i64 2)).run Tryz.prog w = .ok (.agg #[.int .i64 c.most, .int .i64 2305843009213693952]) w := by kernel_rfl
theorem idx3 (c : Cfg) (w : World) : (Instr.index 204 (numsV c) (.int .i64 3)).run Tryz.prog w = .ok (.agg #[.int .i64 c.slack, .int .i64 2305843009213693952]) w := by kernel_rfl
theorem idx4 (c : Cfg) (w : World) : (Instr.index 204 (numsV c) (.int .i64 4)).run Tryz.prog w = .ok (.agg #[.int .i64 c.gain, .int .i64 68719476736]) w := by kernel_rfl
set_option maxRecDepth 100000 in
set_option maxHeartbeats 2000000 in
theorem dcheck_good (c : Cfg) (w : World) (h : DOk c) :
    Calls Tryz.prog 67 #[cfgV c] w fun e w' => e = .returned (.int .i64 0) ∧ Kept (fun _ => False) w w' := by
  obtain ⟨b0, b1, g0, g1, l0, l1, m0, m1, s0, s1, lm⟩ := h
  go_enter Tryz.func67, Tryz.ntmps67
  go_wp2_with fail
  refine (dnumbers_calls c _).mono ?_
  rintro e w1 ⟨rfl, hk⟩
  have HKW := Lib.hid (((Kept.refl (fun _ => False) w).alloc (.cells (cfgC c).toArray 26)).trans hk (fun _ h => h.elim))
  have HB := Lib.hid (hk.blk (Blk.new w (cfgC c) 26) (fun h => h))
  clear hk
  go_wp2_with fail
  go_loopw [7] (fun i wr => ∃ k : Nat, k ≤ 5 ∧ i = .int .i64 k ∧ Kept (fun _ => False) w1 wr) (fun i _ => 5 - (intOf i).toNat)
  case atStart => exact ⟨0, by omega, rfl, Kept.refl _ _⟩
  case round =>
    obtain ⟨k, hk5, rfl, hkr⟩ := hrel
    have HK := Lib.hid hkr
    clear hkr
    by_cases h5 : k = 5
    · subst h5
      have b4 := (HK.out.blk HB.out (fun h => h)).cell (i := 4) rfl
      have b5 := (HK.out.blk HB.out (fun h => h)).cell (i := 5) rfl
      go_wp2_with fail
      go_ret
      exact ⟨rfl, HKW.out.trans HK.out (fun _ h => h.elim)⟩
    · have hk : k = 0 ∨ k = 1 ∨ k = 2 ∨ k = 3 ∨ k = 4 := by omega
      rcases hk with rfl | rfl | rfl | rfl | rfl
      ·
        have hix := idx0 c
        go_wp2_with fail
        exact ⟨⟨1, by omega, by rfl, HK.out.alloc _⟩, by simp [intOf]⟩
      ·
        have hix := idx1 c
        go_wp2_with fail
        exact ⟨⟨2, by omega, by rfl, HK.out.alloc _⟩, by simp [intOf]⟩
      ·
        have hix := idx2 c
        go_wp2_with fail
        exact ⟨⟨3, by omega, by rfl, HK.out.alloc _⟩, by simp [intOf]⟩
      ·
        have hix := idx3 c
        go_wp2_with fail
        exact ⟨⟨4, by omega, by rfl, HK.out.alloc _⟩, by simp [intOf]⟩
      ·
        have hix := idx4 c
        go_wp2_with fail
        exact ⟨⟨5, by omega, by rfl, HK.out.alloc _⟩, by simp [intOf]⟩

/-- The delay that an estimate asks for. -/
def tgtM (c : Cfg) (j : Int) : Int := min (max (satI (c.base + mulF c.gain (max 0 j))) (min c.least c.most)) (max c.least c.most)
theorem tgtM_bd {c : Cfg} (h : DOk c) (j : Int) : c.least ≤ tgtM c j ∧ tgtM c j ≤ c.most := by
  have := h.lm
  unfold tgtM
  omega

set_option maxRecDepth 100000 in
set_option maxHeartbeats 2000000 in
theorem target_calls (c : Cfg) (j : Int) (w : World) (h : DOk c) (hj : I64 j) :
    Calls Tryz.prog 68 #[cfgV c, .int .i64 j] w fun e w' => e = .returned (.int .i64 (tgtM c j)) ∧ Kept (fun _ => False) w w' := by
  have HC := Lib.hid (fun W => dcheck_good c W h)
  have hg : I64 c.gain := by obtain ⟨b0, b1, g0, g1, -⟩ := h; exact ⟨by omega, by omega⟩
  have hb : I64 c.base := by obtain ⟨b0, b1, g0, g1, -⟩ := h; exact ⟨by omega, by omega⟩
  have hm : I64 (max 0 j) := by unfold I64 at *; omega
  have HM := Lib.hid (fun W => fmul_calls c.gain (max 0 j) W hg hm)
  have HA := Lib.hid (fun W => fadd_calls c.base (mulF c.gain (max 0 j)) W hb (mulF_bd _ _))
  have HL := Lib.hid (fun W => fclamp_calls (satI (c.base + mulF c.gain (max 0 j))) c.least c.most W)
  have HT : Hid (tgtM c j = min (max (satI (c.base + mulF c.gain (max 0 j))) (min c.least c.most)) (max c.least c.most)) := Lib.hid rfl
  generalize mulF c.gain (max 0 j) = mm at *
  generalize satI (c.base + mm) = ss at *
  clear h hg hb hm
  go_enter Tryz.func68, Tryz.ntmps68
  go_wp2_with fail
  refine (HC.out _).mono ?_
  rintro e w1 ⟨rfl, hk⟩
  have HK := Lib.hid (((Kept.refl (fun _ => False) w).alloc (.cells (cfgC c).toArray 26)).trans hk (fun _ h => h.elim))
  have hB := hk.blk (Blk.new w (cfgC c) 26) (fun h => h)
  have b2 := hB.cell (i := 2) rfl
  have b3 := hB.cell (i := 3) rfl
  have b4 := hB.cell (i := 4) rfl
  have b5 := hB.cell (i := 5) rfl
  clear hk hB
  go_wp2_with fail
  go_quiet ((first | (go_at_call 106; exact Calls.quiet_of_same ((HM.out _).mono (fun _ _ h => ⟨h.1, h.2.symm⟩))) | (go_at_call 16; exact Calls.quiet_of_same ((HA.out _).mono (fun _ _ h => ⟨h.1, h.2.symm⟩))) | (go_at_call 105; exact Calls.quiet_of_same ((HL.out _).mono (fun _ _ h => ⟨h.1, h.2.symm⟩)))))
  go_wp2_with fail
  go_ret
  exact ⟨by rw [HT.out]; rfl, HK.out.drewN _⟩

/-- A delay at block p. -/
def Delay (w : World) (p : Nat) (c : Cfg) (now n : Int) : Prop := Blk w p (cfgC c ++ [.int .i64 now, .int .i64 n]) 154

def DNewPost (w : World) (c : Cfg) (e : Ending) (w' : World) : Prop := ∃ p, e = .returned (.tuple #[.pointer (some ⟨p, 0, none⟩), .int .i64 0]) ∧ Delay w' p c (tgtM c 0) 0 ∧ Kept (fun _ => False) w w' ∧ w.heap.size ≤ p
set_option maxRecDepth 100000 in
set_option maxHeartbeats 2000000 in
theorem dnew_good (c : Cfg) (w : World) (h : DOk c) :
    Calls Tryz.prog 40 #[cfgV c] w (DNewPost w c) := by
  have HC := Lib.hid (fun W => dcheck_good c W h)
  have HT := Lib.hid (fun W => target_calls c 0 W h (by unfold I64; omega))
  go_enter Tryz.func40, Tryz.ntmps40
  go_wp2_with fail
  refine (HC.out _).mono ?_
  rintro e w1 ⟨rfl, hk⟩
  have HK := Lib.hid (((Kept.refl (fun _ => False) w).alloc (.cells (cfgC c).toArray 26)).trans hk (fun _ h => h.elim))
  have HB := Lib.hid (hk.blk (Blk.new w (cfgC c) 26) (fun h => h))
  clear hk
  go_wp2_with fail
  have b0 := HB.out.cell (i := 0) rfl
  have b1 := HB.out.cell (i := 1) rfl
  have b2 := HB.out.cell (i := 2) rfl
  have b3 := HB.out.cell (i := 3) rfl
  have b4 := HB.out.cell (i := 4) rfl
  have b5 := HB.out.cell (i := 5) rfl
  have b6 := HB.out.cell (i := 6) rfl
  have b7 := HB.out.cell (i := 7) rfl
  have b8 := HB.out.cell (i := 8) rfl
  have b9 := HB.out.cell (i := 9) rfl
  have b10 := HB.out.cell (i := 10) rfl
  have hlt : w.heap.size < w1.heap.size := HB.out.lt
  have HNE : Hid (w.heap.size ≤ w1.heap.size) := Lib.hid (Nat.le_of_lt hlt)
  go_region_held3 (fun w' => w'.cell? ⟨w.heap.size, 0, none⟩ = some (.int .i64 c.ring) ∧ w'.cell? ⟨w.heap.size, 1, none⟩ = some (.int .i64 c.window) ∧ w'.cell? ⟨w.heap.size, 2, none⟩ = some (.int .i64 c.base) ∧ w'.cell? ⟨w.heap.size, 3, none⟩ = some (.int .i64 c.gain) ∧ w'.cell? ⟨w.heap.size, 4, none⟩ = some (.int .i64 c.least) ∧ w'.cell? ⟨w.heap.size, 5, none⟩ = some (.int .i64 c.most) ∧ w'.cell? ⟨w.heap.size, 6, none⟩ = some (.int .i64 c.slack) ∧ w'.cell? ⟨w.heap.size, 7, none⟩ = some (.int .i64 c.num) ∧ w'.cell? ⟨w.heap.size, 8, none⟩ = some (.int .i64 c.den) ∧ w'.cell? ⟨w.heap.size, 9, none⟩ = some (.int .i64 c.extra) ∧ w'.cell? ⟨w.heap.size, 10, none⟩ = some (.bool c.curved))
    (first | go_keep | (go_split_ands; refine ⟨?_, ?_, ?_, ?_, ?_, ?_, ?_, ?_, ?_, ?_, ?_⟩ <;> exact hk4.cell (by assumption) (fun h => h)))
    ((go_at_call 68; refine (HT.out _).mono ?_; rintro e w4 ⟨rfl, hk4⟩))
  have HK4 := Lib.hid (HK.out.trans (((Kept.refl (fun _ => False) w1).drewN 1).trans hk4 (fun _ h => h.elim)) (fun _ h => h.elim))
  clear hk4
  go_wp2_with fail
  go_ret2
  exact ⟨w4.heap.size, rfl, Blk.new w4 (cfgC c ++ [Value.int IntKind.i64 (tgtM c 0), Value.int IntKind.i64 0]) 154, HK4.out.alloc _, HK4.out.size⟩

/-- The delay behind an estimate. -/
def updM (c : Cfg) (now j : Int) : Int := if max (tgtM c j - now) (now - tgtM c j) > c.slack then tgtM c j else now

def UpdPost (w : World) (p : Nat) (c : Cfg) (n u : Int) (e : Ending) (w' : World) : Prop := ∃ n', e = .returned (.int .i64 u) ∧ Delay w' p c u n' ∧ Kept (· = p) w w' ∧ 0 ≤ n' ∧ n' ≤ n + 1
set_option maxRecDepth 100000 in
set_option maxHeartbeats 2000000 in
theorem update_calls (c : Cfg) (now n j : Int) (p : Nat) (w : World) (hp : Delay w p c now n) (h : DOk c) (hj : I64 j) (h0 : 0 ≤ now) (h1 : now ≤ 2305843009213693952) (hn0 : 0 ≤ n) (hn1 : n < 1000000) :
    Calls Tryz.prog 50 #[.pointer (some ⟨p, 0, none⟩), .int .i64 j] w (UpdPost w p c n (updM c now j)) := by
  have HT := Lib.hid (fun W => target_calls c j W h hj)
  have htb := tgtM_bd h j
  have hl0 := h.l0
  have hm1 := h.m1
  have hs0 := h.s0
  have hs1 := h.s1
  have HU : Hid (updM c now j = if max (tgtM c j - now) (now - tgtM c j) > c.slack then tgtM c j else now) := Lib.hid rfl
  have HP := Lib.hid hp
  generalize tgtM c j = t at *
  have ht0 : 0 ≤ t := by omega
  have ht1 : t ≤ 2305843009213693952 := by omega
  unfold Delay at hp
  have b0 := Blk.cell hp (i := 0) rfl
  have b1 := Blk.cell hp (i := 1) rfl
  have b2 := Blk.cell hp (i := 2) rfl
  have b3 := Blk.cell hp (i := 3) rfl
  have b4 := Blk.cell hp (i := 4) rfl
  have b5 := Blk.cell hp (i := 5) rfl
  have b6 := Blk.cell hp (i := 6) rfl
  have b7 := Blk.cell hp (i := 7) rfl
  have b8 := Blk.cell hp (i := 8) rfl
  have b9 := Blk.cell hp (i := 9) rfl
  have b10 := Blk.cell hp (i := 10) rfl
  have b11 := Blk.cell hp (i := 11) rfl
  have b12 := Blk.cell hp (i := 12) rfl
  clear hp h
  go_enter Tryz.func50, Tryz.ntmps50
  go_wp2_with fail
  refine (HT.out _).mono ?_
  rintro e w1 ⟨rfl, hk⟩
  have hB := hk.blk HP.out (fun h => h)
  have HK := Lib.hid hk
  have c6 := hB.cell (i := 6) rfl
  have c11 := hB.cell (i := 11) rfl
  have c12 := hB.cell (i := 12) rfl
  have f11 := hB.free 11
  have f12 := hB.free 12
  have HB := Lib.hid hB
  clear hk hB
  by_cases hc : c.slack < max (t - now) (now - t)
  · go_wp2_with fail
    go_quiet (fail)
    go_wp2_with fail
    go_ret
    rw [HU.out, if_pos hc]
    refine ⟨n + 1, rfl, ((HB.out.drewN _).set 11 _).set 12 _, ((HK.out.mono (G := (· = p)) (fun _ _ h => h.elim)).drewN _).setCell (a := ⟨p, 11, none⟩) (.inl rfl) _ |>.setCell (a := ⟨p, 12, none⟩) (.inl rfl) _, by omega, by omega⟩
  · go_wp2_with fail
    go_quiet (fail)
    go_wp2_with fail
    go_ret
    rw [HU.out, if_neg (by omega)]
    refine ⟨n, rfl, HB.out.drewN _, (HK.out.mono (fun _ _ h => h.elim)).drewN _, by omega, by omega⟩

theorem dnow_calls (c : Cfg) (now n : Int) (p : Nat) (w : World) (hp : Delay w p c now n) :
    Calls Tryz.prog 91 #[.pointer (some ⟨p, 0, none⟩)] w fun e w' => e = .returned (.int .i64 now) ∧ w = w' := by
  have c11 := Blk.cell hp (i := 11) rfl
  go_enter Tryz.func91, Tryz.ntmps91
  go_wp2
  go_ret
  exact ⟨rfl, rfl⟩

/-- Where a config's numbers are wrong it is told. -/
def DBad (w : World) (e : Ending) (w' : World) : Prop := ∃ x : Int, (x = 3 ∨ x = 10) ∧ e = .returned (.int .i64 x) ∧ Kept (fun _ => False) w w'
end Go.Proofs.YtekdkckgmleofaaGreat
