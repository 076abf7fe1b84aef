/- Joined texts. -/
import Derived.Test.YtekdkckgmleofaaGreatXf18
import Derived.Test.YtekdkckgmleofaaGreatXf02
set_option linter.unusedVariables false
set_option linter.unusedSimpArgs false
/- Contract of gram.Read for a datagram that tells one new entity by none. -/
namespace Go.Proofs.YtekdkckgmleofaaGreat
open Go.RowKit

theorem bodyL_eq (tick time : Int) (x : EntM) : bodyL tick time x = [71, 1] ++ ((putL tick.toNat ++ putL (zigM time).toNat) ++ (putL 0 ++ (putL 1 ++ recL x (-1)))) := by
  unfold bodyL headL hdK
  simp
abbrev mthV (f q : Nat) : Value := .func (.func f) #[.pointer (some ⟨q, 0, none⟩)] #[]
abbrev stepsC (q : Nat) : List Value := [mthV 109 q, mthV 110 q, mthV 111 q, mthV 112 q]
structure ParI (q p g off cap m : Nat) (bs : List Nat) (w wr : World) (a : Nat) (tick time base : Int) (v : Value) : Prop where
  rd : Rd wr p g off cap bs a
  par : Blk wr q (parC p tick time base v) 213
  arr : Blk wr m (stepsC q) 1
  kept : Kept (fun _ => False) w wr
theorem ParI.step {q p g off cap m : Nat} {bs : List Nat} {w wr w' : World} {a a' : Nat} {tick time base tick' time' base' : Int} {v v' : Value} (h : ParI q p g off cap m bs w wr a tick time base v) (hr : Rd w' p g off cap bs a') (hb : Blk w' q (parC p tick' time' base' v') 213)
    (k : Kept (fun i => i = p ∨ i = q) wr w') (hmp : m ≠ p) (hmq : m ≠ q) (hp : w.heap.size ≤ p) (hq : w.heap.size ≤ q) : ParI q p g off cap m bs w w' a' tick' time' base' v' :=
  ⟨hr, hb, k.blk h.arr (fun e => e.elim hmp hmq), h.kept.trans k (fun i hi => .inr (by omega))⟩
def ReadPost (tick time : Int) (x : EntM) (w : World) (e : Ending) (w' : World) : Prop :=
  ∃ v, e = .returned (.tuple #[gramV tick time (-1) v, .int .i64 0]) ∧ OneP 175 9 (recC (putR x)) v w.heap.size w' ∧ Kept (fun _ => False) w w'
set_option maxRecDepth 100000 in
set_option maxHeartbeats 2000000 in
theorem gread_calls (tick time : Int) (x : EntM) (hs : SnapOk tick time) (hx : x.Ok) (w : World) (v : Value) (own : Option Nat) (h : Sl w v 5 1 (gramL tick time x).length (u8s (gramL tick time x)) own) :
    Calls Tryz.prog 69 #[v] w (ReadPost tick time x w) := by
  have hbl := bodyL_len hs hx
  have hbp := bodyL_pos tick time x
  have HO := Lib.hid (fun W (k : Kept (fun _ => False) w W) => open_calls (bodyL tick time x) W v own (h.kept k (fun _ _ h => h)) (by omega) (bodyL_byte tick time x))
  have HAT : Hid (At (bodyL tick time x) 0 ([71, 1] ++ ((putL tick.toNat ++ putL (zigM time).toNat) ++ (putL 0 ++ (putL 1 ++ recL x (-1)))))) := Lib.hid (by
    rw [← bodyL_eq]; intro i _; rw [Nat.zero_add])
  have HEN : Hid ((bodyL tick time x).length = 0 + [71, 1].length + (putL tick.toNat ++ putL (zigM time).toNat).length + (putL 0).length + (putL 1 ++ recL x (-1)).length) := Lib.hid (by
    rw [bodyL_eq]; simp only [List.length_append]; omega)
  have hgl : (gramL tick time x).length ≤ 146 := by unfold gramL sealM; rw [List.length_append]; show _ + 4 ≤ _; omega
  unfold OpenPost at HO
  generalize bodyL tick time x = bs at *
  have A1 := HAT.out.left
  have A2 := HAT.out.right.left
  have A3 := HAT.out.right.right.left
  have A4 := HAT.out.right.right.right
  have HN := Lib.hid (fun W v g (h : Sl W v 5 1 bs.length (u8s bs) (some g)) => rnew_calls bs W v g h hbp (by omega))
  have hmf : ∀ (fn : Fn) (first cap : Array Value) (w : World), (Instr.makeFunc fn first cap).run Tryz.prog w = .ok (.func fn first cap) w := fun _ _ _ _ => rfl
  obtain ⟨a0, cap0, rfl, -, -⟩ := h.form
  unfold NewRdPost at HN
  have hg4 : ¬ (4096 : Int) < (gramL tick time x).length := by omega
  generalize (gramL tick time x).length = n at *
  clear h HAT
  go_enter Tryz.func69, Tryz.ntmps69
  go_wp2_with fail
  have K0 := (Kept.refl (fun _ => False) w).alloc (.cells #[.int .i64 0, .int .i64 0, .int .i64 0, .slice none 0 0] 78)
  refine (HO.out _ K0).mono ?_
  rintro e w1 ⟨v1, g1, rfl, hS1, hg1, hk1⟩
  have HB0 := Lib.hid (hk1.blk (Blk.new w [.int .i64 0, .int .i64 0, .int .i64 0, .slice none 0 0] 78) (fun h => h))
  have HK1 := Lib.hid (K0.trans hk1 (fun _ h => h.elim))
  have HS1 := Lib.hid hS1
  have hg1w : w.heap.size < g1 := by simp at hg1; omega
  clear K0 hS1 hk1 hg1
  go_wp2_with fail
  refine (HN.out _ _ _ HS1.out).mono ?_
  rintro e w2 ⟨p, off, cap, rfl, hr2, hp2, hk2⟩
  have hg2 : g1 < w2.heap.size := Nat.lt_of_lt_of_le (HS1.out.lt rfl) hk2.size
  have hpl := hr2.blk.lt
  have HR2 := Lib.hid hr2
  have HB2 := Lib.hid (hk2.blk HB0.out (fun h => h))
  have HK2 := Lib.hid (HK1.out.trans hk2 (fun _ h => h.elim))
  have hg1p := hr2.ne
  clear hr2 hk2
  go_wp2_with fail
  have HI0 : Hid (ParI w2.heap.size p g1 off cap (w2.heap.size + 1) bs w ((w2.alloc (.cells #[.pointer (some ⟨p, 0, none⟩), .int .i64 0, .int .i64 0, .int .i64 0, .slice none 0 0] 213)).alloc (.cells (stepsC w2.heap.size).toArray 1)) 0 0 0 0 (.slice none 0 0)) := Lib.hid (by
    have kk := (((Kept.refl (fun _ => False) w2).alloc (.cells #[.pointer (some ⟨p, 0, none⟩), .int .i64 0, .int .i64 0, .int .i64 0, .slice none 0 0] 213)).alloc (.cells (stepsC w2.heap.size).toArray 1))
    exact ⟨HR2.out.kept kk (fun h => h) (fun h => h), (Blk.new w2 _ _).alloc _, Blk.new_at (by simp) (stepsC w2.heap.size) _, HK2.out.trans kk (fun _ h => h.elim)⟩)
  have z2 := HK2.out.size
  have z3 := HK1.out.size
  have z4 := HB0.out.lt
  have hB0 : Hid (∀ wr, Kept (fun _ => False) w wr → w.heap.size < wr.heap.size → Blk wr w.heap.size [.int .i64 0, .int .i64 0, .int .i64 0, .slice none 0 0] 78 → True) := Lib.hid (fun _ _ _ _ => trivial)
  clear hB0
  have hnp : w.heap.size ≤ p := by omega
  go_loopw [36] (fun i wr => ∃ (k : Nat), i = .int .i64 k ∧ Blk wr w.heap.size [.int .i64 0, .int .i64 0, .int .i64 0, .slice none 0 0] 78 ∧ (k = 0 ∧ ParI w2.heap.size p g1 off cap (w2.heap.size + 1) bs w wr 0 0 0 0 (.slice none 0 0) ∨ k = 1 ∧ ParI w2.heap.size p g1 off cap (w2.heap.size + 1) bs w wr (0 + [71, 1].length) 0 0 0 (.slice none 0 0) ∨
    k = 2 ∧ ParI w2.heap.size p g1 off cap (w2.heap.size + 1) bs w wr (0 + [71, 1].length + (putL tick.toNat ++ putL (zigM time).toNat).length) tick time 0 (.slice none 0 0) ∨
    k = 3 ∧ ParI w2.heap.size p g1 off cap (w2.heap.size + 1) bs w wr (0 + [71, 1].length + (putL tick.toNat ++ putL (zigM time).toNat).length + (putL 0).length) tick time (-1) (.slice none 0 0) ∨
    k = 4 ∧ ∃ v, ParI w2.heap.size p g1 off cap (w2.heap.size + 1) bs w wr bs.length tick time (-1) v ∧ OneP 175 9 (recC (putR x)) v (w.heap.size + 1) wr)) (fun i _ => (4 - intOf i).toNat)
  case atStart => exact ⟨0, rfl, (HB2.out.alloc _).alloc _, .inl ⟨rfl, HI0.out⟩⟩
  case round =>
    obtain ⟨k, rfl, hB, hk⟩ := hrel
    have HB := Lib.hid hB
    have hwp : w.heap.size ≠ p := by omega
    have hwq : w.heap.size ≠ w2.heap.size := by omega
    have hmp : w2.heap.size + 1 ≠ p := by omega
    have hmq : w2.heap.size + 1 ≠ w2.heap.size := by omega
    have hqp : w2.heap.size ≠ p := by omega
    have hqg : w2.heap.size ≠ g1 := by omega
    clear hB
    rcases hk with ⟨rfl, hI⟩ | ⟨rfl, hI⟩ | ⟨rfl, hI⟩ | ⟨rfl, hI⟩ | ⟨rfl, v, hI, hV⟩
    · have a0 := hI.arr.cell (i := 0) rfl
      have HC := Lib.hid (signs_calls wr w2.heap.size p g1 off cap bs 0 0 0 0 (.slice none 0 0) hI.par hqp hI.rd A1)
      have HJ := Lib.hid hI
      clear hI
      go_wp2_with fail
      refine (HC.out).mono ?_
      rintro e w3 ⟨rfl, hr, hk⟩
      have HN2 := Lib.hid (HJ.out.step hr (hk.blk HJ.out.par hqp) (hk.mono (fun _ _ h => .inl h)) hmp hmq hnp (by omega))
      have HB3 := Lib.hid (hk.blk HB.out hwp)
      clear hr hk
      go_wp2_with fail
      exact ⟨⟨1, by simp, HB3.out, .inr (.inl ⟨rfl, HN2.out⟩)⟩, by simp [intOf]⟩
    · have a0 := hI.arr.cell (i := 1) rfl
      have HC := Lib.hid (when_calls tick time hs wr w2.heap.size p g1 off cap bs _ 0 (.slice none 0 0) hI.par hqp hqg hI.rd A2)
      have HJ := Lib.hid hI
      clear hI
      go_wp2_with fail
      refine (HC.out).mono ?_
      rintro e w3 ⟨rfl, hr, hq, hk⟩
      have HN2 := Lib.hid (HJ.out.step hr hq hk hmp hmq hnp (by omega))
      have HB3 := Lib.hid (hk.blk HB.out (fun e => e.elim hwp hwq))
      clear hr hq hk
      go_wp2_with fail
      exact ⟨⟨2, by simp, HB3.out, .inr (.inr (.inl ⟨rfl, HN2.out⟩))⟩, by simp [intOf]⟩
    · have a0 := hI.arr.cell (i := 2) rfl
      have HC := Lib.hid (base_calls tick time hs wr w2.heap.size p g1 off cap bs _ (.slice none 0 0) hI.par hqp hqg hI.rd A3)
      have HJ := Lib.hid hI
      clear hI
      go_wp2_with fail
      refine (HC.out).mono ?_
      rintro e w3 ⟨rfl, hr, hq, hk⟩
      have HN2 := Lib.hid (HJ.out.step hr hq hk hmp hmq hnp (by omega))
      have HB3 := Lib.hid (hk.blk HB.out (fun e => e.elim hwp hwq))
      clear hr hq hk
      go_wp2_with fail
      exact ⟨⟨3, by simp, HB3.out, .inr (.inr (.inr (.inl ⟨rfl, HN2.out⟩)))⟩, by simp [intOf]⟩
    · have a0 := hI.arr.cell (i := 3) rfl
      have HC := Lib.hid (records_calls tick time x hx wr w2.heap.size p g1 off cap bs _ hI.par hqp hqg hI.rd (by have := hI.arr.lt; omega) A4)
      rw [← HEN.out] at HC
      have hwr : w.heap.size < wr.heap.size := HB.out.lt
      have HJ := Lib.hid hI
      clear hI
      go_wp2_with fail
      refine (HC.out).mono ?_
      rintro e w3 ⟨v, he, hr, hq, hv, hk⟩
      subst he
      have HN2 := Lib.hid (HJ.out.step hr hq hk hmp hmq hnp (by omega))
      have HB3 := Lib.hid (hk.blk HB.out (fun e => e.elim hwp hwq))
      obtain ⟨gv, hSv, hgv⟩ := hv
      have HV3 : Hid (OneP 175 9 (recC (putR x)) v (w.heap.size + 1) w3) := Lib.hid ⟨gv, hSv, by omega⟩
      clear hr hq hk hSv
      go_wp2_with fail
      exact ⟨⟨4, by simp, HB3.out, .inr (.inr (.inr (.inr ⟨rfl, v, HN2.out, HV3.out⟩)))⟩, by simp [intOf]⟩
    · have HD := Lib.hid (done_calls wr p g1 off cap bs hI.rd)
      have q0 := hI.par.cell (i := 0) rfl
      have q1 := hI.par.cell (i := 1) rfl
      have q2 := hI.par.cell (i := 2) rfl
      have q3 := hI.par.cell (i := 3) rfl
      have q4 := hI.par.cell (i := 4) rfl
      have b0 := HB.out.cell (i := 0) rfl
      have b1 := HB.out.cell (i := 1) rfl
      have b2 := HB.out.cell (i := 2) rfl
      have b3 := HB.out.cell (i := 3) rfl
      have f0 := HB.out.free 0
      have f1 := HB.out.free 1
      have f2 := HB.out.free 2
      have f3 := HB.out.free 3
      have HJ := Lib.hid hI
      have HV := Lib.hid hV
      clear hI hV
      obtain ⟨gv, hSv, hgv⟩ := HV.out
      obtain ⟨av, cv, rfl, -, -⟩ := hSv.form
      clear hSv
      go_wp2_with fail
      refine (HD.out).mono ?_
      rintro e w3 ⟨rfl, nd, rfl⟩
      go_wp2_with fail
      have hf := (((HB.out.drewN nd).set 0 (.int .i64 tick)).set 1 (.int .i64 time)).set 2 (.int .i64 (-1)) |>.set 3 (.slice av 1 cv)
      have KS := ((((Kept.refl (· = w.heap.size) wr).drewN nd).setCell (a := ⟨w.heap.size, 0, none⟩) (.inl rfl) (.int .i64 tick)).setCell (a := ⟨w.heap.size, 1, none⟩) (.inl rfl) (.int .i64 time)).setCell (a := ⟨w.heap.size, 2, none⟩) (.inl rfl) (.int .i64 (-1)) |>.setCell (a := ⟨w.heap.size, 3, none⟩) (.inl rfl) (.slice av 1 cv)
      have r0 := hf.cell (i := 0) rfl
      have r1 := hf.cell (i := 1) rfl
      have r2 := hf.cell (i := 2) rfl
      have r3 := hf.cell (i := 3) rfl
      refine bodyPost_ret (v := .tuple #[gramV tick time (-1) (.slice av 1 cv), .int .i64 0]) (by simp [results, Tryz.f69, Tryz.results69, go_sem, r0, r1, r2, r3]) rfl ⟨_, rfl, ?_, HJ.out.kept.trans KS (fun i hi => .inr (by omega))⟩
      obtain ⟨gv', hSv', hgv'⟩ := HV.out
      exact ⟨gv', hSv'.kept KS (fun g' e => by cases e; omega), by omega⟩
end Go.Proofs.YtekdkckgmleofaaGreat

/- Contracts of package delta's functions: Check of a snapshot that may be. -/
namespace Go.Proofs.YtekdkckgmleofaaGreat
open Go.RowKit

/-- Entities as a snapshot may have them. -/
structure EntsOk (xs : List EntM) : Prop where
  len : xs.length ≤ 64
  ok : ∀ x ∈ xs, x.Ok
  rise : xs.Pairwise (fun a b => a.id < b.id)
def lastId (xs : List EntM) : Nat → Int
  | 0 => -1
  | k + 1 => match xs[k]? with
    | some x => x.id
    | none => -1
theorem lastId_lt {xs : List EntM} (h : EntsOk xs) {k : Nat} {x : EntM} (hx : xs[k]? = some x) : lastId xs k < x.id := by
  cases k with
  | zero => have := (h.ok x (List.mem_of_getElem? hx)).id0; show (-1 : Int) < _; omega
  | succ k =>
    obtain ⟨hk, rfl⟩ := List.getElem?_eq_some_iff.1 hx
    have := List.pairwise_iff_getElem.1 h.rise k (k + 1) (by omega) hk (by omega)
    show (match xs[k]? with | some x => x.id | none => -1) < _
    rw [List.getElem?_eq_getElem (show k < xs.length by omega)]
    exact this
theorem entC_len (x : EntM) : (entC x).length = 9 := rfl
/-- The cells of the t-th one in a row of entities. -/
theorem ent_at {w : World} {g off : Nat} {xs : List EntM} (h : ∀ j u, (cellsL entC xs)[j]? = some u → w.cell? ⟨g, off + j, none⟩ = some u) {t : Nat} {x : EntM} (hx : xs[t]? = some x) :
    w.cell? ⟨g, off + t * 9, none⟩ = some (.int .i64 x.id) ∧ w.cell? ⟨g, off + t * 9 + 1, none⟩ = some (.int .i64 x.p0) ∧ w.cell? ⟨g, off + t * 9 + 2, none⟩ = some (.int .i64 x.p1) ∧ w.cell? ⟨g, off + t * 9 + 3, none⟩ = some (.int .i64 x.p2) ∧
    w.cell? ⟨g, off + t * 9 + 4, none⟩ = some (.int .i64 x.v0) ∧ w.cell? ⟨g, off + t * 9 + 5, none⟩ = some (.int .i64 x.v1) ∧ w.cell? ⟨g, off + t * 9 + 6, none⟩ = some (.int .i64 x.v2) ∧ w.cell? ⟨g, off + t * 9 + 7, none⟩ = some (.int .u16 x.ang) ∧ w.cell? ⟨g, off + t * 9 + 8, none⟩ = some (.int .u8 x.gen) := by
  have e := fun j u (hj : j < 9) (hu : (entC x)[j]? = some u) => h (t * 9 + j) u ((cellsL_get entC_len xs t j x hx hj).trans hu)
  exact ⟨e 0 _ (by omega) rfl, e 1 _ (by omega) rfl, e 2 _ (by omega) rfl, e 3 _ (by omega) rfl, e 4 _ (by omega) rfl, e 5 _ (by omega) rfl, e 6 _ (by omega) rfl, e 7 _ (by omega) rfl, e 8 _ (by omega) rfl⟩
abbrev snapC (tick time : Int) (v : Value) : List Value := [.int .i64 tick, .int .i64 time, v]
abbrev snapV (tick time : Int) (v : Value) : Value := .agg (snapC tick time v).toArray
set_option maxRecDepth 100000 in
set_option maxHeartbeats 2000000 in
theorem snapcheck_calls (tick time : Int) (hs : SnapOk tick time) (xs : List EntM) (hx : EntsOk xs) (w : World) (v : Value) (own : Option Nat) (hv : Sl w v 39 9 xs.length (cellsL entC xs) own) :
    Calls Tryz.prog 52 #[snapV tick time v] w fun e w' => e = .returned (.int .i64 0) ∧ Kept (fun _ => False) w w' := by
  obtain ⟨t0, t1, s0, s1⟩ := hs
  obtain ⟨a, cap, rfl, hcap, hcm⟩ := hv.form
  unfold maxLen at hcm
  have hl := hx.len
  have HV := Lib.hid hv
  have HX := Lib.hid hx
  clear hv hx
  have g1 : ¬ tick < 0 := by omega
  have g2 : ¬ 4294967295 < tick := by omega
  have g3 : ¬ time < -2305843009213693952 := by omega
  have g4 : ¬ 2305843009213693952 < time := by omega
  have g5 : ¬ (64 : Int) < xs.length := by omega
  go_enter Tryz.func52, Tryz.ntmps52
  go_wp2_with fail
  clear g1 g2 g3 g4
  go_loopw [3, 33] (fun l i wr => ∃ (k : Nat), k ≤ xs.length ∧ i = .int .i64 k ∧ l = .int .i64 (lastId xs k) ∧ Kept (fun _ => False) w wr) (fun _ i _ => (xs.length - intOf i).toNat)
  case atStart => exact ⟨0, by omega, rfl, rfl, (Kept.refl _ w).alloc _⟩
  case round =>
    obtain ⟨k, hk, rfl, rfl, hK⟩ := hrel
    have HK := Lib.hid hK
    clear hK
    by_cases hlt : k < xs.length
    · obtain ⟨x, hxk⟩ : ∃ x, xs[k]? = some x := ⟨_, List.getElem?_eq_getElem hlt⟩
      have hgt := lastId_lt HX.out hxk
      have hok := HX.out.ok x (List.mem_of_getElem? hxk)
      have h0 := hok.id0
      have h1 := hok.id1
      have HL : Hid (lastId xs (k + 1) = x.id) := Lib.hid (by show (match xs[k]? with | some x => x.id | none => -1) = _; rw [hxk])
      obtain ⟨g, off, cap', ho, hvv, -, -, hc, -⟩ := HV.out.some (by omega)
      cases hvv
      obtain ⟨c0, c1, c2, c3, c4, c5, c6, c7, c8⟩ := ent_at (w := wr) (fun j u hu => HK.out.cell (hc j u hu) (fun h => h)) hxk
      clear hc hxk hok
      generalize lastId xs k = z at *
      have n1 : ¬ x.id < 0 := by omega
      have n2 : ¬ 65535 < x.id := by omega
      have n3 : ¬ x.id ≤ z := by omega
      go_wp2_with fail
      refine ⟨⟨k + 1, by omega, by simp, by rw [HL.out], HK.out.alloc _⟩, by simp [intOf]; omega⟩
    · go_wp2_with fail
      go_ret
      exact ⟨rfl, HK.out⟩
end Go.Proofs.YtekdkckgmleofaaGreat
