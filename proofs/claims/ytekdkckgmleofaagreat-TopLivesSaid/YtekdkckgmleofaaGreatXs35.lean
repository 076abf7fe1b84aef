/- Joined texts. -/
import Derived.Test.YtekdkckgmleofaaGreatXs31
import Derived.Test.YtekdkckgmleofaaGreatXs29
import Derived.Test.YtekdkckgmleofaaGreatXs34
import Derived.Test.YtekdkckgmleofaaGreatXs21
import Derived.Test.YtekdkckgmleofaaGreatXs20
import Derived.Test.YtekdkckgmleofaaGreatXs03
set_option linter.unusedVariables false
set_option linter.unusedSimpArgs false
/- Package client: what a client is in memory; New; Arrive of what may be taken. -/
namespace Go.Proofs.YtekdkckgmleofaaGreat
open Go.RowKit
theorem lay_there {most : Nat} {r : RingM SnapS} {tick time : Int} (h : May most r tick time) (hs : Srt r.l) (hl : r.l.length ≤ most) (sx : SnapS) : (tick, sx) ∈ (layM most r tick sx).1.l := by
  have h1 := h.new
  have h2 := h.fresh
  unfold staleM RingN.untilM at h2
  rw [h1] at h2
  have h3 : ((r.gone && decide (tick ≤ r.floor)) || (decide (plc r.l tick = 0) && decide (r.l.length = most))) = false := by
    rw [Bool.or_eq_false_iff] at h2 ⊢
    refine ⟨h2.1, ?_⟩
    have := h2.2
    rw [Bool.and_comm]
    simpa using this
  have hin : (tick, sx) ∈ insAt r.l tick sx := by unfold insAt; simp
  unfold layM
  rw [if_neg (by rw [h1]; simp), if_neg (by rw [h3]; simp)]
  split
  · exact hin
  · rename_i hgt
    have hle : r.l.length = most := by omega
    have hp : plc r.l tick ≠ 0 := by
      intro e
      rw [e, hle] at h3
      simp at h3
    split
    · rename_i he
      rw [he] at hin
      cases hin
    · rename_i y0 t he
      rw [he] at hin
      rcases List.mem_cons.1 hin with e | e
      · exfalso
        have hpl := plc_le r.l tick
        have hh : (insAt r.l tick sx)[0]? = some y0 := by rw [he]; rfl
        unfold insAt at hh
        rw [List.getElem?_append_left (by simp; omega), List.getElem?_take_of_lt (by omega)] at hh
        have := plc_lt r.l tick 0 y0 (by omega) hh
        rw [← e] at this
        simp at this
      · exact e
theorem lay_has {most : Nat} {r : RingM SnapS} {tick time : Int} (h : May most r tick time) (hs : Srt r.l) (hl : r.l.length ≤ most) (sx : SnapS) (hs' : Srt (layM most r tick sx).1.l) : there (layM most r tick sx).1.l tick = true :=
  (there_iff _ _ hs').2 ⟨sx, lay_there h hs hl sx⟩
abbrev cliC (c : Cfg) (s k : Nat) (n : Int) : List Value := cfgC c ++ [.pointer (some ⟨s, 0, none⟩), .pointer (some ⟨k, 0, none⟩), .int .i64 n]
/-- A client at block q; all its memory lies in F. -/
structure CliAt (w : World) (q s p k : Nat) (F fr fe fk : Nat → Prop) (c : Cfg) (m : ClkM) (K : Nat) (r : RingM SnapS) (cs : List Int) (P : Int → Int → List EntM → Prop) (n : Int) : Prop where
  blk : Blk w q (cliC c s k n) 71
  sto : Sto w s p fr fe c.ring.toNat r cs P
  clk : Clk w k fk c m K
  qs : q ≠ s
  qr : ¬ fr q
  qe : ¬ fe q
  qk : ¬ fk q
  ks : ¬ fk s
  kr : ∀ g, fk g → ¬ fr g
  ke : ∀ g, fk g → ¬ fe g
  fq : F q
  fs : F s
  fR : ∀ g, fr g → F g
  fE : ∀ g, fe g → F g
  fK : ∀ g, fk g → F g
def Cli (w : World) (q : Nat) (F : Nat → Prop) (c : Cfg) (m : ClkM) (K : Nat) (r : RingM SnapS) (P : Int → Int → List EntM → Prop) : Prop :=
  ∃ s p k fr fe fk cs n, CliAt w q s p k F fr fe fk c m K r cs P n
theorem CliAt.kept {G F fr fe fk : Nat → Prop} {w w' : World} {q s p k : Nat} {c : Cfg} {m : ClkM} {K : Nat} {r : RingM SnapS} {cs : List Int} {P : Int → Int → List EntM → Prop} {n : Int} (h : CliAt w q s p k F fr fe fk c m K r cs P n) (kp : Kept G w w') (hF : ∀ g, F g → ¬ G g) : CliAt w' q s p k F fr fe fk c m K r cs P n :=
  { h with
    blk := kp.blk h.blk (hF q h.fq)
    sto := h.sto.kept kp (hF s h.fs) (fun g hg => hF g (h.fR g hg)) (fun g hg => hF g (h.fE g hg))
    clk := h.clk.kept kp (fun g hg => hF g (h.fK g hg)) }
theorem Cli.kept {G F : Nat → Prop} {w w' : World} {q : Nat} {c : Cfg} {m : ClkM} {K : Nat} {r : RingM SnapS} {P : Int → Int → List EntM → Prop} (h : Cli w q F c m K r P) (kp : Kept G w w') (hF : ∀ g, F g → ¬ G g) : Cli w' q F c m K r P := by
  obtain ⟨s, p, k, fr, fe, fk, cs, n, h⟩ := h
  exact ⟨s, p, k, fr, fe, fk, cs, n, h.kept kp hF⟩
theorem Cli.mono {F F' : Nat → Prop} {w : World} {q : Nat} {c : Cfg} {m : ClkM} {K : Nat} {r : RingM SnapS} {P : Int → Int → List EntM → Prop} (h : Cli w q F c m K r P) (hF : ∀ g, g < w.heap.size → F g → F' g) : Cli w q F' c m K r P := by
  obtain ⟨s, p, k, fr, fe, fk, cs, n, h⟩ := h
  refine ⟨s, p, k, fun g => fr g ∧ g < w.heap.size, fun g => fe g ∧ g < w.heap.size, fun g => fk g ∧ g < w.heap.size, cs, n, { h with
    sto := h.sto.mono (fun g hg => ⟨fun h => h.1, fun h => ⟨h, hg⟩⟩) (fun g hg => ⟨fun h => h.1, fun h => ⟨h, hg⟩⟩) (fun g h1 h2 => h.sto.re g h1.1 h2.1)
    clk := h.clk.mono (fun g hg h => ⟨h, hg⟩)
    qr := fun x => h.qr x.1, qe := fun x => h.qe x.1, qk := fun x => h.qk x.1, ks := fun x => h.ks x.1
    kr := fun g h1 h2 => h.kr g h1.1 h2.1
    ke := fun g h1 h2 => h.ke g h1.1 h2.1
    fq := hF q h.blk.lt h.fq
    fs := hF s h.sto.blk.lt h.fs
    fR := fun g hg => hF g hg.2 (h.fR g hg.1)
    fE := fun g hg => hF g hg.2 (h.fE g hg.1)
    fK := fun g hg => hF g hg.2 (h.fK g hg.1) }⟩
def NewCliPost (c : Cfg) (P : Int → Int → List EntM → Prop) (w : World) (e : Ending) (w' : World) : Prop :=
  ∃ q, e = .returned (.tuple #[.pointer (some ⟨q, 0, none⟩), .int .i64 0]) ∧ Cli w' q (fun g => w.heap.size ≤ g ∧ g < w'.heap.size) c ⟨[], 0, tgtM c 0, ⟨0, 0, false⟩⟩ 0 ⟨[], 0, false⟩ P ∧ w.heap.size ≤ q ∧ Kept (fun _ => False) w w'
set_option maxRecDepth 100000 in
set_option maxHeartbeats 4000000 in
theorem clinew_calls (c : Cfg) (hc : COk c) (P : Int → Int → List EntM → Prop) (w : World) :
    Calls Tryz.prog 7 #[cfgV c] w (NewCliPost c P w) := by
  have HC := Lib.hid (fun W => cnew_good c W hc)
  have HS := Lib.hid (fun W => snew_calls c.ring hc.r0 hc.r1 P W)
  go_enter Tryz.func7, Tryz.ntmps7
  go_wp2_with fail
  refine (HC.out _).mono ?_
  rintro e w1 ⟨k, rfl, hclk, hk1⟩
  have HK1 := Lib.hid (((Kept.refl (fun _ => False) w).alloc (.cells (cfgC c).toArray 26)).trans hk1 (fun _ h => h.elim))
  have BC := hk1.blk (Blk.new w (cfgC c) 26) (fun h => h)
  have HCL := Lib.hid hclk
  have b0 := BC.cell (i := 0) rfl
  have HBC := Lib.hid BC
  clear hk1 BC hclk
  go_wp2_with fail
  refine (HS.out _).mono ?_
  rintro e w2 ⟨s, p, rfl, hsto, hp1, hs1, hp2, hs2, hk2⟩
  have BC := hk2.blk HBC.out (fun h => h)
  have d0 := BC.cell (i := 0) rfl
  have d1 := BC.cell (i := 1) rfl
  have d2 := BC.cell (i := 2) rfl
  have d3 := BC.cell (i := 3) rfl
  have d4 := BC.cell (i := 4) rfl
  have d5 := BC.cell (i := 5) rfl
  have d6 := BC.cell (i := 6) rfl
  have d7 := BC.cell (i := 7) rfl
  have d8 := BC.cell (i := 8) rfl
  have d9 := BC.cell (i := 9) rfl
  have d10 := BC.cell (i := 10) rfl
  have HST := Lib.hid hsto
  have HCL2 := Lib.hid (HCL.out.kept hk2 (fun _ _ h => h))
  have HK2 := Lib.hid (HK1.out.trans hk2 (fun _ h => h.elim))
  have hw12 := hk2.size
  have hw1 : w.heap.size + 1 ≤ w1.heap.size := HBC.out.lt
  clear hk2 BC hsto b0
  go_wp2_with fail
  go_ret2
  have kk := (Kept.refl (fun _ => False) w2).alloc (.cells (cliC c s k 0).toArray 71)
  refine ⟨w2.heap.size, rfl, ⟨s, p, k, fun g => g = p, fun _ => False, _, _, 0, ⟨Blk.new w2 (cliC c s k 0) 71, HST.out.kept kk (fun h => h) (fun _ _ h => h) (fun _ _ h => h), HCL2.out.kept kk (fun _ _ h => h), ?_, ?_, fun h => h, ?_, ?_, ?_, fun _ _ h => h, ?_, ?_, ?_, fun _ h => h.elim, ?_⟩⟩, by omega, HK2.out.trans kk (fun _ h => h.elim)⟩ <;> (try simp only [size_alloc]) <;> (try omega) <;> intro g <;> intros <;> omega
end Go.Proofs.YtekdkckgmleofaaGreat

/- Contracts of package pose: check, exact, of. -/
namespace Go.Proofs.YtekdkckgmleofaaGreat
open Go.RowKit
/-- A snapshot lies as told, and is right. -/
structure SnapAt (w : World) (x : SnapS) (ents : List EntM) : Prop where
  lies : ∃ o, Sl w (.slice x.a x.len x.cap) 39 9 ents.length (cellsL entC ents) o
  ok : EntsOk ents
  ts : SnapOk x.tick x.time
theorem SnapAt.kept {w w' : World} {x : SnapS} {ents : List EntM} (h : SnapAt w x ents) (k : Kept (fun _ => False) w w') : SnapAt w' x ents := by
  obtain ⟨⟨o, h1⟩, h2, h3⟩ := h
  exact ⟨⟨o, h1.kept k (fun _ _ h => h)⟩, h2, h3⟩
set_option maxRecDepth 100000 in
set_option maxHeartbeats 2000000 in
theorem pcheck_calls (c : Cfg) (hc : COk c) (xs : List SnapS) (hl : xs.length ≤ 1000) (w : World) (hx : ∀ x ∈ xs, ∃ ents, SnapAt w x ents) (v : Value) (own : Option Nat) (hv : Sl w v 42 3 xs.length (cellsL snC xs) own) :
    Calls Tryz.prog 59 #[cfgV c, v] w fun e w' => e = .returned (.int .i64 0) ∧ Kept (fun _ => False) w w' := by
  obtain ⟨a, cap, rfl, hcap, hcm⟩ := hv.form
  unfold maxLen at hcm
  have HV := Lib.hid hv
  have HX := Lib.hid hx
  have HC := Lib.hid (fun W => ccheck_good c W hc)
  have HS := Lib.hid (fun (x : SnapS) ents W (h : SnapAt W x ents) => by
    obtain ⟨⟨o, h1⟩, h2, h3⟩ := h
    exact snapcheck_calls x.tick x.time h3 ents h2 W _ o h1)
  have HB := Lib.hid (Blk.new w (cfgC c) 26)
  clear hv hx
  go_enter Tryz.func59, Tryz.ntmps59
  go_wp2_with fail
  refine (HC.out _).mono ?_
  rintro e w1 ⟨rfl, hk1⟩
  have HK1 := Lib.hid (((Kept.refl (fun _ => False) w).alloc (.cells (cfgC c).toArray 26)).trans hk1 (fun _ h => h.elim))
  clear hk1
  go_wp2_with fail
  go_loopw [16] (fun i wr => ∃ (k : Nat), k ≤ xs.length ∧ i = .int .i64 k ∧ Kept (fun _ => False) w wr) (fun i _ => (xs.length - intOf i).toNat)
  case atStart => exact ⟨0, by omega, rfl, HK1.out⟩
  case round =>
    obtain ⟨k, hk, rfl, hK⟩ := hrel
    have HK := Lib.hid hK
    clear hK
    by_cases hlt : k < xs.length
    · obtain ⟨x, hxk⟩ : ∃ x, xs[k]? = some x := ⟨_, List.getElem?_eq_getElem hlt⟩
      obtain ⟨ents, hse⟩ := HX.out x (List.mem_of_getElem? hxk)
      have HSE := Lib.hid ((hse.kept HK.out).kept ((Kept.refl (fun _ => False) wr).alloc (.cells (snC x).toArray 42)))
      obtain ⟨g, off, cap', ho, hvv, -, -, hc', -⟩ := HV.out.some (by omega)
      cases hvv
      have hcw := fun j u hu => HK.out.cell (hc' j u hu) (fun h => h)
      obtain ⟨c0, c1, c2⟩ := sn_at (w := wr) hcw hxk
      have hgl : g < wr.heap.size := lt_of_cell c0
      clear hc' hcw hxk hse
      go_wp2_with fail
      refine (HS.out x ents _ HSE.out).mono ?_
      rintro e w2 ⟨rfl, hk2⟩
      have HK2 := Lib.hid ((HK.out.alloc (.cells (snC x).toArray 42)).trans hk2 (fun _ h => h.elim))
      clear hk2 c0 c1 c2
      go_wp2_with fail
      refine ⟨⟨k + 1, by omega, by simp, HK2.out⟩, by simp [intOf]; omega⟩
    · go_wp2_with fail
      go_ret
      exact ⟨rfl, HK.out⟩
/-- What is shown of an entity. -/
structure PoseM where
  id : Int
  p : Nat → Int
  ang : Nat
  mode : Int
abbrev poseC (x : PoseM) : List Value := [.int .i64 x.id, .int .i64 (x.p 0), .int .i64 (x.p 1), .int .i64 (x.p 2), .int .u16 x.ang, .int .i64 x.mode]
abbrev poseV (x : PoseM) : Value := .agg (poseC x).toArray
def posM (x : EntM) : Nat → Int
  | 0 => x.p0
  | 1 => x.p1
  | _ => x.p2
def velM (x : EntM) : Nat → Int
  | 0 => x.v0
  | 1 => x.v1
  | _ => x.v2
theorem pexact_calls (x : EntM) (w : World) : Calls Tryz.prog 95 #[entV x] w fun e w' => e = .returned (poseV ⟨x.id, posM x, x.ang, 0⟩) ∧ Kept (fun _ => False) w w' := by
  go_enter Tryz.func95, Tryz.ntmps95
  go_wp2_with fail
  have hf := Blk.new_at (w := w.alloc (.cells (entC x).toArray 39)) (n := w.heap.size + 1) (by simp) [.int .i64 x.id, .int .i64 x.p0, .int .i64 x.p1, .int .i64 x.p2, .int .u16 x.ang, .int .i64 0] 48
  have r0 := hf.cell (i := 0) rfl
  have r1 := hf.cell (i := 1) rfl
  have r2 := hf.cell (i := 2) rfl
  have r3 := hf.cell (i := 3) rfl
  have r4 := hf.cell (i := 4) rfl
  have r5 := hf.cell (i := 5) rfl
  refine bodyPost_ret (v := poseV ⟨x.id, posM x, x.ang, 0⟩) (by simp [results, Tryz.f95, Tryz.results95, go_sem, r0, r1, r2, r3, r4, r5, posM]) rfl ⟨rfl, ((Kept.refl _ w).alloc _).alloc _⟩
def wayV (b : Bool) : Value := if b then .iface 252 (.agg #[]) else .iface 253 (.agg #[])
theorem pof_calls (c : Cfg) (w : World) : Calls Tryz.prog 98 #[cfgV c] w fun e w' => e = .returned (wayV c.curved) ∧ Kept (fun _ => False) w w' := by
  cases hcu : c.curved <;>
  · go_enter Tryz.func98, Tryz.ntmps98
    go_wp2_with fail
    go_ret
    exact ⟨rfl, (Kept.refl _ w).alloc _⟩
theorem pmodeL_calls (w : World) : Calls Tryz.prog 240 #[.agg #[]] w fun e w' => e = .returned (.int .i64 1) ∧ Kept (fun _ => False) w w' := by
  go_enter Tryz.func240, Tryz.ntmps240
  go_wp2_with fail
  go_ret
  exact ⟨rfl, (Kept.refl _ w).alloc _⟩
theorem pmodeC_calls (w : World) : Calls Tryz.prog 233 #[.agg #[]] w fun e w' => e = .returned (.int .i64 2) ∧ Kept (fun _ => False) w w' := by
  go_enter Tryz.func233, Tryz.ntmps233
  go_wp2_with fail
  go_ret
  exact ⟨rfl, (Kept.refl _ w).alloc _⟩
/-- What the line leads to. -/
def lineM (x y : EntM) (n k : Nat) (j : Nat) : Int := posM x j + (((posM y j - posM x j).toNat * n / k : Nat) : Int)
structure LineOk (x y : EntM) (n : Nat) : Prop where
  d : ∀ j, j < 3 → posM y j - posM x j < 9223372036854775808
  le : ∀ j, j < 3 → posM x j ≤ posM y j
  low : ∀ j, j < 3 → (posM y j - posM x j).toNat * n < 9223372036854775808
theorem posM_bd {x : EntM} (h : x.Ok) (j : Nat) : I64 (posM x j) := by
  have h1 := h.ns
  unfold posM I64
  split
  · exact h1 _ (by simp)
  · exact h1 _ (by simp)
  · exact h1 _ (by simp)
theorem velM_bd {x : EntM} (h : x.Ok) (j : Nat) : I64 (velM x j) := by
  have h1 := h.ns
  unfold velM I64
  split
  · exact h1 _ (by simp)
  · exact h1 _ (by simp)
  · exact h1 _ (by simp)
def CPlPost (x y : EntM) (w : World) (e : Ending) (w' : World) : Prop := ∃ z : Nat → Int, e = .returned (v3 z) ∧ (∀ j, j < 3 → I64 (z j) ∧ (posM x j = posM y j → z j = posM x j)) ∧ Kept (fun _ => False) w w'
set_option maxRecDepth 100000 in
set_option maxHeartbeats 1000000 in
theorem pplaceL_calls (x y : EntM) (hx : x.Ok) (hy : y.Ok) (n k : Nat) (w : World) (h0 : 0 < k) (h1 : k ≤ 4611686018427387904) (h2 : n ≤ k) (h3 : n < 281474976710656) (hL : LineOk x y n) :
    Calls Tryz.prog 241 #[.agg #[], entV x, entV y, .int .i64 n, .int .i64 k] w fun e w' => e = .returned (v3 (lineM x y n k)) ∧ Kept (fun _ => False) w w' := by
  have HV := Lib.hid (fun W => vlerp_calls (posM x) (posM y) (lineM x y n k) n k ((65536 * n / k : Nat) : Int) W (fun j hj W' => by
      have hle := hL.le j hj
      have hlo := hL.low j hj
      have hxb := posM_bd hx j
      have hyb := posM_bd hy j
      have := lerp_up (posM x j) (posM y j - posM x j).toNat n k W' h0 h1 h2 hlo (by have := hL.d j hj; omega) hxb (by rw [show posM x j + (((posM y j - posM x j).toNat : Nat) : Int) = posM y j by omega]; exact hyb)
      rw [show posM x j + (((posM y j - posM x j).toNat : Nat) : Int) = posM y j by omega] at this
      exact this) (fun W' => fpart_low n k W' h0 h1 h2 h3))
  have K0 := ((((Kept.refl (fun _ => False) w).alloc (.cells #[] 253)).alloc (.cells (entC x).toArray 39)).alloc (.cells (entC y).toArray 39)).alloc z3O
  have B0 : Blk ((((w.alloc (.cells #[] 253)).alloc (.cells (entC x).toArray 39)).alloc (.cells (entC y).toArray 39)).alloc z3O) (w.heap.size + 1 + 1 + 1) [.int .i64 0, .int .i64 0, .int .i64 0] 36 := Blk.new_at (by simp) _ _
  clear hL h0 h1 h2 h3
  go_enter Tryz.func241, Tryz.ntmps241
  go_wp2_with fail
  refine (HV.out _).mono ?_
  rintro e w1 ⟨rfl, hk⟩
  have hbk := hk.blk B0 (fun h => h)
  have c0 := (hbk.alloc (o3 (lineM x y n k))).cell (i := 0) rfl
  have c1 := (hbk.alloc (o3 (lineM x y n k))).cell (i := 1) rfl
  have c2 := (hbk.alloc (o3 (lineM x y n k))).cell (i := 2) rfl
  have f0 := (hbk.alloc (o3 (lineM x y n k))).free 0
  have f1 := (hbk.alloc (o3 (lineM x y n k))).free 1
  have f2 := (hbk.alloc (o3 (lineM x y n k))).free 2
  have HK := Lib.hid ((K0.trans hk (fun _ h => h.elim)).alloc (o3 (lineM x y n k)))
  have HB := Lib.hid (hbk.alloc (o3 (lineM x y n k)))
  clear hk hbk B0 K0
  go_wp2_with fail
  have hf := ((HB.out.set 0 (.int .i64 ((lineM x y n k) 0))).set 1 (.int .i64 ((lineM x y n k) 1))).set 2 (.int .i64 ((lineM x y n k) 2))
  have r0 := hf.cell (i := 0) rfl
  have r1 := hf.cell (i := 1) rfl
  have r2 := hf.cell (i := 2) rfl
  have kk : Kept (fun _ => False) w _ := ((HK.out.setCell (a := ⟨w.heap.size + 1 + 1 + 1, 0, none⟩) (.inr (by show w.heap.size ≤ w.heap.size + 1 + 1 + 1; omega)) (.int .i64 ((lineM x y n k) 0))).setCell (a := ⟨w.heap.size + 1 + 1 + 1, 1, none⟩) (.inr (by show w.heap.size ≤ w.heap.size + 1 + 1 + 1; omega)) (.int .i64 ((lineM x y n k) 1))).setCell (a := ⟨w.heap.size + 1 + 1 + 1, 2, none⟩) (.inr (by show w.heap.size ≤ w.heap.size + 1 + 1 + 1; omega)) (.int .i64 ((lineM x y n k) 2))
  refine bodyPost_ret (v := v3 (lineM x y n k)) (by simp [results, Tryz.f241, Tryz.results241, go_sem, r0, r1, r2]) rfl ⟨rfl, kk⟩
set_option maxRecDepth 100000 in
set_option maxHeartbeats 1000000 in
theorem pplaceC_calls (x y : EntM) (hx : x.Ok) (hy : y.Ok) (n k : Nat) (w : World) (h0 : 0 < k) (h1 : k ≤ 4611686018427387904) (h2 : n ≤ k) (h3 : n < 281474976710656) :
    Calls Tryz.prog 234 #[.agg #[], entV x, entV y, .int .i64 n, .int .i64 k] w (CPlPost x y w) := by
  have HV := Lib.hid (fun W => cvec_calls (posM x) (velM x) (posM y) (velM y) n k W h0 h1 h2 h3 (fun j _ => posM_bd hx j) (fun j _ => velM_bd hx j) (fun j _ => posM_bd hy j) (fun j _ => velM_bd hy j))
  have K0 := ((((Kept.refl (fun _ => False) w).alloc (.cells #[] 252)).alloc (.cells (entC x).toArray 39)).alloc (.cells (entC y).toArray 39)).alloc z3O
  have B0 : Blk ((((w.alloc (.cells #[] 252)).alloc (.cells (entC x).toArray 39)).alloc (.cells (entC y).toArray 39)).alloc z3O) (w.heap.size + 1 + 1 + 1) [.int .i64 0, .int .i64 0, .int .i64 0] 36 := Blk.new_at (by simp) _ _
  clear h0 h1 h2 h3
  go_enter Tryz.func234, Tryz.ntmps234
  go_wp2_with fail
  refine (HV.out _).mono ?_
  rintro e w1 ⟨z, rfl, hz, hk⟩
  have HZ := Lib.hid hz
  clear hz
  have hbk := hk.blk B0 (fun h => h)
  have c0 := (hbk.alloc (o3 (z))).cell (i := 0) rfl
  have c1 := (hbk.alloc (o3 (z))).cell (i := 1) rfl
  have c2 := (hbk.alloc (o3 (z))).cell (i := 2) rfl
  have f0 := (hbk.alloc (o3 (z))).free 0
  have f1 := (hbk.alloc (o3 (z))).free 1
  have f2 := (hbk.alloc (o3 (z))).free 2
  have HK := Lib.hid ((K0.trans hk (fun _ h => h.elim)).alloc (o3 (z)))
  have HB := Lib.hid (hbk.alloc (o3 (z)))
  clear hk hbk B0 K0
  go_wp2_with fail
  have hf := ((HB.out.set 0 (.int .i64 ((z) 0))).set 1 (.int .i64 ((z) 1))).set 2 (.int .i64 ((z) 2))
  have r0 := hf.cell (i := 0) rfl
  have r1 := hf.cell (i := 1) rfl
  have r2 := hf.cell (i := 2) rfl
  have kk : Kept (fun _ => False) w _ := ((HK.out.setCell (a := ⟨w.heap.size + 1 + 1 + 1, 0, none⟩) (.inr (by show w.heap.size ≤ w.heap.size + 1 + 1 + 1; omega)) (.int .i64 ((z) 0))).setCell (a := ⟨w.heap.size + 1 + 1 + 1, 1, none⟩) (.inr (by show w.heap.size ≤ w.heap.size + 1 + 1 + 1; omega)) (.int .i64 ((z) 1))).setCell (a := ⟨w.heap.size + 1 + 1 + 1, 2, none⟩) (.inr (by show w.heap.size ≤ w.heap.size + 1 + 1 + 1; omega)) (.int .i64 ((z) 2))
  refine bodyPost_ret (v := v3 z) (by simp [results, Tryz.f234, Tryz.results234, go_sem, r0, r1, r2]) rfl ⟨z, rfl, HZ.out, kk⟩
end Go.Proofs.YtekdkckgmleofaaGreat

/- Contract of delta.Find over one entity, of which the Id is sought. -/
namespace Go.Proofs.YtekdkckgmleofaaGreat
open Go.RowKit
theorem find1_calls (y : EntM) (q : Nat) (w : World) (hq : w.cell? ⟨q, 0, none⟩ = some (.int .i64 y.id)) :
    Calls Tryz.prog 140 #[entV y, .pointer (some ⟨q, 0, none⟩)] w fun e w' => e = .returned (.bool true) ∧ Kept (fun _ => False) w w' := by
  have hb := lt_of_cell hq
  have hqa : (w.alloc (.cells (entC y).toArray 39)).cell? ⟨q, 0, none⟩ = some (.int .i64 y.id) := ((Kept.refl (fun _ => False) w).alloc _).cell hq (fun h => h)
  go_enter Tryz.func140, Tryz.ntmps140
  go_wp2_with fail
  go_ret
  exact ⟨by simp, (Kept.refl _ w).alloc _⟩
set_option maxRecDepth 100000 in
set_option maxHeartbeats 1000000 in
theorem indexF_calls (y : EntM) (q g off cap : Nat) (w : World) (hq : w.cell? ⟨q, 0, none⟩ = some (.int .i64 y.id)) (hc : ∀ j u, (cellsL entC [y])[j]? = some u → w.cell? ⟨g, off + j, none⟩ = some u) :
    Calls Tryz.prog 139 #[.slice (some ⟨g, off, none⟩) 1 cap, .func (.func 140) #[] #[.pointer (some ⟨q, 0, none⟩)]] w fun e w' => e = .returned (.int .i64 0) ∧ Kept (fun _ => False) w w' := by
  obtain ⟨c0, c1, c2, c3, c4, c5, c6, c7, c8⟩ := ent_at hc (t := 0) rfl
  simp only [Nat.zero_mul, Nat.add_zero] at c0 c1 c2 c3 c4 c5 c6 c7 c8
  have HF := Lib.hid (find1_calls y q w hq)
  clear hc hq
  go_enter Tryz.func139, Tryz.ntmps139
  go_wp2_with fail
  go_loopw [8] (fun i wr => i = .int .i64 0 ∧ wr = w) (fun _ _ => 0)
  case atStart => exact ⟨rfl, rfl⟩
  case round =>
    obtain ⟨rfl, rfl⟩ := hrel
    go_wp2_with fail
    refine (HF.out).mono ?_
    rintro e w2 ⟨rfl, hk⟩
    have HK := Lib.hid hk
    clear c0 c1 c2 c3 c4 c5 c6 c7 c8 hk
    go_wp2_with fail
    refine bodyPost_ret (results_tmp rfl _ _ _) rfl ?_
    exact ⟨rfl, HK.out⟩
/-- An entity is laid into a block of its own. -/
abbrev putEnt (w : World) (b : Nat) (y : EntM) : World :=
  ((((((((w.setCell ⟨b, 0, none⟩ (.int .i64 y.id)).setCell ⟨b, 1, none⟩ (.int .i64 y.p0)).setCell ⟨b, 2, none⟩ (.int .i64 y.p1)).setCell ⟨b, 3, none⟩ (.int .i64 y.p2)).setCell ⟨b, 4, none⟩ (.int .i64 y.v0)).setCell ⟨b, 5, none⟩ (.int .i64 y.v1)).setCell ⟨b, 6, none⟩ (.int .i64 y.v2)).setCell ⟨b, 7, none⟩ (.int .u16 y.ang)).setCell ⟨b, 8, none⟩ (.int .u8 y.gen)
theorem putEnt_blk {w : World} {b : Nat} {t : TypeId} {z0 z1 z2 z3 z4 z5 z6 z7 z8 : Value} (h : Blk w b [z0, z1, z2, z3, z4, z5, z6, z7, z8] t) (y : EntM) : Blk (putEnt w b y) b (entC y) t :=
  ((((((((h.set 0 _).set 1 _).set 2 _).set 3 _).set 4 _).set 5 _).set 6 _).set 7 _).set 8 _
theorem putEnt_kept {F : Nat → Prop} {w w' : World} {b : Nat} (h : Kept F w w') (hb : F b ∨ w.heap.size ≤ b) (y : EntM) : Kept F w (putEnt w' b y) :=
  ((((((((h.setCell (a := ⟨b, 0, none⟩) hb _).setCell (a := ⟨b, 1, none⟩) hb _).setCell (a := ⟨b, 2, none⟩) hb _).setCell (a := ⟨b, 3, none⟩) hb _).setCell (a := ⟨b, 4, none⟩) hb _).setCell (a := ⟨b, 5, none⟩) hb _).setCell (a := ⟨b, 6, none⟩) hb _).setCell (a := ⟨b, 7, none⟩) hb _).setCell (a := ⟨b, 8, none⟩) hb _
theorem entb_cells {w : World} {b : Nat} {t : TypeId} {y : EntM} (h : Blk w b (entC y) t) :
    w.cell? ⟨b, 0, none⟩ = some (.int .i64 y.id) ∧ w.cell? ⟨b, 1, none⟩ = some (.int .i64 y.p0) ∧ w.cell? ⟨b, 2, none⟩ = some (.int .i64 y.p1) ∧ w.cell? ⟨b, 3, none⟩ = some (.int .i64 y.p2) ∧
    w.cell? ⟨b, 4, none⟩ = some (.int .i64 y.v0) ∧ w.cell? ⟨b, 5, none⟩ = some (.int .i64 y.v1) ∧ w.cell? ⟨b, 6, none⟩ = some (.int .i64 y.v2) ∧ w.cell? ⟨b, 7, none⟩ = some (.int .u16 y.ang) ∧ w.cell? ⟨b, 8, none⟩ = some (.int .u8 y.gen) :=
  ⟨h.cell (i := 0) rfl, h.cell (i := 1) rfl, h.cell (i := 2) rfl, h.cell (i := 3) rfl, h.cell (i := 4) rfl, h.cell (i := 5) rfl, h.cell (i := 6) rfl, h.cell (i := 7) rfl, h.cell (i := 8) rfl⟩
def FindPost (y : EntM) (w : World) (e : Ending) (w' : World) : Prop := e = .returned (.tuple #[entV y, .bool true]) ∧ Kept (fun _ => False) w w'
set_option maxRecDepth 100000 in
set_option maxHeartbeats 1000000 in
theorem find_calls (s : SnapS) (y : EntM) (w : World) (h : SnapAt w s [y]) :
    Calls Tryz.prog 99 #[sv s, .int .i64 y.id] w (FindPost y w) := by
  obtain ⟨⟨o, hs⟩, -, -⟩ := h
  obtain ⟨g, off, cap, ho, hv, hcap, -, hc, -⟩ := hs.some (by simp)
  simp only [Value.slice.injEq, List.length_singleton] at hv
  obtain ⟨e1, e2, e3⟩ := hv
  have K0 := (((Kept.refl (fun _ => False) w).alloc (.cells (snC s).toArray 42)).alloc (.cells #[.int .i64 y.id] 3)).alloc (.cells #[.int .i64 0, .int .i64 0, .int .i64 0, .int .i64 0, .int .i64 0, .int .i64 0, .int .i64 0, .int .u16 0, .int .u8 0] 39)
  have hc' := fun j u hu => K0.cell (hc j u hu) (fun h => h)
  obtain ⟨c0, c1, c2, c3, c4, c5, c6, c7, c8⟩ := ent_at hc (t := 0) rfl
  simp only [Nat.zero_mul, Nat.add_zero] at c0 c1 c2 c3 c4 c5 c6 c7 c8
  have hgl : g < w.heap.size := lt_of_cell c0
  clear hs hc
  go_enter Tryz.func99, Tryz.ntmps99
  go_wp2_with fail
  refine (indexF_calls y _ g off cap _ (by
    exact ((Blk.new_at (w := w.alloc (.cells #[.int .i64 s.tick, .int .i64 s.time, .slice (some ⟨g, off, none⟩) 1 cap] 42)) (n := w.heap.size + 1) (by simp) [.int .i64 y.id] 3).alloc _).cell (i := 0) rfl) (by
    intro j u hu
    rw [← e1, ← e2, ← e3]
    exact hc' j u hu)).mono ?_
  rintro e w2 ⟨rfl, hk2⟩
  have hk2' : Kept (fun _ => False) (((w.alloc (.cells #[.int .i64 s.tick, .int .i64 s.time, .slice (some ⟨g, off, none⟩) 1 cap] 42)).alloc (.cells #[.int .i64 y.id] 3)).alloc (.cells #[.int .i64 0, .int .i64 0, .int .i64 0, .int .i64 0, .int .i64 0, .int .i64 0, .int .i64 0, .int .u16 0, .int .u8 0] 39)) w2 := hk2
  have S2 := hk2'.blk (((Blk.new w [.int .i64 s.tick, .int .i64 s.time, .slice (some ⟨g, off, none⟩) 1 cap] 42).alloc _).alloc _) (fun h => h)
  have R2 := hk2'.blk (Blk.new_at (w := (w.alloc (.cells #[.int .i64 s.tick, .int .i64 s.time, .slice (some ⟨g, off, none⟩) 1 cap] 42)).alloc (.cells #[.int .i64 y.id] 3)) (n := w.heap.size + 1 + 1) (by simp) [.int .i64 0, .int .i64 0, .int .i64 0, .int .i64 0, .int .i64 0, .int .i64 0, .int .i64 0, .int .u16 0, .int .u8 0] 39) (fun h => h)
  have s2 := S2.cell (i := 2) rfl
  have kw : Kept (fun _ => False) w w2 := ((((Kept.refl (fun _ => False) w).alloc _).alloc _).alloc _).trans hk2' (fun _ h => h.elim)
  have d0 := kw.cell c0 (fun h => h)
  have d1 := kw.cell c1 (fun h => h)
  have d2 := kw.cell c2 (fun h => h)
  have d3 := kw.cell c3 (fun h => h)
  have d4 := kw.cell c4 (fun h => h)
  have d5 := kw.cell c5 (fun h => h)
  have d6 := kw.cell c6 (fun h => h)
  have d7 := kw.cell c7 (fun h => h)
  have d8 := kw.cell c8 (fun h => h)
  have r0 := R2.cell (i := 0) rfl
  have r1 := R2.cell (i := 1) rfl
  have r2 := R2.cell (i := 2) rfl
  have r3 := R2.cell (i := 3) rfl
  have r4 := R2.cell (i := 4) rfl
  have r5 := R2.cell (i := 5) rfl
  have r6 := R2.cell (i := 6) rfl
  have r7 := R2.cell (i := 7) rfl
  have r8 := R2.cell (i := 8) rfl
  have f0 := R2.free 0
  have f1 := R2.free 1
  have f2 := R2.free 2
  have f3 := R2.free 3
  have f4 := R2.free 4
  have f5 := R2.free 5
  have f6 := R2.free 6
  have f7 := R2.free 7
  have f8 := R2.free 8
  have HK := Lib.hid kw
  have HR := Lib.hid R2
  clear hk2 hk2' S2 R2 kw c0 c1 c2 c3 c4 c5 c6 c7 c8 hc' K0
  go_wp2_with fail
  obtain ⟨t0, t1, t2, t3, t4, t5, t6, t7, t8⟩ := entb_cells (putEnt_blk HR.out y)
  refine bodyPost_ret (v := .tuple #[entV y, .bool true]) (by simp [results, Tryz.f99, Tryz.results99, go_sem, t0, t1, t2, t3, t4, t5, t6, t7, t8]) rfl ⟨rfl, putEnt_kept HK.out (.inr (by omega)) y⟩
end Go.Proofs.YtekdkckgmleofaaGreat

/- Contract of pose.Beyond, of a snapshot of one entity. -/
namespace Go.Proofs.YtekdkckgmleofaaGreat
open Go.RowKit
abbrev zpose : List Value := [.int .i64 0, .int .i64 0, .int .i64 0, .int .i64 0, .int .u16 0, .int .i64 0]
theorem infoPose : (Tryz.prog.info? 48).map (fun i => (i.zero, i.size, i.bytes)) = some (some (.agg zpose.toArray), 6, 48) := by kernel_rfl
/-- How far beyond, and how. -/
def beyP (c : Cfg) (x : EntM) (D : Int) : PoseM :=
  if D = 0 then ⟨x.id, goM (posM x) (velM x) D, x.ang, 0⟩
  else if c.extra < D then ⟨x.id, goM (posM x) (velM x) c.extra, x.ang, 4⟩
  else ⟨x.id, goM (posM x) (velM x) D, x.ang, 3⟩
def PosePost (x : PoseM) (w : World) (e : Ending) (w' : World) : Prop :=
  ∃ v, e = .returned (.tuple #[v, .int .i64 0]) ∧ OneP 48 6 (poseC x) v w.heap.size w' ∧ Kept (fun _ => False) w w'
abbrev exO (x : EntM) : Obj := .cells #[.int .i64 x.id, .int .i64 (posM x 0), .int .i64 (posM x 1), .int .i64 (posM x 2), .int .u16 x.ang, .int .i64 0] 48
set_option maxRecDepth 100000 in
set_option maxHeartbeats 4000000 in
theorem beyond_calls (c : Cfg) (hc : COk c) (n : SnapS) (x : EntM) (w : World) (h : SnapAt w n [x]) (at_ : Int) (hle : n.time ≤ at_) (hat : I64 at_) :
    Calls Tryz.prog 61 #[cfgV c, sv n, .int .i64 at_] w (PosePost (beyP c x (satI (at_ - n.time))) w) := by
  have hts := h.ts
  obtain ⟨t0, t1, s0, s1⟩ := hts
  have htm : TimesOk [n] := ⟨by simp; omega, by simp⟩
  have HC := Lib.hid (fun W hx v own hv => pcheck_calls c hc [n] (by simp) W hx v own hv)
  have HB := Lib.hid (fun W => bbeyond_calls n at_ htm hle hat W)
  have HE := Lib.hid (fun W => pexact_calls x W)
  have hxo : x.Ok := h.ok.ok x (by simp)
  have hd : I64 (satI (at_ - n.time)) := satI_bd _
  have hex : I64 c.extra := by
    have h1 := hc.x0
    have h2 := hc.x1
    unfold I64; omega
  have HG := Lib.hid (fun d W (hd : I64 d) => vgo_calls (posM x) (velM x) d W (fun j _ => posM_bd hxo j) (fun j _ => velM_bd hxo j) hd)
  have HN := Lib.hid h
  obtain ⟨⟨o, hs⟩, -, -⟩ := h
  obtain ⟨g, off, cap, ho, hv, hcap, -, hcc, -⟩ := hs.some (by simp)
  simp only [Value.slice.injEq, List.length_singleton] at hv
  obtain ⟨tk, tm, na, nl, nc⟩ := n
  dsimp only at *
  obtain ⟨e1, e2, e3⟩ := hv
  subst e1
  subst e2
  subst e3
  obtain ⟨x0, x1, x2, x3, x4, x5, x6, x7, x8⟩ := ent_at hcc (t := 0) rfl
  simp only [Nat.zero_mul, Nat.add_zero] at x0 x1 x2 x3 x4 x5 x6 x7 x8
  have hgl : g < w.heap.size := lt_of_cell x0
  clear hs hcc
  have HX : Hid (w.cell? ⟨g, off, none⟩ = some (.int .i64 x.id) ∧ w.cell? ⟨g, off + 1, none⟩ = some (.int .i64 x.p0) ∧ w.cell? ⟨g, off + 2, none⟩ = some (.int .i64 x.p1) ∧ w.cell? ⟨g, off + 3, none⟩ = some (.int .i64 x.p2) ∧ w.cell? ⟨g, off + 4, none⟩ = some (.int .i64 x.v0) ∧ w.cell? ⟨g, off + 5, none⟩ = some (.int .i64 x.v1) ∧ w.cell? ⟨g, off + 6, none⟩ = some (.int .i64 x.v2) ∧ w.cell? ⟨g, off + 7, none⟩ = some (.int .u16 x.ang) ∧ w.cell? ⟨g, off + 8, none⟩ = some (.int .u8 x.gen)) := Lib.hid ⟨x0, x1, x2, x3, x4, x5, x6, x7, x8⟩
  clear x0 x1 x2 x3 x4 x5 x6 x7 x8
  have HSL : Hid (∀ o1 o2, Sl (((w.alloc o1).alloc o2).alloc (.cells #[.int .i64 tk, .int .i64 tm, .slice (some ⟨g, off, none⟩) 1 nc] 42)) (.slice (some ⟨w.heap.size + 1 + 1, 0, none⟩) 1 1) 42 3 1 (cellsL snC [⟨tk, tm, some ⟨g, off, none⟩, 1, nc⟩]) (some (w.heap.size + 1 + 1))) := Lib.hid (fun o1 o2 => by
    have := Sl.made ((w.alloc o1).alloc o2) (cellsL snC [⟨tk, tm, some ⟨g, off, none⟩, 1, nc⟩]) 42 3 1 rfl (by decide)
    rw [size_alloc, size_alloc] at this
    exact this)
  generalize satI (at_ - tm) = D at *
  by_cases h0 : D = 0
  · rw [beyP, if_pos h0]
    subst h0
    go_enter Tryz.func61, Tryz.ntmps61
    go_wp2_with fail
    refine (HC.out _ (by simp only [List.mem_singleton, forall_eq]; exact ⟨_, HN.out.kept ((((Kept.refl (fun _ => False) w).alloc _).alloc _).alloc _)⟩) _ _ (by exact HSL.out _ _)).mono ?_
    rintro e w1 ⟨rfl, hk1⟩
    have HK1 := Lib.hid (((((Kept.refl (fun _ => False) w).alloc _).alloc _).alloc _).trans hk1 (fun _ h => h.elim))
    have BC := hk1.blk (((Blk.new w (cfgC c) 26).alloc _).alloc _) (fun h => h)
    have BN := hk1.blk ((Blk.new_at (w := w.alloc (.cells (cfgC c).toArray 26)) (n := w.heap.size + 1) (by simp) [.int .i64 tk, .int .i64 tm, .slice (some ⟨g, off, none⟩) 1 nc] 42).alloc _) (fun h => h)
    have s0 := BN.cell (i := 0) rfl
    have s1 := BN.cell (i := 1) rfl
    have s2 := BN.cell (i := 2) rfl
    have HBC := Lib.hid BC
    have HBN := Lib.hid BN
    clear hk1 BC BN
    go_wp2_with fail
    refine (HB.out _).mono ?_
    rintro e w2 ⟨rfl, hk2⟩
    have HK2 := Lib.hid (HK1.out.trans hk2 (fun _ h => h.elim))
    have cx := (hk2.blk HBC.out (fun h => h)).cell (i := 9) rfl
    have n2 := (hk2.blk HBN.out (fun h => h)).cell (i := 2) rfl
    clear hk2 s0 s1 s2
    go_wp2_with fail
    first | (go_quiet (fail); go_wp2_with fail) | skip
    go_outline
    go_loopw [12, 45] (fun l i wr => ∃ (k : Nat) (y : Value), i = .int .i64 k ∧ l = y ∧ (k = 0 ∧ y = .slice none 0 0 ∧ Kept (fun _ => False) w wr ∨ k = 1 ∧ OneP 48 6 (poseC ⟨x.id, goM (posM x) (velM x) (0), x.ang, 0⟩) y w.heap.size wr ∧ Kept (fun _ => False) w wr)) (fun _ i _ => (1 - intOf i).toNat)
    case atStart => first | exact ⟨0, _, rfl, rfl, .inl ⟨rfl, rfl, HK2.out⟩⟩ | exact ⟨0, _, rfl, rfl, .inl ⟨rfl, rfl, HK2.out.drewN _⟩⟩
    case round =>
      obtain ⟨k, y, rfl, hy, hk⟩ := hrel
      have hy2 := hy.symm
      clear hy
      subst hy2
      rcases hk with ⟨rfl, rfl, hK⟩ | ⟨rfl, hP, hK⟩
      · have HK := Lib.hid hK
        obtain ⟨x0, x1, x2, x3, x4, x5, x6, x7, x8⟩ := HX.out
        have hgw : g < wr.heap.size := Nat.lt_of_lt_of_le hgl hK.size
        have c0 := hK.cell x0 (fun h => h)
        have c1 := hK.cell x1 (fun h => h)
        have c2 := hK.cell x2 (fun h => h)
        have c3 := hK.cell x3 (fun h => h)
        have c4 := hK.cell x4 (fun h => h)
        have c5 := hK.cell x5 (fun h => h)
        have c6 := hK.cell x6 (fun h => h)
        have c7 := hK.cell x7 (fun h => h)
        have c8 := hK.cell x8 (fun h => h)
        clear hK x0 x1 x2 x3 x4 x5 x6 x7 x8
        go_wp2_with fail
        refine (HE.out _).mono ?_
        rintro e w3 ⟨rfl, hk3⟩
        have hb3 := hk3.blk (Blk.new wr (entC x) 39) (fun h => h)
        have HB3 := Lib.hid hb3
        have HK3 := Lib.hid ((HK.out.alloc (.cells (entC x).toArray 39)).trans hk3 (fun _ h => h.elim))
        have hn3 : wr.heap.size < w3.heap.size := hb3.lt
        have q0 : (w3.alloc (.cells #[.int .i64 x.id, .int .i64 (posM x 0), .int .i64 (posM x 1), .int .i64 (posM x 2), .int .u16 x.ang, .int .i64 0] 48)).cell? ⟨wr.heap.size, 1, none⟩ = some (.int .i64 (posM x 0)) := (hb3.alloc (exO x)).cell (i := 1) rfl
        have q1 : (w3.alloc (.cells #[.int .i64 x.id, .int .i64 (posM x 0), .int .i64 (posM x 1), .int .i64 (posM x 2), .int .u16 x.ang, .int .i64 0] 48)).cell? ⟨wr.heap.size, 2, none⟩ = some (.int .i64 (posM x 1)) := (hb3.alloc (exO x)).cell (i := 2) rfl
        have q2 : (w3.alloc (.cells #[.int .i64 x.id, .int .i64 (posM x 0), .int .i64 (posM x 1), .int .i64 (posM x 2), .int .u16 x.ang, .int .i64 0] 48)).cell? ⟨wr.heap.size, 3, none⟩ = some (.int .i64 (posM x 2)) := (hb3.alloc (exO x)).cell (i := 3) rfl
        have q3 : (w3.alloc (.cells #[.int .i64 x.id, .int .i64 (posM x 0), .int .i64 (posM x 1), .int .i64 (posM x 2), .int .u16 x.ang, .int .i64 0] 48)).cell? ⟨wr.heap.size, 4, none⟩ = some (.int .i64 (velM x 0)) := (hb3.alloc (exO x)).cell (i := 4) rfl
        have q4 : (w3.alloc (.cells #[.int .i64 x.id, .int .i64 (posM x 0), .int .i64 (posM x 1), .int .i64 (posM x 2), .int .u16 x.ang, .int .i64 0] 48)).cell? ⟨wr.heap.size, 5, none⟩ = some (.int .i64 (velM x 1)) := (hb3.alloc (exO x)).cell (i := 5) rfl
        have q5 : (w3.alloc (.cells #[.int .i64 x.id, .int .i64 (posM x 0), .int .i64 (posM x 1), .int .i64 (posM x 2), .int .u16 x.ang, .int .i64 0] 48)).cell? ⟨wr.heap.size, 6, none⟩ = some (.int .i64 (velM x 2)) := (hb3.alloc (exO x)).cell (i := 6) rfl
        clear hk3 hb3 c0 c1 c2 c3 c4 c5 c6 c7 c8
        go_wp2_with fail
        refine (HG.out (0) _ (by first | exact hex | exact hd)).mono ?_
        rintro e w4 ⟨rfl, hk4⟩
        have P4 := hk4.blk (Blk.new w3 [.int .i64 x.id, .int .i64 (posM x 0), .int .i64 (posM x 1), .int .i64 (posM x 2), .int .u16 x.ang, .int .i64 0] 48) (fun h => h)
        have HP4 := Lib.hid P4
        have HK4 := Lib.hid ((HK3.out.alloc (exO x)).trans hk4 (fun _ h => h.elim))
        have p0 := P4.cell (i := 0) rfl
        have p1 := P4.cell (i := 1) rfl
        have p2 := P4.cell (i := 2) rfl
        have p3 := P4.cell (i := 3) rfl
        have p4 := P4.cell (i := 4) rfl
        have p5 := P4.cell (i := 5) rfl
        have g1 := P4.free 1
        have g2 := P4.free 2
        have g3 := P4.free 3
        have g5 := P4.free 5
        clear q0 q1 q2 q3 q4 q5 hk4 P4
        obtain ⟨j0, hi, hz0, hz1, hz2⟩ := info_parts infoPose
        have HI := Lib.hid hi
        have HZ0 := Lib.hid hz0
        have HZ1 := Lib.hid hz1
        have HZ2 := Lib.hid hz2
        have HSR : Hid (∀ (W : World) (b : Nat), b = W.heap.size → Src (W.alloc (.cells #[.int .i64 x.id, .int .i64 (goM (posM x) (velM x) (0) 0), .int .i64 (goM (posM x) (velM x) (0) 1), .int .i64 (goM (posM x) (velM x) (0) 2), .int .u16 x.ang, .int .i64 0] 48)) (.slice (some ⟨b, 0, none⟩) 1 1) 1 (poseC ⟨x.id, goM (posM x) (velM x) (0), x.ang, 0⟩)) := Lib.hid (fun W b hb => hb ▸ (Sl.made W (poseC ⟨x.id, goM (posM x) (velM x) (0), x.ang, 0⟩) 48 6 1 rfl (by decide)).src)
        have HO : Hid (∀ u ∈ poseC ⟨x.id, goM (posM x) (velM x) (0), x.ang, 0⟩, u.oneCell' = true) := Lib.hid (by simp [Value.oneCell'])
        clear hi hz0 hz1 hz2
        go_wp2_with (at_builtin; refine wpList_append_sl _ rfl _ _ 43 rfl 48 j0 (.agg zpose.toArray) 6 48 Tryz.underlying43 HI.out HZ0.out HZ1.out HZ2.out rfl _ 0 [] none rfl (Sl.nil _ _ _) _ 1 (poseC ⟨x.id, goM (posM x) (velM x) (0), x.ang, 0⟩) rfl (by exact HSR.out _ _ (by simp)) rfl HO.out (by decide) (by decide) ?_; intro v5 w5 own5 hS5 ho5 hK5; have SA := Lib.hid hS5; have OA := Lib.hid ho5; have KA := Lib.hid hK5; clear hS5 ho5 hK5)
        have HF : Hid (OneP 48 6 (poseC ⟨x.id, goM (posM x) (velM x) (0), x.ang, 0⟩) v5 w.heap.size w5 ∧ Kept (fun _ => False) w w5) := Lib.hid (by
          have hw3 := HK3.out.size
          have KW := (((((HK4.out.setCell (a := ⟨w3.heap.size, 5, none⟩) (.inr hw3) _).setCell (a := ⟨w3.heap.size, 1, none⟩) (.inr hw3) _).setCell (a := ⟨w3.heap.size, 2, none⟩) (.inr hw3) _).setCell (a := ⟨w3.heap.size, 3, none⟩) (.inr hw3) _).alloc _).trans KA.out (fun _ h => by cases h)
          refine ⟨?_, KW⟩
          rcases OA.out with e | e
          · have := SA.out
            rw [e] at this
            rcases this.2 with ⟨hh, h2, _⟩ | ⟨_, _, _, _, hh, _⟩
            · cases h2
            · cases hh
          · have := SA.out
            rw [e] at this
            have hw4 := HK4.out.size
            exact ⟨_, this, by simp; omega⟩)
        go_wp2_with fail
        exact ⟨⟨1, _, by simp, rfl, .inr ⟨rfl, HF.out.1, HF.out.2⟩⟩, by simp [intOf]⟩
      · have HP := Lib.hid hP
        have HK := Lib.hid hK
        clear hP hK
        go_wp2_with fail
        go_ret2
        exact ⟨_, rfl, HP.out, HK.out⟩
  · have h0b : (D == 0) = false := by simp [h0]
    by_cases h1 : c.extra < D
    · rw [beyP, if_neg h0, if_pos h1]
      go_enter Tryz.func61, Tryz.ntmps61
      go_wp2_with fail
      refine (HC.out _ (by simp only [List.mem_singleton, forall_eq]; exact ⟨_, HN.out.kept ((((Kept.refl (fun _ => False) w).alloc _).alloc _).alloc _)⟩) _ _ (by exact HSL.out _ _)).mono ?_
      rintro e w1 ⟨rfl, hk1⟩
      have HK1 := Lib.hid (((((Kept.refl (fun _ => False) w).alloc _).alloc _).alloc _).trans hk1 (fun _ h => h.elim))
      have BC := hk1.blk (((Blk.new w (cfgC c) 26).alloc _).alloc _) (fun h => h)
      have BN := hk1.blk ((Blk.new_at (w := w.alloc (.cells (cfgC c).toArray 26)) (n := w.heap.size + 1) (by simp) [.int .i64 tk, .int .i64 tm, .slice (some ⟨g, off, none⟩) 1 nc] 42).alloc _) (fun h => h)
      have s0 := BN.cell (i := 0) rfl
      have s1 := BN.cell (i := 1) rfl
      have s2 := BN.cell (i := 2) rfl
      have HBC := Lib.hid BC
      have HBN := Lib.hid BN
      clear hk1 BC BN
      go_wp2_with fail
      refine (HB.out _).mono ?_
      rintro e w2 ⟨rfl, hk2⟩
      have HK2 := Lib.hid (HK1.out.trans hk2 (fun _ h => h.elim))
      have cx := (hk2.blk HBC.out (fun h => h)).cell (i := 9) rfl
      have n2 := (hk2.blk HBN.out (fun h => h)).cell (i := 2) rfl
      clear hk2 s0 s1 s2
      go_wp2_with fail
      first | (go_quiet (fail); go_wp2_with fail) | skip
      go_outline
      go_loopw [12, 45] (fun l i wr => ∃ (k : Nat) (y : Value), i = .int .i64 k ∧ l = y ∧ (k = 0 ∧ y = .slice none 0 0 ∧ Kept (fun _ => False) w wr ∨ k = 1 ∧ OneP 48 6 (poseC ⟨x.id, goM (posM x) (velM x) (c.extra), x.ang, 4⟩) y w.heap.size wr ∧ Kept (fun _ => False) w wr)) (fun _ i _ => (1 - intOf i).toNat)
      case atStart => first | exact ⟨0, _, rfl, rfl, .inl ⟨rfl, rfl, HK2.out⟩⟩ | exact ⟨0, _, rfl, rfl, .inl ⟨rfl, rfl, HK2.out.drewN _⟩⟩
      case round =>
        obtain ⟨k, y, rfl, hy, hk⟩ := hrel
        have hy2 := hy.symm
        clear hy
        subst hy2
        rcases hk with ⟨rfl, rfl, hK⟩ | ⟨rfl, hP, hK⟩
        · have HK := Lib.hid hK
          obtain ⟨x0, x1, x2, x3, x4, x5, x6, x7, x8⟩ := HX.out
          have hgw : g < wr.heap.size := Nat.lt_of_lt_of_le hgl hK.size
          have c0 := hK.cell x0 (fun h => h)
          have c1 := hK.cell x1 (fun h => h)
          have c2 := hK.cell x2 (fun h => h)
          have c3 := hK.cell x3 (fun h => h)
          have c4 := hK.cell x4 (fun h => h)
          have c5 := hK.cell x5 (fun h => h)
          have c6 := hK.cell x6 (fun h => h)
          have c7 := hK.cell x7 (fun h => h)
          have c8 := hK.cell x8 (fun h => h)
          clear hK x0 x1 x2 x3 x4 x5 x6 x7 x8
          go_wp2_with fail
          refine (HE.out _).mono ?_
          rintro e w3 ⟨rfl, hk3⟩
          have hb3 := hk3.blk (Blk.new wr (entC x) 39) (fun h => h)
          have HB3 := Lib.hid hb3
          have HK3 := Lib.hid ((HK.out.alloc (.cells (entC x).toArray 39)).trans hk3 (fun _ h => h.elim))
          have hn3 : wr.heap.size < w3.heap.size := hb3.lt
          have q0 : (w3.alloc (.cells #[.int .i64 x.id, .int .i64 (posM x 0), .int .i64 (posM x 1), .int .i64 (posM x 2), .int .u16 x.ang, .int .i64 0] 48)).cell? ⟨wr.heap.size, 1, none⟩ = some (.int .i64 (posM x 0)) := (hb3.alloc (exO x)).cell (i := 1) rfl
          have q1 : (w3.alloc (.cells #[.int .i64 x.id, .int .i64 (posM x 0), .int .i64 (posM x 1), .int .i64 (posM x 2), .int .u16 x.ang, .int .i64 0] 48)).cell? ⟨wr.heap.size, 2, none⟩ = some (.int .i64 (posM x 1)) := (hb3.alloc (exO x)).cell (i := 2) rfl
          have q2 : (w3.alloc (.cells #[.int .i64 x.id, .int .i64 (posM x 0), .int .i64 (posM x 1), .int .i64 (posM x 2), .int .u16 x.ang, .int .i64 0] 48)).cell? ⟨wr.heap.size, 3, none⟩ = some (.int .i64 (posM x 2)) := (hb3.alloc (exO x)).cell (i := 3) rfl
          have q3 : (w3.alloc (.cells #[.int .i64 x.id, .int .i64 (posM x 0), .int .i64 (posM x 1), .int .i64 (posM x 2), .int .u16 x.ang, .int .i64 0] 48)).cell? ⟨wr.heap.size, 4, none⟩ = some (.int .i64 (velM x 0)) := (hb3.alloc (exO x)).cell (i := 4) rfl
          have q4 : (w3.alloc (.cells #[.int .i64 x.id, .int .i64 (posM x 0), .int .i64 (posM x 1), .int .i64 (posM x 2), .int .u16 x.ang, .int .i64 0] 48)).cell? ⟨wr.heap.size, 5, none⟩ = some (.int .i64 (velM x 1)) := (hb3.alloc (exO x)).cell (i := 5) rfl
          have q5 : (w3.alloc (.cells #[.int .i64 x.id, .int .i64 (posM x 0), .int .i64 (posM x 1), .int .i64 (posM x 2), .int .u16 x.ang, .int .i64 0] 48)).cell? ⟨wr.heap.size, 6, none⟩ = some (.int .i64 (velM x 2)) := (hb3.alloc (exO x)).cell (i := 6) rfl
          clear hk3 hb3 c0 c1 c2 c3 c4 c5 c6 c7 c8
          go_wp2_with fail
          refine (HG.out (c.extra) _ (by first | exact hex | exact hd)).mono ?_
          rintro e w4 ⟨rfl, hk4⟩
          have P4 := hk4.blk (Blk.new w3 [.int .i64 x.id, .int .i64 (posM x 0), .int .i64 (posM x 1), .int .i64 (posM x 2), .int .u16 x.ang, .int .i64 0] 48) (fun h => h)
          have HP4 := Lib.hid P4
          have HK4 := Lib.hid ((HK3.out.alloc (exO x)).trans hk4 (fun _ h => h.elim))
          have p0 := P4.cell (i := 0) rfl
          have p1 := P4.cell (i := 1) rfl
          have p2 := P4.cell (i := 2) rfl
          have p3 := P4.cell (i := 3) rfl
          have p4 := P4.cell (i := 4) rfl
          have p5 := P4.cell (i := 5) rfl
          have g1 := P4.free 1
          have g2 := P4.free 2
          have g3 := P4.free 3
          have g5 := P4.free 5
          clear q0 q1 q2 q3 q4 q5 hk4 P4
          obtain ⟨j0, hi, hz0, hz1, hz2⟩ := info_parts infoPose
          have HI := Lib.hid hi
          have HZ0 := Lib.hid hz0
          have HZ1 := Lib.hid hz1
          have HZ2 := Lib.hid hz2
          have HSR : Hid (∀ (W : World) (b : Nat), b = W.heap.size → Src (W.alloc (.cells #[.int .i64 x.id, .int .i64 (goM (posM x) (velM x) (c.extra) 0), .int .i64 (goM (posM x) (velM x) (c.extra) 1), .int .i64 (goM (posM x) (velM x) (c.extra) 2), .int .u16 x.ang, .int .i64 4] 48)) (.slice (some ⟨b, 0, none⟩) 1 1) 1 (poseC ⟨x.id, goM (posM x) (velM x) (c.extra), x.ang, 4⟩)) := Lib.hid (fun W b hb => hb ▸ (Sl.made W (poseC ⟨x.id, goM (posM x) (velM x) (c.extra), x.ang, 4⟩) 48 6 1 rfl (by decide)).src)
          have HO : Hid (∀ u ∈ poseC ⟨x.id, goM (posM x) (velM x) (c.extra), x.ang, 4⟩, u.oneCell' = true) := Lib.hid (by simp [Value.oneCell'])
          clear hi hz0 hz1 hz2
          go_wp2_with (at_builtin; refine wpList_append_sl _ rfl _ _ 43 rfl 48 j0 (.agg zpose.toArray) 6 48 Tryz.underlying43 HI.out HZ0.out HZ1.out HZ2.out rfl _ 0 [] none rfl (Sl.nil _ _ _) _ 1 (poseC ⟨x.id, goM (posM x) (velM x) (c.extra), x.ang, 4⟩) rfl (by exact HSR.out _ _ (by simp)) rfl HO.out (by decide) (by decide) ?_; intro v5 w5 own5 hS5 ho5 hK5; have SA := Lib.hid hS5; have OA := Lib.hid ho5; have KA := Lib.hid hK5; clear hS5 ho5 hK5)
          have HF : Hid (OneP 48 6 (poseC ⟨x.id, goM (posM x) (velM x) (c.extra), x.ang, 4⟩) v5 w.heap.size w5 ∧ Kept (fun _ => False) w w5) := Lib.hid (by
            have hw3 := HK3.out.size
            have KW := (((((HK4.out.setCell (a := ⟨w3.heap.size, 5, none⟩) (.inr hw3) _).setCell (a := ⟨w3.heap.size, 1, none⟩) (.inr hw3) _).setCell (a := ⟨w3.heap.size, 2, none⟩) (.inr hw3) _).setCell (a := ⟨w3.heap.size, 3, none⟩) (.inr hw3) _).alloc _).trans KA.out (fun _ h => by cases h)
            refine ⟨?_, KW⟩
            rcases OA.out with e | e
            · have := SA.out
              rw [e] at this
              rcases this.2 with ⟨hh, h2, _⟩ | ⟨_, _, _, _, hh, _⟩
              · cases h2
              · cases hh
            · have := SA.out
              rw [e] at this
              have hw4 := HK4.out.size
              exact ⟨_, this, by simp; omega⟩)
          go_wp2_with fail
          exact ⟨⟨1, _, by simp, rfl, .inr ⟨rfl, HF.out.1, HF.out.2⟩⟩, by simp [intOf]⟩
        · have HP := Lib.hid hP
          have HK := Lib.hid hK
          clear hP hK
          go_wp2_with fail
          go_ret2
          exact ⟨_, rfl, HP.out, HK.out⟩
    · rw [beyP, if_neg h0, if_neg h1]
      go_enter Tryz.func61, Tryz.ntmps61
      go_wp2_with fail
      refine (HC.out _ (by simp only [List.mem_singleton, forall_eq]; exact ⟨_, HN.out.kept ((((Kept.refl (fun _ => False) w).alloc _).alloc _).alloc _)⟩) _ _ (by exact HSL.out _ _)).mono ?_
      rintro e w1 ⟨rfl, hk1⟩
      have HK1 := Lib.hid (((((Kept.refl (fun _ => False) w).alloc _).alloc _).alloc _).trans hk1 (fun _ h => h.elim))
      have BC := hk1.blk (((Blk.new w (cfgC c) 26).alloc _).alloc _) (fun h => h)
      have BN := hk1.blk ((Blk.new_at (w := w.alloc (.cells (cfgC c).toArray 26)) (n := w.heap.size + 1) (by simp) [.int .i64 tk, .int .i64 tm, .slice (some ⟨g, off, none⟩) 1 nc] 42).alloc _) (fun h => h)
      have s0 := BN.cell (i := 0) rfl
      have s1 := BN.cell (i := 1) rfl
      have s2 := BN.cell (i := 2) rfl
      have HBC := Lib.hid BC
      have HBN := Lib.hid BN
      clear hk1 BC BN
      go_wp2_with fail
      refine (HB.out _).mono ?_
      rintro e w2 ⟨rfl, hk2⟩
      have HK2 := Lib.hid (HK1.out.trans hk2 (fun _ h => h.elim))
      have cx := (hk2.blk HBC.out (fun h => h)).cell (i := 9) rfl
      have n2 := (hk2.blk HBN.out (fun h => h)).cell (i := 2) rfl
      clear hk2 s0 s1 s2
      go_wp2_with fail
      first | (go_quiet (fail); go_wp2_with fail) | skip
      go_outline
      go_loopw [12, 45] (fun l i wr => ∃ (k : Nat) (y : Value), i = .int .i64 k ∧ l = y ∧ (k = 0 ∧ y = .slice none 0 0 ∧ Kept (fun _ => False) w wr ∨ k = 1 ∧ OneP 48 6 (poseC ⟨x.id, goM (posM x) (velM x) (D), x.ang, 3⟩) y w.heap.size wr ∧ Kept (fun _ => False) w wr)) (fun _ i _ => (1 - intOf i).toNat)
      case atStart => first | exact ⟨0, _, rfl, rfl, .inl ⟨rfl, rfl, HK2.out⟩⟩ | exact ⟨0, _, rfl, rfl, .inl ⟨rfl, rfl, HK2.out.drewN _⟩⟩
      case round =>
        obtain ⟨k, y, rfl, hy, hk⟩ := hrel
        have hy2 := hy.symm
        clear hy
        subst hy2
        rcases hk with ⟨rfl, rfl, hK⟩ | ⟨rfl, hP, hK⟩
        · have HK := Lib.hid hK
          obtain ⟨x0, x1, x2, x3, x4, x5, x6, x7, x8⟩ := HX.out
          have hgw : g < wr.heap.size := Nat.lt_of_lt_of_le hgl hK.size
          have c0 := hK.cell x0 (fun h => h)
          have c1 := hK.cell x1 (fun h => h)
          have c2 := hK.cell x2 (fun h => h)
          have c3 := hK.cell x3 (fun h => h)
          have c4 := hK.cell x4 (fun h => h)
          have c5 := hK.cell x5 (fun h => h)
          have c6 := hK.cell x6 (fun h => h)
          have c7 := hK.cell x7 (fun h => h)
          have c8 := hK.cell x8 (fun h => h)
          clear hK x0 x1 x2 x3 x4 x5 x6 x7 x8
          go_wp2_with fail
          refine (HE.out _).mono ?_
          rintro e w3 ⟨rfl, hk3⟩
          have hb3 := hk3.blk (Blk.new wr (entC x) 39) (fun h => h)
          have HB3 := Lib.hid hb3
          have HK3 := Lib.hid ((HK.out.alloc (.cells (entC x).toArray 39)).trans hk3 (fun _ h => h.elim))
          have hn3 : wr.heap.size < w3.heap.size := hb3.lt
          have q0 : (w3.alloc (.cells #[.int .i64 x.id, .int .i64 (posM x 0), .int .i64 (posM x 1), .int .i64 (posM x 2), .int .u16 x.ang, .int .i64 0] 48)).cell? ⟨wr.heap.size, 1, none⟩ = some (.int .i64 (posM x 0)) := (hb3.alloc (exO x)).cell (i := 1) rfl
          have q1 : (w3.alloc (.cells #[.int .i64 x.id, .int .i64 (posM x 0), .int .i64 (posM x 1), .int .i64 (posM x 2), .int .u16 x.ang, .int .i64 0] 48)).cell? ⟨wr.heap.size, 2, none⟩ = some (.int .i64 (posM x 1)) := (hb3.alloc (exO x)).cell (i := 2) rfl
          have q2 : (w3.alloc (.cells #[.int .i64 x.id, .int .i64 (posM x 0), .int .i64 (posM x 1), .int .i64 (posM x 2), .int .u16 x.ang, .int .i64 0] 48)).cell? ⟨wr.heap.size, 3, none⟩ = some (.int .i64 (posM x 2)) := (hb3.alloc (exO x)).cell (i := 3) rfl
          have q3 : (w3.alloc (.cells #[.int .i64 x.id, .int .i64 (posM x 0), .int .i64 (posM x 1), .int .i64 (posM x 2), .int .u16 x.ang, .int .i64 0] 48)).cell? ⟨wr.heap.size, 4, none⟩ = some (.int .i64 (velM x 0)) := (hb3.alloc (exO x)).cell (i := 4) rfl
          have q4 : (w3.alloc (.cells #[.int .i64 x.id, .int .i64 (posM x 0), .int .i64 (posM x 1), .int .i64 (posM x 2), .int .u16 x.ang, .int .i64 0] 48)).cell? ⟨wr.heap.size, 5, none⟩ = some (.int .i64 (velM x 1)) := (hb3.alloc (exO x)).cell (i := 5) rfl
          have q5 : (w3.alloc (.cells #[.int .i64 x.id, .int .i64 (posM x 0), .int .i64 (posM x 1), .int .i64 (posM x 2), .int .u16 x.ang, .int .i64 0] 48)).cell? ⟨wr.heap.size, 6, none⟩ = some (.int .i64 (velM x 2)) := (hb3.alloc (exO x)).cell (i := 6) rfl
          clear hk3 hb3 c0 c1 c2 c3 c4 c5 c6 c7 c8
          go_wp2_with fail
          refine (HG.out (D) _ (by first | exact hex | exact hd)).mono ?_
          rintro e w4 ⟨rfl, hk4⟩
          have P4 := hk4.blk (Blk.new w3 [.int .i64 x.id, .int .i64 (posM x 0), .int .i64 (posM x 1), .int .i64 (posM x 2), .int .u16 x.ang, .int .i64 0] 48) (fun h => h)
          have HP4 := Lib.hid P4
          have HK4 := Lib.hid ((HK3.out.alloc (exO x)).trans hk4 (fun _ h => h.elim))
          have p0 := P4.cell (i := 0) rfl
          have p1 := P4.cell (i := 1) rfl
          have p2 := P4.cell (i := 2) rfl
          have p3 := P4.cell (i := 3) rfl
          have p4 := P4.cell (i := 4) rfl
          have p5 := P4.cell (i := 5) rfl
          have g1 := P4.free 1
          have g2 := P4.free 2
          have g3 := P4.free 3
          have g5 := P4.free 5
          clear q0 q1 q2 q3 q4 q5 hk4 P4
          obtain ⟨j0, hi, hz0, hz1, hz2⟩ := info_parts infoPose
          have HI := Lib.hid hi
          have HZ0 := Lib.hid hz0
          have HZ1 := Lib.hid hz1
          have HZ2 := Lib.hid hz2
          have HSR : Hid (∀ (W : World) (b : Nat), b = W.heap.size → Src (W.alloc (.cells #[.int .i64 x.id, .int .i64 (goM (posM x) (velM x) (D) 0), .int .i64 (goM (posM x) (velM x) (D) 1), .int .i64 (goM (posM x) (velM x) (D) 2), .int .u16 x.ang, .int .i64 3] 48)) (.slice (some ⟨b, 0, none⟩) 1 1) 1 (poseC ⟨x.id, goM (posM x) (velM x) (D), x.ang, 3⟩)) := Lib.hid (fun W b hb => hb ▸ (Sl.made W (poseC ⟨x.id, goM (posM x) (velM x) (D), x.ang, 3⟩) 48 6 1 rfl (by decide)).src)
          have HO : Hid (∀ u ∈ poseC ⟨x.id, goM (posM x) (velM x) (D), x.ang, 3⟩, u.oneCell' = true) := Lib.hid (by simp [Value.oneCell'])
          clear hi hz0 hz1 hz2
          go_wp2_with (at_builtin; refine wpList_append_sl _ rfl _ _ 43 rfl 48 j0 (.agg zpose.toArray) 6 48 Tryz.underlying43 HI.out HZ0.out HZ1.out HZ2.out rfl _ 0 [] none rfl (Sl.nil _ _ _) _ 1 (poseC ⟨x.id, goM (posM x) (velM x) (D), x.ang, 3⟩) rfl (by exact HSR.out _ _ (by simp)) rfl HO.out (by decide) (by decide) ?_; intro v5 w5 own5 hS5 ho5 hK5; have SA := Lib.hid hS5; have OA := Lib.hid ho5; have KA := Lib.hid hK5; clear hS5 ho5 hK5)
          have HF : Hid (OneP 48 6 (poseC ⟨x.id, goM (posM x) (velM x) (D), x.ang, 3⟩) v5 w.heap.size w5 ∧ Kept (fun _ => False) w w5) := Lib.hid (by
            have hw3 := HK3.out.size
            have KW := (((((HK4.out.setCell (a := ⟨w3.heap.size, 5, none⟩) (.inr hw3) _).setCell (a := ⟨w3.heap.size, 1, none⟩) (.inr hw3) _).setCell (a := ⟨w3.heap.size, 2, none⟩) (.inr hw3) _).setCell (a := ⟨w3.heap.size, 3, none⟩) (.inr hw3) _).alloc _).trans KA.out (fun _ h => by cases h)
            refine ⟨?_, KW⟩
            rcases OA.out with e | e
            · have := SA.out
              rw [e] at this
              rcases this.2 with ⟨hh, h2, _⟩ | ⟨_, _, _, _, hh, _⟩
              · cases h2
              · cases hh
            · have := SA.out
              rw [e] at this
              have hw4 := HK4.out.size
              exact ⟨_, this, by simp; omega⟩)
          go_wp2_with fail
          exact ⟨⟨1, _, by simp, rfl, .inr ⟨rfl, HF.out.1, HF.out.2⟩⟩, by simp [intOf]⟩
        · have HP := Lib.hid hP
          have HK := Lib.hid hK
          clear hP hK
          go_wp2_with fail
          go_ret2
          exact ⟨_, rfl, HP.out, HK.out⟩
end Go.Proofs.YtekdkckgmleofaaGreat

/- Contract of pose.Between, of snapshots of one entity each, with one Id, angle and Gen. -/
namespace Go.Proofs.YtekdkckgmleofaaGreat
open Go.RowKit
/-- What the way leads to. -/
def WayM (c : Cfg) (x y : EntM) (n k : Nat) (z : Nat → Int) : Prop := (c.curved = true → ∀ j, j < 3 → posM x j = posM y j → z j = posM x j) ∧ (c.curved = false → z = lineM x y n k)
def BtwPost (c : Cfg) (x y : EntM) (n k : Nat) (w : World) (e : Ending) (w' : World) : Prop :=
  ∃ z, WayM c x y n k z ∧ PosePost ⟨x.id, z, x.ang, if c.curved then 2 else 1⟩ w e w'
def PlaceP (c : Cfg) (x y : EntM) (n k : Nat) (w : World) (e : Ending) (w' : World) : Prop := ∃ z : Nat → Int, e = .returned (v3 z) ∧ WayM c x y n k z ∧ Kept (fun _ => False) w w'
theorem eighteen {W : World} {B C : Nat} {x y : EntM} {t u : TypeId} (h : Blk W B (entC x) t) (k : Blk W C (entC y) u) :
    W.cell? ⟨B, 0, none⟩ = some (.int .i64 x.id) ∧ W.cell? ⟨B, 1, none⟩ = some (.int .i64 x.p0) ∧ W.cell? ⟨B, 2, none⟩ = some (.int .i64 x.p1) ∧ W.cell? ⟨B, 3, none⟩ = some (.int .i64 x.p2) ∧ W.cell? ⟨B, 4, none⟩ = some (.int .i64 x.v0) ∧ W.cell? ⟨B, 5, none⟩ = some (.int .i64 x.v1) ∧ W.cell? ⟨B, 6, none⟩ = some (.int .i64 x.v2) ∧ W.cell? ⟨B, 7, none⟩ = some (.int .u16 x.ang) ∧ W.cell? ⟨B, 8, none⟩ = some (.int .u8 x.gen) ∧ W.cell? ⟨C, 0, none⟩ = some (.int .i64 y.id) ∧ W.cell? ⟨C, 1, none⟩ = some (.int .i64 y.p0) ∧ W.cell? ⟨C, 2, none⟩ = some (.int .i64 y.p1) ∧ W.cell? ⟨C, 3, none⟩ = some (.int .i64 y.p2) ∧ W.cell? ⟨C, 4, none⟩ = some (.int .i64 y.v0) ∧ W.cell? ⟨C, 5, none⟩ = some (.int .i64 y.v1) ∧ W.cell? ⟨C, 6, none⟩ = some (.int .i64 y.v2) ∧ W.cell? ⟨C, 7, none⟩ = some (.int .u16 y.ang) ∧ W.cell? ⟨C, 8, none⟩ = some (.int .u8 y.gen) :=
  ⟨h.cell (i := 0) rfl, h.cell (i := 1) rfl, h.cell (i := 2) rfl, h.cell (i := 3) rfl, h.cell (i := 4) rfl, h.cell (i := 5) rfl, h.cell (i := 6) rfl, h.cell (i := 7) rfl, h.cell (i := 8) rfl, k.cell (i := 0) rfl, k.cell (i := 1) rfl, k.cell (i := 2) rfl, k.cell (i := 3) rfl, k.cell (i := 4) rfl, k.cell (i := 5) rfl, k.cell (i := 6) rfl, k.cell (i := 7) rfl, k.cell (i := 8) rfl⟩
def BtwI (c : Cfg) (x y : EntM) (n k : Nat) (m : Int) (w : World) (v : Value) (wr : World) : Prop :=
  ∃ z, WayM c x y n k z ∧ OneP 48 6 (poseC ⟨x.id, z, x.ang, m⟩) v w.heap.size wr ∧ Kept (fun _ => False) w wr
end Go.Proofs.YtekdkckgmleofaaGreat

/- Client's snaps: all that are kept, each with one entity. -/
namespace Go.Proofs.YtekdkckgmleofaaGreat
open Go.RowKit
/-- What is known of a snapshot of one entity. -/
def OneE (R : Int → Int → EntM → Prop) (tick time : Int) (ents : List EntM) : Prop := ∃ x, ents = [x] ∧ x.Ok ∧ SnapOk tick time ∧ R tick time x
def AtP (R : Int → Int → EntM → Prop) (tick time : Int) (w : World) (e : Ending) (w' : World) : Prop :=
  ∃ (a : Option Addr) (cap : Nat) (x : EntM), e = .returned (.tuple #[sv ⟨tick, time, a, 1, cap⟩, .int .i64 0]) ∧ SnapAt w' ⟨tick, time, a, 1, cap⟩ [x] ∧ R tick time x ∧ Kept (fun _ => False) w w'
theorem sat_k (R : Int → Int → EntM → Prop) (w : World) (s p : Nat) (fr fe : Nat → Prop) (most : Nat) (r : RingM SnapS) (cs : List Int) (h : Sto w s p fr fe most r cs (OneE R)) (k : Nat) (y : Int × SnapS) (hy : r.l[k]? = some y) :
    Calls Tryz.prog 64 #[.pointer (some ⟨s, 0, none⟩), .int .i64 k] w (AtP R y.2.tick y.2.time w) := by
  have h1 := sat_calls k w s p fr fe most r cs (OneE R) h
  have e : atM r.l (k : Int) = some y := by unfold atM; rw [if_neg (by omega)]; simpa using hy
  rw [e] at h1
  refine h1.mono ?_
  rintro e w' ⟨v, ents, rfl, hE, -, hP, hk⟩
  obtain ⟨x, rfl, hx, hs, hR⟩ := hP rfl
  obtain ⟨a, cap, rfl, -, -⟩ := hE.form
  obtain ⟨o, hS, -⟩ := hE
  exact ⟨a, cap, x, rfl, ⟨⟨o, hS⟩, entsOk_one hx, hs⟩, hR, hk⟩
theorem infoSnap : (Tryz.prog.info? 42).map (fun i => (i.zero, i.size, i.bytes)) = some (some (.agg #[.int .i64 0, .int .i64 0, .slice none 0 0]), 3, 40) := by kernel_rfl
theorem SnapAt.keptT {w w' : World} {x : SnapS} {e : EntM} {v : Value} {n : Nat} {xs : List Value} {own : Option Nat} (h : SnapAt w x [e]) (hS : Sl w v 42 3 n xs own) (k : Kept (fun k => own = some k) w w') : SnapAt w' x [e] := by
  obtain ⟨⟨o, h1⟩, h2, h3⟩ := h
  refine ⟨⟨o, h1.kept k (fun g hg hog => ?_)⟩, h2, h3⟩
  subst hg
  subst hog
  have a := h1.2
  have b := hS.2
  rcases a with ⟨_, _, a⟩ | ⟨g1, _, _, _, a1, _, a2, _⟩
  · cases a
  · rcases b with ⟨_, _, b⟩ | ⟨g2, _, _, _, b1, _, b2, _⟩
    · cases b
    · cases a1
      cases b1
      rw [a2] at b2
      simp at b2
/-- The first k of them, as a row. -/
structure SnpI (R : Int → Int → EntM → Prop) (l : List (Int × SnapS)) (k : Nat) (w : World) (v : Value) (ys : List (SnapS × EntM)) (own : Option Nat) (wr : World) : Prop where
  len : ys.length = k
  row : Sl wr v 42 3 k (cellsL snC (ys.map Prod.fst)) own
  own : ∀ g, own = some g → w.heap.size ≤ g
  same : ys.map (fun y => (y.1.tick, y.1.time)) = (l.take k).map (fun z => (z.2.tick, z.2.time))
  el : ∀ y ∈ ys, SnapAt wr y.1 [y.2] ∧ R y.1.tick y.1.time y.2
  kept : Kept (fun _ => False) w wr
theorem SnpI.step {R : Int → Int → EntM → Prop} {l : List (Int × SnapS)} {k : Nat} {w : World} {v : Value} {ys : List (SnapS × EntM)} {own : Option Nat} {wr w1 w2 : World} (h : SnpI R l k w v ys own wr) (kp : Kept (fun _ => False) wr w1) {y : Int × SnapS} (hy : l[k]? = some y) {a : Option Addr} {cap : Nat} {x : EntM}
    (hx : SnapAt w1 ⟨y.2.tick, y.2.time, a, 1, cap⟩ [x]) (hR : R y.2.tick y.2.time x) {v' : Value} {own' : Option Nat} (hS : Sl w2 v' 42 3 (k + 1) (cellsL snC (ys.map Prod.fst) ++ snC ⟨y.2.tick, y.2.time, a, 1, cap⟩) own')
    (ho : own' = own ∨ own' = some w1.heap.size) (kp2 : Kept (fun k => own = some k) w1 w2) : SnpI R l (k + 1) w v' (ys ++ [(⟨y.2.tick, y.2.time, a, 1, cap⟩, x)]) own' w2 := by
  have hkl : k < l.length := (List.getElem?_eq_some_iff.1 hy).1
  have hrow := h.row.kept kp (fun _ _ h => h)
  refine ⟨by simp [h.len], ?_, ?_, ?_, ?_, ?_⟩
  · rw [List.map_append, cellsL_append]
    simpa [cellsL] using hS
  · intro g hg
    rcases ho with e | e
    · rw [e] at hg
      exact h.own g hg
    · rw [e] at hg
      have e1 := Option.some.inj hg
      have := (h.kept.trans kp (fun _ h => .inl h)).size
      omega
  · rw [List.map_append, h.same, List.take_add_one, List.map_append, hy]
    rfl
  · intro z hz
    rcases List.mem_append.1 hz with hz | hz
    · exact ⟨((h.el z hz).1.kept kp).keptT hrow kp2, (h.el z hz).2⟩
    · obtain rfl := List.mem_singleton.1 hz
      exact ⟨hx.keptT hrow kp2, hR⟩
  · exact (h.kept.trans kp (fun _ h => .inl h)).trans kp2 (fun g hg => .inr (h.own g hg))
def SnapsPost (R : Int → Int → EntM → Prop) (l : List (Int × SnapS)) (w : World) (e : Ending) (w' : World) : Prop :=
  ∃ v ys own, e = .returned v ∧ SnpI R l l.length w v ys own w'
set_option maxRecDepth 100000 in
set_option maxHeartbeats 8000000 in
theorem snaps_calls (R : Int → Int → EntM → Prop) (w : World) (q : Nat) (F : Nat → Prop) (c : Cfg) (m : ClkM) (K : Nat) (r : RingM SnapS) (h : Cli w q F c m K r (OneE R)) :
    Calls Tryz.prog 27 #[.pointer (some ⟨q, 0, none⟩)] w (SnapsPost R r.l w) := by
  obtain ⟨s, p, kk, fr, fe, fk, cs, n, h⟩ := h
  have c0 := h.blk.cell (i := 11) rfl
  have hlen : r.l.length ≤ 64 := Nat.le_trans h.sto.ring.len h.sto.m2
  have HL := Lib.hid (fun W (k : Kept (fun _ => False) w W) => slen_calls W s p fr fe c.ring.toNat r cs (OneE R) (h.sto.kept k (fun h => h) (fun _ _ h => h) (fun _ _ h => h)))
  have HA := Lib.hid (fun W (k : Kept (fun _ => False) w W) i y hy => sat_k R W s p fr fe c.ring.toNat r cs (h.sto.kept k (fun h => h) (fun _ _ h => h) (fun _ _ h => h)) i y hy)
  have HB := Lib.hid h.blk
  obtain ⟨j0, hi, hz0, hz1, hz2⟩ := info_parts infoSnap
  have HI := Lib.hid hi
  have HZ0 := Lib.hid hz0
  have HZ1 := Lib.hid hz1
  have HZ2 := Lib.hid hz2
  clear hi hz0 hz1 hz2 h
  go_enter Tryz.func27, Tryz.ntmps27
  go_wp2_with fail
  refine (HL.out _ (Kept.refl _ _)).mono ?_
  rintro e w1 ⟨rfl, hw1⟩
  subst hw1
  clear c0
  go_wp2_with fail
  go_loopw [3, 12] (fun l i wr => ∃ (k : Nat) (y : Value) (ys : List (SnapS × EntM)) (own : Option Nat), i = .int .i64 k ∧ l = y ∧ k ≤ r.l.length ∧ SnpI R r.l k w y ys own wr) (fun _ i _ => (r.l.length - intOf i).toNat)
  case atStart => exact ⟨0, _, [], none, rfl, rfl, Nat.zero_le _, ⟨rfl, Sl.nil _ _ _, fun g e => (by cases e), rfl, fun y hy => (by cases hy), Kept.refl _ _⟩⟩
  case round =>
    obtain ⟨k, y', ys, own, rfl, hy, hk, hI⟩ := hrel
    have hy2 := hy.symm
    clear hy
    subst hy2
    have HS := Lib.hid hI
    obtain ⟨ya, ycap, rfl, -, -⟩ := hI.row.form
    have c0 := (hI.kept.blk HB.out (fun h => h)).cell (i := 11) rfl
    have hK := hI.kept
    have HK := Lib.hid hK
    by_cases hlt : k < r.l.length
    · obtain ⟨y, hy⟩ : ∃ y, r.l[k]? = some y := ⟨_, List.getElem?_eq_getElem hlt⟩
      have HQ := Lib.hid (HA.out wr hK k y hy)
      have HY := Lib.hid hy
      clear hy hK hI
      go_wp2_with fail
      refine HQ.out.mono ?_
      rintro e w2 ⟨a, cap, x, rfl, hx, hR, hk2⟩
      have HX := Lib.hid hx
      have HR := Lib.hid hR
      have HK2 := Lib.hid hk2
      have HROW : Hid (∀ o1 o2, Sl ((w2.alloc o1).alloc o2) (.slice ya k ycap) 42 3 k (cellsL snC (ys.map Prod.fst)) own) := Lib.hid (fun o1 o2 => ((HS.out.row.kept HK2.out (fun _ _ h => h)).alloc o1).alloc o2)
      have HSR : Hid (∀ (W : World) (b : Nat), b = W.heap.size → Src (W.alloc (.cells #[.int .i64 y.2.tick, .int .i64 y.2.time, .slice a 1 cap] 42)) (.slice (some ⟨b, 0, none⟩) 1 1) 1 (snC ⟨y.2.tick, y.2.time, a, 1, cap⟩)) := Lib.hid (fun W b e => by
        subst e
        exact (Sl.made W (snC ⟨y.2.tick, y.2.time, a, 1, cap⟩) 42 3 1 rfl (by decide)).src)
      have HO : Hid (∀ u ∈ snC ⟨y.2.tick, y.2.time, a, 1, cap⟩, u.oneCell' = true) := Lib.hid (by intro u hu; simp at hu; rcases hu with rfl | rfl | rfl <;> rfl)
      have N1 : Hid (k + 1 ≤ maxLen) := Lib.hid (by unfold maxLen; omega)
      have N2 : Hid ((k + 1) * 40 ≤ 140737488355328) := Lib.hid (by omega)
      clear hx hR hk2 c0
      go_wp2_with (at_builtin; refine wpList_append_sl _ rfl _ _ 87 rfl 42 j0 (.agg #[.int .i64 0, .int .i64 0, .slice none 0 0]) 3 40 Tryz.underlying87 HI.out HZ0.out HZ1.out HZ2.out rfl _ k _ own rfl (HROW.out _ _) _ 1 (snC ⟨y.2.tick, y.2.time, a, 1, cap⟩) rfl (by exact HSR.out _ _ (by simp)) rfl HO.out N1.out N2.out ?_; intro va wa own5 hS5 ho5 hK5; have SA := Lib.hid hS5; have OA := Lib.hid ho5; have KA := Lib.hid hK5; clear hS5 ho5 hK5)
      exact ⟨⟨k + 1, _, ys ++ [(⟨y.2.tick, y.2.time, a, 1, cap⟩, x)], own5, by simp, rfl, by omega, HS.out.step ((HK2.out.alloc _).alloc _) HY.out (HX.out.kept (((Kept.refl (fun _ => False) w2).alloc _).alloc _)) HR.out SA.out OA.out KA.out⟩, by simp [intOf]; omega⟩
    · clear hK hI
      go_wp2_with fail
      go_ret
      have e : k = r.l.length := by omega
      subst e
      exact ⟨_, ys, own, rfl, HS.out⟩
end Go.Proofs.YtekdkckgmleofaaGreat

/- Client's Arrive of a snapshot of one entity that may be taken. -/
namespace Go.Proofs.YtekdkckgmleofaaGreat
open Go.RowKit
theorem get_time {R : Int → Int → EntM → Prop} {w : World} {s p : Nat} {fr fe : Nat → Prop} {most : Nat} {r : RingM SnapS} {cs : List Int} (h : Sto w s p fr fe most r cs (OneE R)) {tick time : Int} (hb : there r.l tick = true) (ht : ∀ t x, R tick t x → t = time) : (RingN.getM r.l tick).time = time := by
  obtain ⟨y, hy, hk⟩ := RingN.there_some hb
  have hg : RingN.getM r.l tick = y.2 := by unfold RingN.getM; rw [hb, hy]; rfl
  obtain ⟨h0, ents, -, -, -, x, -, -, -, hR⟩ := h.el y (List.mem_of_getElem? hy)
  rw [hg]
  rw [← h0, hk] at hR
  exact ht _ _ hR
def ArrPost (R : Int → Int → EntM → Prop) (w : World) (q : Nat) (F : Nat → Prop) (c : Cfg) (m : ClkM) (K : Nat) (r : RingM SnapS) (tick time : Int) (e : Ending) (w' : World) : Prop :=
  e = .returned (.int .i64 0) ∧ ∃ a cap, Cli w' q (fun g => F g ∨ (w.heap.size ≤ g ∧ g < w'.heap.size)) c m K (layM c.ring.toNat r tick ⟨tick, time, a, 1, cap⟩).1 (OneE R) ∧ Kept F w w'
theorem Cli.tight {F : Nat → Prop} {w : World} {q : Nat} {c : Cfg} {m : ClkM} {K : Nat} {r : RingM SnapS} {P : Int → Int → List EntM → Prop} (h : Cli w q F c m K r P) :
    ∃ s p k fr fe fk cs n, CliAt w q s p k F fr fe fk c m K r cs P n ∧ (∀ g, fr g → g < w.heap.size) ∧ (∀ g, fe g → g < w.heap.size) ∧ (∀ g, fk g → g < w.heap.size) := by
  obtain ⟨s, p, k, fr, fe, fk, cs, n, h⟩ := h
  refine ⟨s, p, k, fun g => fr g ∧ g < w.heap.size, fun g => fe g ∧ g < w.heap.size, fun g => fk g ∧ g < w.heap.size, cs, n, { h with
    sto := h.sto.mono (fun g hg => ⟨fun h => h.1, fun h => ⟨h, hg⟩⟩) (fun g hg => ⟨fun h => h.1, fun h => ⟨h, hg⟩⟩) (fun g h1 h2 => h.sto.re g h1.1 h2.1)
    clk := h.clk.mono (fun g hg h => ⟨h, hg⟩)
    qr := fun x => h.qr x.1, qe := fun x => h.qe x.1, qk := fun x => h.qk x.1, ks := fun x => h.ks x.1
    kr := fun g h1 h2 => h.kr g h1.1 h2.1
    ke := fun g h1 h2 => h.ke g h1.1 h2.1
    fR := fun g hg => h.fR g hg.1
    fE := fun g hg => h.fE g hg.1
    fK := fun g hg => h.fK g hg.1 }, fun g h => h.2, fun g h => h.2, fun g h => h.2⟩
theorem arr_end {w W w' : World} {q s p k : Nat} {F fr fe fk fr' fe' : Nat → Prop} {c : Cfg} {m m' : ClkM} {K K' : Nat} {r r' : RingM SnapS} {cs cs' : List Int} {P : Int → Int → List EntM → Prop} {n n' : Int} (h : CliAt w q s p k F fr fe fk c m K r cs P n)
    (lk : ∀ g, fk g → g < w.heap.size) (hB : Blk w' q (cliC c s k n') 71) (hS : Sto w' s p fr' fe' c.ring.toNat r' cs' P) (h1 : ∀ g, fr' g → fr g ∨ w.heap.size ≤ g) (h2 : ∀ g, fe' g → fe g ∨ w.heap.size ≤ g)
    (l1 : ∀ g, fr' g → g < W.heap.size) (l2 : ∀ g, fe' g → g < W.heap.size) (hC : Clk w' k (fun g => fk g ∨ (W.heap.size ≤ g ∧ g < w'.heap.size)) c m' K') (hw : w.heap.size ≤ W.heap.size) (hw' : W.heap.size ≤ w'.heap.size) :
    Cli w' q (fun g => F g ∨ (w.heap.size ≤ g ∧ g < w'.heap.size)) c m' K' r' P := by
  have hq := h.blk.lt
  have hs := h.sto.blk.lt
  refine ⟨s, p, k, fr', fe', _, cs', n', ⟨hB, hS, hC, h.qs, ?_, ?_, ?_, ?_, ?_, ?_, .inl h.fq, .inl h.fs, ?_, ?_, ?_⟩⟩
  · intro e
    rcases h1 q e with e | e
    · exact h.qr e
    · omega
  · intro e
    rcases h2 q e with e | e
    · exact h.qe e
    · omega
  · rintro (e | e)
    · exact h.qk e
    · omega
  · rintro (e | e)
    · exact h.ks e
    · omega
  · rintro g (e | e) hr
    · rcases h1 g hr with h3 | h3
      · exact h.kr g e h3
      · have := lk g e
        omega
    · have := l1 g hr
      omega
  · rintro g (e | e) hr
    · rcases h2 g hr with h3 | h3
      · exact h.ke g e h3
      · have := lk g e
        omega
    · have := l2 g hr
      omega
  · intro g hg
    rcases h1 g hg with h3 | h3
    · exact .inl (h.fR g h3)
    · have := l1 g hg
      exact .inr (by omega)
  · intro g hg
    rcases h2 g hg with h3 | h3
    · exact .inl (h.fE g h3)
    · have := l2 g hg
      exact .inr (by omega)
  · rintro g (e | e)
    · exact .inl (h.fK g e)
    · exact .inr (by omega)
set_option maxRecDepth 100000 in
set_option maxHeartbeats 8000000 in
theorem arrive_calls (R : Int → Int → EntM → Prop) (w : World) (q : Nat) (F : Nat → Prop) (c : Cfg) (hc : COk c) (m : ClkM) (K : Nat) (r : RingM SnapS) (h : Cli w q F c m K r (OneE R)) (tick time : Int) (hs : SnapOk tick time) (x : EntM) (hx : x.Ok) (hgen : x.gen = 0)
    (hm : May c.ring.toNat r tick time) (hR : R tick time x) (ht : ∀ t y, R tick t y → t = time) (loc : Int) (hl : I64 loc) (htm : I64 time) (hK : K < 100000) (v : Value) (own : Option Nat) (hv : Sl w v 5 1 (gramL tick time x).length (u8s (gramL tick time x)) own) :
    Calls Tryz.prog 8 #[.pointer (some ⟨q, 0, none⟩), .int .i64 loc, v] w (ArrPost R w q F c (smpM c m loc time) (K + 1) r tick time) := by
  obtain ⟨s, p, kk, fr, fe, fk, cs, n, h, lr, le, lk⟩ := h.tight
  obtain ⟨va, vc, rfl, -, -⟩ := hv.form
  have c0 := h.blk.cell (i := 11) rfl
  have HA := Lib.hid (accept_calls tick time hs x hx hgen w s p fr fe c.ring.toNat r cs (OneE R) h.sto hm ⟨x, rfl, hx, hs, hR⟩ _ own hv)
  have HSM := Lib.hid (fun W (fp : Nat → Prop) (hh : Clk W kk fp c m K) => sample_calls W kk fp c m K loc time hc hh hK hl htm)
  have HH := Lib.hid h
  have HLK := Lib.hid lk
  have HT := Lib.hid ht
  have hms := h.sto.ring.srt
  have hml := h.sto.ring.len
  have HM := Lib.hid (fun sx hs' => lay_has hm hms hml sx hs')
  have hqsz := h.blk.lt
  clear h hv hm hR ht hs hx hgen hms hml hl htm lr le lk
  go_enter Tryz.func8, Tryz.ntmps8
  go_wp2_with fail
  refine HA.out.mono ?_
  rintro e w1 ⟨rfl, fr', fe', cs', a, cap, hS, h1, h2, hk1⟩
  have hlay := HM.out ⟨tick, time, a, 1, cap⟩ hS.ring.srt
  have HTM := Lib.hid (get_time hS hlay HT.out)
  have HST := Lib.hid hS
  have HF1 := Lib.hid h1
  have HF2 := Lib.hid h2
  have HK1 := Lib.hid hk1
  have hqn : ¬ (q = s ∨ fr q) := fun e => by rcases e with e | e; exact HH.out.qs e; exact HH.out.qr e
  have HB := Lib.hid (hk1.blk HH.out.blk hqn)
  have HCK := Lib.hid (HH.out.clk.kept hk1 (fun g hg e => by
    rcases e with e | e
    · subst e; exact HH.out.ks hg
    · exact HH.out.kr g hg e))
  have c0 := HB.out.cell (i := 11) rfl
  have HGET := Lib.hid (sget_calls tick w1 s p fr' fe' c.ring.toNat _ cs' (OneE R) hS)
  rw [HTM.out, hlay] at HGET
  clear hS h1 h2 hk1 hqn hlay
  go_wp2_with fail
  refine HGET.out.mono ?_
  rintro e w2 ⟨v2, ents, rfl, hE, -, -, hk2⟩
  obtain ⟨a2, cap2, rfl, -, -⟩ := hE.form
  have HK2 := Lib.hid hk2
  have B2 := (hk2.blk HB.out (fun h => h)).alloc (.cells #[.int .i64 (RingN.getM (layM c.ring.toNat r tick ⟨tick, time, a, 1, cap⟩).1.l tick).tick, .int .i64 time, .slice a2 ents.length cap2] 42)
  have d0 := B2.cell (i := 12) rfl
  have d1 := (Blk.new w2 [.int .i64 (RingN.getM (layM c.ring.toNat r tick ⟨tick, time, a, 1, cap⟩).1.l tick).tick, .int .i64 time, .slice a2 ents.length cap2] 42).cell (i := 1) rfl
  clear hE hk2 B2 c0
  go_wp2_with fail
  have HX2 := Lib.hid ((HK2.out.alloc (.cells #[.int .i64 (RingN.getM (layM c.ring.toNat r tick ⟨tick, time, a, 1, cap⟩).1.l tick).tick, .int .i64 time, .slice a2 ents.length cap2] 42)))
  generalize (w2.alloc (.cells #[.int .i64 (RingN.getM (layM c.ring.toNat r tick ⟨tick, time, a, 1, cap⟩).1.l tick).tick, .int .i64 time, .slice a2 ents.length cap2] 42)) = W at *
  refine region_mix2 (fun w' => ∃ n, w' = W.drewN n) [] [0, 1, 2, 3, 4, 5, 6] 7 [8] (by kernel_rfl) (by kernel_rfl) (fun _ _ d _ _ h => by cases d <;> exact h) ⟨1, rfl⟩ ?_
  simp only [pick, List.filterMap_cons, List.filterMap_nil, List.getElem?_toArray, List.getElem?_cons_zero, List.getElem?_cons_succ, floatPut, Act.put, Act.eval, List.setIfInBounds_toArray, List.set_cons_zero, List.set_cons_succ, Array.getD_eq_getD_getElem?, Option.getD_some]
  repeat (change wpQuiet _ _ _ _ (List.cons _ _) _; go_big_quiet_step (fail))
  refine wpQuiet_nil ?_
  rintro _ ⟨n2, rfl⟩
  have HX3 := Lib.hid (HX2.out.drewN n2)
  go_wp2_with fail
  refine (HSM.out _ _ (HCK.out.kept HX3.out (fun _ _ h => h))).mono ?_
  rintro e w3 ⟨rfl, hC, hk3⟩
  have HC3 := Lib.hid hC
  have HK3 := Lib.hid hk3
  clear hC hk3 d0 d1
  go_wp2_with fail
  simp only [QThen]
  repeat (change wpQuiet _ _ _ _ (List.cons _ _) _; go_big_quiet_step (fail))
  refine wpQuiet_nil ?_
  rintro _ ⟨n3, rfl⟩
  go_wp2_with fail
  go_ret
  have kd := (Kept.refl (fun _ => False) w3).drewN n3
  have s1 := HK1.out.size
  have s2 := HX3.out.size
  have s3 := HK3.out.size
  have l1 := HST.out
  have hfk : ∀ g, fk g → ¬ fr' g := fun g hg e => by
    rcases HF1.out g e with e | e
    · exact HH.out.kr g hg e
    · have := HLK.out g hg
      omega
  have hfe : ∀ g, fk g → ¬ fe' g := fun g hg e => by
    rcases HF2.out g e with e | e
    · exact HH.out.ke g hg e
    · have := HLK.out g hg
      omega
  have hst : Sto (w3.drewN n3) s p (fun g => fr' g ∧ g < w1.heap.size) (fun g => fe' g ∧ g < w1.heap.size) c.ring.toNat (layM c.ring.toNat r tick ⟨tick, time, a, 1, cap⟩).1 cs' (OneE R) :=
    (((HST.out.mono (fr' := fun g => fr' g ∧ g < w1.heap.size) (fe' := fun g => fe' g ∧ g < w1.heap.size) (fun g hg => ⟨fun h => h.1, fun h => ⟨h, hg⟩⟩) (fun g hg => ⟨fun h => h.1, fun h => ⟨h, hg⟩⟩) (fun g h1 h2 => HST.out.re g h1.1 h2.1)).kept HX3.out (fun h => h) (fun _ _ h => h) (fun _ _ h => h)).kept HK3.out (fun h => HH.out.ks h) (fun g h1 h2 => hfk g h2 h1.1) (fun g h1 h2 => hfe g h2 h1.1)).kept kd (fun h => h) (fun _ _ h => h) (fun _ _ h => h)
  have hb : Blk (w3.drewN n3) q (cliC c s kk n) 71 := kd.blk (HK3.out.blk (HX3.out.blk HB.out (fun h => h)) HH.out.qk) (fun h => h)
  refine ⟨rfl, a, cap, arr_end HH.out HLK.out hb hst (fun g hg => HF1.out g hg.1) (fun g hg => HF2.out g hg.1) (fun g hg => by have := hg.2; omega) (fun g hg => by have := hg.2; omega) (HC3.out.kept kd (fun _ _ h => h)) (by omega) (by exact s3), ?_⟩
  refine (((HK1.out.mono (G := F) (fun g _ hg => ?_)).trans HX3.out (fun _ h => h.elim)).trans HK3.out (fun g hg => .inl (HH.out.fK g hg))).trans kd (fun _ h => h.elim)
  rcases hg with rfl | hg
  · exact HH.out.fs
  · exact HH.out.fR g hg
end Go.Proofs.YtekdkckgmleofaaGreat
