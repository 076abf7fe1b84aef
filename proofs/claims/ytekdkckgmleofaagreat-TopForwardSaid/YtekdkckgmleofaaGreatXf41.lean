/- Joined texts. -/
import Derived.Test.YtekdkckgmleofaaGreatXf40
import Derived.Test.YtekdkckgmleofaaGreatXf33
import Derived.Test.YtekdkckgmleofaaGreatXf31
import Derived.Test.YtekdkckgmleofaaGreatXf34
import Derived.Test.YtekdkckgmleofaaGreatXf03
import Derived.Test.YtekdkckgmleofaaGreatXf35
import Derived.Deep.RegionHeld3
import Derived.Test.YtekdkckgmleofaaGreatXf25
set_option linter.unusedVariables false
set_option linter.unusedSimpArgs false
/- Package client: what a client is in memory; New; Arrive of what may be taken. -/
namespace Go.Proofs.YtekdkckgmleofaaGreat
open Go.RowKit
theorem lay_there {most : Nat} {r : RingM SnapS} {tick time : Int} (h : May most r tick time) (hs : Srt r.l) (hl : r.l.length ≤ most) (sx : SnapS) : (tick, sx) ∈ (layM most r tick sx).1.l := by
  have h1 := h.new
  have h2 := h.fresh
  unfold staleM RingN.untilM at h2
  rw [h1] at h2
  have h3 : ((r.gone && decide (tick ≤ r.floor)) || (decide (plc r.l tick = 0) && decide (r.l.length = most))) = false := by
    rw [Bool.or_eq_false_iff] at h2 ⊢
    refine ⟨h2.1, ?_⟩
    have := h2.2
    rw [Bool.and_comm]
    simpa using this
  have hin : (tick, sx) ∈ insAt r.l tick sx := by unfold insAt; simp
  unfold layM
  rw [if_neg (by rw [h1]; simp), if_neg (by rw [h3]; simp)]
  split
  · exact hin
  · rename_i hgt
    have hle : r.l.length = most := by omega
    have hp : plc r.l tick ≠ 0 := by
      intro e
      rw [e, hle] at h3
      simp at h3
    split
    · rename_i he
      rw [he] at hin
      cases hin
    · rename_i y0 t he
      rw [he] at hin
      rcases List.mem_cons.1 hin with e | e
      · exfalso
        have hpl := plc_le r.l tick
        have hh : (insAt r.l tick sx)[0]? = some y0 := by rw [he]; rfl
        unfold insAt at hh
        rw [List.getElem?_append_left (by simp; omega), List.getElem?_take_of_lt (by omega)] at hh
        have := plc_lt r.l tick 0 y0 (by omega) hh
        rw [← e] at this
        simp at this
      · exact e
theorem lay_has {most : Nat} {r : RingM SnapS} {tick time : Int} (h : May most r tick time) (hs : Srt r.l) (hl : r.l.length ≤ most) (sx : SnapS) (hs' : Srt (layM most r tick sx).1.l) : there (layM most r tick sx).1.l tick = true :=
  (there_iff _ _ hs').2 ⟨sx, lay_there h hs hl sx⟩
abbrev cliC (c : Cfg) (s k : Nat) (n : Int) : List Value := cfgC c ++ [.pointer (some ⟨s, 0, none⟩), .pointer (some ⟨k, 0, none⟩), .int .i64 n]
/-- A client at block q; all its memory lies in F. -/
structure CliAt (w : World) (q s p k : Nat) (F fr fe fk : Nat → Prop) (c : Cfg) (m : ClkM) (K : Nat) (r : RingM SnapS) (cs : List Int) (P : Int → Int → List EntM → Prop) (n : Int) : Prop where
  blk : Blk w q (cliC c s k n) 71
  sto : Sto w s p fr fe c.ring.toNat r cs P
  clk : Clk w k fk c m K
  qs : q ≠ s
  qr : ¬ fr q
  qe : ¬ fe q
  qk : ¬ fk q
  ks : ¬ fk s
  kr : ∀ g, fk g → ¬ fr g
  ke : ∀ g, fk g → ¬ fe g
  fq : F q
  fs : F s
  fR : ∀ g, fr g → F g
  fE : ∀ g, fe g → F g
  fK : ∀ g, fk g → F g
def Cli (w : World) (q : Nat) (F : Nat → Prop) (c : Cfg) (m : ClkM) (K : Nat) (r : RingM SnapS) (P : Int → Int → List EntM → Prop) : Prop :=
  ∃ s p k fr fe fk cs n, CliAt w q s p k F fr fe fk c m K r cs P n
theorem CliAt.kept {G F fr fe fk : Nat → Prop} {w w' : World} {q s p k : Nat} {c : Cfg} {m : ClkM} {K : Nat} {r : RingM SnapS} {cs : List Int} {P : Int → Int → List EntM → Prop} {n : Int} (h : CliAt w q s p k F fr fe fk c m K r cs P n) (kp : Kept G w w') (hF : ∀ g, F g → ¬ G g) : CliAt w' q s p k F fr fe fk c m K r cs P n :=
  { h with
    blk := kp.blk h.blk (hF q h.fq)
    sto := h.sto.kept kp (hF s h.fs) (fun g hg => hF g (h.fR g hg)) (fun g hg => hF g (h.fE g hg))
    clk := h.clk.kept kp (fun g hg => hF g (h.fK g hg)) }
theorem Cli.kept {G F : Nat → Prop} {w w' : World} {q : Nat} {c : Cfg} {m : ClkM} {K : Nat} {r : RingM SnapS} {P : Int → Int → List EntM → Prop} (h : Cli w q F c m K r P) (kp : Kept G w w') (hF : ∀ g, F g → ¬ G g) : Cli w' q F c m K r P := by
  obtain ⟨s, p, k, fr, fe, fk, cs, n, h⟩ := h
  exact ⟨s, p, k, fr, fe, fk, cs, n, h.kept kp hF⟩
theorem Cli.mono {F F' : Nat → Prop} {w : World} {q : Nat} {c : Cfg} {m : ClkM} {K : Nat} {r : RingM SnapS} {P : Int → Int → List EntM → Prop} (h : Cli w q F c m K r P) (hF : ∀ g, g < w.heap.size → F g → F' g) : Cli w q F' c m K r P := by
  obtain ⟨s, p, k, fr, fe, fk, cs, n, h⟩ := h
  refine ⟨s, p, k, fun g => fr g ∧ g < w.heap.size, fun g => fe g ∧ g < w.heap.size, fun g => fk g ∧ g < w.heap.size, cs, n, { h with
    sto := h.sto.mono (fun g hg => ⟨fun h => h.1, fun h => ⟨h, hg⟩⟩) (fun g hg => ⟨fun h => h.1, fun h => ⟨h, hg⟩⟩) (fun g h1 h2 => h.sto.re g h1.1 h2.1)
    clk := h.clk.mono (fun g hg h => ⟨h, hg⟩)
    qr := fun x => h.qr x.1, qe := fun x => h.qe x.1, qk := fun x => h.qk x.1, ks := fun x => h.ks x.1
    kr := fun g h1 h2 => h.kr g h1.1 h2.1
    ke := fun g h1 h2 => h.ke g h1.1 h2.1
    fq := hF q h.blk.lt h.fq
    fs := hF s h.sto.blk.lt h.fs
    fR := fun g hg => hF g hg.2 (h.fR g hg.1)
    fE := fun g hg => hF g hg.2 (h.fE g hg.1)
    fK := fun g hg => hF g hg.2 (h.fK g hg.1) }⟩
def NewCliPost (c : Cfg) (P : Int → Int → List EntM → Prop) (w : World) (e : Ending) (w' : World) : Prop :=
  ∃ q, e = .returned (.tuple #[.pointer (some ⟨q, 0, none⟩), .int .i64 0]) ∧ Cli w' q (fun g => w.heap.size ≤ g ∧ g < w'.heap.size) c ⟨[], 0, tgtM c 0, ⟨0, 0, false⟩⟩ 0 ⟨[], 0, false⟩ P ∧ w.heap.size ≤ q ∧ Kept (fun _ => False) w w'
set_option maxRecDepth 100000 in
set_option maxHeartbeats 4000000 in
theorem clinew_calls (c : Cfg) (hc : COk c) (P : Int → Int → List EntM → Prop) (w : World) :
    Calls Tryz.prog 7 #[cfgV c] w (NewCliPost c P w) := by
  have HC := Lib.hid (fun W => cnew_good c W hc)
  have HS := Lib.hid (fun W => snew_calls c.ring hc.r0 hc.r1 P W)
  go_enter Tryz.func7, Tryz.ntmps7
  go_wp2_with fail
  refine (HC.out _).mono ?_
  rintro e w1 ⟨k, rfl, hclk, hk1⟩
  have HK1 := Lib.hid (((Kept.refl (fun _ => False) w).alloc (.cells (cfgC c).toArray 26)).trans hk1 (fun _ h => h.elim))
  have BC := hk1.blk (Blk.new w (cfgC c) 26) (fun h => h)
  have HCL := Lib.hid hclk
  have b0 := BC.cell (i := 0) rfl
  have HBC := Lib.hid BC
  clear hk1 BC hclk
  go_wp2_with fail
  refine (HS.out _).mono ?_
  rintro e w2 ⟨s, p, rfl, hsto, hp1, hs1, hp2, hs2, hk2⟩
  have BC := hk2.blk HBC.out (fun h => h)
  have d0 := BC.cell (i := 0) rfl
  have d1 := BC.cell (i := 1) rfl
  have d2 := BC.cell (i := 2) rfl
  have d3 := BC.cell (i := 3) rfl
  have d4 := BC.cell (i := 4) rfl
  have d5 := BC.cell (i := 5) rfl
  have d6 := BC.cell (i := 6) rfl
  have d7 := BC.cell (i := 7) rfl
  have d8 := BC.cell (i := 8) rfl
  have d9 := BC.cell (i := 9) rfl
  have d10 := BC.cell (i := 10) rfl
  have HST := Lib.hid hsto
  have HCL2 := Lib.hid (HCL.out.kept hk2 (fun _ _ h => h))
  have HK2 := Lib.hid (HK1.out.trans hk2 (fun _ h => h.elim))
  have hw12 := hk2.size
  have hw1 : w.heap.size + 1 ≤ w1.heap.size := HBC.out.lt
  clear hk2 BC hsto b0
  go_wp2_with fail
  go_ret2
  have kk := (Kept.refl (fun _ => False) w2).alloc (.cells (cliC c s k 0).toArray 71)
  refine ⟨w2.heap.size, rfl, ⟨s, p, k, fun g => g = p, fun _ => False, _, _, 0, ⟨Blk.new w2 (cliC c s k 0) 71, HST.out.kept kk (fun h => h) (fun _ _ h => h) (fun _ _ h => h), HCL2.out.kept kk (fun _ _ h => h), ?_, ?_, fun h => h, ?_, ?_, ?_, fun _ _ h => h, ?_, ?_, ?_, fun _ h => h.elim, ?_⟩⟩, by omega, HK2.out.trans kk (fun _ h => h.elim)⟩ <;> (try simp only [size_alloc]) <;> (try omega) <;> intro g <;> intros <;> omega
end Go.Proofs.YtekdkckgmleofaaGreat

/- Client's snaps: all that are kept, each with one entity. -/
namespace Go.Proofs.YtekdkckgmleofaaGreat
open Go.RowKit
/-- What is known of a snapshot of one entity. -/
def OneE (R : Int → Int → EntM → Prop) (tick time : Int) (ents : List EntM) : Prop := ∃ x, ents = [x] ∧ x.Ok ∧ SnapOk tick time ∧ R tick time x
def AtP (R : Int → Int → EntM → Prop) (tick time : Int) (w : World) (e : Ending) (w' : World) : Prop :=
  ∃ (a : Option Addr) (cap : Nat) (x : EntM), e = .returned (.tuple #[sv ⟨tick, time, a, 1, cap⟩, .int .i64 0]) ∧ SnapAt w' ⟨tick, time, a, 1, cap⟩ [x] ∧ R tick time x ∧ Kept (fun _ => False) w w'
theorem sat_k (R : Int → Int → EntM → Prop) (w : World) (s p : Nat) (fr fe : Nat → Prop) (most : Nat) (r : RingM SnapS) (cs : List Int) (h : Sto w s p fr fe most r cs (OneE R)) (k : Nat) (y : Int × SnapS) (hy : r.l[k]? = some y) :
    Calls Tryz.prog 64 #[.pointer (some ⟨s, 0, none⟩), .int .i64 k] w (AtP R y.2.tick y.2.time w) := by
  have h1 := sat_calls k w s p fr fe most r cs (OneE R) h
  have e : atM r.l (k : Int) = some y := by unfold atM; rw [if_neg (by omega)]; simpa using hy
  rw [e] at h1
  refine h1.mono ?_
  rintro e w' ⟨v, ents, rfl, hE, -, hP, hk⟩
  obtain ⟨x, rfl, hx, hs, hR⟩ := hP rfl
  obtain ⟨a, cap, rfl, -, -⟩ := hE.form
  obtain ⟨o, hS, -⟩ := hE
  exact ⟨a, cap, x, rfl, ⟨⟨o, hS⟩, entsOk_one hx, hs⟩, hR, hk⟩
theorem infoSnap : (Tryz.prog.info? 42).map (fun i => (i.zero, i.size, i.bytes)) = some (some (.agg #[.int .i64 0, .int .i64 0, .slice none 0 0]), 3, 40) := by kernel_rfl
theorem SnapAt.keptT {w w' : World} {x : SnapS} {e : EntM} {v : Value} {n : Nat} {xs : List Value} {own : Option Nat} (h : SnapAt w x [e]) (hS : Sl w v 42 3 n xs own) (k : Kept (fun k => own = some k) w w') : SnapAt w' x [e] := by
  obtain ⟨⟨o, h1⟩, h2, h3⟩ := h
  refine ⟨⟨o, h1.kept k (fun g hg hog => ?_)⟩, h2, h3⟩
  subst hg
  subst hog
  have a := h1.2
  have b := hS.2
  rcases a with ⟨_, _, a⟩ | ⟨g1, _, _, _, a1, _, a2, _⟩
  · cases a
  · rcases b with ⟨_, _, b⟩ | ⟨g2, _, _, _, b1, _, b2, _⟩
    · cases b
    · cases a1
      cases b1
      rw [a2] at b2
      simp at b2
/-- The first k of them, as a row. -/
structure SnpI (R : Int → Int → EntM → Prop) (l : List (Int × SnapS)) (k : Nat) (w : World) (v : Value) (ys : List (SnapS × EntM)) (own : Option Nat) (wr : World) : Prop where
  len : ys.length = k
  row : Sl wr v 42 3 k (cellsL snC (ys.map Prod.fst)) own
  own : ∀ g, own = some g → w.heap.size ≤ g
  same : ys.map (fun y => (y.1.tick, y.1.time)) = (l.take k).map (fun z => (z.2.tick, z.2.time))
  el : ∀ y ∈ ys, SnapAt wr y.1 [y.2] ∧ R y.1.tick y.1.time y.2
  kept : Kept (fun _ => False) w wr
theorem SnpI.step {R : Int → Int → EntM → Prop} {l : List (Int × SnapS)} {k : Nat} {w : World} {v : Value} {ys : List (SnapS × EntM)} {own : Option Nat} {wr w1 w2 : World} (h : SnpI R l k w v ys own wr) (kp : Kept (fun _ => False) wr w1) {y : Int × SnapS} (hy : l[k]? = some y) {a : Option Addr} {cap : Nat} {x : EntM}
    (hx : SnapAt w1 ⟨y.2.tick, y.2.time, a, 1, cap⟩ [x]) (hR : R y.2.tick y.2.time x) {v' : Value} {own' : Option Nat} (hS : Sl w2 v' 42 3 (k + 1) (cellsL snC (ys.map Prod.fst) ++ snC ⟨y.2.tick, y.2.time, a, 1, cap⟩) own')
    (ho : own' = own ∨ own' = some w1.heap.size) (kp2 : Kept (fun k => own = some k) w1 w2) : SnpI R l (k + 1) w v' (ys ++ [(⟨y.2.tick, y.2.time, a, 1, cap⟩, x)]) own' w2 := by
  have hkl : k < l.length := (List.getElem?_eq_some_iff.1 hy).1
  have hrow := h.row.kept kp (fun _ _ h => h)
  refine ⟨by simp [h.len], ?_, ?_, ?_, ?_, ?_⟩
  · rw [List.map_append, cellsL_append]
    simpa [cellsL] using hS
  · intro g hg
    rcases ho with e | e
    · rw [e] at hg
      exact h.own g hg
    · rw [e] at hg
      have e1 := Option.some.inj hg
      have := (h.kept.trans kp (fun _ h => .inl h)).size
      omega
  · rw [List.map_append, h.same, List.take_add_one, List.map_append, hy]
    rfl
  · intro z hz
    rcases List.mem_append.1 hz with hz | hz
    · exact ⟨((h.el z hz).1.kept kp).keptT hrow kp2, (h.el z hz).2⟩
    · obtain rfl := List.mem_singleton.1 hz
      exact ⟨hx.keptT hrow kp2, hR⟩
  · exact (h.kept.trans kp (fun _ h => .inl h)).trans kp2 (fun g hg => .inr (h.own g hg))
def SnapsPost (R : Int → Int → EntM → Prop) (l : List (Int × SnapS)) (w : World) (e : Ending) (w' : World) : Prop :=
  ∃ v ys own, e = .returned v ∧ SnpI R l l.length w v ys own w'
set_option maxRecDepth 100000 in
set_option maxHeartbeats 8000000 in
theorem snaps_calls (R : Int → Int → EntM → Prop) (w : World) (q : Nat) (F : Nat → Prop) (c : Cfg) (m : ClkM) (K : Nat) (r : RingM SnapS) (h : Cli w q F c m K r (OneE R)) :
    Calls Tryz.prog 27 #[.pointer (some ⟨q, 0, none⟩)] w (SnapsPost R r.l w) := by
  obtain ⟨s, p, kk, fr, fe, fk, cs, n, h⟩ := h
  have c0 := h.blk.cell (i := 11) rfl
  have hlen : r.l.length ≤ 64 := Nat.le_trans h.sto.ring.len h.sto.m2
  have HL := Lib.hid (fun W (k : Kept (fun _ => False) w W) => slen_calls W s p fr fe c.ring.toNat r cs (OneE R) (h.sto.kept k (fun h => h) (fun _ _ h => h) (fun _ _ h => h)))
  have HA := Lib.hid (fun W (k : Kept (fun _ => False) w W) i y hy => sat_k R W s p fr fe c.ring.toNat r cs (h.sto.kept k (fun h => h) (fun _ _ h => h) (fun _ _ h => h)) i y hy)
  have HB := Lib.hid h.blk
  obtain ⟨j0, hi, hz0, hz1, hz2⟩ := info_parts infoSnap
  have HI := Lib.hid hi
  have HZ0 := Lib.hid hz0
  have HZ1 := Lib.hid hz1
  have HZ2 := Lib.hid hz2
  clear hi hz0 hz1 hz2 h
  go_enter Tryz.func27, Tryz.ntmps27
  go_wp2_with fail
  refine (HL.out _ (Kept.refl _ _)).mono ?_
  rintro e w1 ⟨rfl, hw1⟩
  subst hw1
  clear c0
  go_wp2_with fail
  go_loopw [3, 12] (fun l i wr => ∃ (k : Nat) (y : Value) (ys : List (SnapS × EntM)) (own : Option Nat), i = .int .i64 k ∧ l = y ∧ k ≤ r.l.length ∧ SnpI R r.l k w y ys own wr) (fun _ i _ => (r.l.length - intOf i).toNat)
  case atStart => exact ⟨0, _, [], none, rfl, rfl, Nat.zero_le _, ⟨rfl, Sl.nil _ _ _, fun g e => (by cases e), rfl, fun y hy => (by cases hy), Kept.refl _ _⟩⟩
  case round =>
    obtain ⟨k, y', ys, own, rfl, hy, hk, hI⟩ := hrel
    have hy2 := hy.symm
    clear hy
    subst hy2
    have HS := Lib.hid hI
    obtain ⟨ya, ycap, rfl, -, -⟩ := hI.row.form
    have c0 := (hI.kept.blk HB.out (fun h => h)).cell (i := 11) rfl
    have hK := hI.kept
    have HK := Lib.hid hK
    by_cases hlt : k < r.l.length
    · obtain ⟨y, hy⟩ : ∃ y, r.l[k]? = some y := ⟨_, List.getElem?_eq_getElem hlt⟩
      have HQ := Lib.hid (HA.out wr hK k y hy)
      have HY := Lib.hid hy
      clear hy hK hI
      go_wp2_with fail
      refine HQ.out.mono ?_
      rintro e w2 ⟨a, cap, x, rfl, hx, hR, hk2⟩
      have HX := Lib.hid hx
      have HR := Lib.hid hR
      have HK2 := Lib.hid hk2
      have HROW : Hid (∀ o1 o2, Sl ((w2.alloc o1).alloc o2) (.slice ya k ycap) 42 3 k (cellsL snC (ys.map Prod.fst)) own) := Lib.hid (fun o1 o2 => ((HS.out.row.kept HK2.out (fun _ _ h => h)).alloc o1).alloc o2)
      have HSR : Hid (∀ (W : World) (b : Nat), b = W.heap.size → Src (W.alloc (.cells #[.int .i64 y.2.tick, .int .i64 y.2.time, .slice a 1 cap] 42)) (.slice (some ⟨b, 0, none⟩) 1 1) 1 (snC ⟨y.2.tick, y.2.time, a, 1, cap⟩)) := Lib.hid (fun W b e => by
        subst e
        exact (Sl.made W (snC ⟨y.2.tick, y.2.time, a, 1, cap⟩) 42 3 1 rfl (by decide)).src)
      have HO : Hid (∀ u ∈ snC ⟨y.2.tick, y.2.time, a, 1, cap⟩, u.oneCell' = true) := Lib.hid (by intro u hu; simp at hu; rcases hu with rfl | rfl | rfl <;> rfl)
      have N1 : Hid (k + 1 ≤ maxLen) := Lib.hid (by unfold maxLen; omega)
      have N2 : Hid ((k + 1) * 40 ≤ 140737488355328) := Lib.hid (by omega)
      clear hx hR hk2 c0
      go_wp2_with (at_builtin; refine wpList_append_sl _ rfl _ _ 87 rfl 42 j0 (.agg #[.int .i64 0, .int .i64 0, .slice none 0 0]) 3 40 Tryz.underlying87 HI.out HZ0.out HZ1.out HZ2.out rfl _ k _ own rfl (HROW.out _ _) _ 1 (snC ⟨y.2.tick, y.2.time, a, 1, cap⟩) rfl (by exact HSR.out _ _ (by simp)) rfl HO.out N1.out N2.out ?_; intro va wa own5 hS5 ho5 hK5; have SA := Lib.hid hS5; have OA := Lib.hid ho5; have KA := Lib.hid hK5; clear hS5 ho5 hK5)
      exact ⟨⟨k + 1, _, ys ++ [(⟨y.2.tick, y.2.time, a, 1, cap⟩, x)], own5, by simp, rfl, by omega, HS.out.step ((HK2.out.alloc _).alloc _) HY.out (HX.out.kept (((Kept.refl (fun _ => False) w2).alloc _).alloc _)) HR.out SA.out OA.out KA.out⟩, by simp [intOf]; omega⟩
    · clear hK hI
      go_wp2_with fail
      go_ret
      have e : k = r.l.length := by omega
      subst e
      exact ⟨_, ys, own, rfl, HS.out⟩
end Go.Proofs.YtekdkckgmleofaaGreat

/- Client's Arrive of a snapshot of one entity that may be taken. -/
namespace Go.Proofs.YtekdkckgmleofaaGreat
open Go.RowKit
theorem get_time {R : Int → Int → EntM → Prop} {w : World} {s p : Nat} {fr fe : Nat → Prop} {most : Nat} {r : RingM SnapS} {cs : List Int} (h : Sto w s p fr fe most r cs (OneE R)) {tick time : Int} (hb : there r.l tick = true) (ht : ∀ t x, R tick t x → t = time) : (RingN.getM r.l tick).time = time := by
  obtain ⟨y, hy, hk⟩ := RingN.there_some hb
  have hg : RingN.getM r.l tick = y.2 := by unfold RingN.getM; rw [hb, hy]; rfl
  obtain ⟨h0, ents, -, -, -, x, -, -, -, hR⟩ := h.el y (List.mem_of_getElem? hy)
  rw [hg]
  rw [← h0, hk] at hR
  exact ht _ _ hR
def ArrPost (R : Int → Int → EntM → Prop) (w : World) (q : Nat) (F : Nat → Prop) (c : Cfg) (m : ClkM) (K : Nat) (r : RingM SnapS) (tick time : Int) (e : Ending) (w' : World) : Prop :=
  e = .returned (.int .i64 0) ∧ ∃ a cap, Cli w' q (fun g => F g ∨ (w.heap.size ≤ g ∧ g < w'.heap.size)) c m K (layM c.ring.toNat r tick ⟨tick, time, a, 1, cap⟩).1 (OneE R) ∧ Kept F w w'
theorem Cli.tight {F : Nat → Prop} {w : World} {q : Nat} {c : Cfg} {m : ClkM} {K : Nat} {r : RingM SnapS} {P : Int → Int → List EntM → Prop} (h : Cli w q F c m K r P) :
    ∃ s p k fr fe fk cs n, CliAt w q s p k F fr fe fk c m K r cs P n ∧ (∀ g, fr g → g < w.heap.size) ∧ (∀ g, fe g → g < w.heap.size) ∧ (∀ g, fk g → g < w.heap.size) := by
  obtain ⟨s, p, k, fr, fe, fk, cs, n, h⟩ := h
  refine ⟨s, p, k, fun g => fr g ∧ g < w.heap.size, fun g => fe g ∧ g < w.heap.size, fun g => fk g ∧ g < w.heap.size, cs, n, { h with
    sto := h.sto.mono (fun g hg => ⟨fun h => h.1, fun h => ⟨h, hg⟩⟩) (fun g hg => ⟨fun h => h.1, fun h => ⟨h, hg⟩⟩) (fun g h1 h2 => h.sto.re g h1.1 h2.1)
    clk := h.clk.mono (fun g hg h => ⟨h, hg⟩)
    qr := fun x => h.qr x.1, qe := fun x => h.qe x.1, qk := fun x => h.qk x.1, ks := fun x => h.ks x.1
    kr := fun g h1 h2 => h.kr g h1.1 h2.1
    ke := fun g h1 h2 => h.ke g h1.1 h2.1
    fR := fun g hg => h.fR g hg.1
    fE := fun g hg => h.fE g hg.1
    fK := fun g hg => h.fK g hg.1 }, fun g h => h.2, fun g h => h.2, fun g h => h.2⟩
theorem arr_end {w W w' : World} {q s p k : Nat} {F fr fe fk fr' fe' : Nat → Prop} {c : Cfg} {m m' : ClkM} {K K' : Nat} {r r' : RingM SnapS} {cs cs' : List Int} {P : Int → Int → List EntM → Prop} {n n' : Int} (h : CliAt w q s p k F fr fe fk c m K r cs P n)
    (lk : ∀ g, fk g → g < w.heap.size) (hB : Blk w' q (cliC c s k n') 71) (hS : Sto w' s p fr' fe' c.ring.toNat r' cs' P) (h1 : ∀ g, fr' g → fr g ∨ w.heap.size ≤ g) (h2 : ∀ g, fe' g → fe g ∨ w.heap.size ≤ g)
    (l1 : ∀ g, fr' g → g < W.heap.size) (l2 : ∀ g, fe' g → g < W.heap.size) (hC : Clk w' k (fun g => fk g ∨ (W.heap.size ≤ g ∧ g < w'.heap.size)) c m' K') (hw : w.heap.size ≤ W.heap.size) (hw' : W.heap.size ≤ w'.heap.size) :
    Cli w' q (fun g => F g ∨ (w.heap.size ≤ g ∧ g < w'.heap.size)) c m' K' r' P := by
  have hq := h.blk.lt
  have hs := h.sto.blk.lt
  refine ⟨s, p, k, fr', fe', _, cs', n', ⟨hB, hS, hC, h.qs, ?_, ?_, ?_, ?_, ?_, ?_, .inl h.fq, .inl h.fs, ?_, ?_, ?_⟩⟩
  · intro e
    rcases h1 q e with e | e
    · exact h.qr e
    · omega
  · intro e
    rcases h2 q e with e | e
    · exact h.qe e
    · omega
  · rintro (e | e)
    · exact h.qk e
    · omega
  · rintro (e | e)
    · exact h.ks e
    · omega
  · rintro g (e | e) hr
    · rcases h1 g hr with h3 | h3
      · exact h.kr g e h3
      · have := lk g e
        omega
    · have := l1 g hr
      omega
  · rintro g (e | e) hr
    · rcases h2 g hr with h3 | h3
      · exact h.ke g e h3
      · have := lk g e
        omega
    · have := l2 g hr
      omega
  · intro g hg
    rcases h1 g hg with h3 | h3
    · exact .inl (h.fR g h3)
    · have := l1 g hg
      exact .inr (by omega)
  · intro g hg
    rcases h2 g hg with h3 | h3
    · exact .inl (h.fE g h3)
    · have := l2 g hg
      exact .inr (by omega)
  · rintro g (e | e)
    · exact .inl (h.fK g e)
    · exact .inr (by omega)
set_option maxRecDepth 100000 in
set_option maxHeartbeats 8000000 in
theorem arrive_calls (R : Int → Int → EntM → Prop) (w : World) (q : Nat) (F : Nat → Prop) (c : Cfg) (hc : COk c) (m : ClkM) (K : Nat) (r : RingM SnapS) (h : Cli w q F c m K r (OneE R)) (tick time : Int) (hs : SnapOk tick time) (x : EntM) (hx : x.Ok) (hgen : x.gen = 0)
    (hm : May c.ring.toNat r tick time) (hR : R tick time x) (ht : ∀ t y, R tick t y → t = time) (loc : Int) (hl : I64 loc) (htm : I64 time) (hK : K < 100000) (v : Value) (own : Option Nat) (hv : Sl w v 5 1 (gramL tick time x).length (u8s (gramL tick time x)) own) :
    Calls Tryz.prog 8 #[.pointer (some ⟨q, 0, none⟩), .int .i64 loc, v] w (ArrPost R w q F c (smpM c m loc time) (K + 1) r tick time) := by
  obtain ⟨s, p, kk, fr, fe, fk, cs, n, h, lr, le, lk⟩ := h.tight
  obtain ⟨va, vc, rfl, -, -⟩ := hv.form
  have c0 := h.blk.cell (i := 11) rfl
  have HA := Lib.hid (accept_calls tick time hs x hx hgen w s p fr fe c.ring.toNat r cs (OneE R) h.sto hm ⟨x, rfl, hx, hs, hR⟩ _ own hv)
  have HSM := Lib.hid (fun W (fp : Nat → Prop) (hh : Clk W kk fp c m K) => sample_calls W kk fp c m K loc time hc hh hK hl htm)
  have HH := Lib.hid h
  have HLK := Lib.hid lk
  have HT := Lib.hid ht
  have hms := h.sto.ring.srt
  have hml := h.sto.ring.len
  have HM := Lib.hid (fun sx hs' => lay_has hm hms hml sx hs')
  have hqsz := h.blk.lt
  clear h hv hm hR ht hs hx hgen hms hml hl htm lr le lk
  go_enter Tryz.func8, Tryz.ntmps8
  go_wp2_with fail
  refine HA.out.mono ?_
  rintro e w1 ⟨rfl, fr', fe', cs', a, cap, hS, h1, h2, hk1⟩
  have hlay := HM.out ⟨tick, time, a, 1, cap⟩ hS.ring.srt
  have HTM := Lib.hid (get_time hS hlay HT.out)
  have HST := Lib.hid hS
  have HF1 := Lib.hid h1
  have HF2 := Lib.hid h2
  have HK1 := Lib.hid hk1
  have hqn : ¬ (q = s ∨ fr q) := fun e => by rcases e with e | e; exact HH.out.qs e; exact HH.out.qr e
  have HB := Lib.hid (hk1.blk HH.out.blk hqn)
  have HCK := Lib.hid (HH.out.clk.kept hk1 (fun g hg e => by
    rcases e with e | e
    · subst e; exact HH.out.ks hg
    · exact HH.out.kr g hg e))
  have c0 := HB.out.cell (i := 11) rfl
  have HGET := Lib.hid (sget_calls tick w1 s p fr' fe' c.ring.toNat _ cs' (OneE R) hS)
  rw [HTM.out, hlay] at HGET
  clear hS h1 h2 hk1 hqn hlay
  go_wp2_with fail
  refine HGET.out.mono ?_
  rintro e w2 ⟨v2, ents, rfl, hE, -, -, hk2⟩
  obtain ⟨a2, cap2, rfl, -, -⟩ := hE.form
  have HK2 := Lib.hid hk2
  have B2 := (hk2.blk HB.out (fun h => h)).alloc (.cells #[.int .i64 (RingN.getM (layM c.ring.toNat r tick ⟨tick, time, a, 1, cap⟩).1.l tick).tick, .int .i64 time, .slice a2 ents.length cap2] 42)
  have d0 := B2.cell (i := 12) rfl
  have d1 := (Blk.new w2 [.int .i64 (RingN.getM (layM c.ring.toNat r tick ⟨tick, time, a, 1, cap⟩).1.l tick).tick, .int .i64 time, .slice a2 ents.length cap2] 42).cell (i := 1) rfl
  clear hE hk2 B2 c0
  go_wp2_with fail
  have HX2 := Lib.hid ((HK2.out.alloc (.cells #[.int .i64 (RingN.getM (layM c.ring.toNat r tick ⟨tick, time, a, 1, cap⟩).1.l tick).tick, .int .i64 time, .slice a2 ents.length cap2] 42)))
  generalize (w2.alloc (.cells #[.int .i64 (RingN.getM (layM c.ring.toNat r tick ⟨tick, time, a, 1, cap⟩).1.l tick).tick, .int .i64 time, .slice a2 ents.length cap2] 42)) = W at *
  refine region_mix2 (fun w' => ∃ n, w' = W.drewN n) [] [0, 1, 2, 3, 4, 5, 6] 7 [8] (by kernel_rfl) (by kernel_rfl) (fun _ _ d _ _ h => by cases d <;> exact h) ⟨1, rfl⟩ ?_
  simp only [pick, List.filterMap_cons, List.filterMap_nil, List.getElem?_toArray, List.getElem?_cons_zero, List.getElem?_cons_succ, floatPut, Act.put, Act.eval, List.setIfInBounds_toArray, List.set_cons_zero, List.set_cons_succ, Array.getD_eq_getD_getElem?, Option.getD_some]
  repeat (change wpQuiet _ _ _ _ (List.cons _ _) _; go_big_quiet_step (fail))
  refine wpQuiet_nil ?_
  rintro _ ⟨n2, rfl⟩
  have HX3 := Lib.hid (HX2.out.drewN n2)
  go_wp2_with fail
  refine (HSM.out _ _ (HCK.out.kept HX3.out (fun _ _ h => h))).mono ?_
  rintro e w3 ⟨rfl, hC, hk3⟩
  have HC3 := Lib.hid hC
  have HK3 := Lib.hid hk3
  clear hC hk3 d0 d1
  go_wp2_with fail
  simp only [QThen]
  repeat (change wpQuiet _ _ _ _ (List.cons _ _) _; go_big_quiet_step (fail))
  refine wpQuiet_nil ?_
  rintro _ ⟨n3, rfl⟩
  go_wp2_with fail
  go_ret
  have kd := (Kept.refl (fun _ => False) w3).drewN n3
  have s1 := HK1.out.size
  have s2 := HX3.out.size
  have s3 := HK3.out.size
  have l1 := HST.out
  have hfk : ∀ g, fk g → ¬ fr' g := fun g hg e => by
    rcases HF1.out g e with e | e
    · exact HH.out.kr g hg e
    · have := HLK.out g hg
      omega
  have hfe : ∀ g, fk g → ¬ fe' g := fun g hg e => by
    rcases HF2.out g e with e | e
    · exact HH.out.ke g hg e
    · have := HLK.out g hg
      omega
  have hst : Sto (w3.drewN n3) s p (fun g => fr' g ∧ g < w1.heap.size) (fun g => fe' g ∧ g < w1.heap.size) c.ring.toNat (layM c.ring.toNat r tick ⟨tick, time, a, 1, cap⟩).1 cs' (OneE R) :=
    (((HST.out.mono (fr' := fun g => fr' g ∧ g < w1.heap.size) (fe' := fun g => fe' g ∧ g < w1.heap.size) (fun g hg => ⟨fun h => h.1, fun h => ⟨h, hg⟩⟩) (fun g hg => ⟨fun h => h.1, fun h => ⟨h, hg⟩⟩) (fun g h1 h2 => HST.out.re g h1.1 h2.1)).kept HX3.out (fun h => h) (fun _ _ h => h) (fun _ _ h => h)).kept HK3.out (fun h => HH.out.ks h) (fun g h1 h2 => hfk g h2 h1.1) (fun g h1 h2 => hfe g h2 h1.1)).kept kd (fun h => h) (fun _ _ h => h) (fun _ _ h => h)
  have hb : Blk (w3.drewN n3) q (cliC c s kk n) 71 := kd.blk (HK3.out.blk (HX3.out.blk HB.out (fun h => h)) HH.out.qk) (fun h => h)
  refine ⟨rfl, a, cap, arr_end HH.out HLK.out hb hst (fun g hg => HF1.out g hg.1) (fun g hg => HF2.out g hg.1) (fun g hg => by have := hg.2; omega) (fun g hg => by have := hg.2; omega) (HC3.out.kept kd (fun _ _ h => h)) (by omega) (by exact s3), ?_⟩
  refine (((HK1.out.mono (G := F) (fun g _ hg => ?_)).trans HX3.out (fun _ h => h.elim)).trans HK3.out (fun g hg => .inl (HH.out.fK g hg))).trans kd (fun _ h => h.elim)
  rcases hg with rfl | hg
  · exact HH.out.fs
  · exact HH.out.fR g hg
end Go.Proofs.YtekdkckgmleofaaGreat

/- Client's Frame, of snapshots of one entity each. -/
namespace Go.Proofs.YtekdkckgmleofaaGreat
open Go.RowKit
/-- The poses of a time, as a value. -/
def PosesAt (c : Cfg) (ys : List (SnapS × EntM)) (at_ : Int) (v : Value) (lo : Nat) (w : World) : Prop :=
  ((∀ y ∈ ys, at_ < y.1.time) ∧ v = .slice none 0 0) ∨
  ∃ (j : Nat) (y : SnapS × EntM), ys[j]? = some y ∧ y.1.time ≤ at_ ∧ (∀ (k : Nat) (z : SnapS × EntM), j < k → ys[k]? = some z → at_ < z.1.time) ∧
    ((j + 1 = ys.length ∧ OneP 48 6 (poseC (beyP c y.2 (satI (at_ - y.1.time)))) v lo w) ∨
     ∃ z p, ys[j + 1]? = some z ∧ WayM c y.2 z.2 (at_ - y.1.time).toNat (z.1.time - y.1.time).toNat p ∧ OneP 48 6 (poseC ⟨y.2.id, p, y.2.ang, if c.curved then 2 else 1⟩) v lo w)
theorem PosesAt.kept {F : Nat → Prop} {c : Cfg} {ys : List (SnapS × EntM)} {at_ : Int} {v : Value} {lo : Nat} {w w' : World} (h : PosesAt c ys at_ v lo w) (k : Kept F w w') (hF : ∀ g, lo ≤ g → ¬ F g) : PosesAt c ys at_ v lo w' := by
  rcases h with h | ⟨j, y, h1, h2, h3, h4⟩
  · exact .inl h
  · refine .inr ⟨j, y, h1, h2, h3, ?_⟩
    rcases h4 with ⟨h4, h5⟩ | ⟨z, p, h4, h5, h6⟩
    · exact .inl ⟨h4, h5.kept k hF⟩
    · exact .inr ⟨z, p, h4, h5, h6.kept k hF⟩
theorem PosesAt.later {c : Cfg} {ys : List (SnapS × EntM)} {at_ : Int} {v : Value} {lo lo' : Nat} {w : World} (h : PosesAt c ys at_ v lo w) (hl : lo' ≤ lo) : PosesAt c ys at_ v lo' w := by
  rcases h with h | ⟨j, y, h1, h2, h3, h4⟩
  · exact .inl h
  · refine .inr ⟨j, y, h1, h2, h3, ?_⟩
    rcases h4 with ⟨h4, g, h5, h6⟩ | ⟨z, p, h4, h5, g, h6, h7⟩
    · exact .inl ⟨h4, g, h5, Nat.le_trans hl h6⟩
    · exact .inr ⟨z, p, h4, h5, g, h6, Nat.le_trans hl h7⟩
theorem show_poses {c : Cfg} {ys : List (SnapS × EntM)} {at_ : Int} {w w' : World} {e : Ending} (h : ShowPost c ys at_ w e w') :
    ∃ v er, e = .returned (.tuple #[v, .int .i64 er]) ∧ PosesAt c ys at_ v w.heap.size w' ∧ Kept (fun _ => False) w w' := by
  rcases h with ⟨h1, rfl, hk⟩ | ⟨j, y, h1, h2, h3, h4⟩
  · exact ⟨_, 5, rfl, .inl ⟨h1, rfl⟩, hk⟩
  · rcases h4 with ⟨h4, v, rfl, h5, hk⟩ | ⟨z, h4, p, h5, v, rfl, h6, hk⟩
    · exact ⟨v, 0, rfl, .inr ⟨j, y, h1, h2, h3, .inl ⟨h4, h5⟩⟩, hk⟩
    · exact ⟨v, 0, rfl, .inr ⟨j, y, h1, h2, h3, .inr ⟨z, p, h4, h5, h6⟩⟩, hk⟩
theorem PosesAt.form {c : Cfg} {ys : List (SnapS × EntM)} {at_ : Int} {v : Value} {lo : Nat} {w : World} (h : PosesAt c ys at_ v lo w) : ∃ a n cap, v = .slice a n cap := by
  rcases h with ⟨_, h⟩ | ⟨j, y, h1, h2, h3, h4⟩
  · exact ⟨_, _, _, h⟩
  · rcases h4 with ⟨h4, g, h5, h6⟩ | ⟨z, p, h4, h5, g, h6, h7⟩
    · obtain ⟨a, cap, e, -, -⟩ := h5.form
      exact ⟨_, _, _, e⟩
    · obtain ⟨a, cap, e, -, -⟩ := h6.form
      exact ⟨_, _, _, e⟩
def FrNone (w : World) (q : Nat) (F : Nat → Prop) (c : Cfg) (m : ClkM) (K : Nat) (r : RingM SnapS) (P : Int → Int → List EntM → Prop) (e : Ending) (w' : World) : Prop :=
  e = .returned (.agg #[.bool false, .int .i64 0, .slice none 0 0]) ∧ Cli w' q F c m K r P ∧ Kept F w w'
def FrSome (R : Int → Int → EntM → Prop) (w : World) (q : Nat) (F : Nat → Prop) (c : Cfg) (m : ClkM) (K : Nat) (r : RingM SnapS) (e : Ending) (w' : World) : Prop :=
  ∃ v ys, e = .returned (.agg #[.bool true, .int .i64 m.sl.at_, v]) ∧ Cli w' q F c m K r (OneE R) ∧ Kept F w w' ∧ ys.map (fun y => (y.1.tick, y.1.time)) = r.l.map (fun z => (z.2.tick, z.2.time)) ∧ (∀ y ∈ ys, R y.1.tick y.1.time y.2) ∧ PosesAt c ys m.sl.at_ v w.heap.size w'
theorem cfg_cells {w : World} {q : Nat} {c : Cfg} {s k : Nat} {n : Int} {t : TypeId} (h : Blk w q (cliC c s k n) t) :
    w.cell? ⟨q, 0, none⟩ = some (.int .i64 c.ring) ∧ w.cell? ⟨q, 1, none⟩ = some (.int .i64 c.window) ∧ w.cell? ⟨q, 2, none⟩ = some (.int .i64 c.base) ∧ w.cell? ⟨q, 3, none⟩ = some (.int .i64 c.gain) ∧ w.cell? ⟨q, 4, none⟩ = some (.int .i64 c.least) ∧ w.cell? ⟨q, 5, none⟩ = some (.int .i64 c.most) ∧ w.cell? ⟨q, 6, none⟩ = some (.int .i64 c.slack) ∧ w.cell? ⟨q, 7, none⟩ = some (.int .i64 c.num) ∧ w.cell? ⟨q, 8, none⟩ = some (.int .i64 c.den) ∧ w.cell? ⟨q, 9, none⟩ = some (.int .i64 c.extra) ∧ w.cell? ⟨q, 10, none⟩ = some (.bool c.curved) :=
  ⟨h.cell (i := 0) rfl, h.cell (i := 1) rfl, h.cell (i := 2) rfl, h.cell (i := 3) rfl, h.cell (i := 4) rfl, h.cell (i := 5) rfl, h.cell (i := 6) rfl, h.cell (i := 7) rfl, h.cell (i := 8) rfl, h.cell (i := 9) rfl, h.cell (i := 10) rfl⟩
theorem CliAt.set {F fr fe fk : Nat → Prop} {w : World} {q s p k : Nat} {c : Cfg} {m : ClkM} {K : Nat} {r : RingM SnapS} {cs : List Int} {P : Int → Int → List EntM → Prop} {n : Int} (h : CliAt w q s p k F fr fe fk c m K r cs P n) (n' : Int) :
    CliAt (w.setCell ⟨q, 13, none⟩ (.int .i64 n')) q s p k F fr fe fk c m K r cs P n' := by
  have kp : Kept (fun g => g = q) w (w.setCell ⟨q, 13, none⟩ (.int .i64 n')) := (Kept.refl (fun g => g = q) w).setCell (a := ⟨q, 13, none⟩) (.inl rfl) _
  exact { h with
    blk := h.blk.set 13 (.int .i64 n')
    sto := h.sto.kept kp (fun e => h.qs e.symm) (fun g hg e => h.qr (e ▸ hg)) (fun g hg e => h.qe (e ▸ hg))
    clk := h.clk.kept kp (fun g hg e => h.qk (e ▸ hg)) }
theorem CliAt.clock {F fr fe fk : Nat → Prop} {w w' : World} {q s p k : Nat} {c : Cfg} {m m' : ClkM} {K K' : Nat} {r : RingM SnapS} {cs : List Int} {P : Int → Int → List EntM → Prop} {n : Int} (h : CliAt w q s p k F fr fe fk c m K r cs P n) (kp : Kept fk w w') (hc : Clk w' k fk c m' K') :
    CliAt w' q s p k F fr fe fk c m' K' r cs P n :=
  { h with
    blk := kp.blk h.blk h.qk
    sto := h.sto.kept kp h.ks (fun g h1 h2 => h.kr g h2 h1) (fun g h1 h2 => h.ke g h2 h1)
    clk := hc }
set_option maxRecDepth 100000 in
set_option maxHeartbeats 8000000 in
theorem frame_none (w : World) (q : Nat) (F : Nat → Prop) (c : Cfg) (m : ClkM) (K : Nat) (r : RingM SnapS) (P : Int → Int → List EntM → Prop) (h : Cli w q F c m K r P) (he : m.last = []) (loc : Int) :
    Calls Tryz.prog 10 #[.pointer (some ⟨q, 0, none⟩), .int .i64 loc] w (FrNone w q F c m K r P) := by
  obtain ⟨s, p, kk, fr, fe, fk, cs, n, h, lr, le, lk⟩ := h.tight
  have hq := h.blk.lt
  have b13 := h.blk.cell (i := 13) rfl
  have g13 := h.blk.free 13
  have HK0 : Hid (Kept F w ((w.setCell ⟨q, 13, none⟩ (.int .i64 (wrap64 (n + 1)))).alloc (.cells #[.bool false, .int .i64 0, .slice none 0 0] 45))) := Lib.hid (((Kept.refl F w).setCell (a := ⟨q, 13, none⟩) (.inl h.fq) (.int .i64 (wrap64 (n + 1)))).alloc _)
  have HC0 : Hid (CliAt ((w.setCell ⟨q, 13, none⟩ (.int .i64 (wrap64 (n + 1)))).alloc (.cells #[.bool false, .int .i64 0, .slice none 0 0] 45)) q s p kk F fr fe fk c m K r cs P (wrap64 (n + 1))) := Lib.hid ((h.set (wrap64 (n + 1))).kept ((Kept.refl (fun _ => False) _).alloc _) (fun _ _ h => h))
  have HN0 : Hid (Blk ((w.setCell ⟨q, 13, none⟩ (.int .i64 (wrap64 (n + 1)))).alloc (.cells #[.bool false, .int .i64 0, .slice none 0 0] 45)) w.heap.size [.bool false, .int .i64 0, .slice none 0 0] 45) := Lib.hid (Blk.new_at (by simp) _ _)
  have b12 := HC0.out.blk.cell (i := 12) rfl
  have HLK := Lib.hid lk
  have HLR := Lib.hid lr
  have HLE := Lib.hid le
  have HSZ := Lib.hid h.sto.blk.lt
  have hqs : ¬ w.heap.size = q := by omega
  clear h lr le lk
  go_enter Tryz.func10, Tryz.ntmps10
  go_upto_region 4 with fail
  generalize ((w.setCell ⟨q, 13, none⟩ (.int .i64 (wrap64 (n + 1)))).alloc (.cells #[.bool false, .int .i64 0, .slice none 0 0] 45)) = W1 at *
  clear b13 g13
  go_wp2_with fail
  have e0 := HN0.out.cell (i := 0) rfl
  have e1 := HN0.out.cell (i := 1) rfl
  have e2 := HN0.out.cell (i := 2) rfl
  have f0 := HN0.out.free 0
  have f1 := HN0.out.free 1
  have f2 := HN0.out.free 2
  refine (cframe_none W1 kk fk c m K loc HC0.out.clk he).mono ?_
  rintro e w2 ⟨rfl, hw⟩
  subst hw
  clear b12
  go_wp2_with fail
  have hf := ((HN0.out.set 0 (.bool false)).set 1 (.int .i64 0)).set 2 (.slice none 0 0)
  have r0 := hf.cell (i := 0) rfl
  have r1 := hf.cell (i := 1) rfl
  have r2 := hf.cell (i := 2) rfl
  have kS := (((Kept.refl (fun k => k = w.heap.size) W1).setCell (a := ⟨w.heap.size, 0, none⟩) (.inl rfl) (.bool false)).setCell (a := ⟨w.heap.size, 1, none⟩) (.inl rfl) (.int .i64 0)).setCell (a := ⟨w.heap.size, 2, none⟩) (.inl rfl) (.slice none 0 0)
  refine bodyPost_ret (v := .agg #[.bool false, .int .i64 0, .slice none 0 0]) (by simp [results, Tryz.f10, Tryz.results10, go_sem, r0, r1, r2]) rfl ⟨rfl, ?_, HK0.out.trans kS (fun i hi => .inr (by omega))⟩
  have HT : Cli W1 q (fun g => F g ∧ g < w.heap.size) c m K r P := ⟨s, p, kk, fr, fe, fk, cs, _, { HC0.out with
    fq := ⟨HC0.out.fq, hq⟩
    fs := ⟨HC0.out.fs, HSZ.out⟩
    fR := fun g hg => ⟨HC0.out.fR g hg, HLR.out g hg⟩
    fE := fun g hg => ⟨HC0.out.fE g hg, HLE.out g hg⟩
    fK := fun g hg => ⟨HC0.out.fK g hg, HLK.out g hg⟩ }⟩
  exact (HT.kept kS (fun g hg e => by have := hg.2; omega)).mono (fun g _ hg => hg.1)
set_option maxRecDepth 100000 in
set_option maxHeartbeats 16000000 in
theorem frame_calls (R : Int → Int → EntM → Prop) (w : World) (q : Nat) (F : Nat → Prop) (c : Cfg) (hc : COk c) (m : ClkM) (K : Nat) (r : RingM SnapS) (h : Cli w q F c m K r (OneE R)) (he : m.last ≠ []) (loc : Int) (hl : I64 loc) (hr : r.l ≠ [])
    (hY : ∀ ys : List (SnapS × EntM), ys.map (fun y => (y.1.tick, y.1.time)) = r.l.map (fun z => (z.2.tick, z.2.time)) → (∀ y ∈ ys, R y.1.tick y.1.time y.2) → Ys c ys) :
    Calls Tryz.prog 10 #[.pointer (some ⟨q, 0, none⟩), .int .i64 loc] w (FrSome R w q F c (frmM c m loc) K r) := by
  have HYS := Lib.hid hY
  have HCF := Lib.hid (fun W kk fk hcl => cframe_calls W kk fk c m K loc hc hcl he hl)
  have hlen : r.l.length ≤ 64 := by
    obtain ⟨s, p, kk, fr, fe, fk, cs, n, h⟩ := h
    exact Nat.le_trans h.sto.ring.len h.sto.m2
  have hlen0 : 0 < r.l.length := List.length_pos_iff.2 hr
  have HCC := Lib.hid hc
  clear hY he hl hr hc
  obtain ⟨s, p, kk, fr, fe, fk, cs, n, h, lr, le, lk⟩ := h.tight
  have hq := h.blk.lt
  have b13 := h.blk.cell (i := 13) rfl
  have g13 := h.blk.free 13
  have HK0 : Hid (Kept F w ((w.setCell ⟨q, 13, none⟩ (.int .i64 (wrap64 (n + 1)))).alloc (.cells #[.bool false, .int .i64 0, .slice none 0 0] 45))) := Lib.hid (((Kept.refl F w).setCell (a := ⟨q, 13, none⟩) (.inl h.fq) (.int .i64 (wrap64 (n + 1)))).alloc _)
  have HC0 : Hid (CliAt ((w.setCell ⟨q, 13, none⟩ (.int .i64 (wrap64 (n + 1)))).alloc (.cells #[.bool false, .int .i64 0, .slice none 0 0] 45)) q s p kk F fr fe fk c m K r cs (OneE R) (wrap64 (n + 1))) := Lib.hid ((h.set (wrap64 (n + 1))).kept ((Kept.refl (fun _ => False) _).alloc _) (fun _ _ h => h))
  have HN0 : Hid (Blk ((w.setCell ⟨q, 13, none⟩ (.int .i64 (wrap64 (n + 1)))).alloc (.cells #[.bool false, .int .i64 0, .slice none 0 0] 45)) w.heap.size [.bool false, .int .i64 0, .slice none 0 0] 45) := Lib.hid (Blk.new_at (by simp) _ _)
  have b12 := HC0.out.blk.cell (i := 12) rfl
  have HLK := Lib.hid lk
  have HLR := Lib.hid lr
  have HLE := Lib.hid le
  have HSZ := Lib.hid h.sto.blk.lt
  have hqs : ¬ w.heap.size = q := by omega
  clear h lr le lk
  go_enter Tryz.func10, Tryz.ntmps10
  go_upto_region 4 with fail
  generalize ((w.setCell ⟨q, 13, none⟩ (.int .i64 (wrap64 (n + 1)))).alloc (.cells #[.bool false, .int .i64 0, .slice none 0 0] 45)) = W1 at *
  clear b13 g13
  go_wp2_with fail
  refine (HCF.out _ _ _ HC0.out.clk).mono ?_
  rintro e w2 ⟨rfl, hcl, hk2⟩
  have HC2 := Lib.hid (HC0.out.clock hk2 hcl)
  have HN2 := Lib.hid (hk2.blk HN0.out (fun h => by have := HLK.out _ h; omega))
  have HK2 := Lib.hid (HK0.out.trans hk2 (fun g hg => .inl (HC0.out.fK g hg)))
  have hat : I64 (frmM c m loc).sl.at_ := by
    obtain ⟨_, _, _, _, _, _, _, hcl, _⟩ := hcl
    exact hcl.slew.2.1
  have HSN := Lib.hid (fun W (hk : Kept (fun _ => False) w2 W) => snaps_calls R W q F c (frmM c m loc) K r (Cli.kept ⟨s, p, kk, fr, fe, fk, cs, _, HC2.out⟩ hk (fun _ _ h => h)))
  have HSH := Lib.hid (fun W ys hy hl h0 hx v own hv => show_calls c HCC.out ys hy hl h0 (frmM c m loc).sl.at_ hat W hx v own hv)
  generalize hat_ : (frmM c m loc).sl.at_ = at_ at *
  obtain ⟨g0, g1, g2, g3, g4, g5, g6, g7, g8, g9, g10⟩ := cfg_cells HC2.out.blk
  clear b12 hk2 hcl hat
  go_wp2_with fail
  have HBB := Lib.hid HC2.out.blk
  go_region_held3 (fun w' => w'.cell? ⟨q, 0, none⟩ = some (.int .i64 c.ring) ∧ w'.cell? ⟨q, 1, none⟩ = some (.int .i64 c.window) ∧ w'.cell? ⟨q, 2, none⟩ = some (.int .i64 c.base) ∧ w'.cell? ⟨q, 3, none⟩ = some (.int .i64 c.gain) ∧ w'.cell? ⟨q, 4, none⟩ = some (.int .i64 c.least) ∧ w'.cell? ⟨q, 5, none⟩ = some (.int .i64 c.most) ∧ w'.cell? ⟨q, 6, none⟩ = some (.int .i64 c.slack) ∧ w'.cell? ⟨q, 7, none⟩ = some (.int .i64 c.num) ∧ w'.cell? ⟨q, 8, none⟩ = some (.int .i64 c.den) ∧ w'.cell? ⟨q, 9, none⟩ = some (.int .i64 c.extra) ∧ w'.cell? ⟨q, 10, none⟩ = some (.bool c.curved))
    (first | (go_keep; done) | exact cfg_cells HB4.out | exact cfg_cells HB5.out)
    (first
      | (go_at_call 27; refine (HSN.out _ ((Kept.refl (fun _ => False) w2).drew)).mono ?_; rintro e w4 ⟨v4, ys, own, rfl, hI⟩; obtain ⟨a4, cap4, rfl, -, -⟩ := hI.row.form; have HI4 := Lib.hid hI; have HB4 := Lib.hid (hI.kept.blk HBB.out.drew (fun h => h)); have HK4 := Lib.hid (((Kept.refl (fun _ => False) w2).drew).trans hI.kept (fun _ h => h.elim)); clear hI)
      | (go_at_call 26; refine (HSH.out w4 ys (HYS.out ys (by have := HI4.out.same; rwa [List.take_length] at this) (fun y hy => (HI4.out.el y hy).2)) (by have := HI4.out.len; omega) (by have := HI4.out.len; omega) (fun y hy => (HI4.out.el y hy).1) _ own (by rw [List.length_map, HI4.out.len]; exact HI4.out.row)).mono ?_; intro e w5 hp; obtain ⟨v5, er, rfl, hp5, hk5⟩ := show_poses hp; have HP5 := Lib.hid hp5; have HK5 := Lib.hid hk5; have HB5 := Lib.hid (hk5.blk HB4.out (fun h => h)); clear hp hp5 hk5))
  obtain ⟨b5, l5, p5, rfl⟩ := HP5.out.form
  have hk25 := HK4.out.trans HK5.out (fun _ h => h.elim)
  have HN5 := Lib.hid (hk25.blk HN2.out (fun h => h))
  have HK25 := Lib.hid hk25
  have e0 := HN5.out.cell (i := 0) rfl
  have e1 := HN5.out.cell (i := 1) rfl
  have e2 := HN5.out.cell (i := 2) rfl
  have f0 := HN5.out.free 0
  have f1 := HN5.out.free 1
  have f2 := HN5.out.free 2
  have hnl := HN2.out.lt
  have hs4 := HK4.out.size
  clear hk25 g0 g1 g2 g3 g4 g5 g6 g7 g8 g9 g10
  go_wp2_with fail
  have hf := ((HN5.out.set 0 (.bool true)).set 1 (.int .i64 at_)).set 2 (.slice b5 l5 p5)
  have r0 := hf.cell (i := 0) rfl
  have r1 := hf.cell (i := 1) rfl
  have r2 := hf.cell (i := 2) rfl
  have kS := (((Kept.refl (fun k => k = w.heap.size) w5).setCell (a := ⟨w.heap.size, 0, none⟩) (.inl rfl) (.bool true)).setCell (a := ⟨w.heap.size, 1, none⟩) (.inl rfl) (.int .i64 at_)).setCell (a := ⟨w.heap.size, 2, none⟩) (.inl rfl) (.slice b5 l5 p5)
  refine bodyPost_ret (v := .agg #[.bool true, .int .i64 at_, .slice b5 l5 p5]) (by simp [results, Tryz.f10, Tryz.results10, go_sem, r0, r1, r2]) rfl ⟨_, ys, by rw [hat_], ?_, (HK2.out.trans HK25.out (fun _ h => h.elim)).trans kS (fun i hi => .inr (by omega)), by have := HI4.out.same; rwa [List.take_length] at this, fun y hy => (HI4.out.el y hy).2, ?_⟩
  · have HT : Cli w2 q (fun g => F g ∧ g < w.heap.size) c (frmM c m loc) K r (OneE R) := ⟨s, p, kk, fr, fe, fk, cs, _, { HC2.out with
      fq := ⟨HC2.out.fq, hq⟩
      fs := ⟨HC2.out.fs, HSZ.out⟩
      fR := fun g hg => ⟨HC2.out.fR g hg, HLR.out g hg⟩
      fE := fun g hg => ⟨HC2.out.fE g hg, HLE.out g hg⟩
      fK := fun g hg => ⟨HC2.out.fK g hg, HLK.out g hg⟩ }⟩
    exact ((HT.kept HK25.out (fun _ _ h => h)).kept kS (fun g hg e => by have := hg.2; omega)).mono (fun g _ hg => hg.1)
  · rw [hat_]
    exact (HP5.out.kept kS (fun g hg e => by omega)).later (by omega)
end Go.Proofs.YtekdkckgmleofaaGreat

/- The example's parts: its config, its two snapshots, its clock and what is shown. -/
namespace Go.Proofs.YtekdkckgmleofaaGreat
open Go.RowKit
abbrev plainM : Cfg := ⟨8, 4, 0, 0, 0, 0, 0, 1, 1, 5, false⟩
theorem plain_ok : COk plainM := by
  refine ⟨?_, ?_, ?_, ?_, ?_, ?_, ?_, ?_, ?_, ?_, ?_⟩
  · constructor <;> decide
  all_goals decide
theorem plain_calls (w : World) : Calls Tryz.prog 17 #[] w fun e w' => e = .returned (cfgV plainM) ∧ Kept (fun _ => False) w w' := by
  go_enter Tryz.func17, Tryz.ntmps17
  go_wp2_with fail
  have hb := Blk.new w (cfgC plainM) 26
  have d0 := hb.cell (i := 0) rfl
  have d1 := hb.cell (i := 1) rfl
  have d2 := hb.cell (i := 2) rfl
  have d3 := hb.cell (i := 3) rfl
  have d4 := hb.cell (i := 4) rfl
  have d5 := hb.cell (i := 5) rfl
  have d6 := hb.cell (i := 6) rfl
  have d7 := hb.cell (i := 7) rfl
  have d8 := hb.cell (i := 8) rfl
  have d9 := hb.cell (i := 9) rfl
  have d10 := hb.cell (i := 10) rfl
  simp only [cfgC] at d0 d1 d2 d3 d4 d5 d6 d7 d8 d9 d10
  exact bodyPost_ret (v := cfgV plainM) (by simp [results, Tryz.f17, Tryz.results17, go_sem, d0, d1, d2, d3, d4, d5, d6, d7, d8, d9, d10, cfgV, cfgC]) rfl ⟨rfl, (Kept.refl _ w).alloc _⟩
abbrev xa : EntM := ⟨1, 0, 0, 0, 65536, 0, 0, 0, 0⟩
abbrev xb : EntM := ⟨1, 10, 0, 0, 65536, 0, 0, 0, 0⟩
def RA (tick time : Int) (x : EntM) : Prop := (tick = 1 ∧ time = 0 ∧ x = xa) ∨ (tick = 2 ∧ time = 10 ∧ x = xb)
abbrev k0 : ClkM := ⟨[], 0, tgtM plainM 0, ⟨0, 0, false⟩⟩
abbrev k1 : ClkM := smpM plainM k0 100 0
abbrev k2 : ClkM := smpM plainM k1 110 10
abbrev k3 : ClkM := frmM plainM k2 104
abbrev k4 : ClkM := frmM plainM k3 113
abbrev k5 : ClkM := frmM plainM k4 900
theorem at3 : k3.sl.at_ = 4 := by decide +kernel
theorem at4 : k4.sl.at_ = 13 := by decide +kernel
theorem at5 : k5.sl.at_ = 800 := by decide +kernel
theorem last2 : k2.last = [100, 100] := by decide +kernel
theorem alvL {a a' : Option Addr} {cap cap' : Nat} : (layM 8 (layM 8 (⟨[], 0, false⟩ : RingM SnapS) 1 ⟨1, 0, a, 1, cap⟩).1 2 ⟨2, 10, a', 1, cap'⟩).1.l = ([(1, ⟨1, 0, a, 1, cap⟩), (2, ⟨2, 10, a', 1, cap'⟩)] : List (Int × SnapS)) := rfl
theorem may1 : May 8 ⟨[], 0, false⟩ 1 0 := ⟨rfl, rfl, rfl⟩
theorem may2 {a : Option Addr} {cap : Nat} : May 8 (layM 8 ⟨[], 0, false⟩ 1 ⟨1, 0, a, 1, cap⟩).1 2 10 := ⟨rfl, rfl, rfl⟩
theorem RA_ys {ys : List (SnapS × EntM)} (h1 : ys.map (fun y => (y.1.tick, y.1.time)) = [(1, 0), (2, 10)]) (h2 : ∀ y ∈ ys, RA y.1.tick y.1.time y.2) : ∃ s t, ys = [(s, xa), (t, xb)] ∧ s.time = 0 ∧ t.time = 10 := by
  match ys, h1, h2 with
  | [], h1, _ => cases h1
  | [y], h1, _ => simp at h1
  | [y, z], h1, h2 =>
    simp only [List.map_cons, List.map_nil, List.cons.injEq, Prod.mk.injEq, and_true] at h1
    obtain ⟨⟨e1, e2⟩, e3, e4⟩ := h1
    have r1 := h2 y (by simp)
    have r2 := h2 z (by simp)
    rw [e1, e2] at r1
    rw [e3, e4] at r2
    rcases r1 with ⟨_, _, r1⟩ | ⟨r1, _⟩
    · rcases r2 with ⟨r2, _⟩ | ⟨_, _, r2⟩
      · exact absurd r2 (by decide)
      · exact ⟨y.1, z.1, by rw [← r1, ← r2], e2, e4⟩
    · exact absurd r1 (by decide)
  | y :: z :: u :: ys, h1, _ => simp at h1
theorem ab_line (n : Nat) (hn : n ≤ 10) : LineOk xa xb n := by
  have f : ∀ j : Nat, j < 3 → posM xb j - posM xa j < 9223372036854775808 ∧ posM xa j ≤ posM xb j ∧ (posM xb j - posM xa j).toNat ≤ 10 := by decide
  refine ⟨fun j hj => (f j hj).1, fun j hj => (f j hj).2.1, fun j hj => ?_⟩
  have h1 := (f j hj).2.2
  have h2 : (posM xb j - posM xa j).toNat * n ≤ 10 * 10 := Nat.mul_le_mul h1 hn
  omega
theorem RA_Ys {ys : List (SnapS × EntM)} (h1 : ys.map (fun y => (y.1.tick, y.1.time)) = [(1, 0), (2, 10)]) (h2 : ∀ y ∈ ys, RA y.1.tick y.1.time y.2) : Ys plainM ys := by
  obtain ⟨s, t, rfl, hs, ht⟩ := RA_ys h1 h2
  refine ⟨?_, ?_, ?_, ?_⟩
  · intro y hy
    simp only [List.mem_cons, List.not_mem_nil, or_false] at hy
    rcases hy with rfl | rfl <;> simp [hs, ht]
  · simp [hs, ht]
  · intro y hy z hz
    simp only [List.mem_cons, List.not_mem_nil, or_false] at hy hz
    rcases hy with rfl | rfl <;> rcases hz with rfl | rfl <;> exact ⟨rfl, rfl, rfl⟩
  · intro _ j y z hy hz n hn
    rcases j with _ | j
    · simp only [List.getElem?_cons_zero, Option.some.injEq, Nat.zero_add, List.getElem?_cons_succ] at hy hz
      subst hy
      subst hz
      simp only [hs, ht] at hn
      have hn10 : n ≤ 10 := by omega
      exact ab_line n hn10
    · simp at hz
/-- One pose, at a number. -/
def PoseIs (v : Value) (n m : Int) (lo : Nat) (w : World) : Prop := ∃ g off cap, v = .slice (some ⟨g, off, none⟩) 1 cap ∧ lo ≤ g ∧ (∀ (i : Nat) u, [Value.int .i64 1, .int .i64 n, .int .i64 0, .int .i64 0, .int .u16 0, .int .i64 m][i]? = some u → w.cell? ⟨g, off + i, none⟩ = some u)
theorem PoseIs.kept {F : Nat → Prop} {v : Value} {n m : Int} {lo : Nat} {w w' : World} (h : PoseIs v n m lo w) (k : Kept F w w') (hF : ∀ g, lo ≤ g → ¬ F g) : PoseIs v n m lo w' := by
  obtain ⟨g, off, cap, h1, h2, h3⟩ := h
  exact ⟨g, off, cap, h1, h2, fun i u hu => k.cell (h3 i u hu) (hF g h2)⟩
theorem oneP_is {x : PoseM} {v : Value} {lo : Nat} {w : World} (h : OneP 48 6 (poseC x) v lo w) {n m : Int} (e : poseC x = [Value.int .i64 1, .int .i64 n, .int .i64 0, .int .i64 0, .int .u16 0, .int .i64 m]) : PoseIs v n m lo w := by
  rw [e] at h
  obtain ⟨g, hs, hg⟩ := h
  obtain ⟨g', off, cap, ho, hv, hcap, -, hc, -⟩ := hs.some (by decide)
  cases ho
  exact ⟨g, off, cap, hv, hg, fun i u hu => hc i u hu⟩
theorem pose3 {ys : List (SnapS × EntM)} (h1 : ys.map (fun y => (y.1.tick, y.1.time)) = [(1, 0), (2, 10)]) (h2 : ∀ y ∈ ys, RA y.1.tick y.1.time y.2) {v : Value} {lo : Nat} {w : World} (h : PosesAt plainM ys 4 v lo w) : PoseIs v 4 1 lo w := by
  obtain ⟨s, t, rfl, hs, ht⟩ := RA_ys h1 h2
  rcases h with ⟨h, _⟩ | ⟨j, y, h3, h4, h5, h6⟩
  · have := h _ (List.mem_cons_self ..)
    simp [hs] at this
  · rcases j with _ | _ | j
    · simp at h3
      subst h3
      rcases h6 with ⟨h6, _⟩ | ⟨z, p, h6, h7, h8⟩
      · simp at h6
      · simp at h6
        subst h6
        simp only [hs, ht] at h7
        have h9 := h7.2 rfl
        subst h9
        exact oneP_is h8 (by kernel_rfl)
    · simp at h3
      subst h3
      simp [ht] at h4
    · simp at h3
theorem poseB {ys : List (SnapS × EntM)} (h1 : ys.map (fun y => (y.1.tick, y.1.time)) = [(1, 0), (2, 10)]) (h2 : ∀ y ∈ ys, RA y.1.tick y.1.time y.2) {at_ n m : Int} (hat : 10 ≤ at_) (he : poseC (beyP plainM xb (satI (at_ - 10))) = [Value.int .i64 1, .int .i64 n, .int .i64 0, .int .i64 0, .int .u16 0, .int .i64 m]) {v : Value} {lo : Nat} {w : World} (h : PosesAt plainM ys at_ v lo w) : PoseIs v n m lo w := by
  obtain ⟨s, t, rfl, hs, ht⟩ := RA_ys h1 h2
  rcases h with ⟨h, _⟩ | ⟨j, y, h3, h4, h5, h6⟩
  · have := h (s, xa) (by simp)
    simp only [hs] at this
    omega
  · rcases j with _ | _ | j
    · have := h5 1 (t, xb) (by decide) rfl
      simp only [ht] at this
      omega
    · simp at h3
      subst h3
      simp only [ht] at h6
      rcases h6 with ⟨_, h6⟩ | ⟨z, p, h6, _⟩
      · exact oneP_is h6 he
      · simp at h6
    · simp at h3
theorem pose4 {ys : List (SnapS × EntM)} (h1 : ys.map (fun y => (y.1.tick, y.1.time)) = [(1, 0), (2, 10)]) (h2 : ∀ y ∈ ys, RA y.1.tick y.1.time y.2) {v : Value} {lo : Nat} {w : World} (h : PosesAt plainM ys 13 v lo w) : PoseIs v 13 3 lo w :=
  poseB h1 h2 (by decide) (by kernel_rfl) h
theorem pose5 {ys : List (SnapS × EntM)} (h1 : ys.map (fun y => (y.1.tick, y.1.time)) = [(1, 0), (2, 10)]) (h2 : ∀ y ∈ ys, RA y.1.tick y.1.time y.2) {v : Value} {lo : Nat} {w : World} (h : PosesAt plainM ys 800 v lo w) : PoseIs v 15 4 lo w :=
  poseB h1 h2 (by decide) (by kernel_rfl) h
end Go.Proofs.YtekdkckgmleofaaGreat

/- The example of the whole: it answers true. -/
namespace Go.Proofs.YtekdkckgmleofaaGreat
open Go.RowKit
theorem xa_ok : xa.Ok := ⟨by decide, by decide, by decide, by decide, by decide⟩
theorem xb_ok : xb.Ok := ⟨by decide, by decide, by decide, by decide, by decide⟩
theorem RA_one : ∀ t y, RA 1 t y → t = 0 := fun t y h => by
  rcases h with ⟨_, h, _⟩ | ⟨h, _⟩
  · exact h
  · exact absurd h (by decide)
theorem RA_two : ∀ t y, RA 2 t y → t = 10 := fun t y h => by
  rcases h with ⟨h, _⟩ | ⟨_, h, _⟩
  · exact absurd h (by decide)
  · exact h
/-- The example's two snapshots in memory. -/
structure AlvI (n : Nat) (W : World) : Prop where
  a0 : Blk W n (entC xa) 39
  a1 : Blk W (n + 1) (snapC 1 0 (.slice (some ⟨n, 0, none⟩) 1 1)) 42
  b0 : Blk W (n + 1 + 1) (entC xb) 39
  b1 : Blk W (n + 1 + 1 + 1) (snapC 2 10 (.slice (some ⟨n + 1 + 1, 0, none⟩) 1 1)) 42
theorem AlvI.kept {n : Nat} {W W' : World} {F : Nat → Prop} (h : AlvI n W) (k : Kept F W W') (hF : ∀ g, g ≤ n + 1 + 1 + 1 → ¬ F g) : AlvI n W' :=
  ⟨k.blk h.a0 (hF _ (by omega)), k.blk h.a1 (hF _ (by omega)), k.blk h.b0 (hF _ (by omega)), k.blk h.b1 (hF _ (by omega))⟩
theorem sl_of_blk {W : World} {n : Nat} {x : EntM} (h : Blk W n (entC x) 39) : Sl W (.slice (some ⟨n, 0, none⟩) 1 1) 39 9 1 (entC x) (some n) :=
  ⟨rfl, .inr ⟨n, 0, 1, (entC x).toArray, rfl, rfl, h, Nat.le_refl _, by unfold maxLen; omega, by simp, by simp⟩⟩
theorem eq36a : ∀ W, Sem.run Tryz.prog (Op.equalIn 9999 36 (.agg #[.int .i64 4, .int .i64 0, .int .i64 0]) (.agg #[.int .i64 4, .int .i64 0, .int .i64 0])) W = .ok true W := fun W => by kernel_rfl
theorem eq36b : ∀ W, Sem.run Tryz.prog (Op.equalIn 9999 36 (.agg #[.int .i64 13, .int .i64 0, .int .i64 0]) (.agg #[.int .i64 13, .int .i64 0, .int .i64 0])) W = .ok true W := fun W => by kernel_rfl
theorem eq36c : ∀ W, Sem.run Tryz.prog (Op.equalIn 9999 36 (.agg #[.int .i64 15, .int .i64 0, .int .i64 0]) (.agg #[.int .i64 15, .int .i64 0, .int .i64 0])) W = .ok true W := fun W => by kernel_rfl
theorem PoseIs.cells {n m : Int} {lo : Nat} {W : World} {g off cap : Nat} (h : PoseIs (.slice (some ⟨g, off, none⟩) 1 cap) n m lo W) :
    W.cell? ⟨g, off, none⟩ = some (.int .i64 1) ∧ W.cell? ⟨g, off + 1, none⟩ = some (.int .i64 n) ∧ W.cell? ⟨g, off + 2, none⟩ = some (.int .i64 0) ∧ W.cell? ⟨g, off + 3, none⟩ = some (.int .i64 0) ∧ W.cell? ⟨g, off + 4, none⟩ = some (.int .u16 0) ∧ W.cell? ⟨g, off + 5, none⟩ = some (.int .i64 m) := by
  obtain ⟨g', off', cap', hv, _, h⟩ := h
  simp only [Value.slice.injEq, Option.some.injEq, Addr.mk.injEq, true_and, and_true] at hv
  obtain ⟨⟨rfl, rfl⟩, rfl⟩ := hv
  exact ⟨h 0 _ rfl, h 1 _ rfl, h 2 _ rfl, h 3 _ rfl, h 4 _ rfl, h 5 _ rfl⟩
set_option maxRecDepth 100000 in
set_option maxHeartbeats 16000000 in
theorem alive_calls (w : World) : Calls Tryz.prog 6 #[] w fun e w' => e = .returned (.bool true) ∧ Kept (fun _ => False) w w' := by
  have HP := Lib.hid (fun W => plain_calls W)
  have HN := Lib.hid (fun W => clinew_calls plainM plain_ok (OneE RA) W)
  go_enter Tryz.func6, Tryz.ntmps6
  go_wp2_with fail
  have A0 : AlvI w.heap.size ((((w.alloc (.cells (entC xa).toArray 39)).alloc (.cells #[.int .i64 1, .int .i64 0, .slice (some ⟨w.heap.size, 0, none⟩) 1 1] 42)).alloc (.cells (entC xb).toArray 39)).alloc (.cells #[.int .i64 2, .int .i64 10, .slice (some ⟨w.heap.size + 1 + 1, 0, none⟩) 1 1] 42)) :=
    ⟨(((Blk.new w (entC xa) 39).alloc _).alloc _).alloc _, ((Blk.new_at (by simp) _ _).alloc _).alloc _, (Blk.new_at (by simp) _ _).alloc _, Blk.new_at (by simp) _ _⟩
  have KK0 : Kept (fun _ => False) w ((((w.alloc (.cells (entC xa).toArray 39)).alloc (.cells #[.int .i64 1, .int .i64 0, .slice (some ⟨w.heap.size, 0, none⟩) 1 1] 42)).alloc (.cells (entC xb).toArray 39)).alloc (.cells #[.int .i64 2, .int .i64 10, .slice (some ⟨w.heap.size + 1 + 1, 0, none⟩) 1 1] 42)) :=
    ((((Kept.refl (fun _ => False) w).alloc _).alloc _).alloc _).alloc _
  have HA0 := Lib.hid A0
  have HK0 := Lib.hid KK0
  have hs0 : w.heap.size + 1 + 1 + 1 + 1 ≤ (((((w.alloc (.cells (entC xa).toArray 39)).alloc (.cells #[.int .i64 1, .int .i64 0, .slice (some ⟨w.heap.size, 0, none⟩) 1 1] 42)).alloc (.cells (entC xb).toArray 39)).alloc (.cells #[.int .i64 2, .int .i64 10, .slice (some ⟨w.heap.size + 1 + 1, 0, none⟩) 1 1] 42))).heap.size := by simp
  clear A0 KK0
  generalize (((((w.alloc (.cells (entC xa).toArray 39)).alloc (.cells #[.int .i64 1, .int .i64 0, .slice (some ⟨w.heap.size, 0, none⟩) 1 1] 42)).alloc (.cells (entC xb).toArray 39)).alloc (.cells #[.int .i64 2, .int .i64 10, .slice (some ⟨w.heap.size + 1 + 1, 0, none⟩) 1 1] 42))) = W0 at *
  refine (HP.out _).mono ?_
  rintro e w1 ⟨rfl, hk1⟩
  have hs1 := hk1.size
  have HA1 := Lib.hid (HA0.out.kept hk1 (fun _ _ h => h))
  have HK1 := Lib.hid (HK0.out.trans hk1 (fun _ h => h.elim))
  clear hk1
  go_wp2_with fail
  refine (HN.out _).mono ?_
  rintro e w2 ⟨q, rfl, hcl, hq, hk2⟩
  have hs2 := hk2.size
  have HA2 := Lib.hid (HA1.out.kept hk2 (fun _ _ h => h))
  have HK2 := Lib.hid (HK1.out.trans hk2 (fun _ h => h.elim))
  have HC2 := Lib.hid hcl
  have s0 := HA2.out.a1.cell (i := 0) rfl
  have s1 := HA2.out.a1.cell (i := 1) rfl
  have s2 := HA2.out.a1.cell (i := 2) rfl
  have HFA := Lib.hid (tfull_calls 1 0 ⟨by decide, by decide, by decide, by decide⟩ xa xa_ok rfl w2 _ _ (sl_of_blk HA2.out.a0))
  clear hk2 hcl
  go_wp2_with fail
  refine HFA.out.mono ?_
  rintro e w3 ⟨v3, g3, rfl, hv3, -, hk3⟩
  have hs3 := hk3.size
  have HA3 := Lib.hid (HA2.out.kept hk3 (fun _ _ h => h))
  have HK3 := Lib.hid (HK2.out.trans hk3 (fun _ h => h.elim))
  have HC3 := Lib.hid (HC2.out.kept hk3 (fun _ _ h => h))
  have HAR := Lib.hid (arrive_calls RA w3 q _ plainM plain_ok k0 0 _ HC3.out 1 0 ⟨by decide, by decide, by decide, by decide⟩ xa xa_ok rfl may1 (.inl ⟨rfl, rfl, rfl⟩) RA_one 100 (by unfold I64; omega) (by unfold I64; omega) (by decide) _ _ hv3)
  clear hk3 hv3 s0 s1 s2
  go_wp2_with fail
  refine HAR.out.mono ?_
  rintro e w4 ⟨rfl, a4, cap4, hc4, hk4⟩
  have hs4 := hk4.size
  have HA4 := Lib.hid (HA3.out.kept hk4 (fun g hg h => by omega))
  have HK4 := Lib.hid (HK3.out.trans hk4 (fun g h => .inr (by omega)))
  have HC4 : Hid (Cli w4 q (fun g => w1.heap.size ≤ g ∧ g < w4.heap.size) plainM k1 1 (layM 8 ⟨[], 0, false⟩ 1 ⟨1, 0, a4, 1, cap4⟩).1 (OneE RA)) := Lib.hid (hc4.mono (fun g _ h => by omega))
  have s0 := HA4.out.b1.cell (i := 0) rfl
  have s1 := HA4.out.b1.cell (i := 1) rfl
  have s2 := HA4.out.b1.cell (i := 2) rfl
  have HFB := Lib.hid (tfull_calls 2 10 ⟨by decide, by decide, by decide, by decide⟩ xb xb_ok rfl w4 _ _ (sl_of_blk HA4.out.b0))
  clear hk4 hc4
  go_wp2_with fail
  refine HFB.out.mono ?_
  rintro e w5 ⟨v5, g5, rfl, hv5, -, hk5⟩
  have hs5 := hk5.size
  have HK5 := Lib.hid (HK4.out.trans hk5 (fun _ h => h.elim))
  have HC5 := Lib.hid (HC4.out.kept hk5 (fun _ _ h => h))
  have HAR := Lib.hid (arrive_calls RA w5 q _ plainM plain_ok k1 1 _ HC5.out 2 10 ⟨by decide, by decide, by decide, by decide⟩ xb xb_ok rfl may2 (.inr ⟨rfl, rfl, rfl⟩) RA_two 110 (by unfold I64; omega) (by unfold I64; omega) (by decide) _ _ hv5)
  clear hk5 hv5 s0 s1 s2
  go_wp2_with fail
  refine HAR.out.mono ?_
  rintro e w6 ⟨rfl, a6, cap6, hc6, hk6⟩
  have hs6 := hk6.size
  have HK6 := Lib.hid (HK5.out.trans hk6 (fun g h => .inr (by omega)))
  have HC6 : Hid (Cli w6 q (fun g => w1.heap.size ≤ g ∧ g < w6.heap.size) plainM k2 2 (layM 8 (layM 8 ⟨[], 0, false⟩ 1 ⟨1, 0, a4, 1, cap4⟩).1 2 ⟨2, 10, a6, 1, cap6⟩).1 (OneE RA)) := Lib.hid (hc6.mono (fun g _ h => by omega))
  have HFR : Hid (∀ W F (m : ClkM), Cli W q F plainM m 2 (layM 8 (layM 8 ⟨[], 0, false⟩ 1 ⟨1, 0, a4, 1, cap4⟩).1 2 ⟨2, 10, a6, 1, cap6⟩).1 (OneE RA) → m.last ≠ [] → ∀ loc, I64 loc → Calls Tryz.prog 10 #[.pointer (some ⟨q, 0, none⟩), .int .i64 loc] W (FrSome RA W q F plainM (frmM plainM m loc) 2 (layM 8 (layM 8 ⟨[], 0, false⟩ 1 ⟨1, 0, a4, 1, cap4⟩).1 2 ⟨2, 10, a6, 1, cap6⟩).1)) :=
    Lib.hid (fun W F m hc hm loc hl => frame_calls RA W q F plainM plain_ok m 2 _ hc hm loc hl (by rw [alvL]; simp) (fun ys h1 h2 => by rw [alvL] at h1; exact RA_Ys h1 h2))
  clear hk6 hc6
  go_wp2_with fail
  refine (HFR.out _ _ k2 HC6.out (by decide +kernel) 104 (by unfold I64; omega)).mono ?_
  rintro e w7 ⟨v7, ys7, rfl, hc7, hk7, hy7, hr7, hp7⟩
  have hs7 := hk7.size
  have HK7 := Lib.hid (HK6.out.trans hk7 (fun g h => .inr (by omega)))
  have HC7 : Hid (Cli w7 q (fun g => w1.heap.size ≤ g ∧ g < w6.heap.size) plainM k3 2 (layM 8 (layM 8 ⟨[], 0, false⟩ 1 ⟨1, 0, a4, 1, cap4⟩).1 2 ⟨2, 10, a6, 1, cap6⟩).1 (OneE RA)) := Lib.hid hc7
  rw [alvL] at hy7
  change PosesAt plainM ys7 k3.sl.at_ v7 w6.heap.size w7 at hp7
  rw [at3] at hp7
  have HP7 := Lib.hid (pose3 hy7 hr7 hp7)
  obtain ⟨g7, o7, c7, rfl, hg7, -⟩ := HP7.out
  generalize (frmM plainM k2 104).sl.at_ = t7 at *
  clear hk7 hc7 hy7 hr7 hp7
  go_wp2_with fail
  refine (HFR.out _ _ k3 HC7.out (by decide +kernel) 113 (by unfold I64; omega)).mono ?_
  rintro e w8 ⟨v8, ys8, rfl, hc8, hk8, hy8, hr8, hp8⟩
  have hs8 := hk8.size
  have HK8 := Lib.hid (HK7.out.trans hk8 (fun g h => .inr (by omega)))
  have HC8 : Hid (Cli w8 q (fun g => w1.heap.size ≤ g ∧ g < w6.heap.size) plainM k4 2 (layM 8 (layM 8 ⟨[], 0, false⟩ 1 ⟨1, 0, a4, 1, cap4⟩).1 2 ⟨2, 10, a6, 1, cap6⟩).1 (OneE RA)) := Lib.hid hc8
  rw [alvL] at hy8
  change PosesAt plainM ys8 k4.sl.at_ v8 w7.heap.size w8 at hp8
  rw [at4] at hp8
  have HP8 := Lib.hid (pose4 hy8 hr8 hp8)
  obtain ⟨g8, o8, c8, rfl, hg8, -⟩ := HP8.out
  have HP78 := Lib.hid (HP7.out.kept hk8 (fun g h1 h2 => by omega))
  generalize (frmM plainM k3 113).sl.at_ = t8 at *
  clear hk8 hc8 hy8 hr8 hp8
  go_wp2_with fail
  refine (HFR.out _ _ k4 HC8.out (by decide +kernel) 900 (by unfold I64; omega)).mono ?_
  rintro e w9 ⟨v9, ys9, rfl, hc9, hk9, hy9, hr9, hp9⟩
  have hs9 := hk9.size
  have HK9 := Lib.hid (HK8.out.trans hk9 (fun g h => .inr (by omega)))
  have HC9 : Hid (Cli w9 q (fun g => w1.heap.size ≤ g ∧ g < w6.heap.size) plainM k5 2 (layM 8 (layM 8 ⟨[], 0, false⟩ 1 ⟨1, 0, a4, 1, cap4⟩).1 2 ⟨2, 10, a6, 1, cap6⟩).1 (OneE RA)) := Lib.hid hc9
  rw [alvL] at hy9
  change PosesAt plainM ys9 k5.sl.at_ v9 w8.heap.size w9 at hp9
  rw [at5] at hp9
  have HP9 := Lib.hid (pose5 hy9 hr9 hp9)
  obtain ⟨g9, o9, c9, rfl, hg9, -⟩ := HP9.out
  have HP79 := Lib.hid (HP78.out.kept hk9 (fun g h1 h2 => by omega))
  have HP89 := Lib.hid (HP8.out.kept hk9 (fun g h1 h2 => by omega))
  generalize (frmM plainM k4 900).sl.at_ = t9 at *
  have kk := (((Kept.refl (fun _ => False) w9).alloc (.cells #[.bool true, .int .i64 t7, .slice (some ⟨g7, o7, none⟩) 1 c7] 45)).alloc (.cells #[.bool true, .int .i64 t8, .slice (some ⟨g8, o8, none⟩) 1 c8] 45)).alloc (.cells #[.bool true, .int .i64 t9, .slice (some ⟨g9, o9, none⟩) 1 c9] 45)
  obtain ⟨p7_0, p7_1, p7_2, p7_3, p7_4, p7_5⟩ := (HP79.out.kept kk (fun _ _ h => h)).cells
  obtain ⟨p8_0, p8_1, p8_2, p8_3, p8_4, p8_5⟩ := (HP89.out.kept kk (fun _ _ h => h)).cells
  obtain ⟨p9_0, p9_1, p9_2, p9_3, p9_4, p9_5⟩ := (HP9.out.kept kk (fun _ _ h => h)).cells
  have HKK := Lib.hid (HK9.out.trans kk (fun _ h => h.elim))
  have q1 := eq36a
  have q2 := eq36b
  have q3 := eq36c
  clear hk9 hc9 hy9 hr9 hp9 kk
  go_wp2_with fail
  go_ret
  exact ⟨rfl, HKK.out⟩
end Go.Proofs.YtekdkckgmleofaaGreat
