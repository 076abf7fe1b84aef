/- Joined texts. -/
import Derived.Test.YtekdkckgmleofaaGreatXf34
import Derived.Test.YtekdkckgmleofaaGreatXf33
import Derived.Test.YtekdkckgmleofaaGreatXf03
set_option linter.unusedVariables false
set_option linter.unusedSimpArgs false
/- Contract of pose.Beyond, of any snapshot. -/
namespace Go.Proofs.YtekdkckgmleofaaGreat
open Go.RowKit
/-- Some poses that have been laid in a row of their own. -/
def RowAny (w : World) (n : Nat) (v : Value) (wr : World) : Prop := ∃ cs own, Sl wr v 48 6 n cs own ∧ (∀ g, own = some g → w.heap.size ≤ g) ∧ Kept (fun _ => False) w wr
def PosesG (w : World) (e : Ending) (w' : World) : Prop := ∃ (a : Option Addr) (n cap : Nat) (er : Int), e = .returned (.tuple #[.slice a n cap, .int .i64 er]) ∧ Kept (fun _ => False) w w'
theorem RowAny.step {w w1 w2 : World} {n : Nat} {v' : Value} {cs : List Value} {own own' : Option Nat} {ys : List Value} (hO : ∀ g, own = some g → w.heap.size ≤ g) (hS : Sl w2 v' 48 6 (n + 1) (cs ++ ys) own') (ho : own' = own ∨ own' = some w1.heap.size) (h1 : Kept (fun _ => False) w w1) (h2 : Kept (fun k => own = some k) w1 w2) : RowAny w (n + 1) v' w2 := by
  refine ⟨_, own', hS, fun g hg => ?_, h1.trans h2 (fun g hg => .inr (hO g hg))⟩
  rcases ho with e | e
  · exact hO g (by rw [← e]; exact hg)
  · rw [e] at hg
    have := Option.some.inj hg
    have := h1.size
    omega
theorem RowAny.form {w wr : World} {n : Nat} {v : Value} (h : RowAny w n v wr) : ∃ a cap, v = .slice a n cap := by
  obtain ⟨cs, own, h, -⟩ := h
  obtain ⟨a, cap, rfl, -, -⟩ := h.form
  exact ⟨a, cap, rfl⟩
set_option maxRecDepth 100000 in
set_option maxHeartbeats 4000000 in
theorem beyond_any (c : Cfg) (hc : COk c) (n : SnapS) (xs : List EntM) (w : World) (h : SnapAt w n xs) (at_ : Int) (hle : n.time ≤ at_) (hat : I64 at_) :
    Calls Tryz.prog 61 #[cfgV c, sv n, .int .i64 at_] w (PosesG w) := by
  have hts := h.ts
  obtain ⟨t0, t1, s0, s1⟩ := hts
  have htm : TimesOk [n] := ⟨by simp; omega, by simp⟩
  have HC := Lib.hid (fun W hx v own hv => pcheck_calls c hc [n] (by simp) W hx v own hv)
  have HB := Lib.hid (fun W => bbeyond_calls n at_ htm hle hat W)
  have hd : I64 (satI (at_ - n.time)) := satI_bd _
  have hex : I64 c.extra := by
    have h1 := hc.x0
    have h2 := hc.x1
    unfold I64; omega
  have HN := Lib.hid h
  have hxl := h.ok.len
  have HXO := Lib.hid h.ok.ok
  obtain ⟨⟨o, hs⟩, -, -⟩ := h
  obtain ⟨tk, tm, na, nl, nc⟩ := n
  dsimp only at *
  obtain ⟨a, cap, hv, -, hcm⟩ := hs.form
  simp only [Value.slice.injEq] at hv
  obtain ⟨rfl, rfl, rfl⟩ := hv
  have HV := Lib.hid hs
  clear hs
  have HSL : Hid (∀ o1 o2, Sl (((w.alloc o1).alloc o2).alloc (.cells #[.int .i64 tk, .int .i64 tm, .slice na xs.length nc] 42)) (.slice (some ⟨w.heap.size + 1 + 1, 0, none⟩) 1 1) 42 3 1 (cellsL snC [⟨tk, tm, na, xs.length, nc⟩]) (some (w.heap.size + 1 + 1))) := Lib.hid (fun o1 o2 => by
    have := Sl.made ((w.alloc o1).alloc o2) (cellsL snC [⟨tk, tm, na, xs.length, nc⟩]) 42 3 1 rfl (by decide)
    rw [size_alloc, size_alloc] at this
    exact this)
  generalize satI (at_ - tm) = D at *
  by_cases h0 : D = 0
  · subst h0
    go_enter Tryz.func61, Tryz.ntmps61
    go_wp2_with fail
    refine (HC.out _ (by simp only [List.mem_singleton, forall_eq]; exact ⟨_, HN.out.kept ((((Kept.refl (fun _ => False) w).alloc _).alloc _).alloc _)⟩) _ _ (by exact HSL.out _ _)).mono ?_
    rintro e w1 ⟨rfl, hk1⟩
    have HK1 := Lib.hid (((((Kept.refl (fun _ => False) w).alloc _).alloc _).alloc _).trans hk1 (fun _ h => h.elim))
    have BC := hk1.blk (((Blk.new w (cfgC c) 26).alloc _).alloc _) (fun h => h)
    have BN := hk1.blk ((Blk.new_at (w := w.alloc (.cells (cfgC c).toArray 26)) (n := w.heap.size + 1) (by simp) [.int .i64 tk, .int .i64 tm, .slice na xs.length nc] 42).alloc _) (fun h => h)
    have s0 := BN.cell (i := 0) rfl
    have s1 := BN.cell (i := 1) rfl
    have s2 := BN.cell (i := 2) rfl
    have HBC := Lib.hid BC
    have HBN := Lib.hid BN
    clear hk1 BC BN
    go_wp2_with fail
    refine (HB.out _).mono ?_
    rintro e w2 ⟨rfl, hk2⟩
    have HK2 := Lib.hid (HK1.out.trans hk2 (fun _ h => h.elim))
    have cx := (hk2.blk HBC.out (fun h => h)).cell (i := 9) rfl
    have n2 := (hk2.blk HBN.out (fun h => h)).cell (i := 2) rfl
    clear hk2 s0 s1 s2
    go_wp2_with fail
    first | (go_quiet (fail); go_wp2_with fail) | skip
    go_loopw [12, 45] (fun l i wr => ∃ (k : Nat) (y : Value), i = .int .i64 k ∧ l = y ∧ k ≤ xs.length ∧ RowAny w k y wr) (fun _ i _ => (xs.length - intOf i).toNat)
    case atStart => first | exact ⟨0, _, rfl, rfl, by omega, [], none, Sl.nil _ _ _, by simp, HK2.out⟩ | exact ⟨0, _, rfl, rfl, by omega, [], none, Sl.nil _ _ _, by simp, HK2.out.drewN _⟩
    case round =>
      obtain ⟨k, y, rfl, hy, hk, hR⟩ := hrel
      have hy2 := hy.symm
      clear hy
      subst hy2
      have HR := Lib.hid hR
      obtain ⟨rcs, own, hrs, hro, hK⟩ := hR
      obtain ⟨ya, ycap, rfl, -, -⟩ := hrs.form
      have HRS := Lib.hid hrs
      have HRO := Lib.hid hro
      have HK := Lib.hid hK
      clear hrs hro
      by_cases hlt : k < xs.length
      · obtain ⟨x, hxk⟩ : ∃ x, xs[k]? = some x := ⟨_, List.getElem?_eq_getElem hlt⟩
        obtain ⟨g, off, cap', ho, hvv, -, -, hc, -⟩ := HV.out.some (by omega)
        cases hvv
        obtain ⟨c0, c1, c2, c3, c4, c5, c6, c7, c8⟩ := ent_at (w := wr) (fun j u hu => HK.out.cell (hc j u hu) (fun h => h)) hxk
        have hgl := HV.out.lt ho
        have hgw : g < wr.heap.size := Nat.lt_of_lt_of_le hgl hK.size
        have hxo := HXO.out x (List.mem_of_getElem? hxk)
        have HGX := Lib.hid (fun d W (hd : I64 d) => vgo_calls (posM x) (velM x) d W (fun j _ => posM_bd hxo j) (fun j _ => velM_bd hxo j) hd)
        clear hK hc hxk hxo
        go_wp2_with fail
        refine (pexact_calls x _).mono ?_
        rintro e w3 ⟨rfl, hk3⟩
        have hb3 := hk3.blk (Blk.new wr (entC x) 39) (fun h => h)
        have HB3 := Lib.hid hb3
        have HK3 := Lib.hid ((HK.out.alloc (.cells (entC x).toArray 39)).trans hk3 (fun _ h => h.elim))
        have HKR3 := Lib.hid (((Kept.refl (fun _ => False) wr).alloc (.cells (entC x).toArray 39)).trans hk3 (fun _ h => h.elim))
        have hn3 : wr.heap.size < w3.heap.size := hb3.lt
        have q0 : (w3.alloc (.cells #[.int .i64 x.id, .int .i64 (posM x 0), .int .i64 (posM x 1), .int .i64 (posM x 2), .int .u16 x.ang, .int .i64 0] 48)).cell? ⟨wr.heap.size, 1, none⟩ = some (.int .i64 (posM x 0)) := (hb3.alloc (exO x)).cell (i := 1) rfl
        have q1 : (w3.alloc (.cells #[.int .i64 x.id, .int .i64 (posM x 0), .int .i64 (posM x 1), .int .i64 (posM x 2), .int .u16 x.ang, .int .i64 0] 48)).cell? ⟨wr.heap.size, 2, none⟩ = some (.int .i64 (posM x 1)) := (hb3.alloc (exO x)).cell (i := 2) rfl
        have q2 : (w3.alloc (.cells #[.int .i64 x.id, .int .i64 (posM x 0), .int .i64 (posM x 1), .int .i64 (posM x 2), .int .u16 x.ang, .int .i64 0] 48)).cell? ⟨wr.heap.size, 3, none⟩ = some (.int .i64 (posM x 2)) := (hb3.alloc (exO x)).cell (i := 3) rfl
        have q3 : (w3.alloc (.cells #[.int .i64 x.id, .int .i64 (posM x 0), .int .i64 (posM x 1), .int .i64 (posM x 2), .int .u16 x.ang, .int .i64 0] 48)).cell? ⟨wr.heap.size, 4, none⟩ = some (.int .i64 (velM x 0)) := (hb3.alloc (exO x)).cell (i := 4) rfl
        have q4 : (w3.alloc (.cells #[.int .i64 x.id, .int .i64 (posM x 0), .int .i64 (posM x 1), .int .i64 (posM x 2), .int .u16 x.ang, .int .i64 0] 48)).cell? ⟨wr.heap.size, 5, none⟩ = some (.int .i64 (velM x 1)) := (hb3.alloc (exO x)).cell (i := 5) rfl
        have q5 : (w3.alloc (.cells #[.int .i64 x.id, .int .i64 (posM x 0), .int .i64 (posM x 1), .int .i64 (posM x 2), .int .u16 x.ang, .int .i64 0] 48)).cell? ⟨wr.heap.size, 6, none⟩ = some (.int .i64 (velM x 2)) := (hb3.alloc (exO x)).cell (i := 6) rfl
        clear hk3 hb3 c0 c1 c2 c3 c4 c5 c6 c7 c8
        go_wp2_with fail
        refine (HGX.out (0) _ (by first | exact hex | exact hd)).mono ?_
        rintro e w4 ⟨rfl, hk4⟩
        have P4 := hk4.blk (Blk.new w3 [.int .i64 x.id, .int .i64 (posM x 0), .int .i64 (posM x 1), .int .i64 (posM x 2), .int .u16 x.ang, .int .i64 0] 48) (fun h => h)
        have HP4 := Lib.hid P4
        have hw3 := HKR3.out.size
        have HK4 := Lib.hid ((HK3.out.alloc (exO x)).trans hk4 (fun _ h => h.elim))
        have HKR4 := Lib.hid ((HKR3.out.alloc (exO x)).trans hk4 (fun _ h => h.elim))
        have p0 := P4.cell (i := 0) rfl
        have p1 := P4.cell (i := 1) rfl
        have p2 := P4.cell (i := 2) rfl
        have p3 := P4.cell (i := 3) rfl
        have p4 := P4.cell (i := 4) rfl
        have p5 := P4.cell (i := 5) rfl
        have g1 := P4.free 1
        have g2 := P4.free 2
        have g3 := P4.free 3
        have g5 := P4.free 5
        clear q0 q1 q2 q3 q4 q5 hk4 P4
        obtain ⟨j0, hi, hz0, hz1, hz2⟩ := info_parts infoPose
        have HI := Lib.hid hi
        have HZ0 := Lib.hid hz0
        have HZ1 := Lib.hid hz1
        have HZ2 := Lib.hid hz2
        have HKW := Lib.hid (fun (W : World) (h : Kept (fun _ => False) wr W) => HRS.out.kept h (fun _ _ h => h))
        have HSR : Hid (∀ (W : World) (b : Nat), b = W.heap.size → Src (W.alloc (.cells #[.int .i64 x.id, .int .i64 (goM (posM x) (velM x) (0) 0), .int .i64 (goM (posM x) (velM x) (0) 1), .int .i64 (goM (posM x) (velM x) (0) 2), .int .u16 x.ang, .int .i64 0] 48)) (.slice (some ⟨b, 0, none⟩) 1 1) 1 (poseC ⟨x.id, goM (posM x) (velM x) (0), x.ang, 0⟩)) := Lib.hid (fun W b hb => hb ▸ (Sl.made W (poseC ⟨x.id, goM (posM x) (velM x) (0), x.ang, 0⟩) 48 6 1 rfl (by decide)).src)
        have HO : Hid (∀ u ∈ poseC ⟨x.id, goM (posM x) (velM x) (0), x.ang, 0⟩, u.oneCell' = true) := Lib.hid (by simp [Value.oneCell'])
        have N1 : Hid (k + 1 ≤ maxLen) := Lib.hid (by unfold maxLen; omega)
        have N2 : Hid ((k + 1) * 48 ≤ 140737488355328) := Lib.hid (by omega)
        have HKX : Hid (Kept (fun _ => False) wr (((((w4.setCell ⟨w3.heap.size, 5, none⟩ (.int .i64 0)).setCell ⟨w3.heap.size, 1, none⟩ (.int .i64 (goM (posM x) (velM x) (0) 0))).setCell ⟨w3.heap.size, 2, none⟩ (.int .i64 (goM (posM x) (velM x) (0) 1))).setCell ⟨w3.heap.size, 3, none⟩ (.int .i64 (goM (posM x) (velM x) (0) 2))).alloc (.cells #[.int .i64 x.id, .int .i64 (goM (posM x) (velM x) (0) 0), .int .i64 (goM (posM x) (velM x) (0) 1), .int .i64 (goM (posM x) (velM x) (0) 2), .int .u16 x.ang, .int .i64 0] 48))) := Lib.hid (((((HKR4.out.setCell (a := ⟨w3.heap.size, 5, none⟩) (.inr hw3) _).setCell (a := ⟨w3.heap.size, 1, none⟩) (.inr hw3) _).setCell (a := ⟨w3.heap.size, 2, none⟩) (.inr hw3) _).setCell (a := ⟨w3.heap.size, 3, none⟩) (.inr hw3) _).alloc _)
        clear hi hz0 hz1 hz2
        go_wp2_with (at_builtin; refine wpList_append_sl _ rfl _ _ 43 rfl 48 j0 (.agg zpose.toArray) 6 48 Tryz.underlying43 HI.out HZ0.out HZ1.out HZ2.out rfl _ k rcs own rfl (HKW.out _ HKX.out) _ 1 (poseC ⟨x.id, goM (posM x) (velM x) (0), x.ang, 0⟩) rfl (by exact HSR.out _ _ (by simp)) rfl HO.out N1.out N2.out ?_; intro v5 w5 own5 hS5 ho5 hK5; have SA := Lib.hid hS5; have OA := Lib.hid ho5; have KA := Lib.hid hK5; clear hS5 ho5 hK5)
        have HF : Hid (RowAny w (k + 1) v5 w5) := Lib.hid (RowAny.step HRO.out SA.out OA.out (HK.out.trans HKX.out (fun _ h => h.elim)) KA.out)
        go_wp2_with fail
        exact ⟨⟨k + 1, _, by simp, rfl, by omega, HF.out⟩, by simp [intOf]; omega⟩
      · clear hK
        go_wp2_with fail
        go_ret2
        exact ⟨_, _, _, _, rfl, HK.out⟩
  · have h0b : (D == 0) = false := by simp [h0]
    by_cases h1 : c.extra < D
    · skip
      go_enter Tryz.func61, Tryz.ntmps61
      go_wp2_with fail
      refine (HC.out _ (by simp only [List.mem_singleton, forall_eq]; exact ⟨_, HN.out.kept ((((Kept.refl (fun _ => False) w).alloc _).alloc _).alloc _)⟩) _ _ (by exact HSL.out _ _)).mono ?_
      rintro e w1 ⟨rfl, hk1⟩
      have HK1 := Lib.hid (((((Kept.refl (fun _ => False) w).alloc _).alloc _).alloc _).trans hk1 (fun _ h => h.elim))
      have BC := hk1.blk (((Blk.new w (cfgC c) 26).alloc _).alloc _) (fun h => h)
      have BN := hk1.blk ((Blk.new_at (w := w.alloc (.cells (cfgC c).toArray 26)) (n := w.heap.size + 1) (by simp) [.int .i64 tk, .int .i64 tm, .slice na xs.length nc] 42).alloc _) (fun h => h)
      have s0 := BN.cell (i := 0) rfl
      have s1 := BN.cell (i := 1) rfl
      have s2 := BN.cell (i := 2) rfl
      have HBC := Lib.hid BC
      have HBN := Lib.hid BN
      clear hk1 BC BN
      go_wp2_with fail
      refine (HB.out _).mono ?_
      rintro e w2 ⟨rfl, hk2⟩
      have HK2 := Lib.hid (HK1.out.trans hk2 (fun _ h => h.elim))
      have cx := (hk2.blk HBC.out (fun h => h)).cell (i := 9) rfl
      have n2 := (hk2.blk HBN.out (fun h => h)).cell (i := 2) rfl
      clear hk2 s0 s1 s2
      go_wp2_with fail
      first | (go_quiet (fail); go_wp2_with fail) | skip
      go_loopw [12, 45] (fun l i wr => ∃ (k : Nat) (y : Value), i = .int .i64 k ∧ l = y ∧ k ≤ xs.length ∧ RowAny w k y wr) (fun _ i _ => (xs.length - intOf i).toNat)
      case atStart => first | exact ⟨0, _, rfl, rfl, by omega, [], none, Sl.nil _ _ _, by simp, HK2.out⟩ | exact ⟨0, _, rfl, rfl, by omega, [], none, Sl.nil _ _ _, by simp, HK2.out.drewN _⟩
      case round =>
        obtain ⟨k, y, rfl, hy, hk, hR⟩ := hrel
        have hy2 := hy.symm
        clear hy
        subst hy2
        have HR := Lib.hid hR
        obtain ⟨rcs, own, hrs, hro, hK⟩ := hR
        obtain ⟨ya, ycap, rfl, -, -⟩ := hrs.form
        have HRS := Lib.hid hrs
        have HRO := Lib.hid hro
        have HK := Lib.hid hK
        clear hrs hro
        by_cases hlt : k < xs.length
        · obtain ⟨x, hxk⟩ : ∃ x, xs[k]? = some x := ⟨_, List.getElem?_eq_getElem hlt⟩
          obtain ⟨g, off, cap', ho, hvv, -, -, hc, -⟩ := HV.out.some (by omega)
          cases hvv
          obtain ⟨c0, c1, c2, c3, c4, c5, c6, c7, c8⟩ := ent_at (w := wr) (fun j u hu => HK.out.cell (hc j u hu) (fun h => h)) hxk
          have hgl := HV.out.lt ho
          have hgw : g < wr.heap.size := Nat.lt_of_lt_of_le hgl hK.size
          have hxo := HXO.out x (List.mem_of_getElem? hxk)
          have HGX := Lib.hid (fun d W (hd : I64 d) => vgo_calls (posM x) (velM x) d W (fun j _ => posM_bd hxo j) (fun j _ => velM_bd hxo j) hd)
          clear hK hc hxk hxo
          go_wp2_with fail
          refine (pexact_calls x _).mono ?_
          rintro e w3 ⟨rfl, hk3⟩
          have hb3 := hk3.blk (Blk.new wr (entC x) 39) (fun h => h)
          have HB3 := Lib.hid hb3
          have HK3 := Lib.hid ((HK.out.alloc (.cells (entC x).toArray 39)).trans hk3 (fun _ h => h.elim))
          have HKR3 := Lib.hid (((Kept.refl (fun _ => False) wr).alloc (.cells (entC x).toArray 39)).trans hk3 (fun _ h => h.elim))
          have hn3 : wr.heap.size < w3.heap.size := hb3.lt
          have q0 : (w3.alloc (.cells #[.int .i64 x.id, .int .i64 (posM x 0), .int .i64 (posM x 1), .int .i64 (posM x 2), .int .u16 x.ang, .int .i64 0] 48)).cell? ⟨wr.heap.size, 1, none⟩ = some (.int .i64 (posM x 0)) := (hb3.alloc (exO x)).cell (i := 1) rfl
          have q1 : (w3.alloc (.cells #[.int .i64 x.id, .int .i64 (posM x 0), .int .i64 (posM x 1), .int .i64 (posM x 2), .int .u16 x.ang, .int .i64 0] 48)).cell? ⟨wr.heap.size, 2, none⟩ = some (.int .i64 (posM x 1)) := (hb3.alloc (exO x)).cell (i := 2) rfl
          have q2 : (w3.alloc (.cells #[.int .i64 x.id, .int .i64 (posM x 0), .int .i64 (posM x 1), .int .i64 (posM x 2), .int .u16 x.ang, .int .i64 0] 48)).cell? ⟨wr.heap.size, 3, none⟩ = some (.int .i64 (posM x 2)) := (hb3.alloc (exO x)).cell (i := 3) rfl
          have q3 : (w3.alloc (.cells #[.int .i64 x.id, .int .i64 (posM x 0), .int .i64 (posM x 1), .int .i64 (posM x 2), .int .u16 x.ang, .int .i64 0] 48)).cell? ⟨wr.heap.size, 4, none⟩ = some (.int .i64 (velM x 0)) := (hb3.alloc (exO x)).cell (i := 4) rfl
          have q4 : (w3.alloc (.cells #[.int .i64 x.id, .int .i64 (posM x 0), .int .i64 (posM x 1), .int .i64 (posM x 2), .int .u16 x.ang, .int .i64 0] 48)).cell? ⟨wr.heap.size, 5, none⟩ = some (.int .i64 (velM x 1)) := (hb3.alloc (exO x)).cell (i := 5) rfl
          have q5 : (w3.alloc (.cells #[.int .i64 x.id, .int .i64 (posM x 0), .int .i64 (posM x 1), .int .i64 (posM x 2), .int .u16 x.ang, .int .i64 0] 48)).cell? ⟨wr.heap.size, 6, none⟩ = some (.int .i64 (velM x 2)) := (hb3.alloc (exO x)).cell (i := 6) rfl
          clear hk3 hb3 c0 c1 c2 c3 c4 c5 c6 c7 c8
          go_wp2_with fail
          refine (HGX.out (c.extra) _ (by first | exact hex | exact hd)).mono ?_
          rintro e w4 ⟨rfl, hk4⟩
          have P4 := hk4.blk (Blk.new w3 [.int .i64 x.id, .int .i64 (posM x 0), .int .i64 (posM x 1), .int .i64 (posM x 2), .int .u16 x.ang, .int .i64 0] 48) (fun h => h)
          have HP4 := Lib.hid P4
          have hw3 := HKR3.out.size
          have HK4 := Lib.hid ((HK3.out.alloc (exO x)).trans hk4 (fun _ h => h.elim))
          have HKR4 := Lib.hid ((HKR3.out.alloc (exO x)).trans hk4 (fun _ h => h.elim))
          have p0 := P4.cell (i := 0) rfl
          have p1 := P4.cell (i := 1) rfl
          have p2 := P4.cell (i := 2) rfl
          have p3 := P4.cell (i := 3) rfl
          have p4 := P4.cell (i := 4) rfl
          have p5 := P4.cell (i := 5) rfl
          have g1 := P4.free 1
          have g2 := P4.free 2
          have g3 := P4.free 3
          have g5 := P4.free 5
          clear q0 q1 q2 q3 q4 q5 hk4 P4
          obtain ⟨j0, hi, hz0, hz1, hz2⟩ := info_parts infoPose
          have HI := Lib.hid hi
          have HZ0 := Lib.hid hz0
          have HZ1 := Lib.hid hz1
          have HZ2 := Lib.hid hz2
          have HKW := Lib.hid (fun (W : World) (h : Kept (fun _ => False) wr W) => HRS.out.kept h (fun _ _ h => h))
          have HSR : Hid (∀ (W : World) (b : Nat), b = W.heap.size → Src (W.alloc (.cells #[.int .i64 x.id, .int .i64 (goM (posM x) (velM x) (c.extra) 0), .int .i64 (goM (posM x) (velM x) (c.extra) 1), .int .i64 (goM (posM x) (velM x) (c.extra) 2), .int .u16 x.ang, .int .i64 4] 48)) (.slice (some ⟨b, 0, none⟩) 1 1) 1 (poseC ⟨x.id, goM (posM x) (velM x) (c.extra), x.ang, 4⟩)) := Lib.hid (fun W b hb => hb ▸ (Sl.made W (poseC ⟨x.id, goM (posM x) (velM x) (c.extra), x.ang, 4⟩) 48 6 1 rfl (by decide)).src)
          have HO : Hid (∀ u ∈ poseC ⟨x.id, goM (posM x) (velM x) (c.extra), x.ang, 4⟩, u.oneCell' = true) := Lib.hid (by simp [Value.oneCell'])
          have N1 : Hid (k + 1 ≤ maxLen) := Lib.hid (by unfold maxLen; omega)
          have N2 : Hid ((k + 1) * 48 ≤ 140737488355328) := Lib.hid (by omega)
          have HKX : Hid (Kept (fun _ => False) wr (((((w4.setCell ⟨w3.heap.size, 5, none⟩ (.int .i64 4)).setCell ⟨w3.heap.size, 1, none⟩ (.int .i64 (goM (posM x) (velM x) (c.extra) 0))).setCell ⟨w3.heap.size, 2, none⟩ (.int .i64 (goM (posM x) (velM x) (c.extra) 1))).setCell ⟨w3.heap.size, 3, none⟩ (.int .i64 (goM (posM x) (velM x) (c.extra) 2))).alloc (.cells #[.int .i64 x.id, .int .i64 (goM (posM x) (velM x) (c.extra) 0), .int .i64 (goM (posM x) (velM x) (c.extra) 1), .int .i64 (goM (posM x) (velM x) (c.extra) 2), .int .u16 x.ang, .int .i64 4] 48))) := Lib.hid (((((HKR4.out.setCell (a := ⟨w3.heap.size, 5, none⟩) (.inr hw3) _).setCell (a := ⟨w3.heap.size, 1, none⟩) (.inr hw3) _).setCell (a := ⟨w3.heap.size, 2, none⟩) (.inr hw3) _).setCell (a := ⟨w3.heap.size, 3, none⟩) (.inr hw3) _).alloc _)
          clear hi hz0 hz1 hz2
          go_wp2_with (at_builtin; refine wpList_append_sl _ rfl _ _ 43 rfl 48 j0 (.agg zpose.toArray) 6 48 Tryz.underlying43 HI.out HZ0.out HZ1.out HZ2.out rfl _ k rcs own rfl (HKW.out _ HKX.out) _ 1 (poseC ⟨x.id, goM (posM x) (velM x) (c.extra), x.ang, 4⟩) rfl (by exact HSR.out _ _ (by simp)) rfl HO.out N1.out N2.out ?_; intro v5 w5 own5 hS5 ho5 hK5; have SA := Lib.hid hS5; have OA := Lib.hid ho5; have KA := Lib.hid hK5; clear hS5 ho5 hK5)
          have HF : Hid (RowAny w (k + 1) v5 w5) := Lib.hid (RowAny.step HRO.out SA.out OA.out (HK.out.trans HKX.out (fun _ h => h.elim)) KA.out)
          go_wp2_with fail
          exact ⟨⟨k + 1, _, by simp, rfl, by omega, HF.out⟩, by simp [intOf]; omega⟩
        · clear hK
          go_wp2_with fail
          go_ret2
          exact ⟨_, _, _, _, rfl, HK.out⟩
    · skip
      go_enter Tryz.func61, Tryz.ntmps61
      go_wp2_with fail
      refine (HC.out _ (by simp only [List.mem_singleton, forall_eq]; exact ⟨_, HN.out.kept ((((Kept.refl (fun _ => False) w).alloc _).alloc _).alloc _)⟩) _ _ (by exact HSL.out _ _)).mono ?_
      rintro e w1 ⟨rfl, hk1⟩
      have HK1 := Lib.hid (((((Kept.refl (fun _ => False) w).alloc _).alloc _).alloc _).trans hk1 (fun _ h => h.elim))
      have BC := hk1.blk (((Blk.new w (cfgC c) 26).alloc _).alloc _) (fun h => h)
      have BN := hk1.blk ((Blk.new_at (w := w.alloc (.cells (cfgC c).toArray 26)) (n := w.heap.size + 1) (by simp) [.int .i64 tk, .int .i64 tm, .slice na xs.length nc] 42).alloc _) (fun h => h)
      have s0 := BN.cell (i := 0) rfl
      have s1 := BN.cell (i := 1) rfl
      have s2 := BN.cell (i := 2) rfl
      have HBC := Lib.hid BC
      have HBN := Lib.hid BN
      clear hk1 BC BN
      go_wp2_with fail
      refine (HB.out _).mono ?_
      rintro e w2 ⟨rfl, hk2⟩
      have HK2 := Lib.hid (HK1.out.trans hk2 (fun _ h => h.elim))
      have cx := (hk2.blk HBC.out (fun h => h)).cell (i := 9) rfl
      have n2 := (hk2.blk HBN.out (fun h => h)).cell (i := 2) rfl
      clear hk2 s0 s1 s2
      go_wp2_with fail
      first | (go_quiet (fail); go_wp2_with fail) | skip
      go_loopw [12, 45] (fun l i wr => ∃ (k : Nat) (y : Value), i = .int .i64 k ∧ l = y ∧ k ≤ xs.length ∧ RowAny w k y wr) (fun _ i _ => (xs.length - intOf i).toNat)
      case atStart => first | exact ⟨0, _, rfl, rfl, by omega, [], none, Sl.nil _ _ _, by simp, HK2.out⟩ | exact ⟨0, _, rfl, rfl, by omega, [], none, Sl.nil _ _ _, by simp, HK2.out.drewN _⟩
      case round =>
        obtain ⟨k, y, rfl, hy, hk, hR⟩ := hrel
        have hy2 := hy.symm
        clear hy
        subst hy2
        have HR := Lib.hid hR
        obtain ⟨rcs, own, hrs, hro, hK⟩ := hR
        obtain ⟨ya, ycap, rfl, -, -⟩ := hrs.form
        have HRS := Lib.hid hrs
        have HRO := Lib.hid hro
        have HK := Lib.hid hK
        clear hrs hro
        by_cases hlt : k < xs.length
        · obtain ⟨x, hxk⟩ : ∃ x, xs[k]? = some x := ⟨_, List.getElem?_eq_getElem hlt⟩
          obtain ⟨g, off, cap', ho, hvv, -, -, hc, -⟩ := HV.out.some (by omega)
          cases hvv
          obtain ⟨c0, c1, c2, c3, c4, c5, c6, c7, c8⟩ := ent_at (w := wr) (fun j u hu => HK.out.cell (hc j u hu) (fun h => h)) hxk
          have hgl := HV.out.lt ho
          have hgw : g < wr.heap.size := Nat.lt_of_lt_of_le hgl hK.size
          have hxo := HXO.out x (List.mem_of_getElem? hxk)
          have HGX := Lib.hid (fun d W (hd : I64 d) => vgo_calls (posM x) (velM x) d W (fun j _ => posM_bd hxo j) (fun j _ => velM_bd hxo j) hd)
          clear hK hc hxk hxo
          go_wp2_with fail
          refine (pexact_calls x _).mono ?_
          rintro e w3 ⟨rfl, hk3⟩
          have hb3 := hk3.blk (Blk.new wr (entC x) 39) (fun h => h)
          have HB3 := Lib.hid hb3
          have HK3 := Lib.hid ((HK.out.alloc (.cells (entC x).toArray 39)).trans hk3 (fun _ h => h.elim))
          have HKR3 := Lib.hid (((Kept.refl (fun _ => False) wr).alloc (.cells (entC x).toArray 39)).trans hk3 (fun _ h => h.elim))
          have hn3 : wr.heap.size < w3.heap.size := hb3.lt
          have q0 : (w3.alloc (.cells #[.int .i64 x.id, .int .i64 (posM x 0), .int .i64 (posM x 1), .int .i64 (posM x 2), .int .u16 x.ang, .int .i64 0] 48)).cell? ⟨wr.heap.size, 1, none⟩ = some (.int .i64 (posM x 0)) := (hb3.alloc (exO x)).cell (i := 1) rfl
          have q1 : (w3.alloc (.cells #[.int .i64 x.id, .int .i64 (posM x 0), .int .i64 (posM x 1), .int .i64 (posM x 2), .int .u16 x.ang, .int .i64 0] 48)).cell? ⟨wr.heap.size, 2, none⟩ = some (.int .i64 (posM x 1)) := (hb3.alloc (exO x)).cell (i := 2) rfl
          have q2 : (w3.alloc (.cells #[.int .i64 x.id, .int .i64 (posM x 0), .int .i64 (posM x 1), .int .i64 (posM x 2), .int .u16 x.ang, .int .i64 0] 48)).cell? ⟨wr.heap.size, 3, none⟩ = some (.int .i64 (posM x 2)) := (hb3.alloc (exO x)).cell (i := 3) rfl
          have q3 : (w3.alloc (.cells #[.int .i64 x.id, .int .i64 (posM x 0), .int .i64 (posM x 1), .int .i64 (posM x 2), .int .u16 x.ang, .int .i64 0] 48)).cell? ⟨wr.heap.size, 4, none⟩ = some (.int .i64 (velM x 0)) := (hb3.alloc (exO x)).cell (i := 4) rfl
          have q4 : (w3.alloc (.cells #[.int .i64 x.id, .int .i64 (posM x 0), .int .i64 (posM x 1), .int .i64 (posM x 2), .int .u16 x.ang, .int .i64 0] 48)).cell? ⟨wr.heap.size, 5, none⟩ = some (.int .i64 (velM x 1)) := (hb3.alloc (exO x)).cell (i := 5) rfl
          have q5 : (w3.alloc (.cells #[.int .i64 x.id, .int .i64 (posM x 0), .int .i64 (posM x 1), .int .i64 (posM x 2), .int .u16 x.ang, .int .i64 0] 48)).cell? ⟨wr.heap.size, 6, none⟩ = some (.int .i64 (velM x 2)) := (hb3.alloc (exO x)).cell (i := 6) rfl
          clear hk3 hb3 c0 c1 c2 c3 c4 c5 c6 c7 c8
          go_wp2_with fail
          refine (HGX.out (D) _ (by first | exact hex | exact hd)).mono ?_
          rintro e w4 ⟨rfl, hk4⟩
          have P4 := hk4.blk (Blk.new w3 [.int .i64 x.id, .int .i64 (posM x 0), .int .i64 (posM x 1), .int .i64 (posM x 2), .int .u16 x.ang, .int .i64 0] 48) (fun h => h)
          have HP4 := Lib.hid P4
          have hw3 := HKR3.out.size
          have HK4 := Lib.hid ((HK3.out.alloc (exO x)).trans hk4 (fun _ h => h.elim))
          have HKR4 := Lib.hid ((HKR3.out.alloc (exO x)).trans hk4 (fun _ h => h.elim))
          have p0 := P4.cell (i := 0) rfl
          have p1 := P4.cell (i := 1) rfl
          have p2 := P4.cell (i := 2) rfl
          have p3 := P4.cell (i := 3) rfl
          have p4 := P4.cell (i := 4) rfl
          have p5 := P4.cell (i := 5) rfl
          have g1 := P4.free 1
          have g2 := P4.free 2
          have g3 := P4.free 3
          have g5 := P4.free 5
          clear q0 q1 q2 q3 q4 q5 hk4 P4
          obtain ⟨j0, hi, hz0, hz1, hz2⟩ := info_parts infoPose
          have HI := Lib.hid hi
          have HZ0 := Lib.hid hz0
          have HZ1 := Lib.hid hz1
          have HZ2 := Lib.hid hz2
          have HKW := Lib.hid (fun (W : World) (h : Kept (fun _ => False) wr W) => HRS.out.kept h (fun _ _ h => h))
          have HSR : Hid (∀ (W : World) (b : Nat), b = W.heap.size → Src (W.alloc (.cells #[.int .i64 x.id, .int .i64 (goM (posM x) (velM x) (D) 0), .int .i64 (goM (posM x) (velM x) (D) 1), .int .i64 (goM (posM x) (velM x) (D) 2), .int .u16 x.ang, .int .i64 3] 48)) (.slice (some ⟨b, 0, none⟩) 1 1) 1 (poseC ⟨x.id, goM (posM x) (velM x) (D), x.ang, 3⟩)) := Lib.hid (fun W b hb => hb ▸ (Sl.made W (poseC ⟨x.id, goM (posM x) (velM x) (D), x.ang, 3⟩) 48 6 1 rfl (by decide)).src)
          have HO : Hid (∀ u ∈ poseC ⟨x.id, goM (posM x) (velM x) (D), x.ang, 3⟩, u.oneCell' = true) := Lib.hid (by simp [Value.oneCell'])
          have N1 : Hid (k + 1 ≤ maxLen) := Lib.hid (by unfold maxLen; omega)
          have N2 : Hid ((k + 1) * 48 ≤ 140737488355328) := Lib.hid (by omega)
          have HKX : Hid (Kept (fun _ => False) wr (((((w4.setCell ⟨w3.heap.size, 5, none⟩ (.int .i64 3)).setCell ⟨w3.heap.size, 1, none⟩ (.int .i64 (goM (posM x) (velM x) (D) 0))).setCell ⟨w3.heap.size, 2, none⟩ (.int .i64 (goM (posM x) (velM x) (D) 1))).setCell ⟨w3.heap.size, 3, none⟩ (.int .i64 (goM (posM x) (velM x) (D) 2))).alloc (.cells #[.int .i64 x.id, .int .i64 (goM (posM x) (velM x) (D) 0), .int .i64 (goM (posM x) (velM x) (D) 1), .int .i64 (goM (posM x) (velM x) (D) 2), .int .u16 x.ang, .int .i64 3] 48))) := Lib.hid (((((HKR4.out.setCell (a := ⟨w3.heap.size, 5, none⟩) (.inr hw3) _).setCell (a := ⟨w3.heap.size, 1, none⟩) (.inr hw3) _).setCell (a := ⟨w3.heap.size, 2, none⟩) (.inr hw3) _).setCell (a := ⟨w3.heap.size, 3, none⟩) (.inr hw3) _).alloc _)
          clear hi hz0 hz1 hz2
          go_wp2_with (at_builtin; refine wpList_append_sl _ rfl _ _ 43 rfl 48 j0 (.agg zpose.toArray) 6 48 Tryz.underlying43 HI.out HZ0.out HZ1.out HZ2.out rfl _ k rcs own rfl (HKW.out _ HKX.out) _ 1 (poseC ⟨x.id, goM (posM x) (velM x) (D), x.ang, 3⟩) rfl (by exact HSR.out _ _ (by simp)) rfl HO.out N1.out N2.out ?_; intro v5 w5 own5 hS5 ho5 hK5; have SA := Lib.hid hS5; have OA := Lib.hid ho5; have KA := Lib.hid hK5; clear hS5 ho5 hK5)
          have HF : Hid (RowAny w (k + 1) v5 w5) := Lib.hid (RowAny.step HRO.out SA.out OA.out (HK.out.trans HKX.out (fun _ h => h.elim)) KA.out)
          go_wp2_with fail
          exact ⟨⟨k + 1, _, by simp, rfl, by omega, HF.out⟩, by simp [intOf]; omega⟩
        · clear hK
          go_wp2_with fail
          go_ret2
          exact ⟨_, _, _, _, rfl, HK.out⟩
end Go.Proofs.YtekdkckgmleofaaGreat

/- Contract of pose.Between, of snapshots of one entity each, with one Id, angle and Gen: by the way 'line'. -/
namespace Go.Proofs.YtekdkckgmleofaaGreat
open Go.RowKit
set_option maxRecDepth 100000 in
set_option maxHeartbeats 20000000 in
theorem betweenL_calls (c : Cfg) (hc : COk c) (a b : SnapS) (x y : EntM) (w : World) (ha : SnapAt w a [x]) (hb : SnapAt w b [y]) (at_ : Int) (hab : TimesOk [a, b]) (h1 : a.time ≤ at_) (h2 : at_ ≤ b.time)
    (hid : x.id = y.id) (hgen : x.gen = y.gen) (hang : x.ang = y.ang) (n kk : Nat) (hn : at_ - a.time = n) (hk : b.time - a.time = kk) (h0 : 0 < kk) (hn48 : n < 281474976710656) (hL : c.curved = false → LineOk x y n) (hcu : c.curved = false) :
    Calls Tryz.prog 62 #[cfgV c, sv a, sv b, .int .i64 at_] w (BtwPost c x y n kk w) := by
  have hxo : x.Ok := ha.ok.ok x (by simp)
  have hyo : y.Ok := hb.ok.ok y (by simp)
  have hk62 : kk ≤ 4611686018427387904 := by
    have g1 := hab.bd a (by simp)
    have g2 := hab.bd b (by simp)
    omega
  have hnk : n ≤ kk := by omega
  have HC := Lib.hid (fun W hx v own hv => pcheck_calls c hc [a, b] (by simp) W hx v own hv)
  have HB := Lib.hid (fun W => bpart_calls a b at_ hab h1 h2 W)
  rw [hn, hk] at HB
  have HE := Lib.hid (fun W => pexact_calls x W)
  have HO := Lib.hid (fun W => pof_calls c W)
  have HF := Lib.hid (fun W (h : SnapAt W b [y]) => find_calls b y W h)
  rw [← hid] at HF
  have HA := Lib.hid (fun W => alerp_same x.ang n kk W h0 hk62 hnk hxo.ang)
  have HPL := Lib.hid (fun W (hcu : c.curved = false) => (pplaceL_calls x y hxo hyo n kk W h0 hk62 hnk hn48 (hL hcu)).mono (R' := PlaceP c x y n kk W) (fun e w' h => ⟨_, h.1, ⟨fun g => (by rw [hcu] at g; cases g), fun _ => rfl⟩, h.2⟩))
  have HPC := Lib.hid (fun W (hcu : c.curved = true) => (pplaceC_calls x y hxo hyo n kk W h0 hk62 hnk hn48).mono (R' := PlaceP c x y n kk W) (fun e w' h => by
    obtain ⟨z, he, hz, hk⟩ := h
    exact ⟨z, he, ⟨fun _ j hj => (hz j hj).2, fun g => (by rw [hcu] at g; cases g)⟩, hk⟩))
  have HN := Lib.hid ha
  have HM := Lib.hid hb
  obtain ⟨⟨o, hs⟩, -, -⟩ := ha
  obtain ⟨g, off, cap, ho, hv, hcap, -, hcc, -⟩ := hs.some (by simp)
  simp only [Value.slice.injEq, List.length_singleton] at hv
  obtain ⟨tk, tm, na, nl, nc⟩ := a
  dsimp only at *
  obtain ⟨e1, e2, e3⟩ := hv
  subst e1
  subst e2
  subst e3
  obtain ⟨x0, x1, x2, x3, x4, x5, x6, x7, x8⟩ := ent_at hcc (t := 0) rfl
  simp only [Nat.zero_mul, Nat.add_zero] at x0 x1 x2 x3 x4 x5 x6 x7 x8
  have hgl : g < w.heap.size := lt_of_cell x0
  clear hs hcc
  have HX : Hid (w.cell? ⟨g, off, none⟩ = some (.int .i64 x.id) ∧ w.cell? ⟨g, off + 1, none⟩ = some (.int .i64 x.p0) ∧ w.cell? ⟨g, off + 2, none⟩ = some (.int .i64 x.p1) ∧ w.cell? ⟨g, off + 3, none⟩ = some (.int .i64 x.p2) ∧ w.cell? ⟨g, off + 4, none⟩ = some (.int .i64 x.v0) ∧ w.cell? ⟨g, off + 5, none⟩ = some (.int .i64 x.v1) ∧ w.cell? ⟨g, off + 6, none⟩ = some (.int .i64 x.v2) ∧ w.cell? ⟨g, off + 7, none⟩ = some (.int .u16 x.ang) ∧ w.cell? ⟨g, off + 8, none⟩ = some (.int .u8 x.gen)) := Lib.hid ⟨x0, x1, x2, x3, x4, x5, x6, x7, x8⟩
  clear x0 x1 x2 x3 x4 x5 x6 x7 x8 h1 h2 hn hk h0 hk62 hnk hn48 hL hb hab
  have HSL : Hid (∀ o1 o2 o3, Sl ((((w.alloc o1).alloc o2).alloc o3).alloc (.cells #[.int .i64 tk, .int .i64 tm, .slice (some ⟨g, off, none⟩) 1 nc, .int .i64 b.tick, .int .i64 b.time, .slice b.a b.len b.cap] 42)) (.slice (some ⟨w.heap.size + 1 + 1 + 1, 0, none⟩) 2 2) 42 3 2 (cellsL snC [⟨tk, tm, some ⟨g, off, none⟩, 1, nc⟩, b]) (some (w.heap.size + 1 + 1 + 1))) := Lib.hid (fun o1 o2 o3 => by
    have := Sl.made (((w.alloc o1).alloc o2).alloc o3) (cellsL snC [⟨tk, tm, some ⟨g, off, none⟩, 1, nc⟩, b]) 42 3 2 rfl (by decide)
    rw [size_alloc, size_alloc, size_alloc] at this
    exact this)
  have HID := Lib.hid hid
  have HGEN := Lib.hid hgen
  have HANG := Lib.hid hang
  clear hid hgen hang
  rw [hcu] at HO
  have HCU := Lib.hid hcu
  clear hcu
  replace HO : Hid (∀ W, Calls Tryz.prog 98 #[cfgV c] W fun e w' => e = .returned (.iface 253 (.agg #[])) ∧ Kept (fun _ => False) W w') := HO
  go_enter Tryz.func62, Tryz.ntmps62
  go_wp2_with fail
  refine (HC.out _ (by
    have kk := ((((Kept.refl (fun _ => False) w).alloc (.cells (cfgC c).toArray 26)).alloc (.cells (snC ⟨tk, tm, some ⟨g, off, none⟩, 1, nc⟩).toArray 42)).alloc (.cells (snC b).toArray 42)).alloc (.cells #[.int .i64 tk, .int .i64 tm, .slice (some ⟨g, off, none⟩) 1 nc, .int .i64 b.tick, .int .i64 b.time, .slice b.a b.len b.cap] 42)
    intro s hs
    simp only [List.mem_cons, List.not_mem_nil, or_false] at hs
    rcases hs with rfl | rfl
    · exact ⟨_, HN.out.kept kk⟩
    · exact ⟨_, HM.out.kept kk⟩) _ _ (by exact HSL.out _ _ _)).mono ?_
  rintro e w1 ⟨rfl, hk1⟩
  have HK1 := Lib.hid ((((((Kept.refl (fun _ => False) w).alloc _).alloc _).alloc _).alloc _).trans hk1 (fun _ h => h.elim))
  have BC := hk1.blk ((((Blk.new w (cfgC c) 26).alloc _).alloc _).alloc _) (fun h => h)
  have BN := hk1.blk (((Blk.new_at (w := w.alloc (.cells (cfgC c).toArray 26)) (n := w.heap.size + 1) (by simp) [.int .i64 tk, .int .i64 tm, .slice (some ⟨g, off, none⟩) 1 nc] 42).alloc _).alloc _) (fun h => h)
  have BM := hk1.blk ((Blk.new_at (w := (w.alloc (.cells (cfgC c).toArray 26)).alloc (.cells #[.int .i64 tk, .int .i64 tm, .slice (some ⟨g, off, none⟩) 1 nc] 42)) (n := w.heap.size + 1 + 1) (by simp) [.int .i64 b.tick, .int .i64 b.time, .slice b.a b.len b.cap] 42).alloc _) (fun h => h)
  have s0 := BN.cell (i := 0) rfl
  have s1 := BN.cell (i := 1) rfl
  have s2 := BN.cell (i := 2) rfl
  have m0 := BM.cell (i := 0) rfl
  have m1 := BM.cell (i := 1) rfl
  have m2 := BM.cell (i := 2) rfl
  have HBC := Lib.hid BC
  have HBN := Lib.hid BN
  have HBM := Lib.hid BM
  clear hk1 BC BN BM
  go_wp2_with fail
  refine (HB.out _).mono ?_
  rintro e w2 ⟨rfl, hk2⟩
  have HK2 := Lib.hid (HK1.out.trans hk2 (fun _ h => h.elim))
  have HBC2 := Lib.hid (hk2.blk HBC.out (fun h => h))
  have HBN2 := Lib.hid (hk2.blk HBN.out (fun h => h))
  have HBM2 := Lib.hid (hk2.blk HBM.out (fun h => h))
  have cc := HBC2.out
  have cx0 := cc.cell (i := 0) rfl
  have cx1 := cc.cell (i := 1) rfl
  have cx2 := cc.cell (i := 2) rfl
  have cx3 := cc.cell (i := 3) rfl
  have cx4 := cc.cell (i := 4) rfl
  have cx5 := cc.cell (i := 5) rfl
  have cx6 := cc.cell (i := 6) rfl
  have cx7 := cc.cell (i := 7) rfl
  have cx8 := cc.cell (i := 8) rfl
  have cx9 := cc.cell (i := 9) rfl
  have cx10 := cc.cell (i := 10) rfl
  clear hk2 s0 s1 s2 m0 m1 m2 cc
  go_wp2_with fail
  refine (HO.out _).mono ?_
  rintro e w3 ⟨rfl, hk3⟩
  have HK3 := Lib.hid (HK2.out.trans hk3 (fun _ h => h.elim))
  have HBM3 := Lib.hid (hk3.blk HBM2.out (fun h => h))
  have n2 := (hk3.blk HBN2.out (fun h => h)).cell (i := 2) rfl
  clear hk3 cx0 cx1 cx2 cx3 cx4 cx5 cx6 cx7 cx8 cx9 cx10
  go_wp2_with fail
  go_loopw [15, 45] (fun l i wr => ∃ (k : Nat) (y' : Value), i = .int .i64 k ∧ l = y' ∧ (k = 0 ∧ y' = .slice none 0 0 ∧ Kept (fun _ => False) w3 wr ∨ k = 1 ∧ BtwI c x y n kk 1 w y' wr)) (fun _ i _ => (1 - intOf i).toNat)
  case atStart => exact ⟨0, _, rfl, rfl, .inl ⟨rfl, rfl, Kept.refl _ _⟩⟩
  case round =>
    obtain ⟨k, y', rfl, hy, hk⟩ := hrel
    have hy2 := hy.symm
    clear hy
    subst hy2
    rcases hk with ⟨rfl, rfl, hK⟩ | ⟨rfl, hP⟩
    · have HK := Lib.hid (HK3.out.trans hK (fun _ h => h.elim))
      have HBM4 := Lib.hid (hK.blk HBM3.out (fun h => h))
      obtain ⟨x0, x1, x2, x3, x4, x5, x6, x7, x8⟩ := HX.out
      have hgw : g < wr.heap.size := Nat.lt_of_lt_of_le hgl HK.out.size
      have c0 := HK.out.cell x0 (fun h => h)
      have c1 := HK.out.cell x1 (fun h => h)
      have c2 := HK.out.cell x2 (fun h => h)
      have c3 := HK.out.cell x3 (fun h => h)
      have c4 := HK.out.cell x4 (fun h => h)
      have c5 := HK.out.cell x5 (fun h => h)
      have c6 := HK.out.cell x6 (fun h => h)
      have c7 := HK.out.cell x7 (fun h => h)
      have c8 := HK.out.cell x8 (fun h => h)
      clear hK x0 x1 x2 x3 x4 x5 x6 x7 x8
      go_wp2_with fail
      refine (HE.out _).mono ?_
      rintro e w4 ⟨rfl, hk4⟩
      have HX4 := Lib.hid (hk4.blk (Blk.new wr (entC x) 39) (fun h => h))
      have hn4 : wr.heap.size < w4.heap.size := HX4.out.lt
      have HK4 := Lib.hid ((HK.out.alloc (.cells (entC x).toArray 39)).trans hk4 (fun _ h => h.elim))
      have HBM5 := Lib.hid (hk4.blk (HBM4.out.alloc (.cells (entC x).toArray 39)) (fun h => h))
      have i0 := (HX4.out.alloc (exO x)).cell (i := 0) rfl
      have m0 := (HBM5.out.alloc (exO x)).cell (i := 0) rfl
      have m1 := (HBM5.out.alloc (exO x)).cell (i := 1) rfl
      have m2 := (HBM5.out.alloc (exO x)).cell (i := 2) rfl
      have hbm : w.heap.size + 1 + 1 < wr.heap.size := HBM4.out.lt
      clear hk4 c0 c1 c2 c3 c4 c5 c6 c7 c8
      go_wp2_with fail
      refine (HF.out _ (HM.out.kept (HK4.out.alloc (exO x)))).mono ?_
      rintro e w5 ⟨rfl, hk5⟩
      have hq : ((y.gen : Int) == (x.gen : Int)) = true := by simp [HGEN.out]
      have HX5 := Lib.hid (hk5.blk (HX4.out.alloc (exO x)) (fun h => h))
      have HP5 := Lib.hid (hk5.blk (Blk.new w4 [.int .i64 x.id, .int .i64 (posM x 0), .int .i64 (posM x 1), .int .i64 (posM x 2), .int .u16 x.ang, .int .i64 0] 48) (fun h => h))
      have HK5 := Lib.hid ((HK4.out.alloc (exO x)).trans hk5 (fun _ h => h.elim))
      have hn5 : w4.heap.size < w5.heap.size := HP5.out.lt
      have gx := (HX5.out.alloc (.cells (entC y).toArray 39)).cell (i := 8) rfl
      have px := HX5.out.alloc (.cells (entC y).toArray 39)
      have py := Blk.new w5 (entC y) 39
      obtain ⟨u0, u1, u2, u3, u4, u5, u6, u7, u8⟩ := entb_cells px
      obtain ⟨y0, y1, y2, y3, y4, y5, y6, y7, y8⟩ := entb_cells py
      clear hk5 i0 m0 m1 m2 gx px py
      go_wp2_with fail
      have hm : ∀ W, (method 446 253 (.agg #[]) "afterimage/pose.mode").run Tryz.prog W = .ok (240, .agg #[]) W := fun _ => by kernel_rfl
      have hp : ∀ W, (method 446 253 (.agg #[]) "afterimage/pose.place").run Tryz.prog W = .ok (241, .agg #[]) W := fun _ => by kernel_rfl
      have HPX := Lib.hid (HX5.out.alloc (.cells (entC y).toArray 39))
      have HPY := Lib.hid (Blk.new w5 (entC y) 39)
      have HPP := Lib.hid (HP5.out.alloc (.cells (entC y).toArray 39))
      have HKP := Lib.hid (HK5.out.alloc (.cells (entC y).toArray 39))
      go_region_held3 (fun w' => w'.cell? ⟨wr.heap.size, 0, none⟩ = some (.int .i64 x.id) ∧ w'.cell? ⟨wr.heap.size, 1, none⟩ = some (.int .i64 x.p0) ∧ w'.cell? ⟨wr.heap.size, 2, none⟩ = some (.int .i64 x.p1) ∧ w'.cell? ⟨wr.heap.size, 3, none⟩ = some (.int .i64 x.p2) ∧ w'.cell? ⟨wr.heap.size, 4, none⟩ = some (.int .i64 x.v0) ∧ w'.cell? ⟨wr.heap.size, 5, none⟩ = some (.int .i64 x.v1) ∧ w'.cell? ⟨wr.heap.size, 6, none⟩ = some (.int .i64 x.v2) ∧ w'.cell? ⟨wr.heap.size, 7, none⟩ = some (.int .u16 x.ang) ∧ w'.cell? ⟨wr.heap.size, 8, none⟩ = some (.int .u8 x.gen) ∧ w'.cell? ⟨w5.heap.size, 0, none⟩ = some (.int .i64 y.id) ∧ w'.cell? ⟨w5.heap.size, 1, none⟩ = some (.int .i64 y.p0) ∧ w'.cell? ⟨w5.heap.size, 2, none⟩ = some (.int .i64 y.p1) ∧ w'.cell? ⟨w5.heap.size, 3, none⟩ = some (.int .i64 y.p2) ∧ w'.cell? ⟨w5.heap.size, 4, none⟩ = some (.int .i64 y.v0) ∧ w'.cell? ⟨w5.heap.size, 5, none⟩ = some (.int .i64 y.v1) ∧ w'.cell? ⟨w5.heap.size, 6, none⟩ = some (.int .i64 y.v2) ∧ w'.cell? ⟨w5.heap.size, 7, none⟩ = some (.int .u16 y.ang) ∧ w'.cell? ⟨w5.heap.size, 8, none⟩ = some (.int .u8 y.gen))
        (first | (go_keep; done) | exact eighteen HPX6.out HPY6.out | exact eighteen HPX7.out HPY7.out | (refine eighteen (t := 39) (u := 39) ?_ ?_ <;> (repeat (first | exact HPX7.out | exact HPY7.out | refine Blk.set_ne ?_ (by simp; omega) _))))
        (first
          | (go_at_call 240; refine (pmodeL_calls _).mono ?_; rintro e w6 ⟨rfl, hk6⟩; have HPX6 := Lib.hid (hk6.blk HPX.out.drew (fun h => h)); have HPY6 := Lib.hid (hk6.blk HPY.out.drew (fun h => h)); have HPP6 := Lib.hid (hk6.blk HPP.out.drew (fun h => h)); have HKP6 := Lib.hid (HKP.out.drew.trans hk6 (fun _ h => h.elim)); clear hk6)
          | (go_at_call 241; refine (HPL.out _ HCU.out).mono ?_; rintro e w7 ⟨z, rfl, hz, hk7⟩; have HZ := Lib.hid hz; have HPX7 := Lib.hid (hk7.blk HPX6.out (fun h => h)); have HPY7 := Lib.hid (hk7.blk HPY6.out (fun h => h)); have HPP7 := Lib.hid (hk7.blk HPP6.out (fun h => h)); have HKP7 := Lib.hid (HKP6.out.trans hk7 (fun _ h => h.elim)); have p1 := HPP7.out.cell (i := 1) rfl; have p2 := HPP7.out.cell (i := 2) rfl; have p3 := HPP7.out.cell (i := 3) rfl; have p5 := HPP7.out.cell (i := 5) rfl; have g1 := HPP7.out.free 1; have g2 := HPP7.out.free 2; have g3 := HPP7.out.free 3; have g5 := HPP7.out.free 5; clear hz hk7))
      have HP8 := Lib.hid ((((HPP7.out.set 5 (.int .i64 1)).set 1 (.int .i64 (z 0))).set 2 (.int .i64 (z 1))).set 3 (.int .i64 (z 2)))
      have HX8 := Lib.hid ((((HPX7.out.set_ne (a := ⟨w4.heap.size, 5, none⟩) (by simp; omega) (.int .i64 1)).set_ne (a := ⟨w4.heap.size, 1, none⟩) (by simp; omega) (.int .i64 (z 0))).set_ne (a := ⟨w4.heap.size, 2, none⟩) (by simp; omega) (.int .i64 (z 1))).set_ne (a := ⟨w4.heap.size, 3, none⟩) (by simp; omega) (.int .i64 (z 2)))
      have HY8 := Lib.hid ((((HPY7.out.set_ne (a := ⟨w4.heap.size, 5, none⟩) (by simp; omega) (.int .i64 1)).set_ne (a := ⟨w4.heap.size, 1, none⟩) (by simp; omega) (.int .i64 (z 0))).set_ne (a := ⟨w4.heap.size, 2, none⟩) (by simp; omega) (.int .i64 (z 1))).set_ne (a := ⟨w4.heap.size, 3, none⟩) (by simp; omega) (.int .i64 (z 2)))
      have hw4 := HK4.out.size
      have HK8 := Lib.hid ((((HKP7.out.setCell (a := ⟨w4.heap.size, 5, none⟩) (.inr hw4) (.int .i64 1)).setCell (a := ⟨w4.heap.size, 1, none⟩) (.inr hw4) (.int .i64 (z 0))).setCell (a := ⟨w4.heap.size, 2, none⟩) (.inr hw4) (.int .i64 (z 1))).setCell (a := ⟨w4.heap.size, 3, none⟩) (.inr hw4) (.int .i64 (z 2)))
      generalize ((((w7.setCell ⟨w4.heap.size, 5, none⟩ (.int .i64 1)).setCell ⟨w4.heap.size, 1, none⟩ (.int .i64 (z 0))).setCell ⟨w4.heap.size, 2, none⟩ (.int .i64 (z 1))).setCell ⟨w4.heap.size, 3, none⟩ (.int .i64 (z 2))) = W8 at *
      have HB8 : Hid (Blk W8 w4.heap.size [.int .i64 x.id, .int .i64 (z 0), .int .i64 (z 1), .int .i64 (z 2), .int .u16 x.ang, .int .i64 1] 48) := HP8
      have a1 := HX8.out.cell (i := 7) rfl
      have a2 : W8.cell? ⟨w5.heap.size, 7, none⟩ = some (.int .u16 x.ang) := by rw [HANG.out]; exact HY8.out.cell (i := 7) rfl
      have a3 := HB8.out.cell (i := 4) rfl
      have a4 := HB8.out.free 4
      clear HP8 p1 p2 p3 p5 g1 g2 g3 g5 u0 u1 u2 u3 u4 u5 u6 u7 u8 y0 y1 y2 y3 y4 y5 y6 y7 y8
      go_wp2_with fail
      rw [← HANG.out]
      refine (HA.out _).mono ?_
      rintro e w9 ⟨rfl, n9, rfl⟩
      have HP9 := Lib.hid (HB8.out.drewN n9)
      have p0 := HP9.out.cell (i := 0) rfl
      have p1 := HP9.out.cell (i := 1) rfl
      have p2 := HP9.out.cell (i := 2) rfl
      have p3 := HP9.out.cell (i := 3) rfl
      have p4 := HP9.out.cell (i := 4) rfl
      have p5 := HP9.out.cell (i := 5) rfl
      have g4 := HP9.out.free 4
      clear a1 a2 a3 a4
      obtain ⟨j0, hi, hz0, hz1, hz2⟩ := info_parts infoPose
      have HI := Lib.hid hi
      have HZ0 := Lib.hid hz0
      have HZ1 := Lib.hid hz1
      have HZ2 := Lib.hid hz2
      have HSR : Hid (∀ (W : World) (b : Nat), b = W.heap.size → Src (W.alloc (.cells #[.int .i64 x.id, .int .i64 (z 0), .int .i64 (z 1), .int .i64 (z 2), .int .u16 x.ang, .int .i64 1] 48)) (.slice (some ⟨b, 0, none⟩) 1 1) 1 (poseC ⟨x.id, z, x.ang, 1⟩)) := Lib.hid (fun W b hb => hb ▸ (Sl.made W (poseC ⟨x.id, z, x.ang, 1⟩) 48 6 1 rfl (by decide)).src)
      have HO' : Hid (∀ u ∈ poseC ⟨x.id, z, x.ang, 1⟩, u.oneCell' = true) := Lib.hid (by simp [Value.oneCell'])
      clear hi hz0 hz1 hz2
      go_wp2_with (at_builtin; refine wpList_append_sl _ rfl _ _ 43 rfl 48 j0 (.agg zpose.toArray) 6 48 Tryz.underlying43 HI.out HZ0.out HZ1.out HZ2.out rfl _ 0 [] none rfl (Sl.nil _ _ _) _ 1 (poseC ⟨x.id, z, x.ang, 1⟩) rfl (by exact HSR.out _ _ (by simp)) rfl HO'.out (by decide) (by decide) ?_; intro va wa own5 hS5 ho5 hK5; have SA := Lib.hid hS5; have OA := Lib.hid ho5; have KA := Lib.hid hK5; clear hS5 ho5 hK5)
      have HFF : Hid (BtwI c x y n kk 1 w va wa) := Lib.hid (by
        have KW := (((HK8.out.drewN n9).setCell (a := ⟨w4.heap.size, 4, none⟩) (.inr hw4) _).alloc _).trans KA.out (fun _ h => by cases h)
        refine ⟨z, HZ.out, ?_, KW⟩
        rcases OA.out with e | e
        · have := SA.out
          rw [e] at this
          rcases this.2 with ⟨hh, h2, _⟩ | ⟨_, _, _, _, hh, _⟩
          · cases h2
          · cases hh
        · have := SA.out
          rw [e] at this
          have hw8 := HK8.out.size
          exact ⟨_, this, by simp; omega⟩)
      go_wp2_with fail
      exact ⟨⟨1, _, by simp, rfl, .inr ⟨rfl, HFF.out⟩⟩, by simp [intOf]⟩
    · have HP := Lib.hid hP
      clear hP
      go_wp2_with fail
      go_ret2
      obtain ⟨z, hz, hp, hkk⟩ := HP.out
      exact ⟨z, hz, _, rfl, by rw [HCU.out]; exact hp, hkk⟩
end Go.Proofs.YtekdkckgmleofaaGreat

/- Contract of pose.Between, of snapshots of one entity each, with one Id, angle and Gen. -/
namespace Go.Proofs.YtekdkckgmleofaaGreat
open Go.RowKit
theorem between_calls (c : Cfg) (hc : COk c) (a b : SnapS) (x y : EntM) (w : World) (ha : SnapAt w a [x]) (hb : SnapAt w b [y]) (at_ : Int) (hab : TimesOk [a, b]) (h1 : a.time ≤ at_) (h2 : at_ ≤ b.time)
    (hid : x.id = y.id) (hgen : x.gen = y.gen) (hang : x.ang = y.ang) (n kk : Nat) (hn : at_ - a.time = n) (hk : b.time - a.time = kk) (h0 : 0 < kk) (hn48 : n < 281474976710656) (hL : c.curved = false → LineOk x y n) :
    Calls Tryz.prog 62 #[cfgV c, sv a, sv b, .int .i64 at_] w (BtwPost c x y n kk w) := by
  cases hcu : c.curved with
  | false => exact betweenL_calls c hc a b x y w ha hb at_ hab h1 h2 hid hgen hang n kk hn hk h0 hn48 hL hcu
  | true => exact betweenC_calls c hc a b x y w ha hb at_ hab h1 h2 hid hgen hang n kk hn hk h0 hn48 hL hcu
end Go.Proofs.YtekdkckgmleofaaGreat

/- Contract of pose.Show, of snapshots of one entity each, with one Id, angle and Gen. -/
namespace Go.Proofs.YtekdkckgmleofaaGreat
open Go.RowKit
/-- Snapshots with their one entity. -/
structure Ys (c : Cfg) (ys : List (SnapS × EntM)) : Prop where
  bd : ∀ y ∈ ys, 0 ≤ y.1.time ∧ y.1.time < 1099511627776
  rise : (ys.map Prod.fst).Pairwise (fun a b => a.time < b.time)
  same : ∀ y ∈ ys, ∀ z ∈ ys, y.2.id = z.2.id ∧ y.2.gen = z.2.gen ∧ y.2.ang = z.2.ang
  line : c.curved = false → ∀ (j : Nat) (y z : SnapS × EntM), ys[j]? = some y → ys[j + 1]? = some z → ∀ n : Nat, (n : Int) ≤ z.1.time - y.1.time → LineOk y.2 z.2 n
def ShowPost (c : Cfg) (ys : List (SnapS × EntM)) (at_ : Int) (w : World) (e : Ending) (w' : World) : Prop :=
  ((∀ y ∈ ys, at_ < y.1.time) ∧ e = .returned (.tuple #[.slice none 0 0, .int .i64 5]) ∧ Kept (fun _ => False) w w') ∨
  ∃ (j : Nat) (y : SnapS × EntM), ys[j]? = some y ∧ y.1.time ≤ at_ ∧ (∀ (k : Nat) (z : SnapS × EntM), j < k → ys[k]? = some z → at_ < z.1.time) ∧
    ((j + 1 = ys.length ∧ PosePost (beyP c y.2 (satI (at_ - y.1.time))) w e w') ∨
     ∃ z, ys[j + 1]? = some z ∧ BtwPost c y.2 z.2 (at_ - y.1.time).toNat (z.1.time - y.1.time).toNat w e w')
theorem Ys.times {c : Cfg} {ys : List (SnapS × EntM)} (h : Ys c ys) : TimesOk (ys.map Prod.fst) := by
  refine ⟨fun x hx => ?_, h.rise⟩
  obtain ⟨y, hy, rfl⟩ := List.mem_map.1 hx
  have := h.bd y hy
  omega
theorem PosePost.later {x : PoseM} {w w1 w' : World} {e : Ending} (k : Kept (fun _ => False) w w1) (h : PosePost x w1 e w') : PosePost x w e w' := by
  obtain ⟨v, he, ⟨g, hs, hg⟩, hk⟩ := h
  exact ⟨v, he, ⟨g, hs, Nat.le_trans k.size hg⟩, k.trans hk (fun _ h => h.elim)⟩
theorem PosePost.drewN {x : PoseM} {w w' : World} {e : Ending} (n : Nat) (h : PosePost x w e w') : PosePost x w e (w'.drewN n) := by
  obtain ⟨v, he, ⟨g, hs, hg⟩, hk⟩ := h
  exact ⟨v, he, ⟨g, hs.drewN n, hg⟩, hk.drewN n⟩
set_option maxRecDepth 100000 in
set_option maxHeartbeats 4000000 in
theorem show_calls (c : Cfg) (hc : COk c) (ys : List (SnapS × EntM)) (hy : Ys c ys) (hl : ys.length ≤ 1000) (h0 : 0 < ys.length) (at_ : Int) (hat : I64 at_) (w : World) (hx : ∀ y ∈ ys, SnapAt w y.1 [y.2])
    (v : Value) (own : Option Nat) (hv : Sl w v 42 3 (ys.map Prod.fst).length (cellsL snC (ys.map Prod.fst)) own) :
    Calls Tryz.prog 26 #[cfgV c, .int .i64 at_, v] w (ShowPost c ys at_ w) := by
  have HC := Lib.hid (fun W hx v own hv => pcheck_calls c hc (ys.map Prod.fst) (by simpa using hl) W hx v own hv)
  have HP := Lib.hid (fun W v own hv => pick_calls (ys.map Prod.fst) at_ hy.times (by simpa using hl) (by simpa using h0) W v own hv)
  have HB := Lib.hid (fun W y h hle => beyond_calls c hc (y : SnapS × EntM).1 y.2 W h at_ hle hat)
  have HW := Lib.hid (fun W (y z : SnapS × EntM) ha hb hab h1 h2 hid hgen hang n kk hn hk h0 hn48 hL => between_calls c hc y.1 z.1 y.2 z.2 W ha hb at_ hab h1 h2 hid hgen hang n kk hn hk h0 hn48 hL)
  have HX := Lib.hid hx
  have HY := Lib.hid hy
  have HV := Lib.hid hv
  obtain ⟨g, off, cap, rfl, rfl, hcap, hcm, hcc, -⟩ := hv.some (by simpa using h0)
  unfold maxLen at hcm
  rw [List.length_map] at *
  clear hx hy hv
  go_enter Tryz.func26, Tryz.ntmps26
  go_wp2_with fail
  refine (HC.out _ (fun x hx => ?_) _ _ (HV.out.kept ((Kept.refl (fun _ => False) w).alloc _) (fun _ _ h => h))).mono ?_
  · obtain ⟨y, hy, rfl⟩ := List.mem_map.1 hx
    exact ⟨_, (HX.out y hy).kept ((Kept.refl (fun _ => False) w).alloc _)⟩
  rintro e w1 ⟨rfl, hk1⟩
  have HK1 := Lib.hid (((Kept.refl (fun _ => False) w).alloc (.cells (cfgC c).toArray 26)).trans hk1 (fun _ h => h.elim))
  have HBC := Lib.hid (hk1.blk (Blk.new w (cfgC c) 26) (fun h => h))
  clear hk1
  go_wp2_with fail
  refine (HP.out _ _ _ (HV.out.kept HK1.out (fun _ _ h => h))).mono ?_
  rintro e w2 ⟨i, next, err, rfl, hrel, hk2⟩
  have HK2 := Lib.hid (HK1.out.trans hk2 (fun _ h => h.elim))
  have BC := hk2.blk HBC.out (fun h => h)
  have b0 := BC.cell (i := 0) rfl
  have b1 := BC.cell (i := 1) rfl
  have b2 := BC.cell (i := 2) rfl
  have b3 := BC.cell (i := 3) rfl
  have b4 := BC.cell (i := 4) rfl
  have b5 := BC.cell (i := 5) rfl
  have b6 := BC.cell (i := 6) rfl
  have b7 := BC.cell (i := 7) rfl
  have b8 := BC.cell (i := 8) rfl
  have b9 := BC.cell (i := 9) rfl
  have b10 := BC.cell (i := 10) rfl
  clear hk2 BC
  rcases hrel with ⟨rfl, j, x, rfl, hxj, hle, hlat, hnx⟩ | ⟨rfl, rfl, rfl, hall⟩
  · rw [List.getElem?_map, Option.map_eq_some_iff] at hxj
    obtain ⟨y, hyj, rfl⟩ := hxj
    have hjl := (List.getElem?_eq_some_iff.1 hyj).1
    have hxj : (ys.map Prod.fst)[j]? = some y.1 := by rw [List.getElem?_map, hyj]; rfl
    obtain ⟨c0, c1, c2⟩ := sn_at (w := w2) (fun j u hu => HK2.out.cell (hcc j u hu) (fun h => h)) hxj
    have hj0 : (0 : Int) ≤ (j : Int) := by omega
    have hj1 : (j : Int) < (ys.length : Int) := by omega
    have hlat2 : ∀ (k : Nat) (z : SnapS × EntM), j < k → ys[k]? = some z → at_ < z.1.time := fun k z hk hz => hlat k z.1 hk (by rw [List.getElem?_map, hz]; rfl)
    have HLAT := Lib.hid hlat2
    have HYJ := Lib.hid hyj
    have HLE := Lib.hid hle
    have hym := List.mem_of_getElem? hyj
    by_cases hnl : j + 1 < ys.length
    · obtain ⟨z, hzj⟩ : ∃ z, ys[j + 1]? = some z := ⟨_, List.getElem?_eq_getElem hnl⟩
      have hzm := List.mem_of_getElem? hzj
      have hxz : (ys.map Prod.fst)[j + 1]? = some z.1 := by rw [List.getElem?_map, hzj]; rfl
      obtain ⟨d0, d1, d2⟩ := sn_at (w := w2) (fun j u hu => HK2.out.cell (hcc j u hu) (fun h => h)) hxz
      rw [if_pos (by rw [List.length_map]; exact hnl)] at hnx
      subst hnx
      have hn0 : decide (((j + 1 : Nat) : Int) < 0) = false := decide_eq_false (by omega)
      have hj2 : (0 : Int) ≤ ((j + 1 : Nat) : Int) := by omega
      have hj3 : ((j + 1 : Nat) : Int) < (ys.length : Int) := by omega
      have hab : TimesOk [y.1, z.1] := by
        have g1 := HY.out.bd y hym
        have g2 := HY.out.bd z hzm
        have g3 := HY.out.times.step hxj hxz
        exact ⟨by simp; omega, by simpa using g3⟩
      have hrz : y.1.time < z.1.time := HY.out.times.step hxj hxz
      have hlz : at_ < z.1.time := HLAT.out (j + 1) z (by omega) hzj
      have HQ : Hid (∀ W, Kept (fun _ => False) w W → Calls Tryz.prog 62 #[cfgV c, sv y.1, sv z.1, .int .i64 at_] W (BtwPost c y.2 z.2 (at_ - y.1.time).toNat (z.1.time - y.1.time).toNat W)) := Lib.hid (fun W hW => by
        obtain ⟨e1, e2, e3⟩ := HY.out.same y hym z hzm
        have g1 := HY.out.bd y hym
        have g2 := HY.out.bd z hzm
        exact HW.out W y z ((HX.out y hym).kept hW) ((HX.out z hzm).kept hW) hab HLE.out (by omega) e1 e2 e3 _ _ (by omega) (by omega) (by omega) (by omega) (fun hcu => HY.out.line hcu j y z HYJ.out hzj _ (by omega)))
      have HZJ := Lib.hid hzj
      clear hyj hxj hle hlat hlat2 hym hzm hzj hxz hab hrz hlz hcc h0 hl hat
      go_wp2_with fail
      refine region_mix2 (fun w' => ∃ n, w' = w2.drewN n) [] [0, 1, 2, 3, 4, 5, 6, 7, 8, 9] 10 [11, 12, 13, 14] (by kernel_rfl) (by kernel_rfl) (fun _ _ d _ _ h => by cases d <;> exact h) ⟨1, rfl⟩ ?_
      simp only [pick, List.filterMap_cons, List.filterMap_nil, List.getElem?_toArray, List.getElem?_cons_zero, List.getElem?_cons_succ, floatPut, Act.put, Act.eval, List.setIfInBounds_toArray, List.set_cons_zero, List.set_cons_succ, Array.getD_eq_getD_getElem?, Option.getD_some]
      repeat (change wpQuiet _ _ _ _ (List.cons _ _) _; go_big_quiet_step (fail))
      refine wpQuiet_nil ?_
      rintro _ ⟨n2, rfl⟩
      go_wp2_with fail
      refine (HQ.out _ (HK2.out.drewN n2)).mono ?_
      rintro e w3 ⟨z3, hz, v, rfl, hp, hk3⟩
      have HPP : Hid (PosePost ⟨y.2.id, z3, y.2.ang, if c.curved then 2 else 1⟩ w (.returned (.tuple #[v, .int .i64 0])) w3) := Lib.hid (PosePost.later (HK2.out.drewN n2) ⟨v, rfl, hp, hk3⟩)
      have HZ := Lib.hid hz
      clear hp hk3 hz
      go_wp2_with fail
      simp only [QThen]
      repeat (change wpQuiet _ _ _ _ (List.cons _ _) _; go_big_quiet_step (fail))
      refine wpQuiet_nil ?_
      rintro _ ⟨n3, rfl⟩
      go_wp2_with fail
      go_ret2
      exact .inr ⟨j, y, HYJ.out, HLE.out, HLAT.out, .inr ⟨z, HZJ.out, z3, HZ.out, HPP.out.drewN n3⟩⟩
    · rw [if_neg (by rw [List.length_map]; exact hnl)] at hnx
      subst hnx
      have HQ : Hid (∀ W, Kept (fun _ => False) w W → Calls Tryz.prog 61 #[cfgV c, sv y.1, .int .i64 at_] W (PosePost (beyP c y.2 (satI (at_ - y.1.time))) W)) := Lib.hid (fun W hW => HB.out W y ((HX.out y hym).kept hW) HLE.out)
      clear hyj hxj hle hlat hlat2 hym hcc h0 hl hat
      go_wp2_with fail
      refine region_mix2 (fun w' => ∃ n, w' = w2.drewN n) [] [0, 1, 2, 3, 4, 5] 6 [7, 8, 9, 10] (by kernel_rfl) (by kernel_rfl) (fun _ _ d _ _ h => by cases d <;> exact h) ⟨1, rfl⟩ ?_
      simp only [pick, List.filterMap_cons, List.filterMap_nil, List.getElem?_toArray, List.getElem?_cons_zero, List.getElem?_cons_succ, floatPut, Act.put, Act.eval, List.setIfInBounds_toArray, List.set_cons_zero, List.set_cons_succ, Array.getD_eq_getD_getElem?, Option.getD_some]
      repeat (change wpQuiet _ _ _ _ (List.cons _ _) _; go_big_quiet_step (fail))
      refine wpQuiet_nil ?_
      rintro _ ⟨n2, rfl⟩
      go_wp2_with fail
      refine (HQ.out _ (HK2.out.drewN n2)).mono ?_
      rintro e w3 ⟨v, rfl, hp, hk3⟩
      have HPP : Hid (PosePost (beyP c y.2 (satI (at_ - y.1.time))) w (.returned (.tuple #[v, .int .i64 0])) w3) := Lib.hid (PosePost.later (HK2.out.drewN n2) ⟨v, rfl, hp, hk3⟩)
      clear hp hk3
      go_wp2_with fail
      simp only [QThen]
      repeat (change wpQuiet _ _ _ _ (List.cons _ _) _; go_big_quiet_step (fail))
      refine wpQuiet_nil ?_
      rintro _ ⟨n3, rfl⟩
      go_wp2_with fail
      go_ret2
      exact .inr ⟨j, y, HYJ.out, HLE.out, HLAT.out, .inl ⟨by omega, HPP.out.drewN n3⟩⟩
  · go_wp2_with fail
    go_ret2
    exact .inl ⟨fun y hy => hall y.1 (List.mem_map.2 ⟨y, hy, rfl⟩), rfl, HK2.out⟩
end Go.Proofs.YtekdkckgmleofaaGreat
