/- TopLives: the walk of the statement's function. -/
import Derived.Test.YtekdkckgmleofaaGreatXs40
import Derived.Test.YtekdkckgmleofaaGreatXl01
set_option linter.unusedVariables false
set_option linter.unusedSimpArgs false
namespace Go.Proofs.YtekdkckgmleofaaGreat
open Go.RowKit
theorem liv_cok {p most win base : Int} (p0 : 1 ≤ p) (p1 : p ≤ 20) (m0 : 0 ≤ most) (m1 : most ≤ 19) (v0 : 1 ≤ win) (v1 : win ≤ 5) (g0 : 0 ≤ base) (g1 : base ≤ 1000) (q0 : 0 ≤ (most + 2 * p) / p) (q1 : (most + 2 * p) / p ≤ 59) :
    COk ⟨(most + 2 * p) / p + 4, win, base, 0, base, base, 0, 1, 1, 5, false⟩ := by
  refine ⟨⟨?_, ?_, ?_, ?_, ?_, ?_, ?_, ?_, ?_, ?_, ?_⟩, ?_, ?_, ?_, ?_, ?_, ?_, ?_, ?_, ?_, ?_⟩ <;> simp only <;> omega
abbrev arC (a : Int × Int) : List Value := [.int .i64 a.1, .int .i64 a.2]
theorem infoArr : (Tryz.prog.info? 33).map (fun i => (i.zero, i.size, i.bytes)) = some (some (.agg #[.int .i64 0, .int .i64 0]), 2, 16) := by kernel_rfl
/-- One more is on its way to its place. -/
structure PutI (t : Int) (k : Nat) (A : List (Int × Int)) (j : Nat) (v : Value) (own : Option Nat) (w wi : World) : Prop where
  row : Sl wi v 33 2 (k + 1) (cellsL arC (A.take j ++ (t, (k : Int)) :: A.drop j)) own
  gt : ∀ y ∈ A.drop j, t < y.1
  kept : Kept (fun g => own = some g) w wi
/-- So many arrivals are in the list. -/
structure LstI (p far most : Int) (k : Nat) (A : List (Int × Int)) (y : Value) (own : Option Nat) (w wr : World) : Prop where
  arr : Arr p far most k A
  row : Sl wr y 33 2 k (cellsL arC A) own
  own : ∀ g, own = some g → w.heap.size ≤ g
  kept : Kept (fun g => w.heap.size ≤ g) w wr
theorem PutI.drewN {t : Int} {k : Nat} {A : List (Int × Int)} {j : Nat} {v : Value} {own : Option Nat} {w wi : World} (h : PutI t k A j v own w wi) (n : Nat) : PutI t k A j v own w (wi.drewN n) :=
  ⟨h.row.drewN n, h.gt, h.kept.drewN n⟩
theorem arC_len (a : Int × Int) : (arC a).length = 2 := rfl
theorem PutI.cells {t : Int} {k : Nat} {A : List (Int × Int)} {j g off cap : Nat} {w wi : World} (h : PutI t k A (j + 1) (.slice (some ⟨g, off, none⟩) (k + 1) cap) (some g) w wi) {y : Int × Int} (hy : A[j]? = some y) :
    wi.cell? ⟨g, off + j * 2, none⟩ = some (.int .i64 y.1) ∧ wi.cell? ⟨g, off + j * 2 + 1, none⟩ = some (.int .i64 y.2) ∧ wi.cell? ⟨g, off + (j + 1) * 2, none⟩ = some (.int .i64 t) ∧ wi.cell? ⟨g, off + (j + 1) * 2 + 1, none⟩ = some (.int .i64 k) ∧ (∀ i, wi.frozen? ⟨g, i, none⟩ = false) := by
  obtain ⟨hc, hf, -⟩ := sl_at h.row (by omega)
  have hjl := (List.getElem?_eq_some_iff.1 hy).1
  have e0 : (A.take (j + 1) ++ (t, (k : Int)) :: A.drop (j + 1))[j]? = some y := by
    rw [List.getElem?_append_left (by simp; omega), List.getElem?_take_of_lt (by omega)]
    exact hy
  have e1 : (A.take (j + 1) ++ (t, (k : Int)) :: A.drop (j + 1))[j + 1]? = some (t, (k : Int)) := by
    rw [List.getElem?_append_right (by simp; omega)]
    have : j + 1 - (A.take (j + 1)).length = 0 := by simp; omega
    rw [this]
    rfl
  have f := fun i u (hi : i < 2) (hu : (arC y)[i]? = some u) => hc (j * 2 + i) u ((cellsL_get arC_len _ j i y e0 hi).trans hu)
  have f2 := fun i u (hi : i < 2) (hu : (arC (t, (k : Int)))[i]? = some u) => hc ((j + 1) * 2 + i) u ((cellsL_get arC_len _ (j + 1) i _ e1 hi).trans hu)
  exact ⟨f 0 _ (by omega) rfl, f 1 _ (by omega) rfl, f2 0 _ (by omega) rfl, f2 1 _ (by omega) rfl, hf⟩
theorem swp (pl q : List Value) (n : Nat) (hn : pl.length = n) (a b c d a' b' c' d' : Value) : ((((pl ++ a :: b :: c :: d :: q).set (n + 2) c').set (n + 2 + 1) d').set n a').set (n + 1) b' = pl ++ a' :: b' :: c' :: d' :: q := by
  subst hn
  have f : ∀ (m : Nat) (x : Value) (l : List Value), (pl ++ l).set (pl.length + m) x = pl ++ l.set m x := by
    intro m x l
    rw [List.set_append_right _ _ (by omega)]
    congr 2
    omega
  have f0 := fun x l => f 0 x l
  simp only [Nat.add_zero] at f0
  rw [f 2, Nat.add_assoc, f (2 + 1), f0, f 1]
  rfl
theorem PutI.swap {t : Int} {k : Nat} {A : List (Int × Int)} {j g off cap : Nat} {w wi : World} (h : PutI t k A (j + 1) (.slice (some ⟨g, off, none⟩) (k + 1) cap) (some g) w wi) {y : Int × Int} (hy : A[j]? = some y) (hlt : t < y.1) (hjk : j < k) :
    PutI t k A j (.slice (some ⟨g, off, none⟩) (k + 1) cap) (some g) w ((((wi.setCell ⟨g, off + (j + 1) * 2, none⟩ (.int .i64 y.1)).setCell ⟨g, off + (j + 1) * 2 + 1, none⟩ (.int .i64 y.2)).setCell ⟨g, off + j * 2, none⟩ (.int .i64 t)).setCell ⟨g, off + j * 2 + 1, none⟩ (.int .i64 k)) := by
  obtain ⟨hjl, hje⟩ := List.getElem?_eq_some_iff.1 hy
  have hd : A.drop j = y :: A.drop (j + 1) := by rw [List.drop_eq_getElem_cons hjl, hje]
  have ht : A.take (j + 1) = A.take j ++ [y] := by rw [List.take_add_one, hy]; rfl
  refine ⟨?_, ?_, ?_⟩
  · have h1 := sl_put (sl_put (sl_put (sl_put h.row (j := (j + 1) * 2) (by omega) (.int .i64 y.1)) (j := (j + 1) * 2 + 1) (by omega) (.int .i64 y.2)) (j := j * 2) (by omega) (.int .i64 t)) (j := j * 2 + 1) (by omega) (.int .i64 k)
    have e : ((((cellsL arC (A.take (j + 1) ++ (t, (k : Int)) :: A.drop (j + 1))).set ((j + 1) * 2) (.int .i64 y.1)).set ((j + 1) * 2 + 1) (.int .i64 y.2)).set (j * 2) (.int .i64 t)).set (j * 2 + 1) (.int .i64 k) = cellsL arC (A.take j ++ (t, (k : Int)) :: A.drop j) := by
      rw [ht, hd, List.append_assoc, List.singleton_append, cellsL_append, cellsL_append, cellsL_cons, cellsL_cons, cellsL_cons, cellsL_cons]
      have hl : (cellsL arC (A.take j)).length = j * 2 := by rw [cellsL_len arC_len, List.length_take, Nat.min_eq_left (by omega)]
      rw [show (j + 1) * 2 = j * 2 + 2 by omega]
      exact swp _ _ _ hl _ _ _ _ _ _ _ _
    rw [e] at h1
    exact h1
  · rw [hd]
    intro z hz
    rcases List.mem_cons.1 hz with rfl | hz
    · exact hlt
    · exact h.gt z hz
  · exact (((h.kept.setCell (a := ⟨g, off + (j + 1) * 2, none⟩) (.inl rfl) _).setCell (a := ⟨g, off + (j + 1) * 2 + 1, none⟩) (.inl rfl) _).setCell (a := ⟨g, off + j * 2, none⟩) (.inl rfl) _).setCell (a := ⟨g, off + j * 2 + 1, none⟩) (.inl rfl) _
theorem lst_step {p far most : Int} {k : Nat} {A : List (Int × Int)} {y : Value} {own : Option Nat} {w wr wa wi : World} {o1 o2 : Obj} {t : Int} {j g : Nat} {v : Value} (h : LstI p far most k A y own w wr) (h1 : (k : Int) * p + far ≤ t) (h2 : t ≤ (k : Int) * p + far + most) (hP : PutI t k A j v (some g) wa wi) (hle : ∀ y ∈ A.take j, y.1 ≤ t)
    (ho : (some g : Option Nat) = own ∨ (some g : Option Nat) = some ((wr.alloc o1).alloc o2).heap.size) (kp : Kept (fun k => own = some k) ((wr.alloc o1).alloc o2) wa) : LstI p far most (k + 1) (A.take j ++ (t, (k : Int)) :: A.drop j) v (some g) w wi := by
  have hg : w.heap.size ≤ g := by
    rcases ho with e | e
    · exact h.own g e.symm
    · have := h.kept.size
      simp at e
      omega
  refine ⟨h.arr.step rfl h1 h2 hP.gt hle, hP.row, fun g' e => by cases e; exact hg, ?_⟩
  refine (((h.kept.alloc o1).alloc o2).trans kp (fun g' e => .inl (h.own g' e))).trans hP.kept (fun g' e => ?_)
  cases e
  exact .inl hg
theorem below_all {w W1 w3 wA wr : World} {F : Nat → Prop} (h1 : Kept (fun _ => False) w W1) (h2 : Kept (fun _ => False) W1 w3) (h3 : Kept (fun g => w3.heap.size ≤ g) w3 wA) (h4 : Kept F wA wr) (hF : ∀ g, F g → w.heap.size ≤ g) : Below w.heap.size w wr :=
  ((((h1.trans h2 (fun _ h => h.elim)).mono (G := fun g => w.heap.size ≤ g) (fun _ _ h => h.elim)).trans h3 (fun g hg => .inl (Nat.le_trans (h1.trans h2 (fun _ h => h.elim)).size hg))).trans h4 (fun g hg => .inl (hF g hg))).below (Nat.le_refl _) (fun _ h => h)
theorem lv_start {p far most base : Int} {c : Cfg} {A : List (Int × Int)} {q n0 : Nat} {own : Option Nat} {wr : World} (h : Cli wr q (fun g => n0 ≤ g ∧ own ≠ some g) c ⟨[], 0, tgtM c 0, ⟨0, 0, false⟩⟩ 0 ⟨[], 0, false⟩ (OneE (RL p))) (hc : LivC p far most base c) :
    LvI p far base c A q n0 own 0 (far - far - base) wr wr ⟨[], 0, tgtM c 0, ⟨0, 0, false⟩⟩ 0 ⟨[], 0, false⟩ := by
  refine ⟨h, Nat.le_refl _, (by simp), (fun e => (by cases e)), (by simp), fun e => absurd e (Nat.lt_irrefl _), fun _ => rfl, (by simp), ?_, (fun e => (by cases e)), Kept.refl _ _⟩
  have := tgt_now hc.ok.d
  rw [hc.least, hc.cmost] at this
  show tgtM c 0 = base
  omega
set_option maxRecDepth 100000 in
set_option maxHeartbeats 40000000 in
theorem lives_walk (n0 n1 n2 n3 : Int) (a0 : 0 ≤ n0) (b0 : n0 ≤ 255) (a1 : 0 ≤ n1) (b1 : n1 ≤ 255) (a2 : 0 ≤ n2) (b2 : n2 ≤ 255) (a3 : 0 ≤ n3) (b3 : n3 ≤ 255) (a : Option Addr) (cap : Nat) (l : List Int) (w : World) (hr : Reads w .u8 a l) (hm : l.length ≤ maxLen) (hwf : ∀ n ∈ l, (Lit.int .u8 n).wf = true) :
    Calls Tryz.prog 3 #[.agg #[.int .u8 n0, .int .u8 n1, .int .u8 n2, .int .u8 n3], .slice a l.length cap] w fun e w' => e = .returned (.bool true) ∧ Below w.heap.size w w' := by
  unfold maxLen at hm
  have HAL := Lib.hid (fun W => alive_calls W)
  have HR := Lib.hid hr
  have HWF := Lib.hid hwf
  clear hr hwf
  go_enter Tryz.func3, Tryz.ntmps3
  go_wp2_with fail
  refine (HAL.out _).mono ?_
  rintro e w1 ⟨rfl, hk1⟩
  have BN := hk1.blk (Blk.new w [.int .u8 n0, .int .u8 n1, .int .u8 n2, .int .u8 n3] 22) (fun h => h)
  have HK1 := Lib.hid (((Kept.refl (fun _ => False) w).alloc (.cells #[.int .u8 n0, .int .u8 n1, .int .u8 n2, .int .u8 n3] 22)).trans hk1 (fun _ h => h.elim))
  have HBN := Lib.hid BN
  have c0 := BN.cell (i := 0) rfl
  have c1 := BN.cell (i := 1) rfl
  have c2 := BN.cell (i := 2) rfl
  have c3 := BN.cell (i := 3) rfl
  clear hk1 BN
  by_cases h60 : (60 : Int) < l.length
  · go_wp2_with fail
    refine (HAL.out _).mono ?_
    rintro e w2 ⟨rfl, hk2⟩
    have HK2 := Lib.hid (HK1.out.trans hk2 (fun _ h => h.elim))
    clear hk2
    go_wp2_with fail
    go_ret
    exact ⟨rfl, HK2.out.below (Nat.le_refl _) (fun _ h => h.elim)⟩
  · have d60 : decide ((60 : Int) < l.length) = false := decide_eq_false h60
    go_upto_region 3 with fail
    go_quiet (fail)
    go_upto_region 7 with fail
    have p0 : 1 ≤ 1 + n0 % 20 := by omega
    have p1 : 1 + n0 % 20 ≤ 20 := by omega
    have f0 : 0 ≤ n1 % 50 := by omega
    have f1 : n1 % 50 ≤ 49 := by omega
    have m0 : 0 ≤ n2 % 20 := by omega
    have m1 : n2 % 20 ≤ 19 := by omega
    have v0 : 1 ≤ 1 + n3 % 5 := by omega
    have v1 : 1 + n3 % 5 ≤ 5 := by omega
    generalize 1 + n0 % 20 = p at *
    generalize n1 % 50 = far at *
    generalize n2 % 20 = most at *
    generalize 1 + n3 % 5 = win at *
    generalize hbe : most + p + 1 = base
    have g0 : 0 ≤ base := by omega
    have g1 : base ≤ 1000 := by omega
    have HBE := Lib.hid hbe
    clear hbe
    clear c0 c1 c2 c3
    have hq : (most + 2 * p).tdiv p = (most + 2 * p) / p := Int.tdiv_eq_ediv_of_nonneg (by omega)
    have q0 : 0 ≤ (most + 2 * p) / p := Int.ediv_nonneg (by omega) (by omega)
    have q1 : (most + 2 * p) / p ≤ 59 := by
      have : (most + 2 * p) / p ≤ (most + 2 * p) := Int.ediv_le_self _ (by omega)
      omega
    have hpz : ¬ p = 0 := by omega
    have HBN2 := Lib.hid (HBN.out.drewN nq)
    have HK2 := Lib.hid (HK1.out.drewN nq)
    generalize w1.drewN nq = W1 at *
    obtain ⟨j0, hi, hz0, hz1, hz2⟩ := info_parts infoArr
    have HAI := Lib.hid hi
    have HZ0 := Lib.hid hz0
    have HZ1 := Lib.hid hz1
    have HZ2 := Lib.hid hz2
    clear hi hz0 hz1 hz2
    have hco := liv_cok p0 p1 m0 m1 v0 v1 g0 g1 q0 q1
    have HCO := Lib.hid hco
    have HNEW := Lib.hid (fun W => clinew_calls _ hco (OneE (RL p)) W)
    have hW1 := HBN2.out.lt
    clear hco
    go_wp2_with fail
    refine (HNEW.out _).mono ?_
    rintro e w3 ⟨q, rfl, hcl, hqn, hk3⟩
    have HC3 := Lib.hid hcl
    have HK3 := Lib.hid (((Kept.refl (fun _ => False) W1).alloc (.cells #[.int .i64 ((most + 2 * p) / p + 4), .int .i64 win, .int .i64 base, .int .i64 0, .int .i64 base, .int .i64 base, .int .i64 0, .int .i64 1, .int .i64 1, .int .i64 5, .bool false] 26)).trans hk3 (fun _ h => h.elim))
    have hs3 : W1.heap.size + 1 ≤ w3.heap.size := by have := hk3.size; simpa using this
    simp only [size_alloc] at hqn
    clear hcl hk3
    go_wp2_with fail
    go_loopw [13, 83] (fun lv i wr => ∃ (k : Nat) (A : List (Int × Int)) (y : Value) (own : Option Nat), i = .int .i64 k ∧ lv = y ∧ k ≤ l.length ∧ LstI p far most k A y own w3 wr) (fun _ i _ => (l.length - intOf i).toNat)
    case atStart => exact ⟨0, [], _, none, rfl, rfl, Nat.zero_le _, ⟨Arr.nil _ _ _, Sl.nil _ _ _, fun g e => (by cases e), Kept.refl _ _⟩⟩
    case round =>
      obtain ⟨k, A, y', own, rfl, hy, hk, hI⟩ := hrel
      have hy2 := hy.symm
      clear hy
      subst hy2
      obtain ⟨ya, ycap, rfl, -, -⟩ := hI.row.form
      have HI := Lib.hid hI
      clear hI
      by_cases hlt : k < l.length
      · obtain ⟨b, off, rfl, hb, hcells⟩ := HR.out (by omega)
        have hcl := HI.out.kept.cell (HK3.out.cell (HK2.out.cell (hcells k hlt) (fun h => h)) (fun h => h)) (by show ¬ w3.heap.size ≤ b; have := HK2.out.size; omega)
        have hs := HWF.out (l.getD k 0) (by rw [List.getD_eq_getElem?_getD, List.getElem?_eq_getElem hlt]; exact List.getElem_mem hlt)
        obtain ⟨s0, s1⟩ := u8_bd hs
        generalize l.getD k 0 = s at *
        clear hs hcells hb
        have hk60 : (k : Int) ≤ 60 := by omega
        have hkp : 0 ≤ (k : Int) * p := Int.mul_nonneg (by omega) (by omega)
        have hkq : (k : Int) * p ≤ 60 * 20 := Int.mul_le_mul hk60 p1 (by omega) (by omega)
        have hd0 : 0 ≤ s % (most + 1) := Int.emod_nonneg _ (by omega)
        have hd1 : s % (most + 1) ≤ most := by have := Int.emod_lt_of_pos s (show (0 : Int) < most + 1 by omega); omega
        have hw1 : wrap64 ((k : Int) * p) = (k : Int) * p := by unfold wrap64; omega
        have hw2 : wrap64 ((k : Int) * p + far) = (k : Int) * p + far := by unfold wrap64; omega
        have hw3 : wrap64 ((k : Int) * p + far + s % (most + 1)) = (k : Int) * p + far + s % (most + 1) := by unfold wrap64; omega
        have HROW : Hid (∀ o1 o2, Sl ((wr.alloc o1).alloc o2) (.slice ya k ycap) 33 2 k (cellsL arC A) own) := Lib.hid (fun o1 o2 => (HI.out.row.alloc o1).alloc o2)
        have HSR : Hid (∀ (W : World) (b : Nat) (t : Int), b = W.heap.size → Src (W.alloc (.cells #[.int .i64 t, .int .i64 k] 33)) (.slice (some ⟨b, 0, none⟩) 1 1) 1 (arC (t, (k : Int)))) := Lib.hid (fun W b t e => by
          subst e
          exact (Sl.made W (arC (t, (k : Int))) 33 2 1 rfl (by decide)).src)
        have HO : Hid (∀ t : Int, ∀ u ∈ arC (t, (k : Int)), u.oneCell' = true) := Lib.hid (by intro t u hu; simp at hu; rcases hu with rfl | rfl <;> rfl)
        have N1 : Hid (k + 1 ≤ maxLen) := Lib.hid (by unfold maxLen; omega)
        have N2 : Hid ((k + 1) * 16 ≤ 140737488355328) := Lib.hid (by omega)
        have HD0 := Lib.hid hd0
        have HD1 := Lib.hid hd1
        clear hd0 hd1
        go_upto_region 19 with (at_builtin; refine wpList_append_sl _ rfl _ _ 31 rfl 33 j0 (.agg #[.int .i64 0, .int .i64 0]) 2 16 Tryz.underlying31 HAI.out HZ0.out HZ1.out HZ2.out rfl _ k _ own rfl (HROW.out _ _) _ 1 (arC ((k : Int) * p + far + s % (most + 1), (k : Int))) rfl (by exact HSR.out _ _ _ (by simp)) rfl (HO.out _) N1.out N2.out ?_; intro va wa own5 hS5 ho5 hK5; have SA := Lib.hid hS5; have OA := Lib.hid ho5; have KA := Lib.hid hK5; obtain ⟨av, cv, rfl, -, -⟩ := hS5.form; clear hS5 ho5 hK5)
        have HT1 : Hid ((k : Int) * p + far ≤ (k : Int) * p + far + s % (most + 1)) := Lib.hid (by have := HD0.out; omega)
        have HT2 : Hid ((k : Int) * p + far + s % (most + 1) ≤ (k : Int) * p + far + most) := Lib.hid (by have := HD1.out; omega)
        generalize (k : Int) * p + far + s % (most + 1) = tt at *
        have hw4 : wrap64 ((k : Int) + 1 - 1) = k := by unfold wrap64; omega
        clear HD0 HD1 HSR HO HROW N1 N2 hw1 hw2 hw3 hcl
        have HALL := HI.out.arr.len
        obtain ⟨g5, o5, c5, hg5, hv5, -, -, -, -⟩ := SA.out.some (by omega)
        simp only [Value.slice.injEq, true_and] at hv5
        obtain ⟨e5, e6⟩ := hv5
        subst e5
        subst e6
        subst hg5
        go_upto_region 20 with fail
        go_loopw [17] (fun jv wi => ∃ (jj : Nat), jv = .int .i64 jj ∧ jj ≤ k ∧ PutI tt k A jj (.slice (some ⟨g5, o5, none⟩) (k + 1) cv) (some g5) wa wi) (fun jv _ => (intOf jv).toNat)
        case atStart => exact ⟨k, rfl, Nat.le_refl _, by rw [List.take_of_length_le (by omega), List.drop_eq_nil_of_le (by omega), cellsL_append]; simpa [cellsL] using SA.out, by rw [List.drop_eq_nil_of_le (by omega)]; simp, Kept.refl _ _⟩
        case round =>
          obtain ⟨jj, rfl, hj, hP⟩ := hrel
          have HP := Lib.hid hP
          clear hP
          rcases jj with _ | j
          · go_wp2_with fail
            go_quiet (fail)
            go_wp2_with fail
            exact ⟨⟨k + 1, _, _, _, by simp, rfl, by omega, lst_step HI.out HT1.out HT2.out (HP.out.drewN _) (fun y hy => by simp at hy) OA.out KA.out⟩, by simp [intOf]; omega⟩
          · obtain ⟨y, hyj⟩ : ∃ y, A[j]? = some y := ⟨_, List.getElem?_eq_getElem (by omega)⟩
            obtain ⟨k0, k1, k2, k3, kf⟩ := HP.out.cells hyj
            have hj0 : (0 : Int) ≤ (j : Int) := by omega
            have hj1 : (j : Int) < (k : Int) + 1 := by omega
            have hj2 : (0 : Int) ≤ (j : Int) + 1 := by omega
            have hj3 : (j : Int) + 1 < (k : Int) + 1 := by omega
            have hgt : decide ((0 : Int) < (j : Int) + 1) = true := decide_eq_true (by omega)
            have hw5 : wrap64 ((j : Int) + 1 - 1) = j := by unfold wrap64; omega
            have HY := Lib.hid hyj
            clear hyj
            by_cases hlt2 : tt < y.1
            · have hd2 : decide (tt < y.1) = true := decide_eq_true hlt2
              have HLT2 := Lib.hid hlt2
              go_wp2_with fail
              go_quiet (fail)
              go_wp2_with fail
              go_region
              go_wp2_with fail
              exact ⟨⟨j, by simp, by omega, (HP.out.drewN _).swap HY.out HLT2.out (by omega)⟩, by simp [intOf]⟩
            · have hd2 : decide (tt < y.1) = false := decide_eq_false hlt2
              go_wp2_with fail
              go_quiet (fail)
              go_wp2_with fail
              exact ⟨⟨k + 1, _, _, _, by simp, rfl, by omega, lst_step HI.out HT1.out HT2.out (HP.out.drewN _) (put_take (a := (tt, (k : Int))) HI.out.arr.srt HY.out (by show y.1 ≤ tt; omega)) OA.out KA.out⟩, by simp [intOf]; omega⟩
      · have hkN : k = l.length := by omega
        subst hkN
        have HLC := Lib.hid (LivC.mk HCO.out p0 p1 f0 f1 m0 m1 HBE.out.symm rfl rfl rfl rfl)
        have hCL : Cli wr q (fun g => W1.heap.size + 1 ≤ g ∧ own ≠ some g) ⟨(most + 2 * p) / p + 4, win, base, 0, base, base, 0, 1, 1, 5, false⟩ _ 0 _ (OneE (RL p)) := (HC3.out.kept HI.out.kept (fun g hg h => by have := hg.2; omega)).mono (fun g _ hg => ⟨by simpa using hg.1, fun e => by have := HI.out.own g e; have := hg.2; omega⟩)
        have HLV := Lib.hid (lv_start (far := far) (A := A) hCL HLC.out)
        have HW1 := Lib.hid (HI.out.kept)
        have hsr : w3.heap.size ≤ wr.heap.size := HI.out.kept.size
        generalize (⟨(most + 2 * p) / p + 4, win, base, 0, base, base, 0, 1, 1, 5, false⟩ : Cfg) = c at *
        have hNp0 : 0 ≤ (l.length : Int) * p := Int.mul_nonneg (by omega) (by omega)
        have hNp1 : (l.length : Int) * p ≤ 60 * 20 := Int.mul_le_mul (by omega) p1 (by omega) (by omega)
        have e1 : wrap64 ((l.length : Int) * p) = (l.length : Int) * p := by unfold wrap64; omega
        have e2 : wrap64 ((l.length : Int) * p + far) = (l.length : Int) * p + far := by unfold wrap64; omega
        have e3 : wrap64 ((l.length : Int) * p + far - p) = (l.length : Int) * p + far - p := by unfold wrap64; omega
        clear hCL hlt hqn
        obtain ⟨wA, hwA⟩ : ∃ x : World, x = wr := ⟨wr, rfl⟩
        subst hwA
        go_wp2_with fail
        go_loopw [18, 19] (fun iv nv wi => ∃ (i : Nat) (now : Int) (m : ClkM) (K : Nat) (r : RingM SnapS), iv = .int .i64 i ∧ nv = .int .i64 now ∧ i ≤ l.length ∧ far ≤ now ∧ now ≤ 2000 ∧ LvI p far base c A q (W1.heap.size + 1) own i (now - far - base) wA wi m K r) (fun _ nv _ => (2001 - intOf nv).toNat)
        case atStart => exact ⟨0, far, _, 0, _, rfl, rfl, Nat.zero_le _, Int.le_refl _, by omega, HLV.out⟩
        case round =>
          obtain ⟨i, now, m, K, r, rfl, rfl, hi, hnow0, hnow1, hL⟩ := hrel
          have HL := Lib.hid hL
          clear hL
          have HNW : Hid (now < (l.length : Int) * p + far - p → now < (l.length : Int) * p + far - p) := Lib.hid id
          by_cases hend : now < (l.length : Int) * p + far - p
          · have hN0 : 0 < l.length := by
              rcases Nat.eq_zero_or_pos l.length with h | h
              · exfalso
                rw [h] at hend
                omega
              · exact h
            obtain ⟨g, of, cp, hog, hvg, -, -, hcc, -⟩ := HI.out.row.some hN0
            simp only [Value.slice.injEq, true_and] at hvg
            obtain ⟨e5, e6⟩ := hvg
            subst e5
            subst e6
            subst hog
            have HCC := Lib.hid hcc
            have HEND := Lib.hid hend
            clear hcc
            go_wp2_with fail
            go_loopw [18] (fun iv wi => ∃ (i : Nat) (m : ClkM) (K : Nat) (r : RingM SnapS), iv = .int .i64 i ∧ i ≤ l.length ∧ LvI p far base c A q (W1.heap.size + 1) (some g) i (now - far - base) wA wi m K r) (fun iv _ => (l.length - intOf iv).toNat)
            case atStart => exact ⟨i, m, K, r, rfl, hi, HL.out⟩
            case round =>
              clear HL hi
              obtain ⟨i, m, K, r, rfl, hi, hL⟩ := hrel
              have HL := Lib.hid hL
              clear hL
              have HNX : Hid ((∀ x, A[i]? = some x → now < x.1) → LvI p far base c A q (W1.heap.size + 1) (some g) i (now - far - base) wA wr m K r ∧ (∀ x, A[i]? = some x → now < x.1)) := Lib.hid (fun h => ⟨HL.out, h⟩)
              by_cases hi2 : i < l.length
              · obtain ⟨x, hx⟩ : ∃ x, A[i]? = some x := ⟨_, List.getElem?_eq_getElem (by have := HI.out.arr.len; omega)⟩
                have hc0 := HL.out.kept.cell (HCC.out (i * 2 + 0) _ ((cellsL_get arC_len _ i 0 x hx (by omega)).trans rfl)) (fun h => h.2 rfl)
                have hc1 := HL.out.kept.cell (HCC.out (i * 2 + 1) _ ((cellsL_get arC_len _ i 1 x hx (by omega)).trans rfl)) (fun h => h.2 rfl)
                simp only [Nat.add_zero] at hc0
                rw [← Nat.add_assoc] at hc1
                have hi0 : (0 : Int) ≤ (i : Int) := by omega
                have hi1 : (i : Int) < (l.length : Int) := by omega
                have hd1 : decide ((i : Int) < (l.length : Int)) = true := decide_eq_true hi1
                have HX := Lib.hid hx
                by_cases hle : x.1 ≤ now
                · have hd2 : decide (x.1 ≤ now) = true := decide_eq_true hle
                  clear hx
                  obtain ⟨x0, x1, x2, x3⟩ := HI.out.arr.tk x (List.mem_of_getElem? HX.out)
                  have hxp0 : 0 ≤ x.2 * p := Int.mul_nonneg x0 (by omega)
                  have hxp1 : x.2 * p ≤ 60 * 20 := Int.mul_le_mul (by omega) p1 (by omega) (by omega)
                  have hxw : wrap64 (x.2 * p) = x.2 * p := by unfold wrap64; omega
                  have hxi : IntKind.i64.wrap (x.2 * p) = x.2 * p := by rw [IntWalk.i64_in _ (by omega)]
                  have hso : SnapOk x.2 (x.2 * p) := ⟨x0, by omega, by omega, by omega⟩
                  have hxo : (xl x.2).Ok := xl_ok x0 (by omega)
                  have HFU : Hid (∀ (W : World) (b : Nat), b = W.heap.size → Calls Tryz.prog 9 #[snapV x.2 (x.2 * p) (.slice (some ⟨b, 0, none⟩) 1 1)] (W.alloc (.cells (entC (xl x.2)).toArray 39)).drew (RowPost (gramL x.2 (x.2 * p) (xl x.2)) (W.alloc (.cells (entC (xl x.2)).toArray 39)).drew)) := Lib.hid (fun W b e => by
                    subst e
                    exact tfull_calls x.2 (x.2 * p) hso (xl x.2) hxo rfl _ _ _ (sl_of_blk (Blk.new W (entC (xl x.2)) 39).drew))
                  have HAR : Hid (∀ (W : World) (v : Value) (o : Option Nat), Kept (fun _ => False) wr W → Sl W v 5 1 (gramL x.2 (x.2 * p) (xl x.2)).length (u8s (gramL x.2 (x.2 * p) (xl x.2))) o → Calls Tryz.prog 8 #[.pointer (some ⟨q, 0, none⟩), .int .i64 x.1, v] W (ArrPost (RL p) W q (fun z => W1.heap.size + 1 ≤ z ∧ some g ≠ some z) c (smpM c m x.1 (x.2 * p)) (K + 1) r x.2 (x.2 * p))) :=
                    Lib.hid (fun W v o hk hv => arrive_calls (RL p) W q _ c HLC.out.ok m K r (HL.out.cli.kept hk (fun _ _ h => h)) x.2 (x.2 * p) hso (xl x.2) hxo rfl (HL.out.may HLC.out HI.out.arr HX.out) ⟨rfl, rfl, x0, by omega⟩ (RL_one _) x.1 (by unfold I64; omega) (by unfold I64; omega) (by have := HL.out.K; omega) v o hv)
                  have hgs : g < wr.heap.size := lt_of_cell hc0
                  have HC0 := Lib.hid hc0
                  have HSA : Hid (∀ (O : Obj), (wr.alloc O).drew.cell? ⟨g, of + i * 2, none⟩ = some (.int .i64 x.1)) := Lib.hid (fun O => ((Kept.refl (fun _ => False) wr).alloc O |>.drew).cell HC0.out (fun h => h))
                  clear hxp0 hxp1 hso hxo hle
                  go_upto_region 31 with fail
                  go_region_held3 (fun w' => w'.cell? ⟨g, of + i * 2, none⟩ = some (.int .i64 x.1))
                    (first | with_reducible exact HSA.out _ | with_reducible exact HS5.out | with_reducible exact HS6.out | (go_keep; done))
                    (first
                      | (go_at_call 9; refine (HFU.out _ _ rfl).mono ?_; rintro e w5 ⟨v5, g5, rfl, hv5, -, hk5⟩; have HV5 := Lib.hid hv5; have HK5 := Lib.hid ((((Kept.refl (fun _ => False) wr).alloc (.cells (entC (xl x.2)).toArray 39)).drew).trans hk5 (fun _ h => h.elim)); have HS5 := Lib.hid (hk5.cell (HSA.out _) (fun h => h)); clear hv5 hk5)
                      | (go_at_call 8; refine (HAR.out _ _ _ HK5.out HV5.out).mono ?_; rintro e w6 ⟨rfl, a6, cap6, hc6, hk6⟩; have HC6 := Lib.hid hc6; have HK6 := Lib.hid hk6; have HS6 := Lib.hid (hk6.cell HS5.out (fun h => h.2 rfl)); clear hc6 hk6))
                  have HCF := Lib.hid (HC6.out.mono (F' := fun z => W1.heap.size + 1 ≤ z ∧ some g ≠ some z) (fun z _ h => by
                    rcases h with h | ⟨h, -⟩
                    · exact h
                    · have h5 := HK5.out.size
                      have h6 := HL.out.kept.size
                      refine ⟨by omega, fun e => by have := Option.some.inj e; omega⟩))
                  have HST := Lib.hid (HL.out.step HLC.out HI.out.arr (by omega) HX.out HCF.out ((HK5.out.mono (fun _ _ h => h.elim)).trans HK6.out (fun z hz => .inl hz)))
                  go_wp2_with fail
                  exact ⟨⟨i + 1, _, _, _, by simp, by omega, HST.out⟩, by simp [intOf]; omega⟩
                · have hd2 : decide (x.1 ≤ now) = false := decide_eq_false hle
                  have HN2 := Lib.hid (HNX.out (fun z hz => by rw [hx] at hz; cases hz; omega))
                  clear hx
                  go_wp2_with fail
                  clear hc0 hc1
                  have hnow9 : 0 ≤ now := by omega
                  by_cases hml : m.last = []
                  · have hi0 : i = 0 := by
                      rcases Nat.eq_zero_or_pos i with h | h
                      · exact h
                      · exact absurd hml (HN2.out.1.last h)
                    first
                      | (exfalso; omega)
                      | (refine (frame_none wr q _ c m K r _ HN2.out.1.cli hml now).mono ?_
                         rintro e w5 ⟨rfl, hc5, hk5⟩
                         have HL5 := Lib.hid (HN2.out.1.put hc5 hk5)
                         clear hc5 hk5 hml
                         have hdw : decide ((i : Int) ≤ win) = true := decide_eq_true (by omega)
                         have hw9 : wrap64 (now + 1) = now + 1 := by unfold wrap64; omega
                         go_wp2_with fail
                         exact ⟨⟨i, now + 1, _, _, _, (by simp [hi0]), by simp, hi, by omega, by omega, ((HL5.out.to ((Kept.refl (fun _ => False) w5).alloc _)).more (by omega))⟩, by simp [intOf]; omega⟩)
                  · obtain ⟨f1, f2, f3, f4⟩ := HN2.out.1.cli.facts
                    have HF1 := Lib.hid f1
                    have HF4 := Lib.hid f4
                    have hrl : r.l ≠ [] := by
                      intro e
                      rcases Nat.eq_zero_or_pos i with h | h
                      · exact hml (HN2.out.1.nl h)
                      · obtain ⟨x, hx⟩ : ∃ x, A[0]? = some x := ⟨_, List.getElem?_eq_getElem (by have := HI.out.arr.len; omega)⟩
                        obtain ⟨y, hy, -⟩ := HN2.out.1.new x (List.mem_of_getElem? (i := 0) (by rw [List.getElem?_take_of_lt h]; exact hx))
                        rw [e] at hy
                        cases hy
                    refine (frame_calls (RL p) wr q _ c HLC.out.ok m K r HN2.out.1.cli hml now (by unfold I64; omega) hrl (fun ys h1 h2 => liv_ys p0 p1 h1 f1 (fun z hz => (f4 z hz).1) h2)).mono ?_
                    rintro e w5 ⟨v5, ys, rfl, hc5, hk5, hy5, hR5, hp5⟩
                    obtain ⟨hL5, hat⟩ := HN2.out.1.frame HLC.out hml hnow9 (by omega) hc5 hk5
                    have HL5 := Lib.hid hL5
                    have hv : (i : Int) ≤ win ∨ LineV v5 wr.heap.size w5 := by
                      by_cases h : (i : Int) ≤ win
                      · exact .inl h
                      · refine .inr (liv_poses HLC.out.cur hy5 f1 (fun z hz => (f4 z hz).1) p0 hR5 ?_ hp5)
                        obtain ⟨z, hz, hlt⟩ := HN2.out.1.ahead HLC.out HI.out.arr (by omega) HN2.out.2 hat HEND.out hi
                        exact ⟨z, hz, hlt⟩
                    obtain ⟨av, nv, pv, rfl⟩ := hp5.form
                    generalize (frmM c m now).sl.at_ = at_ at *
                    have HV := Lib.hid hv
                    clear hc5 hk5 hy5 hR5 hp5 hL5 hat hv hrl f1 f2 f3 f4
                    have hw9 : wrap64 (now + 1) = now + 1 := by unfold wrap64; omega
                    by_cases hiw : (i : Int) ≤ win
                    · have hdw : decide ((i : Int) ≤ win) = true := decide_eq_true hiw
                      go_wp2_with fail
                      exact ⟨⟨i, now + 1, _, _, _, rfl, by simp, hi, by omega, by omega, ((HL5.out.to ((Kept.refl (fun _ => False) w5).alloc _)).more (by omega))⟩, by simp [intOf]; omega⟩
                    · have hdw : decide ((i : Int) ≤ win) = false := decide_eq_false hiw
                      have hv := HV.out.resolve_left hiw
                      rcases hv with hv | ⟨u0, u1, u2, u3, u4, gp, op, cpv, hv, hgp, hcp⟩
                      · cases hv
                        go_wp2_with fail
                        go_loopw [210] (fun jv wi => jv = .int .i64 0 ∧ Kept (fun _ => False) w5 wi) (fun jv _ => 0)
                        case atStart => exact ⟨rfl, (Kept.refl _ _).alloc _⟩
                        case round =>
                          obtain ⟨rfl, hK⟩ := hrel
                          have HK := Lib.hid hK
                          clear hK
                          go_wp2_with fail
                          exact ⟨⟨i, now + 1, _, _, _, rfl, by simp, hi, by omega, by omega, ((HL5.out.to HK.out).more (by omega))⟩, by simp [intOf]; omega⟩
                      · cases hv
                        have HCP := Lib.hid hcp
                        clear hcp
                        go_wp2_with fail
                        go_loopw [210] (fun jv wi => ∃ j : Nat, jv = .int .i64 j ∧ j ≤ 1 ∧ Kept (fun _ => False) w5 wi) (fun jv _ => (1 - intOf jv).toNat)
                        case atStart => exact ⟨0, rfl, by omega, (Kept.refl _ _).alloc _⟩
                        case round =>
                          obtain ⟨j, rfl, hj, hK⟩ := hrel
                          have HK := Lib.hid hK
                          have k0 := hK.cell (HCP.out 0 _ rfl) (fun h => h)
                          have k1 := hK.cell (HCP.out 1 _ rfl) (fun h => h)
                          have k2 := hK.cell (HCP.out 2 _ rfl) (fun h => h)
                          have k3 := hK.cell (HCP.out 3 _ rfl) (fun h => h)
                          have k4 := hK.cell (HCP.out 4 _ rfl) (fun h => h)
                          have k5 := hK.cell (HCP.out 5 _ rfl) (fun h => h)
                          simp only [Nat.add_zero] at k0
                          clear hK
                          rcases j with _ | j
                          · go_wp2_with fail
                            exact ⟨⟨1, by simp, by omega, HK.out.alloc _⟩, by simp [intOf]⟩
                          · go_wp2_with fail
                            exact ⟨⟨i, now + 1, _, _, _, rfl, by simp, hi, by omega, by omega, ((HL5.out.to HK.out).more (by omega))⟩, by simp [intOf]; omega⟩
              · have hd1 : decide ((i : Int) < (l.length : Int)) = false := decide_eq_false (by omega)
                have HN2 := Lib.hid (HNX.out (fun z hz => by have := (List.getElem?_eq_some_iff.1 hz).1; have := HI.out.arr.len; omega))
                go_wp2_with fail
                have hnow9 : 0 ≤ now := by omega
                by_cases hml : m.last = []
                · have hi0 : i = 0 := by
                    rcases Nat.eq_zero_or_pos i with h | h
                    · exact h
                    · exact absurd hml (HN2.out.1.last h)
                  first
                    | (exfalso; omega)
                    | (refine (frame_none wr q _ c m K r _ HN2.out.1.cli hml now).mono ?_
                       rintro e w5 ⟨rfl, hc5, hk5⟩
                       have HL5 := Lib.hid (HN2.out.1.put hc5 hk5)
                       clear hc5 hk5 hml
                       have hdw : decide ((i : Int) ≤ win) = true := decide_eq_true (by omega)
                       have hw9 : wrap64 (now + 1) = now + 1 := by unfold wrap64; omega
                       go_wp2_with fail
                       exact ⟨⟨i, now + 1, _, _, _, (by simp [hi0]), by simp, hi, by omega, by omega, ((HL5.out.to ((Kept.refl (fun _ => False) w5).alloc _)).more (by omega))⟩, by simp [intOf]; omega⟩)
                · obtain ⟨f1, f2, f3, f4⟩ := HN2.out.1.cli.facts
                  have HF1 := Lib.hid f1
                  have HF4 := Lib.hid f4
                  have hrl : r.l ≠ [] := by
                    intro e
                    rcases Nat.eq_zero_or_pos i with h | h
                    · exact hml (HN2.out.1.nl h)
                    · obtain ⟨x, hx⟩ : ∃ x, A[0]? = some x := ⟨_, List.getElem?_eq_getElem (by have := HI.out.arr.len; omega)⟩
                      obtain ⟨y, hy, -⟩ := HN2.out.1.new x (List.mem_of_getElem? (i := 0) (by rw [List.getElem?_take_of_lt h]; exact hx))
                      rw [e] at hy
                      cases hy
                  refine (frame_calls (RL p) wr q _ c HLC.out.ok m K r HN2.out.1.cli hml now (by unfold I64; omega) hrl (fun ys h1 h2 => liv_ys p0 p1 h1 f1 (fun z hz => (f4 z hz).1) h2)).mono ?_
                  rintro e w5 ⟨v5, ys, rfl, hc5, hk5, hy5, hR5, hp5⟩
                  obtain ⟨hL5, hat⟩ := HN2.out.1.frame HLC.out hml hnow9 (by omega) hc5 hk5
                  have HL5 := Lib.hid hL5
                  have hv : (i : Int) ≤ win ∨ LineV v5 wr.heap.size w5 := by
                    by_cases h : (i : Int) ≤ win
                    · exact .inl h
                    · refine .inr (liv_poses HLC.out.cur hy5 f1 (fun z hz => (f4 z hz).1) p0 hR5 ?_ hp5)
                      obtain ⟨z, hz, hlt⟩ := HN2.out.1.ahead HLC.out HI.out.arr (by omega) HN2.out.2 hat HEND.out hi
                      exact ⟨z, hz, hlt⟩
                  obtain ⟨av, nv, pv, rfl⟩ := hp5.form
                  generalize (frmM c m now).sl.at_ = at_ at *
                  have HV := Lib.hid hv
                  clear hc5 hk5 hy5 hR5 hp5 hL5 hat hv hrl f1 f2 f3 f4
                  have hw9 : wrap64 (now + 1) = now + 1 := by unfold wrap64; omega
                  by_cases hiw : (i : Int) ≤ win
                  · have hdw : decide ((i : Int) ≤ win) = true := decide_eq_true hiw
                    go_wp2_with fail
                    exact ⟨⟨i, now + 1, _, _, _, rfl, by simp, hi, by omega, by omega, ((HL5.out.to ((Kept.refl (fun _ => False) w5).alloc _)).more (by omega))⟩, by simp [intOf]; omega⟩
                  · have hdw : decide ((i : Int) ≤ win) = false := decide_eq_false hiw
                    have hv := HV.out.resolve_left hiw
                    rcases hv with hv | ⟨u0, u1, u2, u3, u4, gp, op, cpv, hv, hgp, hcp⟩
                    · cases hv
                      go_wp2_with fail
                      go_loopw [210] (fun jv wi => jv = .int .i64 0 ∧ Kept (fun _ => False) w5 wi) (fun jv _ => 0)
                      case atStart => exact ⟨rfl, (Kept.refl _ _).alloc _⟩
                      case round =>
                        obtain ⟨rfl, hK⟩ := hrel
                        have HK := Lib.hid hK
                        clear hK
                        go_wp2_with fail
                        exact ⟨⟨i, now + 1, _, _, _, rfl, by simp, hi, by omega, by omega, ((HL5.out.to HK.out).more (by omega))⟩, by simp [intOf]; omega⟩
                    · cases hv
                      have HCP := Lib.hid hcp
                      clear hcp
                      go_wp2_with fail
                      go_loopw [210] (fun jv wi => ∃ j : Nat, jv = .int .i64 j ∧ j ≤ 1 ∧ Kept (fun _ => False) w5 wi) (fun jv _ => (1 - intOf jv).toNat)
                      case atStart => exact ⟨0, rfl, by omega, (Kept.refl _ _).alloc _⟩
                      case round =>
                        obtain ⟨j, rfl, hj, hK⟩ := hrel
                        have HK := Lib.hid hK
                        have k0 := hK.cell (HCP.out 0 _ rfl) (fun h => h)
                        have k1 := hK.cell (HCP.out 1 _ rfl) (fun h => h)
                        have k2 := hK.cell (HCP.out 2 _ rfl) (fun h => h)
                        have k3 := hK.cell (HCP.out 3 _ rfl) (fun h => h)
                        have k4 := hK.cell (HCP.out 4 _ rfl) (fun h => h)
                        have k5 := hK.cell (HCP.out 5 _ rfl) (fun h => h)
                        simp only [Nat.add_zero] at k0
                        clear hK
                        rcases j with _ | j
                        · go_wp2_with fail
                          exact ⟨⟨1, by simp, by omega, HK.out.alloc _⟩, by simp [intOf]⟩
                        · go_wp2_with fail
                          exact ⟨⟨i, now + 1, _, _, _, rfl, by simp, hi, by omega, by omega, ((HL5.out.to HK.out).more (by omega))⟩, by simp [intOf]; omega⟩
          · have e4 : decide (now < (l.length : Int) * p + far - p) = false := decide_eq_false hend
            go_wp2_with fail
            go_ret
            exact ⟨rfl, below_all HK2.out HK3.out HW1.out HL.out.kept (fun g hg => by have := HK2.out.size; have := hg.1; omega)⟩
end Go.Proofs.YtekdkckgmleofaaGreat
