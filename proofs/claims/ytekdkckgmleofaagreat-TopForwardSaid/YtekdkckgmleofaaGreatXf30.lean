/- The contract of (*Window[int64]).Add. -/
import Derived.Test.YtekdkckgmleofaaGreatXf29
import Derived.Test.YtekdkckgmleofaaGreatXf03
import Derived.Deep.CutBlock
set_option linter.unusedVariables false
set_option linter.unusedSimpArgs false
namespace Go.Proofs.YtekdkckgmleofaaGreat.Win64
open Go.RowKit

def AddPost (w : World) (p : Nat) (fp : Nat → Prop) (most : Nat) (last : List Int) (e : Ending) (w' : World) : Prop :=
  e = .returned (.int .i64 0) ∧ Win w' p (fun g => fp g ∨ (w.heap.size ≤ g ∧ g < w'.heap.size)) most last ∧ Kept fp w w'


theorem own_new {o o' : Option Nat} {n : Nat} {W : World} {v : Value} {e : TypeId} {s k : Nat} {xs : List Value} (h : o' = o ∨ ∃ k, o' = some k ∧ n ≤ k) (hs : Sl W v e s k xs o') :
    ∀ g, o' = some g → o = some g ∨ (n ≤ g ∧ g < W.heap.size) := by
  intro g hg
  rcases h with h | ⟨k, hk, hn⟩
  · exact .inl (by rw [← h]; exact hg)
  · have : k = g := by rw [hk] at hg; exact Option.some.inj hg
    subst this
    exact .inr ⟨hn, hs.lt hk⟩

theorem add_end {w W W6 W7 W9 : World} {p : Nat} {fp : Nat → Prop} {most : Nat} {l : List Int} {x : Int} {o1 o2 o3 o1' o2' o3' : Option Nat} {u1 u2 u3 : Value} {a1 a2 a3 : Value} {ob : Obj} {z : Value} {n2 n3 : Nat} (hp : fp p) (hn2 : n2 = (minsL lt (l ++ [x])).length) (hn3 : n3 = (minsL (fun a b => lt b a) (l ++ [x])).length)
    (B9 : Blk W9 p [.int .i64 most, a1, a2, z] 149)
    (S6 : Sl W6 a1 2 1 (l.length + 1) (l.map enc ++ [Value.int .i64 x]) o1')
    (S7 : Sl W7 a2 2 1 n2 ((minsL lt (l ++ [x])).map enc) o2')
    (S9 : Sl W9 a3 2 1 n3 ((minsL (fun a b => lt b a) (l ++ [x])).map enc) o3')
    {m1 m2 m3 : Nat} {xs1 xs2 xs3 : List Value} (S1 : Sl W u1 2 1 m1 xs1 o1) (S2 : Sl W u2 2 1 m2 xs2 o2) (S3 : Sl W u3 2 1 m3 xs3 o3)
    (K0 : Kept fp w W) (K6 : Kept (fun k => o1 = some k) (W.alloc ob) W6) (K7 : Kept (fun k => o2 = some k) (W6.setCell ⟨p, 1, none⟩ a1) W7) (K9 : Kept (fun k => o3 = some k) (W7.setCell ⟨p, 2, none⟩ a2) W9)
    (O1 : o1' = o1 ∨ o1' = some (W.alloc ob).heap.size) (O2 : o2' = o2 ∨ ∃ k, o2' = some k ∧ (W6.setCell ⟨p, 1, none⟩ a1).heap.size ≤ k) (O3 : o3' = o3 ∨ ∃ k, o3' = some k ∧ (W7.setCell ⟨p, 2, none⟩ a2).heap.size ≤ k)
    (D1 : ∀ g, o1 = some g → fp g ∧ g ≠ p ∧ o2 ≠ some g ∧ o3 ≠ some g) (D2 : ∀ g, o2 = some g → fp g ∧ g ≠ p ∧ o3 ≠ some g) (D3 : ∀ g, o3 = some g → fp g ∧ g ≠ p) (hpl : p < W.heap.size) :
    AddPost w p fp most (l ++ [x]) (.returned (.int .i64 0)) (W9.setCell ⟨p, 3, none⟩ a3) := by
  subst hn2 hn3
  have z0 := K0.size
  have z6 := K6.size
  have z7 := K7.size
  have z9 := K9.size
  rw [size_alloc] at z6
  rw [size_setCell] at z7 z9
  rw [size_setCell] at O2 O3
  rw [size_alloc] at O1
  have A1 := own_new (n := W.heap.size) (O1.imp id fun h => ⟨_, h, by omega⟩) S6
  have A2 := own_new O2 S7
  have A3 := own_new O3 S9
  have L1 : ∀ g, o1 = some g → g < W.heap.size := fun g hg => S1.lt hg
  have L2 : ∀ g, o2 = some g → g < W.heap.size := fun g hg => S2.lt hg
  have L3 : ∀ g, o3 = some g → g < W.heap.size := fun g hg => S3.lt hg
  have D1' : ∀ g, o1' = some g → (fp g ∨ (w.heap.size ≤ g ∧ g < (W9.setCell ⟨p, 3, none⟩ a3).heap.size)) ∧ g ≠ p ∧ o2' ≠ some g ∧ o3' ≠ some g := by
    intro g hg
    rw [size_setCell]
    have e2 : o2' ≠ some g := fun h2 => by
      rcases A1 g hg with h | h <;> rcases A2 g h2 with h' | h'
      · exact (D1 g h).2.2.1 h'
      · have := L1 g h; omega
      · have := L2 g h'; omega
      · omega
    have e3 : o3' ≠ some g := fun h2 => by
      rcases A1 g hg with h | h <;> rcases A3 g h2 with h' | h'
      · exact (D1 g h).2.2.2 h'
      · have := L1 g h; omega
      · have := L3 g h'; omega
      · omega
    rcases A1 g hg with h | h
    · exact ⟨.inl (D1 g h).1, (D1 g h).2.1, e2, e3⟩
    · exact ⟨.inr (by omega), by omega, e2, e3⟩
  have D2' : ∀ g, o2' = some g → (fp g ∨ (w.heap.size ≤ g ∧ g < (W9.setCell ⟨p, 3, none⟩ a3).heap.size)) ∧ g ≠ p ∧ o3' ≠ some g := by
    intro g hg
    rw [size_setCell]
    have e3 : o3' ≠ some g := fun h2 => by
      rcases A2 g hg with h | h <;> rcases A3 g h2 with h' | h'
      · exact (D2 g h).2.2 h'
      · have := L2 g h; omega
      · have := L3 g h'; omega
      · omega
    rcases A2 g hg with h | h
    · exact ⟨.inl (D2 g h).1, (D2 g h).2.1, e3⟩
    · exact ⟨.inr (by omega), by omega, e3⟩
  have D3' : ∀ g, o3' = some g → (fp g ∨ (w.heap.size ≤ g ∧ g < (W9.setCell ⟨p, 3, none⟩ a3).heap.size)) ∧ g ≠ p := by
    intro g hg
    rw [size_setCell]
    rcases A3 g hg with h | h
    · exact ⟨.inl (D3 g h).1, (D3 g h).2⟩
    · exact ⟨.inr (by omega), by omega⟩
  have eL : (l ++ [x]).length = l.length + 1 := by simp
  have eM : (l ++ [x]).map enc = l.map enc ++ [Value.int .i64 x] := by simp [enc]
  refine ⟨rfl, ⟨a1, a2, a3, o1', o2', o3', B9.set 3 _, ?_, ?_, ?_, .inl hp, D1', D2', D3'⟩, ?_⟩
  · rw [eL, eM]
    refine (((S6.setCell (fun g hg => (D1' g hg).2.1) _).kept K7 (fun g hg h => ?_)).setCell (a := ⟨p, 2, none⟩) (fun g hg => (D1' g hg).2.1) a2).kept K9 (fun g hg h => ?_) |>.setCell (fun g hg => (D1' g hg).2.1) _
    · rcases A1 g hg with h' | h'
      · exact (D1 g h').2.2.1 h
      · have := L2 g h; omega
    · rcases A1 g hg with h' | h'
      · exact (D1 g h').2.2.2 h
      · have := L3 g h; omega
  · refine ((S7.setCell (a := ⟨p, 2, none⟩) (fun g hg => (D2' g hg).2.1) a2).kept K9 (fun g hg h => ?_)).setCell (fun g hg => (D2' g hg).2.1) _
    rcases A2 g hg with h' | h'
    · exact (D2 g h').2.2 h
    · have := L3 g h; omega
  · exact S9.setCell (fun g hg => (D3' g hg).2) _
  · have k6 : Kept fp w W6 := (K0.alloc ob).trans K6 (fun i hi => .inl (D1 i hi).1)
    have k7 : Kept fp w W7 := (k6.setCell (a := ⟨p, 1, none⟩) (.inl hp) a1).trans K7 (fun i hi => .inl (D2 i hi).1)
    have k9 : Kept fp w W9 := (k7.setCell (a := ⟨p, 2, none⟩) (.inl hp) a2).trans K9 (fun i hi => .inl (D3 i hi).1)
    exact k9.setCell (.inl hp) a3

set_option maxRecDepth 100000 in
set_option maxHeartbeats 2000000 in
theorem add_calls (w : World) (p : Nat) (fp : Nat → Prop) (most : Nat) (last : List Int) (x : Int) (hm1 : 1 ≤ most) (hm2 : most ≤ 64) (hl : last.length ≤ most) (h : Win w p fp most last) :
    Calls Tryz.prog 47 #[.pointer (some ⟨p, 0, none⟩), Value.int .i64 x] w (AddPost w p fp most ((if last.length = most then last.tail else last) ++ [x])) := by
  obtain ⟨v1, v2, v3, o1, o2, o3, hb, h1, h2, h3, hp, d1, d2, d3⟩ := h
  have c0 := hb.cell (i := 0) rfl
  have c1 := hb.cell (i := 1) rfl
  have c2 := hb.cell (i := 2) rfl
  have c3 := hb.cell (i := 3) rfl
  have f1 := hb.free 1
  have f2 := hb.free 2
  have f3 := hb.free 3
  have HB := Lib.hid hb
  have H1 := Lib.hid h1
  have H2 := Lib.hid h2
  have H3 := Lib.hid h3
  have D1 := Lib.hid d1
  have D2 := Lib.hid d2
  have D3 := Lib.hid d3
  clear hb h1 h2 h3 d1 d2 d3
  by_cases hfull : last.length = most
  · subst hfull
    obtain ⟨y, l, rfl⟩ : ∃ y l, last = y :: l := by
      cases last with
      | nil => simp at hm1
      | cons y l => exact ⟨y, l, rfl⟩
    obtain ⟨g1, off1, cap1, ho1, rfl, hc1, hmm1, hcell1, -⟩ := H1.out.some (by simp)
    have e0 : w.cell? ⟨g1, off1, none⟩ = some (Value.int .i64 y) := hcell1 0 _ rfl
    clear hcell1
    go_enter Tryz.func47, Tryz.ntmps47
    go_wp2_with fail
    go_quiet (fail)
    go_wp2_with fail
    obtain ⟨h2, t2, hm2', hq2⟩ := minsL_tail tot y l
    obtain ⟨h3, t3, hm3', hq3⟩ := minsL_tail tot.flip y l
    have E2 : (if h2 = y then t2 else h2 :: t2) = minsL lt l := by
      rcases hq2 with ⟨rfl, e⟩ | ⟨hne, e⟩
      · rw [if_pos rfl]; exact e.symm
      · rw [if_neg hne]; exact e.symm
    have E3 : (if h3 = y then t3 else h3 :: t3) = minsL (fun a b => lt b a) l := by
      rcases hq3 with ⟨rfl, e⟩ | ⟨hne, e⟩
      · rw [if_pos rfl]; exact e.symm
      · rw [if_neg hne]; exact e.symm
    have S2 := H2.out
    have S3 := H3.out
    rw [hm2'] at S2
    rw [hm3'] at S3
    obtain ⟨u2, R2, call2⟩ := drop_calls w v2 h2 t2 y o2 S2
    obtain ⟨u3, R3, call3⟩ := drop_calls w v3 h3 t3 y o3 S3
    rw [E2] at R2
    rw [E3] at R3
    obtain ⟨a2, cap2, rfl, -, -⟩ := R2.form
    obtain ⟨a3, cap3, rfl, -, -⟩ := R3.form
    have R2' := Lib.hid R2
    have R3' := Lib.hid R3
    have call2' := Lib.hid call2
    have call3' := Lib.hid call3
    clear R2 R3 call2 call3 S2 S3 E2 E3 hq2 hq3 hm2' hm3'
    refine region_mix (fun w' => ∃ n, w' = w.drewN n) [1] [0, 2, 3, 4, 5, 6, 7, 8, 9, 10, 11, 12, 13, 14, 15, 16, 17, 18, 19, 20, 21, 22, 23] [24, 25, 26, 27, 28, 29] (by kernel_rfl) (by kernel_rfl) (fun _ _ d _ _ h => by cases d <;> exact h) ⟨nq + 1, rfl⟩ ?_
    simp only [pick, List.filterMap_cons, List.filterMap_nil, List.getElem?_toArray, List.getElem?_cons_zero, List.getElem?_cons_succ, floatPut, Act.put, Act.eval, List.setIfInBounds_toArray, List.set_cons_zero, List.set_cons_succ, Array.getD_eq_getD_getElem?, Option.getD_some]
    repeat (change wpQuiet _ _ _ _ (List.cons _ _) _; go_big_quiet_step ((first | (with_reducible exact Calls.quiet_of_same (call2'.out _)) | (with_reducible exact Calls.quiet_of_same (call3'.out _)))))
    refine wpQuiet_nil ?_
    rintro _ ⟨nr, rfl⟩
    go_upto_region 6 with (fail)
    have S1w := H1.out.drop (k := 1) (by simp)
    have eq1 : (Option.map (fun x => Addr.add x (1 * 1)) (some (⟨g1, off1, none⟩ : Addr))) = some ⟨g1, off1 + 1, none⟩ := by simp [Addr.add_lit]
    rw [eq1] at S1w
    have S1w' : Sl w (.slice (if cap1 = 1 then some ⟨g1, off1, none⟩ else some ⟨g1, off1 + 1, none⟩) l.length (cap1 - 1)) 2 1 l.length (l.map enc) o1 := by simpa using S1w
    generalize (if cap1 = 1 then some (⟨g1, off1, none⟩ : Addr) else some ⟨g1, off1 + 1, none⟩) = a1 at *
    refine at_world (fun W => Blk W p [.int .i64 (l.length + 1 : Nat), .slice a1 l.length (cap1 - 1), .slice a2 (minsL lt l).length cap2, .slice a3 (minsL (fun a b => lt b a) l).length cap3] 149 ∧
      Sl W (.slice a1 l.length (cap1 - 1)) 2 1 l.length (l.map enc) o1 ∧ Sl W (.slice a2 (minsL lt l).length cap2) 2 1 (minsL lt l).length ((minsL lt l).map enc) o2 ∧
      Sl W (.slice a3 (minsL (fun a b => lt b a) l).length cap3) 2 1 (minsL (fun a b => lt b a) l).length ((minsL (fun a b => lt b a) l).map enc) o3 ∧ Kept fp w W) ?_ ?_
    · have ne1 : ∀ g, o1 = some g → g ≠ p := fun g hg => (D1.out g hg).2.1
      have ne2 : ∀ g, o2 = some g → g ≠ p := fun g hg => (D2.out g hg).2.1
      have ne3 : ∀ g, o3 = some g → g ≠ p := fun g hg => (D3.out g hg).2
      exact ⟨(((HB.out.drewN nr).set 2 _).set 3 _).set 1 _, (((S1w'.drewN nr).setCell ne1 _).setCell ne1 _).setCell ne1 _, (((R2'.out.drewN nr).setCell ne2 _).setCell ne2 _).setCell ne2 _, (((R3'.out.drewN nr).setCell ne3 _).setCell ne3 _).setCell ne3 _,
        ((((Kept.refl fp w).drewN nr).setCell (a := ⟨p, 2, none⟩) (.inl hp) _).setCell (a := ⟨p, 3, none⟩) (.inl hp) _).setCell (a := ⟨p, 1, none⟩) (.inl hp) _⟩
    · rintro W ⟨B, S1, S2, S3, K0⟩
      clear c0 c1 c2 c3 f1 f2 f3 e0 R2' R3' call2' call3' H1 H2 H3 HB S1w S1w' eq1
      have hlen : l.length ≤ 63 := by simp at hm2; omega
      have b1 := B.cell (i := 1) rfl
      have b2 := B.cell (i := 2) rfl
      have b3 := B.cell (i := 3) rfl
      have f1 := B.free 1
      have f2 := B.free 2
      have f3 := B.free 3
      have HB := Lib.hid B
      have HS1 := Lib.hid S1
      have HS2 := Lib.hid S2
      have HS3 := Lib.hid S3
      have HK := Lib.hid K0
      clear B S1 S2 S3 K0
      obtain ⟨i0, hi, hz0, hz1, hz2⟩ := info_parts infoE
      have HI := Lib.hid hi
      have HZ0 := Lib.hid hz0
      have HZ1 := Lib.hid hz1
      have HZ2 := Lib.hid hz2
      clear hi hz0 hz1 hz2
      have HX : Hid (∀ u ∈ [Value.int .i64 x], u.oneCell' = true) := Lib.hid (by simp [Value.oneCell'])
      have N1 : Hid (l.length + 1 ≤ maxLen) := Lib.hid (by unfold maxLen; omega)
      have N2 : Hid ((l.length + 1) * 8 ≤ 140737488355328) := Lib.hid (by omega)
      have hme : (minsL lt l).length ≤ 1000 := Nat.le_trans (minsL_len_le _) (by omega)
      have hme3 : (minsL (fun a b => lt b a) l).length ≤ 1000 := Nat.le_trans (minsL_len_le _) (by omega)
      have M2 := Lib.hid (minsL_snoc tot x l)
      have M3 : Hid (minsL (fun a b => lt b a) (l ++ [x]) = popL (fun y => lt y x) (minsL (fun a b => lt b a) l) ++ [x]) := Lib.hid (minsL_snoc tot.flip x l)
      go_wp2_with (at_builtin; refine wpList_append_sl _ rfl _ _ 147 rfl 2 i0 (Value.int .i64 0) 1 8 Tryz.underlying147 HI.out HZ0.out HZ1.out HZ2.out rfl _ _ _ _ rfl (HS1.out.alloc _) _ 1 [Value.int .i64 x] rfl (Src.one _ _ _) rfl HX.out N1.out N2.out ?_; intro v' w' own' hS' ho' hK'; obtain ⟨av', cv', rfl, -, -⟩ := hS'.form; have B6 := hK'.blk (HB.out.alloc _) (fun h => (D1.out _ h).2.1 rfl); have b16 := B6.cell (i := 1) rfl; have b26 := B6.cell (i := 2) rfl; have b36 := B6.cell (i := 3) rfl; have f16 := B6.free 1; have f26 := B6.free 2; have f36 := B6.free 3; have SA := Lib.hid hS'; have OA := Lib.hid ho'; have KA := Lib.hid hK'; have BA := Lib.hid B6; clear hS' ho' hK' B6 b1 b2 b3 f1 f2 f3)
      have HS2' := Lib.hid (((HS2.out.alloc (.cells #[Value.int .i64 x] 2)).kept KA.out (fun g hg h => (D1.out g h).2.2.1 hg)).setCell (a := ⟨p, 1, none⟩) (fun g hg => (D2.out g hg).2.1) (.slice av' (l.length + 1) cv'))
      refine (push_calls _ _ (minsL lt l) x o2 HS2'.out hme _ (fun y => lt x y) enter1 (fun y w => nd1_calls x y w)).mono ?_
      rintro e W7 ⟨v7, o2', rfl, S7, O7, K7⟩
      rw [← M2.out] at S7
      obtain ⟨n7, hn7⟩ : ∃ n, n = (minsL lt (l ++ [x])).length := ⟨_, rfl⟩
      rw [← hn7] at S7
      have HN7 := Lib.hid hn7
      clear hn7
      obtain ⟨av7, cv7, rfl, -, -⟩ := S7.form
      have B7 := K7.blk (BA.out.set 1 _) (fun h => (D2.out _ h).2.1 rfl)
      have b27 := B7.cell (i := 2) rfl
      have b37 := B7.cell (i := 3) rfl
      have f27 := B7.free 2
      have f37 := B7.free 3
      have HS7 := Lib.hid S7
      have HO7 := Lib.hid O7
      have HK7 := Lib.hid K7
      have HB7 := Lib.hid B7
      clear S7 O7 K7 B7 b16 b26 b36 f16 f26 f36
      go_wp2_with fail
      have HS3' := Lib.hid (((((HS3.out.alloc (.cells #[Value.int .i64 x] 2)).kept KA.out (fun g hg h => (D1.out g h).2.2.2 hg)).setCell (a := ⟨p, 1, none⟩) (fun g hg => (D3.out g hg).2) (.slice av' (l.length + 1) cv')).kept HK7.out (fun g hg h => (D2.out g h).2.2 hg)).setCell (a := ⟨p, 2, none⟩) (fun g hg => (D3.out g hg).2) (.slice av7 n7 cv7))
      refine (push_calls _ _ (minsL (fun a b => lt b a) l) x o3 HS3'.out hme3 _ (fun y => lt y x) enter2 (fun y w => nd2_calls x y w)).mono ?_
      rintro e W9 ⟨v9, o3', rfl, S9, O9, K9⟩
      rw [← M3.out] at S9
      obtain ⟨n9, hn9⟩ : ∃ n, n = (minsL (fun a b => lt b a) (l ++ [x])).length := ⟨_, rfl⟩
      rw [← hn9] at S9
      have HN9 := Lib.hid hn9
      clear hn9
      obtain ⟨av9, cv9, rfl, -, -⟩ := S9.form
      have B9 := K9.blk (HB7.out.set 2 _) (fun h => (D3.out _ h).2 rfl)
      have b39 := B9.cell (i := 3) rfl
      have f39 := B9.free 3
      have HS9 := Lib.hid S9
      have HO9 := Lib.hid O9
      have HK9 := Lib.hid K9
      have HB9 := Lib.hid B9
      clear S9 O9 K9 B9 b27 b37 f27 f37
      go_wp2_with fail
      go_ret
      exact add_end (l := l) hp HN7.out HN9.out HB9.out SA.out HS7.out HS9.out HS1.out HS2.out HS3.out HK.out KA.out HK7.out HK9.out OA.out HO7.out HO9.out D1.out D2.out D3.out HB.out.lt
  · obtain ⟨aa1, cc1, rfl, -, -⟩ := H1.out.form
    obtain ⟨aa2, cc2, rfl, -, -⟩ := H2.out.form
    obtain ⟨aa3, cc3, rfl, -, -⟩ := H3.out.form
    have hne : ((last.length : Int) == (most : Int)) = false := by simp; omega
    rw [if_neg hfull]
    go_enter Tryz.func47, Tryz.ntmps47
    go_wp2_with fail
    go_quiet (fail)
    go_upto_region 6 with (fail)
    refine at_world (fun W => Blk W p [.int .i64 most, .slice aa1 last.length cc1, .slice aa2 (minsL lt last).length cc2, .slice aa3 (minsL (fun a b => lt b a) last).length cc3] 149 ∧
      Sl W (.slice aa1 last.length cc1) 2 1 last.length (last.map enc) o1 ∧ Sl W (.slice aa2 (minsL lt last).length cc2) 2 1 (minsL lt last).length ((minsL lt last).map enc) o2 ∧
      Sl W (.slice aa3 (minsL (fun a b => lt b a) last).length cc3) 2 1 (minsL (fun a b => lt b a) last).length ((minsL (fun a b => lt b a) last).map enc) o3 ∧ Kept fp w W) ?_ ?_
    · exact ⟨HB.out.drewN nq, H1.out.drewN nq, H2.out.drewN nq, H3.out.drewN nq, (Kept.refl fp w).drewN nq⟩
    · rintro W ⟨B, S1, S2, S3, K0⟩
      clear c0 c1 c2 c3 f1 f2 f3 H1 H2 H3 HB hne
      have hlen : last.length ≤ 63 := by omega
      have b1 := B.cell (i := 1) rfl
      have b2 := B.cell (i := 2) rfl
      have b3 := B.cell (i := 3) rfl
      have f1 := B.free 1
      have f2 := B.free 2
      have f3 := B.free 3
      have HB := Lib.hid B
      have HS1 := Lib.hid S1
      have HS2 := Lib.hid S2
      have HS3 := Lib.hid S3
      have HK := Lib.hid K0
      clear B S1 S2 S3 K0
      obtain ⟨i0, hi, hz0, hz1, hz2⟩ := info_parts infoE
      have HI := Lib.hid hi
      have HZ0 := Lib.hid hz0
      have HZ1 := Lib.hid hz1
      have HZ2 := Lib.hid hz2
      clear hi hz0 hz1 hz2
      have HX : Hid (∀ u ∈ [Value.int .i64 x], u.oneCell' = true) := Lib.hid (by simp [Value.oneCell'])
      have N1 : Hid (last.length + 1 ≤ maxLen) := Lib.hid (by unfold maxLen; omega)
      have N2 : Hid ((last.length + 1) * 8 ≤ 140737488355328) := Lib.hid (by omega)
      have hme : (minsL lt last).length ≤ 1000 := Nat.le_trans (minsL_len_le _) (by omega)
      have hme3 : (minsL (fun a b => lt b a) last).length ≤ 1000 := Nat.le_trans (minsL_len_le _) (by omega)
      have M2 := Lib.hid (minsL_snoc tot x last)
      have M3 : Hid (minsL (fun a b => lt b a) (last ++ [x]) = popL (fun y => lt y x) (minsL (fun a b => lt b a) last) ++ [x]) := Lib.hid (minsL_snoc tot.flip x last)
      go_wp2_with (at_builtin; refine wpList_append_sl _ rfl _ _ 147 rfl 2 i0 (Value.int .i64 0) 1 8 Tryz.underlying147 HI.out HZ0.out HZ1.out HZ2.out rfl _ _ _ _ rfl (HS1.out.alloc _) _ 1 [Value.int .i64 x] rfl (Src.one _ _ _) rfl HX.out N1.out N2.out ?_; intro v' w' own' hS' ho' hK'; obtain ⟨av', cv', rfl, -, -⟩ := hS'.form; have B6 := hK'.blk (HB.out.alloc _) (fun h => (D1.out _ h).2.1 rfl); have b16 := B6.cell (i := 1) rfl; have b26 := B6.cell (i := 2) rfl; have b36 := B6.cell (i := 3) rfl; have f16 := B6.free 1; have f26 := B6.free 2; have f36 := B6.free 3; have SA := Lib.hid hS'; have OA := Lib.hid ho'; have KA := Lib.hid hK'; have BA := Lib.hid B6; clear hS' ho' hK' B6 b1 b2 b3 f1 f2 f3)
      have HS2' := Lib.hid (((HS2.out.alloc (.cells #[Value.int .i64 x] 2)).kept KA.out (fun g hg h => (D1.out g h).2.2.1 hg)).setCell (a := ⟨p, 1, none⟩) (fun g hg => (D2.out g hg).2.1) (.slice av' (last.length + 1) cv'))
      refine (push_calls _ _ (minsL lt last) x o2 HS2'.out hme _ (fun y => lt x y) enter1 (fun y w => nd1_calls x y w)).mono ?_
      rintro e W7 ⟨v7, o2', rfl, S7, O7, K7⟩
      rw [← M2.out] at S7
      obtain ⟨n7, hn7⟩ : ∃ n, n = (minsL lt (last ++ [x])).length := ⟨_, rfl⟩
      rw [← hn7] at S7
      have HN7 := Lib.hid hn7
      clear hn7
      obtain ⟨av7, cv7, rfl, -, -⟩ := S7.form
      have B7 := K7.blk (BA.out.set 1 _) (fun h => (D2.out _ h).2.1 rfl)
      have b27 := B7.cell (i := 2) rfl
      have b37 := B7.cell (i := 3) rfl
      have f27 := B7.free 2
      have f37 := B7.free 3
      have HS7 := Lib.hid S7
      have HO7 := Lib.hid O7
      have HK7 := Lib.hid K7
      have HB7 := Lib.hid B7
      clear S7 O7 K7 B7 b16 b26 b36 f16 f26 f36
      go_wp2_with fail
      have HS3' := Lib.hid (((((HS3.out.alloc (.cells #[Value.int .i64 x] 2)).kept KA.out (fun g hg h => (D1.out g h).2.2.2 hg)).setCell (a := ⟨p, 1, none⟩) (fun g hg => (D3.out g hg).2) (.slice av' (last.length + 1) cv')).kept HK7.out (fun g hg h => (D2.out g h).2.2 hg)).setCell (a := ⟨p, 2, none⟩) (fun g hg => (D3.out g hg).2) (.slice av7 n7 cv7))
      refine (push_calls _ _ (minsL (fun a b => lt b a) last) x o3 HS3'.out hme3 _ (fun y => lt y x) enter2 (fun y w => nd2_calls x y w)).mono ?_
      rintro e W9 ⟨v9, o3', rfl, S9, O9, K9⟩
      rw [← M3.out] at S9
      obtain ⟨n9, hn9⟩ : ∃ n, n = (minsL (fun a b => lt b a) (last ++ [x])).length := ⟨_, rfl⟩
      rw [← hn9] at S9
      have HN9 := Lib.hid hn9
      clear hn9
      obtain ⟨av9, cv9, rfl, -, -⟩ := S9.form
      have B9 := K9.blk (HB7.out.set 2 _) (fun h => (D3.out _ h).2 rfl)
      have b39 := B9.cell (i := 3) rfl
      have f39 := B9.free 3
      have HS9 := Lib.hid S9
      have HO9 := Lib.hid O9
      have HK9 := Lib.hid K9
      have HB9 := Lib.hid B9
      clear S9 O9 K9 B9 b27 b37 f27 f37
      go_wp2_with fail
      go_ret
      exact add_end (l := last) hp HN7.out HN9.out HB9.out SA.out HS7.out HS9.out HS1.out HS2.out HS3.out HK.out KA.out HK7.out HK9.out OA.out HO7.out HO9.out D1.out D2.out D3.out HB.out.lt
end Go.Proofs.YtekdkckgmleofaaGreat.Win64
