/- Contracts of angle.Lerp, curve.At, curve.Vec and the ways' places at any part of a way. -/
import Derived.Test.YtekdkckgmleofaaGreatXf34
import Derived.Test.YtekdkckgmleofaaGreatXf10
set_option linter.unusedVariables false
set_option linter.unusedSimpArgs false
namespace Go.Proofs.YtekdkckgmleofaaGreat
open Go.RowKit
set_option maxRecDepth 100000 in
set_option maxHeartbeats 2000000 in
theorem curveAt_any (a v b y : Int) (n k : Nat) (w : World) (h0 : 0 < k) (h1 : k ≤ 4611686018427387904) (h2 : n ≤ k) (ha : I64 a) (hv : I64 v) (hb : I64 b) (hy : I64 y) :
    Calls Tryz.prog 236 #[.int .i64 a, .int .i64 v, .int .i64 b, .int .i64 y, .int .i64 n, .int .i64 k] w (CAtPost a b w) := by
  have HP := Lib.hid (fun W => fpart_any n k W h0 h1 h2)
  have hu : 65536 * n / k ≤ 65536 := Nat.div_le_of_le_mul (by rw [Nat.mul_comm]; exact Nat.mul_le_mul_right _ h2)
  have HU := Lib.hid (fun W => cat_calls ((65536 * n / k : Nat) : Int) W (Int.natCast_nonneg _) (Int.ofNat_le.2 hu))
  generalize ((65536 * n / k : Nat) : Int) = u at *
  have hk : I64 (k : Int) := by unfold I64; omega
  have HS := Lib.hid (fun W => fsub_calls b a W hb ha)
  have HM1 := Lib.hid (fun W => fmul_calls v k W hv hk)
  have HM2 := Lib.hid (fun W => fmul_calls y k W hy hk)
  have HC := Lib.hid (fun x W => fclamp_calls x a b W)
  clear hu h1
  go_enter Tryz.func236, Tryz.ntmps236
  go_wp2_with fail
  refine (HP.out _).mono ?_
  rintro e w1 ⟨rfl, n1, rfl⟩
  by_cases hn0 : n = 0
  · subst hn0
    go_wp2_with fail
    go_ret2
    exact ⟨_, rfl, ha, fun _ => rfl, (Kept.refl _ w).drewN _⟩
  · by_cases hnk : n = k
    · subst hnk
      have e1 : ¬ ((n : Int) = 0) := by omega
      go_wp2_with fail
      go_ret2
      exact ⟨_, rfl, hb, fun h => h.symm, (Kept.refl _ w).drewN _⟩
    · have e1 : ¬ ((n : Int) = 0) := by omega
      have e2 : ¬ ((n : Int) = (k : Int)) := by omega
      go_wp2_with fail
      refine (HU.out _).mono ?_
      rintro e w2 ⟨x0, x1, x2, rfl, hx0, hx1, hx2, hk2⟩
      have HK2 := Lib.hid (((Kept.refl (fun _ => False) w).drewN n1).trans hk2 (fun _ h => h.elim))
      have HX0 := Lib.hid hx0
      have HX1 := Lib.hid hx1
      have HX2 := Lib.hid hx2
      have hB := Blk.new w2 [.int .i64 x0, .int .i64 x1, .int .i64 x2] 336
      have b0 := hB.cell (i := 0) rfl
      have b1 := hB.cell (i := 1) rfl
      have b2 := hB.cell (i := 2) rfl
      clear hk2 hx0 hx1 hx2 hB
      go_wp2_with fail
      refine region_mix (fun w' => ∃ n, w' = (w2.alloc (.cells #[.int .i64 x0, .int .i64 x1, .int .i64 x2] 336)).drewN n) [0] [1, 2, 3, 4, 5, 6, 7, 8, 9, 10, 11, 12, 13, 14, 15, 16, 17, 18] [19, 20, 21] (by kernel_rfl) (by kernel_rfl) (fun _ _ d _ _ h => by cases d <;> exact h) ⟨1, rfl⟩ ?_
      simp only [pick, List.filterMap_cons, List.filterMap_nil, List.getElem?_toArray, List.getElem?_cons_zero, List.getElem?_cons_succ, floatPut, Act.put, Act.eval, List.setIfInBounds_toArray, List.set_cons_zero, List.set_cons_succ, Array.getD_eq_getD_getElem?, Option.getD_some]
      repeat (change wpQuiet _ _ _ _ (List.cons _ _) _; go_big_quiet_step ((first | (with_reducible exact Calls.quiet_of_same ((HS.out _).mono fun _ _ h => ⟨h.1, h.2.symm⟩)) | (with_reducible exact Calls.quiet_of_same ((HM1.out _).mono fun _ _ h => ⟨h.1, h.2.symm⟩)) | (with_reducible exact Calls.quiet_of_same ((HM2.out _).mono fun _ _ h => ⟨h.1, h.2.symm⟩)))))
      refine wpQuiet_nil ?_
      rintro _ ⟨n2, rfl⟩
      have HKB := Lib.hid (((HK2.out.alloc (.cells #[.int .i64 x0, .int .i64 x1, .int .i64 x2] 336)).drewN n2).alloc (.cells #[.int .i64 x0, .int .i64 (satI (b - a)), .int .i64 x1, .int .i64 (mulF v k), .int .i64 x2, .int .i64 (mulF y k)] 340))
      have HBB := Lib.hid (Blk.new ((w2.alloc (.cells #[.int .i64 x0, .int .i64 x1, .int .i64 x2] 336)).drewN n2) [.int .i64 x0, .int .i64 (satI (b - a)), .int .i64 x1, .int .i64 (mulF v k), .int .i64 x2, .int .i64 (mulF y k)] 340)
      clear b0 b1 b2
      go_wp2_with fail
      refine (csum_calls a x0 (satI (b - a)) x1 (mulF v k) x2 (mulF y k) (w2.heap.size + 1) _ ha HX0.out (satI_bd _) HX1.out (mulF_bd _ _) HX2.out (mulF_bd _ _) (by simpa using HBB.out)).mono ?_
      rintro e w4 ⟨z, rfl, hz, hk4⟩
      have HK4 := Lib.hid (HKB.out.trans hk4 (fun _ h => h.elim))
      have HZ := Lib.hid hz
      clear hk4 hz
      go_wp2_with fail
      refine (HC.out _ _).mono ?_
      rintro e w5 ⟨rfl, rfl⟩
      go_wp2_with fail
      go_ret2
      have hz := HZ.out
      unfold I64 at hz ha hb
      exact ⟨_, rfl, by unfold I64; omega, fun h => by omega, HK4.out⟩
set_option maxRecDepth 100000 in
set_option maxHeartbeats 2000000 in
theorem cvec_any (a v b y : Nat → Int) (n k : Nat) (w : World) (h0 : 0 < k) (h1 : k ≤ 4611686018427387904) (h2 : n ≤ k)
    (ha : ∀ j, j < 3 → I64 (a j)) (hv : ∀ j, j < 3 → I64 (v j)) (hb : ∀ j, j < 3 → I64 (b j)) (hy : ∀ j, j < 3 → I64 (y j)) :
    Calls Tryz.prog 235 #[v3 a, v3 v, v3 b, v3 y, .int .i64 n, .int .i64 k] w (CVecPost a b w) := by
  have HI : Hid (CVI w a v b y (EachAdd.eachC (fun _ => 0) 0) ((((((w.alloc (o3 a)).alloc (o3 v)).alloc (o3 b)).alloc (o3 y)).alloc z3O).alloc z3O)) := Lib.hid
    ⟨(((((Blk.new w _ _).alloc _).alloc _).alloc _).alloc _).alloc _, ((((Blk.new_at (by simp) _ _).alloc _).alloc _).alloc _).alloc _, (((Blk.new_at (by simp) _ _).alloc _).alloc _).alloc _, ((Blk.new_at (by simp) _ _).alloc _).alloc _, (Blk.new_at (by simp) _ _).alloc _, Blk.new_at (by simp) _ _, ((((((Kept.refl (fun _ => False) w).alloc _).alloc _).alloc _).alloc _).alloc _).alloc _⟩
  have HC := Lib.hid (fun j (hj : j < 3) W => curveAt_any (a j) (v j) (b j) (y j) n k W h0 h1 h2 (ha j hj) (hv j hj) (hb j hj) (hy j hj))
  clear ha hv hb hy h0 h1 h2
  go_enter Tryz.func235, Tryz.ntmps235
  go_wp2_with fail
  go_loopw [18] (fun i wr => ∃ (m : Nat) (z : Nat → Int), m ≤ 3 ∧ i = .int .i64 m ∧ CVI w a v b y (EachAdd.eachC z m) wr ∧ ∀ j, j < m → I64 (z j) ∧ (a j = b j → z j = a j)) (fun i _ => (3 - intOf i).toNat)
  case atStart => exact ⟨0, fun _ => 0, by omega, rfl, HI.out, fun j hj => by omega⟩
  case round =>
    obtain ⟨m, z, hm, rfl, hI, hz⟩ := hrel
    have HJ := Lib.hid hI
    have HZ := Lib.hid hz
    clear hI hz
    by_cases hm3 : m < 3
    · have a0 := HJ.out.a.cell (EachAdd.c3_at a m hm3)
      have a1 := HJ.out.v.cell (EachAdd.c3_at v m hm3)
      have a2 := HJ.out.b.cell (EachAdd.c3_at b m hm3)
      have a3 := HJ.out.y.cell (EachAdd.c3_at y m hm3)
      go_wp2_with fail
      refine region_mix2 (fun w' => ∃ n, w' = wr.drewN n) [] [0, 1, 2, 3, 4, 5, 6, 7, 8, 9, 10, 11, 12, 13] 14 [15, 16, 17, 18, 19] (by kernel_rfl) (by kernel_rfl) (fun _ _ d _ _ h => by cases d <;> exact h) ⟨1, rfl⟩ ?_
      simp only [pick, List.filterMap_cons, List.filterMap_nil, List.getElem?_toArray, List.getElem?_cons_zero, List.getElem?_cons_succ, floatPut, Act.put, Act.eval, List.setIfInBounds_toArray, List.set_cons_zero, List.set_cons_succ, Array.getD_eq_getD_getElem?, Option.getD_some]
      repeat (change wpQuiet _ _ _ _ (List.cons _ _) _; go_big_quiet_step (fail))
      refine wpQuiet_nil ?_
      rintro _ ⟨n2, rfl⟩
      go_wp2_with fail
      refine (HC.out m hm3 _).mono ?_
      rintro e w2 ⟨x, rfl, hx, hxe, hk2⟩
      have hkk := ((Kept.refl (fun _ => False) wr).drewN n2).trans hk2 (fun _ h => h.elim)
      have HX := Lib.hid hx
      have HXE := Lib.hid hxe
      have d0 := (hkk.blk HJ.out.arr (fun h => h)).cell (EachAdd.eachC_at z m hm3)
      have f0 := (hkk.blk HJ.out.arr (fun h => h)).free m
      have HS := Lib.hid (fun n3 => upd_set z m hm3 x ▸ HJ.out.step (hkk.drewN n3) m (.int .i64 x))
      clear hkk hk2 hx hxe a0 a1 a2 a3
      go_wp2_with fail
      simp only [QThen]
      repeat (change wpQuiet _ _ _ _ (List.cons _ _) _; go_big_quiet_step (fail))
      refine wpQuiet_nil ?_
      rintro _ ⟨n3, rfl⟩
      go_wp2_with fail
      refine ⟨⟨m + 1, upd z m x, by omega, by simp, HS.out n3, fun j hj => ?_⟩, by simp [intOf]; omega⟩
      unfold upd
      by_cases hjm : j = m
      · rw [if_pos hjm, hjm]
        exact ⟨HX.out, HXE.out⟩
      · rw [if_neg hjm]
        exact HZ.out j (by omega)
    · have e3 : m = 3 := by omega
      subst e3
      have c0 := HJ.out.arr.cell (i := 0) rfl
      have c1 := HJ.out.arr.cell (i := 1) rfl
      have c2 := HJ.out.arr.cell (i := 2) rfl
      have o0 := HJ.out.out.cell (i := 0) rfl
      have o1 := HJ.out.out.cell (i := 1) rfl
      have o2 := HJ.out.out.cell (i := 2) rfl
      have f0 := HJ.out.out.free 0
      have f1 := HJ.out.out.free 1
      have f2 := HJ.out.out.free 2
      go_wp2_with fail
      have hf := ((HJ.out.out.set 0 (.int .i64 (z 0))).set 1 (.int .i64 (z 1))).set 2 (.int .i64 (z 2))
      have r0 := hf.cell (i := 0) rfl
      have r1 := hf.cell (i := 1) rfl
      have r2 := hf.cell (i := 2) rfl
      have kk := (((HJ.out.kept.setCell (a := ⟨w.heap.size + 1 + 1 + 1 + 1, 0, none⟩) (.inr (by show w.heap.size ≤ w.heap.size + 1 + 1 + 1 + 1; omega)) (.int .i64 (z 0))).setCell (a := ⟨w.heap.size + 1 + 1 + 1 + 1, 1, none⟩) (.inr (by show w.heap.size ≤ w.heap.size + 1 + 1 + 1 + 1; omega)) (.int .i64 (z 1))).setCell (a := ⟨w.heap.size + 1 + 1 + 1 + 1, 2, none⟩) (.inr (by show w.heap.size ≤ w.heap.size + 1 + 1 + 1 + 1; omega)) (.int .i64 (z 2)))
      refine bodyPost_ret (v := .tuple #[v3 z, .int .i64 0]) (by simp [results, Tryz.f235, Tryz.results235, go_sem, r0, r1, r2]) rfl ⟨z, rfl, fun j hj => HZ.out j hj, kk⟩
/-- Where the line leads. -/
def lineG (x y : EntM) (n k : Nat) (j : Nat) : Int := lerpG (posM x j) (posM y j) n k
set_option maxRecDepth 100000 in
set_option maxHeartbeats 1000000 in
theorem pplaceL_any (x y : EntM) (hx : x.Ok) (hy : y.Ok) (n k : Nat) (w : World) (h0 : 0 < k) (h1 : k ≤ 4611686018427387904) (h2 : n ≤ k) :
    Calls Tryz.prog 241 #[.agg #[], entV x, entV y, .int .i64 n, .int .i64 k] w fun e w' => e = .returned (v3 (lineG x y n k)) ∧ Kept (fun _ => False) w w' := by
  have HV := Lib.hid (fun W => vlerp_calls (posM x) (posM y) (lineG x y n k) n k ((65536 * n / k : Nat) : Int) W (fun j hj W' => lerp_any (posM x j) (posM y j) n k W' h0 h1 h2 (posM_bd hx j) (posM_bd hy j)) (fun W' => fpart_any n k W' h0 h1 h2))
  have K0 := ((((Kept.refl (fun _ => False) w).alloc (.cells #[] 253)).alloc (.cells (entC x).toArray 39)).alloc (.cells (entC y).toArray 39)).alloc z3O
  have B0 : Blk ((((w.alloc (.cells #[] 253)).alloc (.cells (entC x).toArray 39)).alloc (.cells (entC y).toArray 39)).alloc z3O) (w.heap.size + 1 + 1 + 1) [.int .i64 0, .int .i64 0, .int .i64 0] 36 := Blk.new_at (by simp) _ _
  clear h0 h1 h2
  go_enter Tryz.func241, Tryz.ntmps241
  go_wp2_with fail
  refine (HV.out _).mono ?_
  rintro e w1 ⟨rfl, hk⟩
  have hbk := hk.blk B0 (fun h => h)
  have c0 := (hbk.alloc (o3 (lineG x y n k))).cell (i := 0) rfl
  have c1 := (hbk.alloc (o3 (lineG x y n k))).cell (i := 1) rfl
  have c2 := (hbk.alloc (o3 (lineG x y n k))).cell (i := 2) rfl
  have f0 := (hbk.alloc (o3 (lineG x y n k))).free 0
  have f1 := (hbk.alloc (o3 (lineG x y n k))).free 1
  have f2 := (hbk.alloc (o3 (lineG x y n k))).free 2
  have HK := Lib.hid ((K0.trans hk (fun _ h => h.elim)).alloc (o3 (lineG x y n k)))
  have HB := Lib.hid (hbk.alloc (o3 (lineG x y n k)))
  clear hk hbk B0 K0
  go_wp2_with fail
  have hf := ((HB.out.set 0 (.int .i64 ((lineG x y n k) 0))).set 1 (.int .i64 ((lineG x y n k) 1))).set 2 (.int .i64 ((lineG x y n k) 2))
  have r0 := hf.cell (i := 0) rfl
  have r1 := hf.cell (i := 1) rfl
  have r2 := hf.cell (i := 2) rfl
  have kk : Kept (fun _ => False) w _ := ((HK.out.setCell (a := ⟨w.heap.size + 1 + 1 + 1, 0, none⟩) (.inr (by show w.heap.size ≤ w.heap.size + 1 + 1 + 1; omega)) (.int .i64 ((lineG x y n k) 0))).setCell (a := ⟨w.heap.size + 1 + 1 + 1, 1, none⟩) (.inr (by show w.heap.size ≤ w.heap.size + 1 + 1 + 1; omega)) (.int .i64 ((lineG x y n k) 1))).setCell (a := ⟨w.heap.size + 1 + 1 + 1, 2, none⟩) (.inr (by show w.heap.size ≤ w.heap.size + 1 + 1 + 1; omega)) (.int .i64 ((lineG x y n k) 2))
  refine bodyPost_ret (v := v3 (lineG x y n k)) (by simp [results, Tryz.f241, Tryz.results241, go_sem, r0, r1, r2]) rfl ⟨rfl, kk⟩
set_option maxRecDepth 100000 in
set_option maxHeartbeats 1000000 in
theorem pplaceC_any (x y : EntM) (hx : x.Ok) (hy : y.Ok) (n k : Nat) (w : World) (h0 : 0 < k) (h1 : k ≤ 4611686018427387904) (h2 : n ≤ k) :
    Calls Tryz.prog 234 #[.agg #[], entV x, entV y, .int .i64 n, .int .i64 k] w (CPlPost x y w) := by
  have HV := Lib.hid (fun W => cvec_any (posM x) (velM x) (posM y) (velM y) n k W h0 h1 h2 (fun j _ => posM_bd hx j) (fun j _ => velM_bd hx j) (fun j _ => posM_bd hy j) (fun j _ => velM_bd hy j))
  have K0 := ((((Kept.refl (fun _ => False) w).alloc (.cells #[] 252)).alloc (.cells (entC x).toArray 39)).alloc (.cells (entC y).toArray 39)).alloc z3O
  have B0 : Blk ((((w.alloc (.cells #[] 252)).alloc (.cells (entC x).toArray 39)).alloc (.cells (entC y).toArray 39)).alloc z3O) (w.heap.size + 1 + 1 + 1) [.int .i64 0, .int .i64 0, .int .i64 0] 36 := Blk.new_at (by simp) _ _
  clear h0 h1 h2
  go_enter Tryz.func234, Tryz.ntmps234
  go_wp2_with fail
  refine (HV.out _).mono ?_
  rintro e w1 ⟨z, rfl, hz, hk⟩
  have HZ := Lib.hid hz
  clear hz
  have hbk := hk.blk B0 (fun h => h)
  have c0 := (hbk.alloc (o3 (z))).cell (i := 0) rfl
  have c1 := (hbk.alloc (o3 (z))).cell (i := 1) rfl
  have c2 := (hbk.alloc (o3 (z))).cell (i := 2) rfl
  have f0 := (hbk.alloc (o3 (z))).free 0
  have f1 := (hbk.alloc (o3 (z))).free 1
  have f2 := (hbk.alloc (o3 (z))).free 2
  have HK := Lib.hid ((K0.trans hk (fun _ h => h.elim)).alloc (o3 (z)))
  have HB := Lib.hid (hbk.alloc (o3 (z)))
  clear hk hbk B0 K0
  go_wp2_with fail
  have hf := ((HB.out.set 0 (.int .i64 ((z) 0))).set 1 (.int .i64 ((z) 1))).set 2 (.int .i64 ((z) 2))
  have r0 := hf.cell (i := 0) rfl
  have r1 := hf.cell (i := 1) rfl
  have r2 := hf.cell (i := 2) rfl
  have kk : Kept (fun _ => False) w _ := ((HK.out.setCell (a := ⟨w.heap.size + 1 + 1 + 1, 0, none⟩) (.inr (by show w.heap.size ≤ w.heap.size + 1 + 1 + 1; omega)) (.int .i64 ((z) 0))).setCell (a := ⟨w.heap.size + 1 + 1 + 1, 1, none⟩) (.inr (by show w.heap.size ≤ w.heap.size + 1 + 1 + 1; omega)) (.int .i64 ((z) 1))).setCell (a := ⟨w.heap.size + 1 + 1 + 1, 2, none⟩) (.inr (by show w.heap.size ≤ w.heap.size + 1 + 1 + 1; omega)) (.int .i64 ((z) 2))
  refine bodyPost_ret (v := v3 z) (by simp [results, Tryz.f234, Tryz.results234, go_sem, r0, r1, r2]) rfl ⟨z, rfl, HZ.out, kk⟩
def DiffPost (w : World) (e : Ending) (w' : World) : Prop := ∃ d : Int, e = .returned (.int .i64 d) ∧ -32768 ≤ d ∧ d ≤ 32767 ∧ w = w'
def TurnPost (w : World) (e : Ending) (w' : World) : Prop := ∃ r : Nat, e = .returned (.int .u16 r) ∧ r ≤ 65535 ∧ w = w'
theorem wrap_i16 (x : Int) : -32768 ≤ wrap64 (IntKind.i16.wrap x) ∧ wrap64 (IntKind.i16.wrap x) ≤ 32767 := by
  have e : IntKind.i16.wrap x = if x % 65536 ≥ 32768 then x % 65536 - 65536 else x % 65536 := by simp [IntKind.wrap, IntKind.bits, IntKind.signed]
  rw [e]
  unfold wrap64
  split <;> omega
theorem ato_any (a b : Int) (w : World) : Calls Tryz.prog 179 #[.int .u16 a, .int .u16 b] w (DiffPost w) := by
  go_enter Tryz.func179, Tryz.ntmps179
  go_wp2_with fail
  go_ret
  have hw := wrap_i16
  refine ⟨_, rfl, ?_, ?_, rfl⟩
  · exact (hw _).1
  · exact (hw _).2
theorem aby_any (a n : Int) (w : World) : Calls Tryz.prog 180 #[.int .u16 a, .int .i64 n] w (TurnPost w) := by
  go_enter Tryz.func180, Tryz.ntmps180
  go_wp2_with fail
  go_ret
  have hb : ∀ x : Int, ∃ r : Nat, IntKind.u16.wrap x = (r : Int) ∧ r ≤ 65535 := fun x => ⟨(IntKind.u16.wrap x).toNat, by rw [IntKind.wrap_u16]; omega, by rw [IntKind.wrap_u16]; omega⟩
  obtain ⟨r, hr, hr2⟩ := hb (a + IntKind.u16.wrap n)
  refine ⟨r, ?_, hr2, rfl⟩
  rw [← hr]
  rfl
theorem adiff_any (a b : Int) (w : World) : Calls Tryz.prog 142 #[.int .u16 a, .int .u16 b] w (DiffPost w) := by
  have HT := Lib.hid (fun W => ato_any a b W)
  go_enter Tryz.func142, Tryz.ntmps142
  go_wp2_with fail
  refine (HT.out _).mono ?_
  rintro e w1 ⟨d, rfl, h0, h1, rfl⟩
  go_wp2_with fail
  go_ret
  exact ⟨d, rfl, h0, h1, rfl⟩
theorem aturn_any (a n : Int) (w : World) : Calls Tryz.prog 143 #[.int .u16 a, .int .i64 n] w (TurnPost w) := by
  have HT := Lib.hid (fun W => aby_any a n W)
  go_enter Tryz.func143, Tryz.ntmps143
  go_wp2_with fail
  refine (HT.out _).mono ?_
  rintro e w1 ⟨r, rfl, h1, rfl⟩
  go_wp2_with fail
  go_ret
  exact ⟨r, rfl, h1, rfl⟩
def ALerpPost (w : World) (e : Ending) (w' : World) : Prop := ∃ r : Nat, e = .returned (.tuple #[.int .u16 r, .int .i64 0]) ∧ ∃ n, w' = w.drewN n
theorem alerp_any (a b n k : Nat) (w : World) (h0 : 0 < k) (h1 : k ≤ 4611686018427387904) (h2 : n ≤ k) (ha : a ≤ 65535) (hb : b ≤ 65535) :
    Calls Tryz.prog 100 #[.int .u16 a, .int .u16 b, .int .i64 n, .int .i64 k] w (ALerpPost w) := by
  have HD := Lib.hid (fun W => adiff_any a b W)
  have HL := Lib.hid (fun d W (hd0 : -32768 ≤ d) (hd1 : d ≤ 32767) => lerp_any 0 d n k W h0 h1 h2 (by unfold I64; omega) (by unfold I64; omega))
  have HT := Lib.hid (fun x W => aturn_any a x W)
  clear h0 h1 h2
  go_enter Tryz.func100, Tryz.ntmps100
  go_wp2_with fail
  refine (HD.out _).mono ?_
  rintro e w1 ⟨d, rfl, hd0, hd1, rfl⟩
  have HL2 := Lib.hid (fun W => HL.out d W hd0 hd1)
  generalize lerpG 0 d n k = z at *
  go_wp2_with fail
  refine (HL2.out _).mono ?_
  rintro e w1 ⟨rfl, n1, rfl⟩
  go_wp2_with fail
  refine (HT.out _ _).mono ?_
  rintro e w1 ⟨r, rfl, hr, rfl⟩
  go_wp2_with fail
  go_ret2
  exact ⟨r, rfl, _, rfl⟩
end Go.Proofs.YtekdkckgmleofaaGreat
