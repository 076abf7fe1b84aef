/- Joined texts. -/
import Derived.Test.YtekdkckgmleofaaGreatXf09
import Derived.Test.YtekdkckgmleofaaGreatXf17
import Derived.Laws.EntriesVeiled
import Derived.Test.YtekdkckgmleofaaGreatXf03
set_option linter.unusedVariables false
set_option linter.unusedSimpArgs false
/- Contracts of package vec's functions: Add, Scale, Go, Lerp. -/
namespace Go.Proofs.YtekdkckgmleofaaGreat
open Go.RowKit
abbrev v3 (c : Nat → Int) : Value := vecV (c 0) (c 1) (c 2)
abbrev z3O : Obj := .cells #[.int .i64 0, .int .i64 0, .int .i64 0] 36
abbrev o3 (c : Nat → Int) : Obj := .cells #[.int .i64 (c 0), .int .i64 (c 1), .int .i64 (c 2)] 36
theorem vadd_calls (a b : Nat → Int) (w : World) (ha : ∀ j, j < 3 → I64 (a j)) (hb : ∀ j, j < 3 → I64 (b j)) :
    Calls Tryz.prog 137 #[v3 a, v3 b] w fun e w' => e = .returned (v3 (fun j => satI (a j + b j))) ∧ Kept (fun _ => False) w w' := by
  have HE := Lib.hid (fun W => EachAdd.each_calls a b (fun j => satI (a j + b j)) W (fun W' j hj _ => (fadd_calls (a j) (b j) W' (ha j hj) (hb j hj)).mono (fun e w' h => ⟨h.1, 0, by rw [← h.2]; rfl⟩)))
  have K0 := (((Kept.refl (fun _ => False) w).alloc (o3 a)).alloc (o3 b)).alloc z3O
  have B0 : Blk (((w.alloc (o3 a)).alloc (o3 b)).alloc z3O) (w.heap.size + 1 + 1) [.int .i64 0, .int .i64 0, .int .i64 0] 36 := Blk.new_at (by simp) _ _
  go_enter Tryz.func137, Tryz.ntmps137
  go_wp2_with fail
  refine (HE.out _).mono ?_
  rintro e w1 ⟨rfl, hk⟩
  have hbk := hk.blk B0 (fun h => h)
  have c0 := hbk.cell (i := 0) rfl
  have c1 := hbk.cell (i := 1) rfl
  have c2 := hbk.cell (i := 2) rfl
  have f0 := hbk.free 0
  have f1 := hbk.free 1
  have f2 := hbk.free 2
  have HK := Lib.hid (K0.trans hk (fun _ h => h.elim))
  have HB := Lib.hid hbk
  clear hk hbk B0 K0
  go_wp2_with fail
  have hf := ((HB.out.set 0 (.int .i64 ((fun j => satI (a j + b j)) 0))).set 1 (.int .i64 ((fun j => satI (a j + b j)) 1))).set 2 (.int .i64 ((fun j => satI (a j + b j)) 2))
  have r0 := hf.cell (i := 0) rfl
  have r1 := hf.cell (i := 1) rfl
  have r2 := hf.cell (i := 2) rfl
  have kk : Kept (fun _ => False) w _ := ((HK.out.setCell (a := ⟨w.heap.size + 1 + 1, 0, none⟩) (.inr (by show w.heap.size ≤ w.heap.size + 1 + 1; omega)) (.int .i64 ((fun j => satI (a j + b j)) 0))).setCell (a := ⟨w.heap.size + 1 + 1, 1, none⟩) (.inr (by show w.heap.size ≤ w.heap.size + 1 + 1; omega)) (.int .i64 ((fun j => satI (a j + b j)) 1))).setCell (a := ⟨w.heap.size + 1 + 1, 2, none⟩) (.inr (by show w.heap.size ≤ w.heap.size + 1 + 1; omega)) (.int .i64 ((fun j => satI (a j + b j)) 2))
  refine bodyPost_ret (v := v3 (fun j => satI (a j + b j))) (by simp [results, Tryz.f137, Tryz.results137, go_sem, r0, r1, r2]) rfl ⟨rfl, kk⟩
theorem vscale_calls (a : Nat → Int) (k : Int) (w : World) (ha : ∀ j, j < 3 → I64 (a j)) (hb : I64 k) :
    Calls Tryz.prog 138 #[v3 a, .int .i64 k] w fun e w' => e = .returned (v3 (fun j => mulF (a j) k)) ∧ Kept (fun _ => False) w w' := by
  have HE := Lib.hid (fun W => EachMul.each_calls a (fun _ => k) (fun j => mulF (a j) k) W (fun W' j hj _ => (fmul_calls (a j) k W' (ha j hj) hb).mono (fun e w' h => ⟨h.1, 0, by rw [← h.2]; rfl⟩)))
  have K0 := ((Kept.refl (fun _ => False) w).alloc (o3 a)).alloc z3O
  have B0 : Blk ((w.alloc (o3 a)).alloc z3O) (w.heap.size + 1) [.int .i64 0, .int .i64 0, .int .i64 0] 36 := Blk.new_at (by simp) _ _
  go_enter Tryz.func138, Tryz.ntmps138
  go_wp2_with fail
  refine (HE.out _).mono ?_
  rintro e w1 ⟨rfl, hk⟩
  have hbk := hk.blk B0 (fun h => h)
  have c0 := hbk.cell (i := 0) rfl
  have c1 := hbk.cell (i := 1) rfl
  have c2 := hbk.cell (i := 2) rfl
  have f0 := hbk.free 0
  have f1 := hbk.free 1
  have f2 := hbk.free 2
  have HK := Lib.hid (K0.trans hk (fun _ h => h.elim))
  have HB := Lib.hid hbk
  clear hk hbk B0 K0
  go_wp2_with fail
  have hf := ((HB.out.set 0 (.int .i64 ((fun j => mulF (a j) k) 0))).set 1 (.int .i64 ((fun j => mulF (a j) k) 1))).set 2 (.int .i64 ((fun j => mulF (a j) k) 2))
  have r0 := hf.cell (i := 0) rfl
  have r1 := hf.cell (i := 1) rfl
  have r2 := hf.cell (i := 2) rfl
  have kk : Kept (fun _ => False) w _ := ((HK.out.setCell (a := ⟨w.heap.size + 1, 0, none⟩) (.inr (by show w.heap.size ≤ w.heap.size + 1; omega)) (.int .i64 ((fun j => mulF (a j) k) 0))).setCell (a := ⟨w.heap.size + 1, 1, none⟩) (.inr (by show w.heap.size ≤ w.heap.size + 1; omega)) (.int .i64 ((fun j => mulF (a j) k) 1))).setCell (a := ⟨w.heap.size + 1, 2, none⟩) (.inr (by show w.heap.size ≤ w.heap.size + 1; omega)) (.int .i64 ((fun j => mulF (a j) k) 2))
  refine bodyPost_ret (v := v3 (fun j => mulF (a j) k)) (by simp [results, Tryz.f138, Tryz.results138, go_sem, r0, r1, r2]) rfl ⟨rfl, kk⟩
theorem sixV {W : World} {B C : Nat} {p s : Nat → Int} {t u : TypeId} (h : Blk W B [.int .i64 (p 0), .int .i64 (p 1), .int .i64 (p 2)] t) (k : Blk W C [.int .i64 (s 0), .int .i64 (s 1), .int .i64 (s 2)] u) :
    W.cell? ⟨B, 0, none⟩ = some (.int .i64 (p 0)) ∧ W.cell? ⟨B, 1, none⟩ = some (.int .i64 (p 1)) ∧ W.cell? ⟨B, 2, none⟩ = some (.int .i64 (p 2)) ∧ W.cell? ⟨C, 0, none⟩ = some (.int .i64 (s 0)) ∧ W.cell? ⟨C, 1, none⟩ = some (.int .i64 (s 1)) ∧ W.cell? ⟨C, 2, none⟩ = some (.int .i64 (s 2)) :=
  ⟨h.cell (i := 0) rfl, h.cell (i := 1) rfl, h.cell (i := 2) rfl, k.cell (i := 0) rfl, k.cell (i := 1) rfl, k.cell (i := 2) rfl⟩
/-- A place, some time on. -/
def goM (p s : Nat → Int) (t : Int) (j : Nat) : Int := satI (p j + mulF (s j) t)
theorem vgo_calls (p s : Nat → Int) (t : Int) (w : World) (hp : ∀ j, j < 3 → I64 (p j)) (hs : ∀ j, j < 3 → I64 (s j)) (ht : I64 t) :
    Calls Tryz.prog 96 #[v3 p, v3 s, .int .i64 t] w fun e w' => e = .returned (v3 (goM p s t)) ∧ Kept (fun _ => False) w w' := by
  have HS := Lib.hid (fun W => vscale_calls s t W hs ht)
  have HA := Lib.hid (fun W => vadd_calls p (fun j => mulF (s j) t) W hp (fun j _ => mulF_bd _ _))
  have K0 := (((Kept.refl (fun _ => False) w).alloc (o3 p)).alloc (o3 s)).alloc z3O
  have B0 : Blk (((w.alloc (o3 p)).alloc (o3 s)).alloc z3O) (w.heap.size + 1 + 1) [.int .i64 0, .int .i64 0, .int .i64 0] 36 := Blk.new_at (by simp) _ _
  have P0 : Blk (((w.alloc (o3 p)).alloc (o3 s)).alloc z3O) w.heap.size [.int .i64 (p 0), .int .i64 (p 1), .int .i64 (p 2)] 36 := ((Blk.new w _ _).alloc _).alloc _
  have S0 : Blk (((w.alloc (o3 p)).alloc (o3 s)).alloc z3O) (w.heap.size + 1) [.int .i64 (s 0), .int .i64 (s 1), .int .i64 (s 2)] 36 := (Blk.new_at (by simp) _ _).alloc _
  have HB := Lib.hid B0
  have HP0 := Lib.hid P0
  have HS0 := Lib.hid S0
  have HK0 := Lib.hid K0
  have p0 := P0.cell (i := 0) rfl
  have p1 := P0.cell (i := 1) rfl
  have p2 := P0.cell (i := 2) rfl
  have s0 := S0.cell (i := 0) rfl
  have s1 := S0.cell (i := 1) rfl
  have s2 := S0.cell (i := 2) rfl
  clear B0 P0 S0 K0
  go_enter Tryz.func96, Tryz.ntmps96
  go_wp2_with fail
  go_region_held3 (fun w' => w'.cell? ⟨w.heap.size, 0, none⟩ = some (.int .i64 (p 0)) ∧ w'.cell? ⟨w.heap.size, 1, none⟩ = some (.int .i64 (p 1)) ∧ w'.cell? ⟨w.heap.size, 2, none⟩ = some (.int .i64 (p 2)) ∧ w'.cell? ⟨w.heap.size + 1, 0, none⟩ = some (.int .i64 (s 0)) ∧ w'.cell? ⟨w.heap.size + 1, 1, none⟩ = some (.int .i64 (s 1)) ∧ w'.cell? ⟨w.heap.size + 1, 2, none⟩ = some (.int .i64 (s 2)))
    (first | (go_keep; done) | exact ⟨p0, p1, p2, s0, s1, s2⟩ | exact HQ2.out | exact HQ3.out | exact HQ4.out)
    (first
      | (go_at_call 138; refine (HS.out _).mono ?_; rintro e w2 ⟨rfl, hk2⟩; have HK2 := Lib.hid (HK0.out.drew.trans hk2 (fun _ h => h.elim)); have HP2 := Lib.hid (hk2.blk HP0.out.drew (fun h => h)); have HS2 := Lib.hid (hk2.blk HS0.out.drew (fun h => h)); have HB2 := Lib.hid (hk2.blk HB.out.drew (fun h => h)); have HQ2 := Lib.hid (sixV HP2.out HS2.out); clear hk2)
      | (go_at_call 137; refine (HA.out _).mono ?_; rintro e w3 ⟨rfl, hk3⟩; have HK3 := Lib.hid (HK2.out.trans hk3 (fun _ h => h.elim)); have HP3 := Lib.hid (hk3.blk HP2.out (fun h => h)); have HS3 := Lib.hid (hk3.blk HS2.out (fun h => h)); have HB3 := Lib.hid (hk3.blk HB2.out (fun h => h)); have HQ3 := Lib.hid (sixV HP3.out HS3.out); have c0 := HB3.out.cell (i := 0) rfl; have c1 := HB3.out.cell (i := 1) rfl; have c2 := HB3.out.cell (i := 2) rfl; have f0 := HB3.out.free 0; have f1 := HB3.out.free 1; have f2 := HB3.out.free 2; have HQ4 := Lib.hid (sixV (((HP3.out.set_ne (a := ⟨w.heap.size + 1 + 1, 0, none⟩) (by simp; omega) (.int .i64 (goM p s t 0))).set_ne (a := ⟨w.heap.size + 1 + 1, 1, none⟩) (by simp; omega) (.int .i64 (goM p s t 1))).set_ne (a := ⟨w.heap.size + 1 + 1, 2, none⟩) (by simp; omega) (.int .i64 (goM p s t 2))) (((HS3.out.set_ne (a := ⟨w.heap.size + 1 + 1, 0, none⟩) (by simp) (.int .i64 (goM p s t 0))).set_ne (a := ⟨w.heap.size + 1 + 1, 1, none⟩) (by simp) (.int .i64 (goM p s t 1))).set_ne (a := ⟨w.heap.size + 1 + 1, 2, none⟩) (by simp) (.int .i64 (goM p s t 2)))); clear hk3))
  all_goals go_wp2_with fail
  all_goals
    have hf := ((HB3.out.set 0 (.int .i64 (goM p s t 0))).set 1 (.int .i64 (goM p s t 1))).set 2 (.int .i64 (goM p s t 2))
    have r0 := hf.cell (i := 0) rfl
    have r1 := hf.cell (i := 1) rfl
    have r2 := hf.cell (i := 2) rfl
    have kk : Kept (fun _ => False) w _ := ((HK3.out.setCell (a := ⟨w.heap.size + 1 + 1, 0, none⟩) (.inr (by show w.heap.size ≤ w.heap.size + 1 + 1; omega)) (.int .i64 (goM p s t 0))).setCell (a := ⟨w.heap.size + 1 + 1, 1, none⟩) (.inr (by show w.heap.size ≤ w.heap.size + 1 + 1; omega)) (.int .i64 (goM p s t 1))).setCell (a := ⟨w.heap.size + 1 + 1, 2, none⟩) (.inr (by show w.heap.size ≤ w.heap.size + 1 + 1; omega)) (.int .i64 (goM p s t 2))
    unfold goM at r0 r1 r2
    refine bodyPost_ret (v := v3 (goM p s t)) (by simp [results, Tryz.f96, Tryz.results96, go_sem, r0, r1, r2, goM]) rfl ⟨rfl, kk⟩
/-- The function that vec.Lerp hands on. -/
theorem vlerp1_calls (a b z num den : Int) (q1 q2 : Nat) (w : World) (h1 : w.cell? ⟨q1, 0, none⟩ = some (.int .i64 num)) (h2 : w.cell? ⟨q2, 0, none⟩ = some (.int .i64 den))
    (hL : ∀ W, Calls Tryz.prog 141 #[.int .i64 a, .int .i64 b, .int .i64 num, .int .i64 den] W fun e w' => e = .returned (.tuple #[.int .i64 z, .int .i64 0]) ∧ ∃ n, w' = W.drewN n) :
    Calls Tryz.prog 243 #[.int .i64 a, .int .i64 b, .pointer (some ⟨q1, 0, none⟩), .pointer (some ⟨q2, 0, none⟩)] w fun e w' => e = .returned (.int .i64 z) ∧ ∃ n, w' = w.drewN n := by
  go_enter Tryz.func243, Tryz.ntmps243
  go_wp2_with fail
  refine (hL _).mono ?_
  rintro e w1 ⟨rfl, n1, rfl⟩
  go_wp2_with fail
  go_ret
  exact ⟨rfl, _, rfl⟩
set_option maxHeartbeats 1000000 in
theorem vlerp_calls (a b z : Nat → Int) (num den u : Int) (w : World)
    (hL : ∀ j, j < 3 → ∀ W, Calls Tryz.prog 141 #[.int .i64 (a j), .int .i64 (b j), .int .i64 num, .int .i64 den] W fun e w' => e = .returned (.tuple #[.int .i64 (z j), .int .i64 0]) ∧ ∃ n, w' = W.drewN n)
    (hP : ∀ W, Calls Tryz.prog 237 #[.int .i64 num, .int .i64 den] W fun e w' => e = .returned (.tuple #[.int .i64 u, .int .i64 0]) ∧ ∃ n, w' = W.drewN n) :
    Calls Tryz.prog 242 #[v3 a, v3 b, .int .i64 num, .int .i64 den] w fun e w' => e = .returned (.tuple #[v3 z, .int .i64 0]) ∧ Kept (fun _ => False) w w' := by
  have HP := Lib.hid hP
  have HE := Lib.hid (fun q1 q2 W (h1 : W.cell? ⟨q1, 0, none⟩ = some (.int .i64 num)) (h2 : W.cell? ⟨q2, 0, none⟩ = some (.int .i64 den)) => EachLerp.each_calls a b z q1 q2 W (fun W' j hj hk => vlerp1_calls (a j) (b j) (z j) num den q1 q2 W' (hk.cell h1 (fun h => h)) (hk.cell h2 (fun h => h)) (hL j hj)))
  clear hL hP
  have K0 := (((((Kept.refl (fun _ => False) w).alloc (o3 a)).alloc (o3 b)).alloc (.cells #[.int .i64 num] 2)).alloc (.cells #[.int .i64 den] 2)).alloc z3O
  have A0 : Blk (((((w.alloc (o3 a)).alloc (o3 b)).alloc (.cells #[.int .i64 num] 2)).alloc (.cells #[.int .i64 den] 2)).alloc z3O) w.heap.size [.int .i64 (a 0), .int .i64 (a 1), .int .i64 (a 2)] 36 := ((((Blk.new w _ _).alloc _).alloc _).alloc _).alloc _
  have A1 : Blk (((((w.alloc (o3 a)).alloc (o3 b)).alloc (.cells #[.int .i64 num] 2)).alloc (.cells #[.int .i64 den] 2)).alloc z3O) (w.heap.size + 1) [.int .i64 (b 0), .int .i64 (b 1), .int .i64 (b 2)] 36 := (((Blk.new_at (by simp) _ _).alloc _).alloc _).alloc _
  have A2 : Blk (((((w.alloc (o3 a)).alloc (o3 b)).alloc (.cells #[.int .i64 num] 2)).alloc (.cells #[.int .i64 den] 2)).alloc z3O) (w.heap.size + 1 + 1) [.int .i64 num] 2 := ((Blk.new_at (by simp) _ _).alloc _).alloc _
  have A3 : Blk (((((w.alloc (o3 a)).alloc (o3 b)).alloc (.cells #[.int .i64 num] 2)).alloc (.cells #[.int .i64 den] 2)).alloc z3O) (w.heap.size + 1 + 1 + 1) [.int .i64 den] 2 := (Blk.new_at (by simp) _ _).alloc _
  have B0 : Blk (((((w.alloc (o3 a)).alloc (o3 b)).alloc (.cells #[.int .i64 num] 2)).alloc (.cells #[.int .i64 den] 2)).alloc z3O) (w.heap.size + 1 + 1 + 1 + 1) [.int .i64 0, .int .i64 0, .int .i64 0] 36 := Blk.new_at (by simp) _ _
  have g0 := A0.cell (i := 0) rfl
  have g1 := A0.cell (i := 1) rfl
  have g2 := A0.cell (i := 2) rfl
  have h0 := A1.cell (i := 0) rfl
  have h1 := A1.cell (i := 1) rfl
  have h2 := A1.cell (i := 2) rfl
  have n0 := A2.cell (i := 0) rfl
  have d0 := A3.cell (i := 0) rfl
  clear A0 A1 A2 A3
  go_enter Tryz.func242, Tryz.ntmps242
  go_wp2_with fail
  refine (HP.out _).mono ?_
  rintro e w1 ⟨rfl, n1, rfl⟩
  go_wp2_with fail
  refine (HE.out _ _ _ (by exact n0) (by exact d0)).mono ?_
  rintro e w1 ⟨rfl, hk⟩
  have K1 := (K0.drewN n1).trans hk (fun _ h => h.elim)
  have hbk := hk.blk (B0.drewN n1) (fun h => h)
  have c0 := hbk.cell (i := 0) rfl
  have c1 := hbk.cell (i := 1) rfl
  have c2 := hbk.cell (i := 2) rfl
  have f0 := hbk.free 0
  have f1 := hbk.free 1
  have f2 := hbk.free 2
  have HK := Lib.hid K1
  have HB := Lib.hid hbk
  clear hk hbk B0 K0 K1
  go_wp2_with fail
  have hf := ((HB.out.set 0 (.int .i64 (z 0))).set 1 (.int .i64 (z 1))).set 2 (.int .i64 (z 2))
  have r0 := hf.cell (i := 0) rfl
  have r1 := hf.cell (i := 1) rfl
  have r2 := hf.cell (i := 2) rfl
  have kk : Kept (fun _ => False) w _ := ((HK.out.setCell (a := ⟨w.heap.size + 1 + 1 + 1 + 1, 0, none⟩) (.inr (by show w.heap.size ≤ w.heap.size + 1 + 1 + 1 + 1; omega)) (.int .i64 (z 0))).setCell (a := ⟨w.heap.size + 1 + 1 + 1 + 1, 1, none⟩) (.inr (by show w.heap.size ≤ w.heap.size + 1 + 1 + 1 + 1; omega)) (.int .i64 (z 1))).setCell (a := ⟨w.heap.size + 1 + 1 + 1 + 1, 2, none⟩) (.inr (by show w.heap.size ≤ w.heap.size + 1 + 1 + 1 + 1; omega)) (.int .i64 (z 2))
  refine bodyPost_ret (v := .tuple #[v3 z, .int .i64 0]) (by simp [results, Tryz.f242, Tryz.results242, go_sem, r0, r1, r2]) rfl ⟨rfl, kk⟩
end Go.Proofs.YtekdkckgmleofaaGreat

/- Contracts of package curve's functions, where both ends are one. -/
namespace Go.Proofs.YtekdkckgmleofaaGreat
open Go.RowKit
theorem mulF_sq {u : Int} (h0 : 0 ≤ u) (h1 : u ≤ 65536) {v : Int} (g0 : 0 ≤ v) (g1 : v ≤ 65536) : 0 ≤ mulF u v ∧ mulF u v ≤ 65536 := by
  have h2 : 0 ≤ u * v := Int.mul_nonneg h0 g0
  have h3 : u * v ≤ 65536 * 65536 := Int.mul_le_mul h1 g1 g0 (by omega)
  unfold mulF
  rw [satI_in (by unfold I64; omega)]
  omega
def wtO (a b c : Int) : List Value := [.int .i64 a, .int .i64 b, .int .i64 c]
def AtPost (w : World) (e : Ending) (w' : World) : Prop := ∃ a b c : Int, e = .returned (.agg #[.int .i64 a, .int .i64 b, .int .i64 c]) ∧ I64 a ∧ I64 b ∧ I64 c ∧ Kept (fun _ => False) w w'
theorem cat_calls (u : Int) (w : World) (h0 : 0 ≤ u) (h1 : u ≤ 65536) : Calls Tryz.prog 238 #[.int .i64 u] w (AtPost w) := by
  have hu : I64 u := by unfold I64; omega
  have h2 := mulF_sq h0 h1 h0 h1
  have h3 := mulF_sq h2.1 h2.2 h0 h1
  have HM := Lib.hid (fun W => fmul_calls u u W hu hu)
  have HM2 := Lib.hid (fun W => fmul_calls (mulF u u) u W (mulF_bd _ _) hu)
  obtain ⟨h20, h21⟩ := h2
  obtain ⟨h30, h31⟩ := h3
  generalize mulF (mulF u u) u = c at *
  generalize mulF u u = b at *
  have HB := Lib.hid (Blk.new w [.int .i64 0, .int .i64 0, .int .i64 0] 336)
  go_enter Tryz.func238, Tryz.ntmps238
  go_wp2_with fail
  refine (HM.out _).mono ?_
  rintro e w' ⟨rfl, rfl⟩
  go_wp2_with fail
  refine (HM2.out _).mono ?_
  rintro e w' ⟨rfl, rfl⟩
  go_wp2_with fail
  have hf := Blk.new w [.int .i64 (3 * b - 2 * c), .int .i64 (c - 2 * b + u), .int .i64 (c - b)] 336
  have r0 := hf.cell (i := 0) rfl
  have r1 := hf.cell (i := 1) rfl
  have r2 := hf.cell (i := 2) rfl
  refine bodyPost_ret (v := .agg #[.int .i64 (3 * b - 2 * c), .int .i64 (c - 2 * b + u), .int .i64 (c - b)]) (by simp [results, Tryz.f238, Tryz.results238, go_sem, r0, r1, r2]) rfl ⟨_, _, _, rfl, by unfold I64; omega, by unfold I64; omega, by unfold I64; omega, (Kept.refl _ w).alloc _⟩
def CAtPost (a b : Int) (w : World) (e : Ending) (w' : World) : Prop := ∃ z : Int, e = .returned (.tuple #[.int .i64 z, .int .i64 0]) ∧ I64 z ∧ (a = b → z = a) ∧ Kept (fun _ => False) w w'
def SumPost (w : World) (e : Ending) (w' : World) : Prop := ∃ z : Int, e = .returned (.int .i64 z) ∧ I64 z ∧ Kept (fun _ => False) w w'
theorem csum_calls (n p0 q0 p1 q1 p2 q2 : Int) (g : Nat) (w : World) (hn : I64 n) (h0 : I64 p0) (h1 : I64 q0) (h2 : I64 p1) (h3 : I64 q1) (h4 : I64 p2) (h5 : I64 q2)
    (hB : Blk w g [.int .i64 p0, .int .i64 q0, .int .i64 p1, .int .i64 q1, .int .i64 p2, .int .i64 q2] 340) :
    Calls Tryz.prog 239 #[.int .i64 n, .slice (some ⟨g, 0, none⟩) 3 3] w (SumPost w) := by
  have HB := Lib.hid hB
  have HA := Lib.hid (fun x y W (hx : I64 x) => fmul_calls x y W hx)
  go_enter Tryz.func239, Tryz.ntmps239
  go_wp2_with fail
  go_loopw [0, 9] (fun n i wr => ∃ (k : Nat) (z : Int) (v : Value), k ≤ 3 ∧ i = .int .i64 k ∧ n = v ∧ v = .int .i64 z ∧ I64 z ∧ Kept (fun _ => False) w wr) (fun _ i _ => (3 - intOf i).toNat)
  case atStart => exact ⟨0, n, _, by omega, rfl, rfl, rfl, hn, Kept.refl _ _⟩
  case round =>
    obtain ⟨k, z, v, hk, rfl, rfl, rfl, hz, hK⟩ := hrel
    have hb := hK.blk HB.out (fun h => h)
    have HK := Lib.hid hK
    have HZ := Lib.hid hz
    clear hK hz
    rcases (by omega : k = 0 ∨ k = 1 ∨ k = 2 ∨ k = 3) with rfl | rfl | rfl | rfl
    · have b0 := hb.cell (i := 0) rfl
      have b1 := hb.cell (i := 1) rfl
      go_wp2_with fail
      refine (HA.out _ _ _ h0 h1).mono ?_
      rintro e w2 ⟨rfl, rfl⟩
      go_wp2_with fail
      refine (fadd_calls _ _ _ HZ.out (mulF_bd _ _)).mono ?_
      rintro e w2 ⟨rfl, rfl⟩
      go_wp2_with fail
      exact ⟨⟨1, _, _, by omega, by simp, rfl, rfl, satI_bd _, HK.out.alloc _⟩, by simp [intOf]⟩
    · have b0 := hb.cell (i := 2) rfl
      have b1 := hb.cell (i := 3) rfl
      go_wp2_with fail
      refine (HA.out _ _ _ h2 h3).mono ?_
      rintro e w2 ⟨rfl, rfl⟩
      go_wp2_with fail
      refine (fadd_calls _ _ _ HZ.out (mulF_bd _ _)).mono ?_
      rintro e w2 ⟨rfl, rfl⟩
      go_wp2_with fail
      exact ⟨⟨2, _, _, by omega, by simp, rfl, rfl, satI_bd _, HK.out.alloc _⟩, by simp [intOf]⟩
    · have b0 := hb.cell (i := 4) rfl
      have b1 := hb.cell (i := 5) rfl
      go_wp2_with fail
      refine (HA.out _ _ _ h4 h5).mono ?_
      rintro e w2 ⟨rfl, rfl⟩
      go_wp2_with fail
      refine (fadd_calls _ _ _ HZ.out (mulF_bd _ _)).mono ?_
      rintro e w2 ⟨rfl, rfl⟩
      go_wp2_with fail
      exact ⟨⟨3, _, _, by omega, by simp, rfl, rfl, satI_bd _, HK.out.alloc _⟩, by simp [intOf]⟩
    · go_wp2_with fail
      go_ret
      exact ⟨_, rfl, HZ.out, HK.out⟩
set_option maxRecDepth 100000 in
set_option maxHeartbeats 2000000 in
theorem curveAt_calls (a v b y : Int) (n k : Nat) (w : World) (h0 : 0 < k) (h1 : k ≤ 4611686018427387904) (h2 : n ≤ k) (h3 : n < 281474976710656) (ha : I64 a) (hv : I64 v) (hb : I64 b) (hy : I64 y) :
    Calls Tryz.prog 236 #[.int .i64 a, .int .i64 v, .int .i64 b, .int .i64 y, .int .i64 n, .int .i64 k] w (CAtPost a b w) := by
  have HP := Lib.hid (fun W => fpart_low n k W h0 h1 h2 h3)
  have hu : 65536 * n / k ≤ 65536 := Nat.div_le_of_le_mul (by rw [Nat.mul_comm]; exact Nat.mul_le_mul_right _ h2)
  have HU := Lib.hid (fun W => cat_calls ((65536 * n / k : Nat) : Int) W (Int.natCast_nonneg _) (Int.ofNat_le.2 hu))
  generalize ((65536 * n / k : Nat) : Int) = u at *
  have hk : I64 (k : Int) := by unfold I64; omega
  have HS := Lib.hid (fun W => fsub_calls b a W hb ha)
  have HM1 := Lib.hid (fun W => fmul_calls v k W hv hk)
  have HM2 := Lib.hid (fun W => fmul_calls y k W hy hk)
  have HC := Lib.hid (fun x W => fclamp_calls x a b W)
  clear hu h1 h3
  go_enter Tryz.func236, Tryz.ntmps236
  go_wp2_with fail
  refine (HP.out _).mono ?_
  rintro e w1 ⟨rfl, n1, rfl⟩
  by_cases hn0 : n = 0
  · subst hn0
    go_wp2_with fail
    go_ret2
    exact ⟨_, rfl, ha, fun _ => rfl, (Kept.refl _ w).drewN _⟩
  · by_cases hnk : n = k
    · subst hnk
      have e1 : ¬ ((n : Int) = 0) := by omega
      go_wp2_with fail
      go_ret2
      exact ⟨_, rfl, hb, fun h => h.symm, (Kept.refl _ w).drewN _⟩
    · have e1 : ¬ ((n : Int) = 0) := by omega
      have e2 : ¬ ((n : Int) = (k : Int)) := by omega
      go_wp2_with fail
      refine (HU.out _).mono ?_
      rintro e w2 ⟨x0, x1, x2, rfl, hx0, hx1, hx2, hk2⟩
      have HK2 := Lib.hid (((Kept.refl (fun _ => False) w).drewN n1).trans hk2 (fun _ h => h.elim))
      have HX0 := Lib.hid hx0
      have HX1 := Lib.hid hx1
      have HX2 := Lib.hid hx2
      have hB := Blk.new w2 [.int .i64 x0, .int .i64 x1, .int .i64 x2] 336
      have b0 := hB.cell (i := 0) rfl
      have b1 := hB.cell (i := 1) rfl
      have b2 := hB.cell (i := 2) rfl
      clear hk2 hx0 hx1 hx2 hB
      go_wp2_with fail
      refine region_mix (fun w' => ∃ n, w' = (w2.alloc (.cells #[.int .i64 x0, .int .i64 x1, .int .i64 x2] 336)).drewN n) [0] [1, 2, 3, 4, 5, 6, 7, 8, 9, 10, 11, 12, 13, 14, 15, 16, 17, 18] [19, 20, 21] (by kernel_rfl) (by kernel_rfl) (fun _ _ d _ _ h => by cases d <;> exact h) ⟨1, rfl⟩ ?_
      simp only [pick, List.filterMap_cons, List.filterMap_nil, List.getElem?_toArray, List.getElem?_cons_zero, List.getElem?_cons_succ, floatPut, Act.put, Act.eval, List.setIfInBounds_toArray, List.set_cons_zero, List.set_cons_succ, Array.getD_eq_getD_getElem?, Option.getD_some]
      repeat (change wpQuiet _ _ _ _ (List.cons _ _) _; go_big_quiet_step ((first | (with_reducible exact Calls.quiet_of_same ((HS.out _).mono fun _ _ h => ⟨h.1, h.2.symm⟩)) | (with_reducible exact Calls.quiet_of_same ((HM1.out _).mono fun _ _ h => ⟨h.1, h.2.symm⟩)) | (with_reducible exact Calls.quiet_of_same ((HM2.out _).mono fun _ _ h => ⟨h.1, h.2.symm⟩)))))
      refine wpQuiet_nil ?_
      rintro _ ⟨n2, rfl⟩
      have HKB := Lib.hid (((HK2.out.alloc (.cells #[.int .i64 x0, .int .i64 x1, .int .i64 x2] 336)).drewN n2).alloc (.cells #[.int .i64 x0, .int .i64 (satI (b - a)), .int .i64 x1, .int .i64 (mulF v k), .int .i64 x2, .int .i64 (mulF y k)] 340))
      have HBB := Lib.hid (Blk.new ((w2.alloc (.cells #[.int .i64 x0, .int .i64 x1, .int .i64 x2] 336)).drewN n2) [.int .i64 x0, .int .i64 (satI (b - a)), .int .i64 x1, .int .i64 (mulF v k), .int .i64 x2, .int .i64 (mulF y k)] 340)
      clear b0 b1 b2
      go_wp2_with fail
      refine (csum_calls a x0 (satI (b - a)) x1 (mulF v k) x2 (mulF y k) (w2.heap.size + 1) _ ha HX0.out (satI_bd _) HX1.out (mulF_bd _ _) HX2.out (mulF_bd _ _) (by simpa using HBB.out)).mono ?_
      rintro e w4 ⟨z, rfl, hz, hk4⟩
      have HK4 := Lib.hid (HKB.out.trans hk4 (fun _ h => h.elim))
      have HZ := Lib.hid hz
      clear hk4 hz
      go_wp2_with fail
      refine (HC.out _ _).mono ?_
      rintro e w5 ⟨rfl, rfl⟩
      go_wp2_with fail
      go_ret2
      have hz := HZ.out
      unfold I64 at hz ha hb
      exact ⟨_, rfl, by unfold I64; omega, fun h => by omega, HK4.out⟩
end Go.Proofs.YtekdkckgmleofaaGreat

/- Contract of curve.Vec. -/
namespace Go.Proofs.YtekdkckgmleofaaGreat
open Go.RowKit
def CVecPost (a b : Nat → Int) (w : World) (e : Ending) (w' : World) : Prop := ∃ z : Nat → Int, e = .returned (.tuple #[v3 z, .int .i64 0]) ∧ (∀ j, j < 3 → I64 (z j) ∧ (a j = b j → z j = a j)) ∧ Kept (fun _ => False) w w'
def pre3 (z : Nat → Int) (k : Nat) : List Value := EachAdd.eachC z k
structure CVI (w : World) (a v b y : Nat → Int) (cs : List Value) (wr : World) : Prop where
  a : Blk wr w.heap.size (EachAdd.c3 a) 36
  v : Blk wr (w.heap.size + 1) (EachAdd.c3 v) 36
  b : Blk wr (w.heap.size + 1 + 1) (EachAdd.c3 b) 36
  y : Blk wr (w.heap.size + 1 + 1 + 1) (EachAdd.c3 y) 36
  out : Blk wr (w.heap.size + 1 + 1 + 1 + 1) [.int .i64 0, .int .i64 0, .int .i64 0] 36
  arr : Blk wr (w.heap.size + 1 + 1 + 1 + 1 + 1) cs 36
  kept : Kept (fun _ => False) w wr
theorem CVI.step {w wr w2 : World} {a v b y : Nat → Int} {cs : List Value} (h : CVI w a v b y cs wr) (hk : Kept (fun _ => False) wr w2) (k : Nat) (u : Value) :
    CVI w a v b y (cs.set k u) (w2.setCell ⟨w.heap.size + 1 + 1 + 1 + 1 + 1, k, none⟩ u) :=
  ⟨(hk.blk h.a (fun h => h)).set_ne (by simp; omega) u, (hk.blk h.v (fun h => h)).set_ne (by simp <;> omega) u, (hk.blk h.b (fun h => h)).set_ne (by simp <;> omega) u, (hk.blk h.y (fun h => h)).set_ne (by simp <;> omega) u, (hk.blk h.out (fun h => h)).set_ne (by simp) u, (hk.blk h.arr (fun h => h)).set k u, (h.kept.trans hk (fun _ h => h.elim)).setCell (.inr (by show w.heap.size ≤ w.heap.size + 1 + 1 + 1 + 1 + 1; omega)) _⟩
def upd (z : Nat → Int) (k : Nat) (x : Int) : Nat → Int := fun j => if j = k then x else z j
theorem upd_set (z : Nat → Int) (k : Nat) (hk : k < 3) (x : Int) : (EachAdd.eachC z k).set k (.int .i64 x) = EachAdd.eachC (upd z k x) (k + 1) := by
  rcases (by omega : k = 0 ∨ k = 1 ∨ k = 2) with rfl | rfl | rfl <;> rfl
set_option maxRecDepth 100000 in
set_option maxHeartbeats 2000000 in
theorem cvec_calls (a v b y : Nat → Int) (n k : Nat) (w : World) (h0 : 0 < k) (h1 : k ≤ 4611686018427387904) (h2 : n ≤ k) (h3 : n < 281474976710656)
    (ha : ∀ j, j < 3 → I64 (a j)) (hv : ∀ j, j < 3 → I64 (v j)) (hb : ∀ j, j < 3 → I64 (b j)) (hy : ∀ j, j < 3 → I64 (y j)) :
    Calls Tryz.prog 235 #[v3 a, v3 v, v3 b, v3 y, .int .i64 n, .int .i64 k] w (CVecPost a b w) := by
  have HI : Hid (CVI w a v b y (EachAdd.eachC (fun _ => 0) 0) ((((((w.alloc (o3 a)).alloc (o3 v)).alloc (o3 b)).alloc (o3 y)).alloc z3O).alloc z3O)) := Lib.hid
    ⟨(((((Blk.new w _ _).alloc _).alloc _).alloc _).alloc _).alloc _, ((((Blk.new_at (by simp) _ _).alloc _).alloc _).alloc _).alloc _, (((Blk.new_at (by simp) _ _).alloc _).alloc _).alloc _, ((Blk.new_at (by simp) _ _).alloc _).alloc _, (Blk.new_at (by simp) _ _).alloc _, Blk.new_at (by simp) _ _, ((((((Kept.refl (fun _ => False) w).alloc _).alloc _).alloc _).alloc _).alloc _).alloc _⟩
  have HC := Lib.hid (fun j (hj : j < 3) W => curveAt_calls (a j) (v j) (b j) (y j) n k W h0 h1 h2 h3 (ha j hj) (hv j hj) (hb j hj) (hy j hj))
  clear ha hv hb hy h0 h1 h2 h3
  go_enter Tryz.func235, Tryz.ntmps235
  go_wp2_with fail
  go_loopw [18] (fun i wr => ∃ (m : Nat) (z : Nat → Int), m ≤ 3 ∧ i = .int .i64 m ∧ CVI w a v b y (EachAdd.eachC z m) wr ∧ ∀ j, j < m → I64 (z j) ∧ (a j = b j → z j = a j)) (fun i _ => (3 - intOf i).toNat)
  case atStart => exact ⟨0, fun _ => 0, by omega, rfl, HI.out, fun j hj => by omega⟩
  case round =>
    obtain ⟨m, z, hm, rfl, hI, hz⟩ := hrel
    have HJ := Lib.hid hI
    have HZ := Lib.hid hz
    clear hI hz
    by_cases hm3 : m < 3
    · have a0 := HJ.out.a.cell (EachAdd.c3_at a m hm3)
      have a1 := HJ.out.v.cell (EachAdd.c3_at v m hm3)
      have a2 := HJ.out.b.cell (EachAdd.c3_at b m hm3)
      have a3 := HJ.out.y.cell (EachAdd.c3_at y m hm3)
      go_wp2_with fail
      refine region_mix2 (fun w' => ∃ n, w' = wr.drewN n) [] [0, 1, 2, 3, 4, 5, 6, 7, 8, 9, 10, 11, 12, 13] 14 [15, 16, 17, 18, 19] (by kernel_rfl) (by kernel_rfl) (fun _ _ d _ _ h => by cases d <;> exact h) ⟨1, rfl⟩ ?_
      simp only [pick, List.filterMap_cons, List.filterMap_nil, List.getElem?_toArray, List.getElem?_cons_zero, List.getElem?_cons_succ, floatPut, Act.put, Act.eval, List.setIfInBounds_toArray, List.set_cons_zero, List.set_cons_succ, Array.getD_eq_getD_getElem?, Option.getD_some]
      repeat (change wpQuiet _ _ _ _ (List.cons _ _) _; go_big_quiet_step (fail))
      refine wpQuiet_nil ?_
      rintro _ ⟨n2, rfl⟩
      go_wp2_with fail
      refine (HC.out m hm3 _).mono ?_
      rintro e w2 ⟨x, rfl, hx, hxe, hk2⟩
      have hkk := ((Kept.refl (fun _ => False) wr).drewN n2).trans hk2 (fun _ h => h.elim)
      have HX := Lib.hid hx
      have HXE := Lib.hid hxe
      have d0 := (hkk.blk HJ.out.arr (fun h => h)).cell (EachAdd.eachC_at z m hm3)
      have f0 := (hkk.blk HJ.out.arr (fun h => h)).free m
      have HS := Lib.hid (fun n3 => upd_set z m hm3 x ▸ HJ.out.step (hkk.drewN n3) m (.int .i64 x))
      clear hkk hk2 hx hxe a0 a1 a2 a3
      go_wp2_with fail
      simp only [QThen]
      repeat (change wpQuiet _ _ _ _ (List.cons _ _) _; go_big_quiet_step (fail))
      refine wpQuiet_nil ?_
      rintro _ ⟨n3, rfl⟩
      go_wp2_with fail
      refine ⟨⟨m + 1, upd z m x, by omega, by simp, HS.out n3, fun j hj => ?_⟩, by simp [intOf]; omega⟩
      unfold upd
      by_cases hjm : j = m
      · rw [if_pos hjm, hjm]
        exact ⟨HX.out, HXE.out⟩
      · rw [if_neg hjm]
        exact HZ.out j (by omega)
    · have e3 : m = 3 := by omega
      subst e3
      have c0 := HJ.out.arr.cell (i := 0) rfl
      have c1 := HJ.out.arr.cell (i := 1) rfl
      have c2 := HJ.out.arr.cell (i := 2) rfl
      have o0 := HJ.out.out.cell (i := 0) rfl
      have o1 := HJ.out.out.cell (i := 1) rfl
      have o2 := HJ.out.out.cell (i := 2) rfl
      have f0 := HJ.out.out.free 0
      have f1 := HJ.out.out.free 1
      have f2 := HJ.out.out.free 2
      go_wp2_with fail
      have hf := ((HJ.out.out.set 0 (.int .i64 (z 0))).set 1 (.int .i64 (z 1))).set 2 (.int .i64 (z 2))
      have r0 := hf.cell (i := 0) rfl
      have r1 := hf.cell (i := 1) rfl
      have r2 := hf.cell (i := 2) rfl
      have kk := (((HJ.out.kept.setCell (a := ⟨w.heap.size + 1 + 1 + 1 + 1, 0, none⟩) (.inr (by show w.heap.size ≤ w.heap.size + 1 + 1 + 1 + 1; omega)) (.int .i64 (z 0))).setCell (a := ⟨w.heap.size + 1 + 1 + 1 + 1, 1, none⟩) (.inr (by show w.heap.size ≤ w.heap.size + 1 + 1 + 1 + 1; omega)) (.int .i64 (z 1))).setCell (a := ⟨w.heap.size + 1 + 1 + 1 + 1, 2, none⟩) (.inr (by show w.heap.size ≤ w.heap.size + 1 + 1 + 1 + 1; omega)) (.int .i64 (z 2)))
      refine bodyPost_ret (v := .tuple #[v3 z, .int .i64 0]) (by simp [results, Tryz.f235, Tryz.results235, go_sem, r0, r1, r2]) rfl ⟨z, rfl, fun j hj => HZ.out j hj, kk⟩
end Go.Proofs.YtekdkckgmleofaaGreat
