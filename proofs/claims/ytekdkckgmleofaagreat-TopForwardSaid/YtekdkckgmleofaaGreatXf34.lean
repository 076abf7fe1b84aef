/- Joined texts. -/
import Derived.Test.YtekdkckgmleofaaGreatXf31
import Derived.Test.YtekdkckgmleofaaGreatXf33
import Derived.Test.YtekdkckgmleofaaGreatXf23
import Derived.Test.YtekdkckgmleofaaGreatXf18
set_option linter.unusedVariables false
set_option linter.unusedSimpArgs false
/- Contracts of package pose: check, exact, of. -/
namespace Go.Proofs.YtekdkckgmleofaaGreat
open Go.RowKit
/-- A snapshot lies as told, and is right. -/
structure SnapAt (w : World) (x : SnapS) (ents : List EntM) : Prop where
  lies : ∃ o, Sl w (.slice x.a x.len x.cap) 39 9 ents.length (cellsL entC ents) o
  ok : EntsOk ents
  ts : SnapOk x.tick x.time
theorem SnapAt.kept {w w' : World} {x : SnapS} {ents : List EntM} (h : SnapAt w x ents) (k : Kept (fun _ => False) w w') : SnapAt w' x ents := by
  obtain ⟨⟨o, h1⟩, h2, h3⟩ := h
  exact ⟨⟨o, h1.kept k (fun _ _ h => h)⟩, h2, h3⟩
set_option maxRecDepth 100000 in
set_option maxHeartbeats 2000000 in
theorem pcheck_calls (c : Cfg) (hc : COk c) (xs : List SnapS) (hl : xs.length ≤ 1000) (w : World) (hx : ∀ x ∈ xs, ∃ ents, SnapAt w x ents) (v : Value) (own : Option Nat) (hv : Sl w v 42 3 xs.length (cellsL snC xs) own) :
    Calls Tryz.prog 59 #[cfgV c, v] w fun e w' => e = .returned (.int .i64 0) ∧ Kept (fun _ => False) w w' := by
  obtain ⟨a, cap, rfl, hcap, hcm⟩ := hv.form
  unfold maxLen at hcm
  have HV := Lib.hid hv
  have HX := Lib.hid hx
  have HC := Lib.hid (fun W => ccheck_good c W hc)
  have HS := Lib.hid (fun (x : SnapS) ents W (h : SnapAt W x ents) => by
    obtain ⟨⟨o, h1⟩, h2, h3⟩ := h
    exact snapcheck_calls x.tick x.time h3 ents h2 W _ o h1)
  have HB := Lib.hid (Blk.new w (cfgC c) 26)
  clear hv hx
  go_enter Tryz.func59, Tryz.ntmps59
  go_wp2_with fail
  refine (HC.out _).mono ?_
  rintro e w1 ⟨rfl, hk1⟩
  have HK1 := Lib.hid (((Kept.refl (fun _ => False) w).alloc (.cells (cfgC c).toArray 26)).trans hk1 (fun _ h => h.elim))
  clear hk1
  go_wp2_with fail
  go_loopw [16] (fun i wr => ∃ (k : Nat), k ≤ xs.length ∧ i = .int .i64 k ∧ Kept (fun _ => False) w wr) (fun i _ => (xs.length - intOf i).toNat)
  case atStart => exact ⟨0, by omega, rfl, HK1.out⟩
  case round =>
    obtain ⟨k, hk, rfl, hK⟩ := hrel
    have HK := Lib.hid hK
    clear hK
    by_cases hlt : k < xs.length
    · obtain ⟨x, hxk⟩ : ∃ x, xs[k]? = some x := ⟨_, List.getElem?_eq_getElem hlt⟩
      obtain ⟨ents, hse⟩ := HX.out x (List.mem_of_getElem? hxk)
      have HSE := Lib.hid ((hse.kept HK.out).kept ((Kept.refl (fun _ => False) wr).alloc (.cells (snC x).toArray 42)))
      obtain ⟨g, off, cap', ho, hvv, -, -, hc', -⟩ := HV.out.some (by omega)
      cases hvv
      have hcw := fun j u hu => HK.out.cell (hc' j u hu) (fun h => h)
      obtain ⟨c0, c1, c2⟩ := sn_at (w := wr) hcw hxk
      have hgl : g < wr.heap.size := lt_of_cell c0
      clear hc' hcw hxk hse
      go_wp2_with fail
      refine (HS.out x ents _ HSE.out).mono ?_
      rintro e w2 ⟨rfl, hk2⟩
      have HK2 := Lib.hid ((HK.out.alloc (.cells (snC x).toArray 42)).trans hk2 (fun _ h => h.elim))
      clear hk2 c0 c1 c2
      go_wp2_with fail
      refine ⟨⟨k + 1, by omega, by simp, HK2.out⟩, by simp [intOf]; omega⟩
    · go_wp2_with fail
      go_ret
      exact ⟨rfl, HK.out⟩
/-- What is shown of an entity. -/
structure PoseM where
  id : Int
  p : Nat → Int
  ang : Nat
  mode : Int
abbrev poseC (x : PoseM) : List Value := [.int .i64 x.id, .int .i64 (x.p 0), .int .i64 (x.p 1), .int .i64 (x.p 2), .int .u16 x.ang, .int .i64 x.mode]
abbrev poseV (x : PoseM) : Value := .agg (poseC x).toArray
def posM (x : EntM) : Nat → Int
  | 0 => x.p0
  | 1 => x.p1
  | _ => x.p2
def velM (x : EntM) : Nat → Int
  | 0 => x.v0
  | 1 => x.v1
  | _ => x.v2
theorem pexact_calls (x : EntM) (w : World) : Calls Tryz.prog 95 #[entV x] w fun e w' => e = .returned (poseV ⟨x.id, posM x, x.ang, 0⟩) ∧ Kept (fun _ => False) w w' := by
  go_enter Tryz.func95, Tryz.ntmps95
  go_wp2_with fail
  have hf := Blk.new_at (w := w.alloc (.cells (entC x).toArray 39)) (n := w.heap.size + 1) (by simp) [.int .i64 x.id, .int .i64 x.p0, .int .i64 x.p1, .int .i64 x.p2, .int .u16 x.ang, .int .i64 0] 48
  have r0 := hf.cell (i := 0) rfl
  have r1 := hf.cell (i := 1) rfl
  have r2 := hf.cell (i := 2) rfl
  have r3 := hf.cell (i := 3) rfl
  have r4 := hf.cell (i := 4) rfl
  have r5 := hf.cell (i := 5) rfl
  refine bodyPost_ret (v := poseV ⟨x.id, posM x, x.ang, 0⟩) (by simp [results, Tryz.f95, Tryz.results95, go_sem, r0, r1, r2, r3, r4, r5, posM]) rfl ⟨rfl, ((Kept.refl _ w).alloc _).alloc _⟩
def wayV (b : Bool) : Value := if b then .iface 252 (.agg #[]) else .iface 253 (.agg #[])
theorem pof_calls (c : Cfg) (w : World) : Calls Tryz.prog 98 #[cfgV c] w fun e w' => e = .returned (wayV c.curved) ∧ Kept (fun _ => False) w w' := by
  cases hcu : c.curved <;>
  · go_enter Tryz.func98, Tryz.ntmps98
    go_wp2_with fail
    go_ret
    exact ⟨rfl, (Kept.refl _ w).alloc _⟩
theorem pmodeL_calls (w : World) : Calls Tryz.prog 240 #[.agg #[]] w fun e w' => e = .returned (.int .i64 1) ∧ Kept (fun _ => False) w w' := by
  go_enter Tryz.func240, Tryz.ntmps240
  go_wp2_with fail
  go_ret
  exact ⟨rfl, (Kept.refl _ w).alloc _⟩
theorem pmodeC_calls (w : World) : Calls Tryz.prog 233 #[.agg #[]] w fun e w' => e = .returned (.int .i64 2) ∧ Kept (fun _ => False) w w' := by
  go_enter Tryz.func233, Tryz.ntmps233
  go_wp2_with fail
  go_ret
  exact ⟨rfl, (Kept.refl _ w).alloc _⟩
/-- What the line leads to. -/
def lineM (x y : EntM) (n k : Nat) (j : Nat) : Int := posM x j + (((posM y j - posM x j).toNat * n / k : Nat) : Int)
structure LineOk (x y : EntM) (n : Nat) : Prop where
  d : ∀ j, j < 3 → posM y j - posM x j < 9223372036854775808
  le : ∀ j, j < 3 → posM x j ≤ posM y j
  low : ∀ j, j < 3 → (posM y j - posM x j).toNat * n < 9223372036854775808
theorem posM_bd {x : EntM} (h : x.Ok) (j : Nat) : I64 (posM x j) := by
  have h1 := h.ns
  unfold posM I64
  split
  · exact h1 _ (by simp)
  · exact h1 _ (by simp)
  · exact h1 _ (by simp)
theorem velM_bd {x : EntM} (h : x.Ok) (j : Nat) : I64 (velM x j) := by
  have h1 := h.ns
  unfold velM I64
  split
  · exact h1 _ (by simp)
  · exact h1 _ (by simp)
  · exact h1 _ (by simp)
def CPlPost (x y : EntM) (w : World) (e : Ending) (w' : World) : Prop := ∃ z : Nat → Int, e = .returned (v3 z) ∧ (∀ j, j < 3 → I64 (z j) ∧ (posM x j = posM y j → z j = posM x j)) ∧ Kept (fun _ => False) w w'
set_option maxRecDepth 100000 in
set_option maxHeartbeats 1000000 in
theorem pplaceL_calls (x y : EntM) (hx : x.Ok) (hy : y.Ok) (n k : Nat) (w : World) (h0 : 0 < k) (h1 : k ≤ 4611686018427387904) (h2 : n ≤ k) (h3 : n < 281474976710656) (hL : LineOk x y n) :
    Calls Tryz.prog 241 #[.agg #[], entV x, entV y, .int .i64 n, .int .i64 k] w fun e w' => e = .returned (v3 (lineM x y n k)) ∧ Kept (fun _ => False) w w' := by
  have HV := Lib.hid (fun W => vlerp_calls (posM x) (posM y) (lineM x y n k) n k ((65536 * n / k : Nat) : Int) W (fun j hj W' => by
      have hle := hL.le j hj
      have hlo := hL.low j hj
      have hxb := posM_bd hx j
      have hyb := posM_bd hy j
      have := lerp_up (posM x j) (posM y j - posM x j).toNat n k W' h0 h1 h2 hlo (by have := hL.d j hj; omega) hxb (by rw [show posM x j + (((posM y j - posM x j).toNat : Nat) : Int) = posM y j by omega]; exact hyb)
      rw [show posM x j + (((posM y j - posM x j).toNat : Nat) : Int) = posM y j by omega] at this
      exact this) (fun W' => fpart_low n k W' h0 h1 h2 h3))
  have K0 := ((((Kept.refl (fun _ => False) w).alloc (.cells #[] 253)).alloc (.cells (entC x).toArray 39)).alloc (.cells (entC y).toArray 39)).alloc z3O
  have B0 : Blk ((((w.alloc (.cells #[] 253)).alloc (.cells (entC x).toArray 39)).alloc (.cells (entC y).toArray 39)).alloc z3O) (w.heap.size + 1 + 1 + 1) [.int .i64 0, .int .i64 0, .int .i64 0] 36 := Blk.new_at (by simp) _ _
  clear hL h0 h1 h2 h3
  go_enter Tryz.func241, Tryz.ntmps241
  go_wp2_with fail
  refine (HV.out _).mono ?_
  rintro e w1 ⟨rfl, hk⟩
  have hbk := hk.blk B0 (fun h => h)
  have c0 := (hbk.alloc (o3 (lineM x y n k))).cell (i := 0) rfl
  have c1 := (hbk.alloc (o3 (lineM x y n k))).cell (i := 1) rfl
  have c2 := (hbk.alloc (o3 (lineM x y n k))).cell (i := 2) rfl
  have f0 := (hbk.alloc (o3 (lineM x y n k))).free 0
  have f1 := (hbk.alloc (o3 (lineM x y n k))).free 1
  have f2 := (hbk.alloc (o3 (lineM x y n k))).free 2
  have HK := Lib.hid ((K0.trans hk (fun _ h => h.elim)).alloc (o3 (lineM x y n k)))
  have HB := Lib.hid (hbk.alloc (o3 (lineM x y n k)))
  clear hk hbk B0 K0
  go_wp2_with fail
  have hf := ((HB.out.set 0 (.int .i64 ((lineM x y n k) 0))).set 1 (.int .i64 ((lineM x y n k) 1))).set 2 (.int .i64 ((lineM x y n k) 2))
  have r0 := hf.cell (i := 0) rfl
  have r1 := hf.cell (i := 1) rfl
  have r2 := hf.cell (i := 2) rfl
  have kk : Kept (fun _ => False) w _ := ((HK.out.setCell (a := ⟨w.heap.size + 1 + 1 + 1, 0, none⟩) (.inr (by show w.heap.size ≤ w.heap.size + 1 + 1 + 1; omega)) (.int .i64 ((lineM x y n k) 0))).setCell (a := ⟨w.heap.size + 1 + 1 + 1, 1, none⟩) (.inr (by show w.heap.size ≤ w.heap.size + 1 + 1 + 1; omega)) (.int .i64 ((lineM x y n k) 1))).setCell (a := ⟨w.heap.size + 1 + 1 + 1, 2, none⟩) (.inr (by show w.heap.size ≤ w.heap.size + 1 + 1 + 1; omega)) (.int .i64 ((lineM x y n k) 2))
  refine bodyPost_ret (v := v3 (lineM x y n k)) (by simp [results, Tryz.f241, Tryz.results241, go_sem, r0, r1, r2]) rfl ⟨rfl, kk⟩
set_option maxRecDepth 100000 in
set_option maxHeartbeats 1000000 in
theorem pplaceC_calls (x y : EntM) (hx : x.Ok) (hy : y.Ok) (n k : Nat) (w : World) (h0 : 0 < k) (h1 : k ≤ 4611686018427387904) (h2 : n ≤ k) (h3 : n < 281474976710656) :
    Calls Tryz.prog 234 #[.agg #[], entV x, entV y, .int .i64 n, .int .i64 k] w (CPlPost x y w) := by
  have HV := Lib.hid (fun W => cvec_calls (posM x) (velM x) (posM y) (velM y) n k W h0 h1 h2 h3 (fun j _ => posM_bd hx j) (fun j _ => velM_bd hx j) (fun j _ => posM_bd hy j) (fun j _ => velM_bd hy j))
  have K0 := ((((Kept.refl (fun _ => False) w).alloc (.cells #[] 252)).alloc (.cells (entC x).toArray 39)).alloc (.cells (entC y).toArray 39)).alloc z3O
  have B0 : Blk ((((w.alloc (.cells #[] 252)).alloc (.cells (entC x).toArray 39)).alloc (.cells (entC y).toArray 39)).alloc z3O) (w.heap.size + 1 + 1 + 1) [.int .i64 0, .int .i64 0, .int .i64 0] 36 := Blk.new_at (by simp) _ _
  clear h0 h1 h2 h3
  go_enter Tryz.func234, Tryz.ntmps234
  go_wp2_with fail
  refine (HV.out _).mono ?_
  rintro e w1 ⟨z, rfl, hz, hk⟩
  have HZ := Lib.hid hz
  clear hz
  have hbk := hk.blk B0 (fun h => h)
  have c0 := (hbk.alloc (o3 (z))).cell (i := 0) rfl
  have c1 := (hbk.alloc (o3 (z))).cell (i := 1) rfl
  have c2 := (hbk.alloc (o3 (z))).cell (i := 2) rfl
  have f0 := (hbk.alloc (o3 (z))).free 0
  have f1 := (hbk.alloc (o3 (z))).free 1
  have f2 := (hbk.alloc (o3 (z))).free 2
  have HK := Lib.hid ((K0.trans hk (fun _ h => h.elim)).alloc (o3 (z)))
  have HB := Lib.hid (hbk.alloc (o3 (z)))
  clear hk hbk B0 K0
  go_wp2_with fail
  have hf := ((HB.out.set 0 (.int .i64 ((z) 0))).set 1 (.int .i64 ((z) 1))).set 2 (.int .i64 ((z) 2))
  have r0 := hf.cell (i := 0) rfl
  have r1 := hf.cell (i := 1) rfl
  have r2 := hf.cell (i := 2) rfl
  have kk : Kept (fun _ => False) w _ := ((HK.out.setCell (a := ⟨w.heap.size + 1 + 1 + 1, 0, none⟩) (.inr (by show w.heap.size ≤ w.heap.size + 1 + 1 + 1; omega)) (.int .i64 ((z) 0))).setCell (a := ⟨w.heap.size + 1 + 1 + 1, 1, none⟩) (.inr (by show w.heap.size ≤ w.heap.size + 1 + 1 + 1; omega)) (.int .i64 ((z) 1))).setCell (a := ⟨w.heap.size + 1 + 1 + 1, 2, none⟩) (.inr (by show w.heap.size ≤ w.heap.size + 1 + 1 + 1; omega)) (.int .i64 ((z) 2))
  refine bodyPost_ret (v := v3 z) (by simp [results, Tryz.f234, Tryz.results234, go_sem, r0, r1, r2]) rfl ⟨z, rfl, HZ.out, kk⟩
end Go.Proofs.YtekdkckgmleofaaGreat

/- Contract of delta.Find over one entity, of which the Id is sought. -/
namespace Go.Proofs.YtekdkckgmleofaaGreat
open Go.RowKit
theorem find1_calls (y : EntM) (q : Nat) (w : World) (hq : w.cell? ⟨q, 0, none⟩ = some (.int .i64 y.id)) :
    Calls Tryz.prog 140 #[entV y, .pointer (some ⟨q, 0, none⟩)] w fun e w' => e = .returned (.bool true) ∧ Kept (fun _ => False) w w' := by
  have hb := lt_of_cell hq
  have hqa : (w.alloc (.cells (entC y).toArray 39)).cell? ⟨q, 0, none⟩ = some (.int .i64 y.id) := ((Kept.refl (fun _ => False) w).alloc _).cell hq (fun h => h)
  go_enter Tryz.func140, Tryz.ntmps140
  go_wp2_with fail
  go_ret
  exact ⟨by simp, (Kept.refl _ w).alloc _⟩
set_option maxRecDepth 100000 in
set_option maxHeartbeats 1000000 in
theorem indexF_calls (y : EntM) (q g off cap : Nat) (w : World) (hq : w.cell? ⟨q, 0, none⟩ = some (.int .i64 y.id)) (hc : ∀ j u, (cellsL entC [y])[j]? = some u → w.cell? ⟨g, off + j, none⟩ = some u) :
    Calls Tryz.prog 139 #[.slice (some ⟨g, off, none⟩) 1 cap, .func (.func 140) #[] #[.pointer (some ⟨q, 0, none⟩)]] w fun e w' => e = .returned (.int .i64 0) ∧ Kept (fun _ => False) w w' := by
  obtain ⟨c0, c1, c2, c3, c4, c5, c6, c7, c8⟩ := ent_at hc (t := 0) rfl
  simp only [Nat.zero_mul, Nat.add_zero] at c0 c1 c2 c3 c4 c5 c6 c7 c8
  have HF := Lib.hid (find1_calls y q w hq)
  clear hc hq
  go_enter Tryz.func139, Tryz.ntmps139
  go_wp2_with fail
  go_loopw [8] (fun i wr => i = .int .i64 0 ∧ wr = w) (fun _ _ => 0)
  case atStart => exact ⟨rfl, rfl⟩
  case round =>
    obtain ⟨rfl, rfl⟩ := hrel
    go_wp2_with fail
    refine (HF.out).mono ?_
    rintro e w2 ⟨rfl, hk⟩
    have HK := Lib.hid hk
    clear c0 c1 c2 c3 c4 c5 c6 c7 c8 hk
    go_wp2_with fail
    refine bodyPost_ret (results_tmp rfl _ _ _) rfl ?_
    exact ⟨rfl, HK.out⟩
/-- An entity is laid into a block of its own. -/
abbrev putEnt (w : World) (b : Nat) (y : EntM) : World :=
  ((((((((w.setCell ⟨b, 0, none⟩ (.int .i64 y.id)).setCell ⟨b, 1, none⟩ (.int .i64 y.p0)).setCell ⟨b, 2, none⟩ (.int .i64 y.p1)).setCell ⟨b, 3, none⟩ (.int .i64 y.p2)).setCell ⟨b, 4, none⟩ (.int .i64 y.v0)).setCell ⟨b, 5, none⟩ (.int .i64 y.v1)).setCell ⟨b, 6, none⟩ (.int .i64 y.v2)).setCell ⟨b, 7, none⟩ (.int .u16 y.ang)).setCell ⟨b, 8, none⟩ (.int .u8 y.gen)
theorem putEnt_blk {w : World} {b : Nat} {t : TypeId} {z0 z1 z2 z3 z4 z5 z6 z7 z8 : Value} (h : Blk w b [z0, z1, z2, z3, z4, z5, z6, z7, z8] t) (y : EntM) : Blk (putEnt w b y) b (entC y) t :=
  ((((((((h.set 0 _).set 1 _).set 2 _).set 3 _).set 4 _).set 5 _).set 6 _).set 7 _).set 8 _
theorem putEnt_kept {F : Nat → Prop} {w w' : World} {b : Nat} (h : Kept F w w') (hb : F b ∨ w.heap.size ≤ b) (y : EntM) : Kept F w (putEnt w' b y) :=
  ((((((((h.setCell (a := ⟨b, 0, none⟩) hb _).setCell (a := ⟨b, 1, none⟩) hb _).setCell (a := ⟨b, 2, none⟩) hb _).setCell (a := ⟨b, 3, none⟩) hb _).setCell (a := ⟨b, 4, none⟩) hb _).setCell (a := ⟨b, 5, none⟩) hb _).setCell (a := ⟨b, 6, none⟩) hb _).setCell (a := ⟨b, 7, none⟩) hb _).setCell (a := ⟨b, 8, none⟩) hb _
theorem entb_cells {w : World} {b : Nat} {t : TypeId} {y : EntM} (h : Blk w b (entC y) t) :
    w.cell? ⟨b, 0, none⟩ = some (.int .i64 y.id) ∧ w.cell? ⟨b, 1, none⟩ = some (.int .i64 y.p0) ∧ w.cell? ⟨b, 2, none⟩ = some (.int .i64 y.p1) ∧ w.cell? ⟨b, 3, none⟩ = some (.int .i64 y.p2) ∧
    w.cell? ⟨b, 4, none⟩ = some (.int .i64 y.v0) ∧ w.cell? ⟨b, 5, none⟩ = some (.int .i64 y.v1) ∧ w.cell? ⟨b, 6, none⟩ = some (.int .i64 y.v2) ∧ w.cell? ⟨b, 7, none⟩ = some (.int .u16 y.ang) ∧ w.cell? ⟨b, 8, none⟩ = some (.int .u8 y.gen) :=
  ⟨h.cell (i := 0) rfl, h.cell (i := 1) rfl, h.cell (i := 2) rfl, h.cell (i := 3) rfl, h.cell (i := 4) rfl, h.cell (i := 5) rfl, h.cell (i := 6) rfl, h.cell (i := 7) rfl, h.cell (i := 8) rfl⟩
def FindPost (y : EntM) (w : World) (e : Ending) (w' : World) : Prop := e = .returned (.tuple #[entV y, .bool true]) ∧ Kept (fun _ => False) w w'
set_option maxRecDepth 100000 in
set_option maxHeartbeats 1000000 in
theorem find_calls (s : SnapS) (y : EntM) (w : World) (h : SnapAt w s [y]) :
    Calls Tryz.prog 99 #[sv s, .int .i64 y.id] w (FindPost y w) := by
  obtain ⟨⟨o, hs⟩, -, -⟩ := h
  obtain ⟨g, off, cap, ho, hv, hcap, -, hc, -⟩ := hs.some (by simp)
  simp only [Value.slice.injEq, List.length_singleton] at hv
  obtain ⟨e1, e2, e3⟩ := hv
  have K0 := (((Kept.refl (fun _ => False) w).alloc (.cells (snC s).toArray 42)).alloc (.cells #[.int .i64 y.id] 3)).alloc (.cells #[.int .i64 0, .int .i64 0, .int .i64 0, .int .i64 0, .int .i64 0, .int .i64 0, .int .i64 0, .int .u16 0, .int .u8 0] 39)
  have hc' := fun j u hu => K0.cell (hc j u hu) (fun h => h)
  obtain ⟨c0, c1, c2, c3, c4, c5, c6, c7, c8⟩ := ent_at hc (t := 0) rfl
  simp only [Nat.zero_mul, Nat.add_zero] at c0 c1 c2 c3 c4 c5 c6 c7 c8
  have hgl : g < w.heap.size := lt_of_cell c0
  clear hs hc
  go_enter Tryz.func99, Tryz.ntmps99
  go_wp2_with fail
  refine (indexF_calls y _ g off cap _ (by
    exact ((Blk.new_at (w := w.alloc (.cells #[.int .i64 s.tick, .int .i64 s.time, .slice (some ⟨g, off, none⟩) 1 cap] 42)) (n := w.heap.size + 1) (by simp) [.int .i64 y.id] 3).alloc _).cell (i := 0) rfl) (by
    intro j u hu
    rw [← e1, ← e2, ← e3]
    exact hc' j u hu)).mono ?_
  rintro e w2 ⟨rfl, hk2⟩
  have hk2' : Kept (fun _ => False) (((w.alloc (.cells #[.int .i64 s.tick, .int .i64 s.time, .slice (some ⟨g, off, none⟩) 1 cap] 42)).alloc (.cells #[.int .i64 y.id] 3)).alloc (.cells #[.int .i64 0, .int .i64 0, .int .i64 0, .int .i64 0, .int .i64 0, .int .i64 0, .int .i64 0, .int .u16 0, .int .u8 0] 39)) w2 := hk2
  have S2 := hk2'.blk (((Blk.new w [.int .i64 s.tick, .int .i64 s.time, .slice (some ⟨g, off, none⟩) 1 cap] 42).alloc _).alloc _) (fun h => h)
  have R2 := hk2'.blk (Blk.new_at (w := (w.alloc (.cells #[.int .i64 s.tick, .int .i64 s.time, .slice (some ⟨g, off, none⟩) 1 cap] 42)).alloc (.cells #[.int .i64 y.id] 3)) (n := w.heap.size + 1 + 1) (by simp) [.int .i64 0, .int .i64 0, .int .i64 0, .int .i64 0, .int .i64 0, .int .i64 0, .int .i64 0, .int .u16 0, .int .u8 0] 39) (fun h => h)
  have s2 := S2.cell (i := 2) rfl
  have kw : Kept (fun _ => False) w w2 := ((((Kept.refl (fun _ => False) w).alloc _).alloc _).alloc _).trans hk2' (fun _ h => h.elim)
  have d0 := kw.cell c0 (fun h => h)
  have d1 := kw.cell c1 (fun h => h)
  have d2 := kw.cell c2 (fun h => h)
  have d3 := kw.cell c3 (fun h => h)
  have d4 := kw.cell c4 (fun h => h)
  have d5 := kw.cell c5 (fun h => h)
  have d6 := kw.cell c6 (fun h => h)
  have d7 := kw.cell c7 (fun h => h)
  have d8 := kw.cell c8 (fun h => h)
  have r0 := R2.cell (i := 0) rfl
  have r1 := R2.cell (i := 1) rfl
  have r2 := R2.cell (i := 2) rfl
  have r3 := R2.cell (i := 3) rfl
  have r4 := R2.cell (i := 4) rfl
  have r5 := R2.cell (i := 5) rfl
  have r6 := R2.cell (i := 6) rfl
  have r7 := R2.cell (i := 7) rfl
  have r8 := R2.cell (i := 8) rfl
  have f0 := R2.free 0
  have f1 := R2.free 1
  have f2 := R2.free 2
  have f3 := R2.free 3
  have f4 := R2.free 4
  have f5 := R2.free 5
  have f6 := R2.free 6
  have f7 := R2.free 7
  have f8 := R2.free 8
  have HK := Lib.hid kw
  have HR := Lib.hid R2
  clear hk2 hk2' S2 R2 kw c0 c1 c2 c3 c4 c5 c6 c7 c8 hc' K0
  go_wp2_with fail
  obtain ⟨t0, t1, t2, t3, t4, t5, t6, t7, t8⟩ := entb_cells (putEnt_blk HR.out y)
  refine bodyPost_ret (v := .tuple #[entV y, .bool true]) (by simp [results, Tryz.f99, Tryz.results99, go_sem, t0, t1, t2, t3, t4, t5, t6, t7, t8]) rfl ⟨rfl, putEnt_kept HK.out (.inr (by omega)) y⟩
end Go.Proofs.YtekdkckgmleofaaGreat

/- Contract of pose.Beyond, of a snapshot of one entity. -/
namespace Go.Proofs.YtekdkckgmleofaaGreat
open Go.RowKit
abbrev zpose : List Value := [.int .i64 0, .int .i64 0, .int .i64 0, .int .i64 0, .int .u16 0, .int .i64 0]
theorem infoPose : (Tryz.prog.info? 48).map (fun i => (i.zero, i.size, i.bytes)) = some (some (.agg zpose.toArray), 6, 48) := by kernel_rfl
/-- How far beyond, and how. -/
def beyP (c : Cfg) (x : EntM) (D : Int) : PoseM :=
  if D = 0 then ⟨x.id, goM (posM x) (velM x) D, x.ang, 0⟩
  else if c.extra < D then ⟨x.id, goM (posM x) (velM x) c.extra, x.ang, 4⟩
  else ⟨x.id, goM (posM x) (velM x) D, x.ang, 3⟩
def PosePost (x : PoseM) (w : World) (e : Ending) (w' : World) : Prop :=
  ∃ v, e = .returned (.tuple #[v, .int .i64 0]) ∧ OneP 48 6 (poseC x) v w.heap.size w' ∧ Kept (fun _ => False) w w'
abbrev exO (x : EntM) : Obj := .cells #[.int .i64 x.id, .int .i64 (posM x 0), .int .i64 (posM x 1), .int .i64 (posM x 2), .int .u16 x.ang, .int .i64 0] 48
set_option maxRecDepth 100000 in
set_option maxHeartbeats 4000000 in
theorem beyond_calls (c : Cfg) (hc : COk c) (n : SnapS) (x : EntM) (w : World) (h : SnapAt w n [x]) (at_ : Int) (hle : n.time ≤ at_) (hat : I64 at_) :
    Calls Tryz.prog 61 #[cfgV c, sv n, .int .i64 at_] w (PosePost (beyP c x (satI (at_ - n.time))) w) := by
  have hts := h.ts
  obtain ⟨t0, t1, s0, s1⟩ := hts
  have htm : TimesOk [n] := ⟨by simp; omega, by simp⟩
  have HC := Lib.hid (fun W hx v own hv => pcheck_calls c hc [n] (by simp) W hx v own hv)
  have HB := Lib.hid (fun W => bbeyond_calls n at_ htm hle hat W)
  have HE := Lib.hid (fun W => pexact_calls x W)
  have hxo : x.Ok := h.ok.ok x (by simp)
  have hd : I64 (satI (at_ - n.time)) := satI_bd _
  have hex : I64 c.extra := by
    have h1 := hc.x0
    have h2 := hc.x1
    unfold I64; omega
  have HG := Lib.hid (fun d W (hd : I64 d) => vgo_calls (posM x) (velM x) d W (fun j _ => posM_bd hxo j) (fun j _ => velM_bd hxo j) hd)
  have HN := Lib.hid h
  obtain ⟨⟨o, hs⟩, -, -⟩ := h
  obtain ⟨g, off, cap, ho, hv, hcap, -, hcc, -⟩ := hs.some (by simp)
  simp only [Value.slice.injEq, List.length_singleton] at hv
  obtain ⟨tk, tm, na, nl, nc⟩ := n
  dsimp only at *
  obtain ⟨e1, e2, e3⟩ := hv
  subst e1
  subst e2
  subst e3
  obtain ⟨x0, x1, x2, x3, x4, x5, x6, x7, x8⟩ := ent_at hcc (t := 0) rfl
  simp only [Nat.zero_mul, Nat.add_zero] at x0 x1 x2 x3 x4 x5 x6 x7 x8
  have hgl : g < w.heap.size := lt_of_cell x0
  clear hs hcc
  have HX : Hid (w.cell? ⟨g, off, none⟩ = some (.int .i64 x.id) ∧ w.cell? ⟨g, off + 1, none⟩ = some (.int .i64 x.p0) ∧ w.cell? ⟨g, off + 2, none⟩ = some (.int .i64 x.p1) ∧ w.cell? ⟨g, off + 3, none⟩ = some (.int .i64 x.p2) ∧ w.cell? ⟨g, off + 4, none⟩ = some (.int .i64 x.v0) ∧ w.cell? ⟨g, off + 5, none⟩ = some (.int .i64 x.v1) ∧ w.cell? ⟨g, off + 6, none⟩ = some (.int .i64 x.v2) ∧ w.cell? ⟨g, off + 7, none⟩ = some (.int .u16 x.ang) ∧ w.cell? ⟨g, off + 8, none⟩ = some (.int .u8 x.gen)) := Lib.hid ⟨x0, x1, x2, x3, x4, x5, x6, x7, x8⟩
  clear x0 x1 x2 x3 x4 x5 x6 x7 x8
  have HSL : Hid (∀ o1 o2, Sl (((w.alloc o1).alloc o2).alloc (.cells #[.int .i64 tk, .int .i64 tm, .slice (some ⟨g, off, none⟩) 1 nc] 42)) (.slice (some ⟨w.heap.size + 1 + 1, 0, none⟩) 1 1) 42 3 1 (cellsL snC [⟨tk, tm, some ⟨g, off, none⟩, 1, nc⟩]) (some (w.heap.size + 1 + 1))) := Lib.hid (fun o1 o2 => by
    have := Sl.made ((w.alloc o1).alloc o2) (cellsL snC [⟨tk, tm, some ⟨g, off, none⟩, 1, nc⟩]) 42 3 1 rfl (by decide)
    rw [size_alloc, size_alloc] at this
    exact this)
  generalize satI (at_ - tm) = D at *
  by_cases h0 : D = 0
  · rw [beyP, if_pos h0]
    subst h0
    go_enter Tryz.func61, Tryz.ntmps61
    go_wp2_with fail
    refine (HC.out _ (by simp only [List.mem_singleton, forall_eq]; exact ⟨_, HN.out.kept ((((Kept.refl (fun _ => False) w).alloc _).alloc _).alloc _)⟩) _ _ (by exact HSL.out _ _)).mono ?_
    rintro e w1 ⟨rfl, hk1⟩
    have HK1 := Lib.hid (((((Kept.refl (fun _ => False) w).alloc _).alloc _).alloc _).trans hk1 (fun _ h => h.elim))
    have BC := hk1.blk (((Blk.new w (cfgC c) 26).alloc _).alloc _) (fun h => h)
    have BN := hk1.blk ((Blk.new_at (w := w.alloc (.cells (cfgC c).toArray 26)) (n := w.heap.size + 1) (by simp) [.int .i64 tk, .int .i64 tm, .slice (some ⟨g, off, none⟩) 1 nc] 42).alloc _) (fun h => h)
    have s0 := BN.cell (i := 0) rfl
    have s1 := BN.cell (i := 1) rfl
    have s2 := BN.cell (i := 2) rfl
    have HBC := Lib.hid BC
    have HBN := Lib.hid BN
    clear hk1 BC BN
    go_wp2_with fail
    refine (HB.out _).mono ?_
    rintro e w2 ⟨rfl, hk2⟩
    have HK2 := Lib.hid (HK1.out.trans hk2 (fun _ h => h.elim))
    have cx := (hk2.blk HBC.out (fun h => h)).cell (i := 9) rfl
    have n2 := (hk2.blk HBN.out (fun h => h)).cell (i := 2) rfl
    clear hk2 s0 s1 s2
    go_wp2_with fail
    first | (go_quiet (fail); go_wp2_with fail) | skip
    go_loopw [12, 45] (fun l i wr => ∃ (k : Nat) (y : Value), i = .int .i64 k ∧ l = y ∧ (k = 0 ∧ y = .slice none 0 0 ∧ Kept (fun _ => False) w wr ∨ k = 1 ∧ OneP 48 6 (poseC ⟨x.id, goM (posM x) (velM x) (0), x.ang, 0⟩) y w.heap.size wr ∧ Kept (fun _ => False) w wr)) (fun _ i _ => (1 - intOf i).toNat)
    case atStart => first | exact ⟨0, _, rfl, rfl, .inl ⟨rfl, rfl, HK2.out⟩⟩ | exact ⟨0, _, rfl, rfl, .inl ⟨rfl, rfl, HK2.out.drewN _⟩⟩
    case round =>
      obtain ⟨k, y, rfl, hy, hk⟩ := hrel
      have hy2 := hy.symm
      clear hy
      subst hy2
      rcases hk with ⟨rfl, rfl, hK⟩ | ⟨rfl, hP, hK⟩
      · have HK := Lib.hid hK
        obtain ⟨x0, x1, x2, x3, x4, x5, x6, x7, x8⟩ := HX.out
        have hgw : g < wr.heap.size := Nat.lt_of_lt_of_le hgl hK.size
        have c0 := hK.cell x0 (fun h => h)
        have c1 := hK.cell x1 (fun h => h)
        have c2 := hK.cell x2 (fun h => h)
        have c3 := hK.cell x3 (fun h => h)
        have c4 := hK.cell x4 (fun h => h)
        have c5 := hK.cell x5 (fun h => h)
        have c6 := hK.cell x6 (fun h => h)
        have c7 := hK.cell x7 (fun h => h)
        have c8 := hK.cell x8 (fun h => h)
        clear hK x0 x1 x2 x3 x4 x5 x6 x7 x8
        go_wp2_with fail
        refine (HE.out _).mono ?_
        rintro e w3 ⟨rfl, hk3⟩
        have hb3 := hk3.blk (Blk.new wr (entC x) 39) (fun h => h)
        have HB3 := Lib.hid hb3
        have HK3 := Lib.hid ((HK.out.alloc (.cells (entC x).toArray 39)).trans hk3 (fun _ h => h.elim))
        have hn3 : wr.heap.size < w3.heap.size := hb3.lt
        have q0 : (w3.alloc (.cells #[.int .i64 x.id, .int .i64 (posM x 0), .int .i64 (posM x 1), .int .i64 (posM x 2), .int .u16 x.ang, .int .i64 0] 48)).cell? ⟨wr.heap.size, 1, none⟩ = some (.int .i64 (posM x 0)) := (hb3.alloc (exO x)).cell (i := 1) rfl
        have q1 : (w3.alloc (.cells #[.int .i64 x.id, .int .i64 (posM x 0), .int .i64 (posM x 1), .int .i64 (posM x 2), .int .u16 x.ang, .int .i64 0] 48)).cell? ⟨wr.heap.size, 2, none⟩ = some (.int .i64 (posM x 1)) := (hb3.alloc (exO x)).cell (i := 2) rfl
        have q2 : (w3.alloc (.cells #[.int .i64 x.id, .int .i64 (posM x 0), .int .i64 (posM x 1), .int .i64 (posM x 2), .int .u16 x.ang, .int .i64 0] 48)).cell? ⟨wr.heap.size, 3, none⟩ = some (.int .i64 (posM x 2)) := (hb3.alloc (exO x)).cell (i := 3) rfl
        have q3 : (w3.alloc (.cells #[.int .i64 x.id, .int .i64 (posM x 0), .int .i64 (posM x 1), .int .i64 (posM x 2), .int .u16 x.ang, .int .i64 0] 48)).cell? ⟨wr.heap.size, 4, none⟩ = some (.int .i64 (velM x 0)) := (hb3.alloc (exO x)).cell (i := 4) rfl
        have q4 : (w3.alloc (.cells #[.int .i64 x.id, .int .i64 (posM x 0), .int .i64 (posM x 1), .int .i64 (posM x 2), .int .u16 x.ang, .int .i64 0] 48)).cell? ⟨wr.heap.size, 5, none⟩ = some (.int .i64 (velM x 1)) := (hb3.alloc (exO x)).cell (i := 5) rfl
        have q5 : (w3.alloc (.cells #[.int .i64 x.id, .int .i64 (posM x 0), .int .i64 (posM x 1), .int .i64 (posM x 2), .int .u16 x.ang, .int .i64 0] 48)).cell? ⟨wr.heap.size, 6, none⟩ = some (.int .i64 (velM x 2)) := (hb3.alloc (exO x)).cell (i := 6) rfl
        clear hk3 hb3 c0 c1 c2 c3 c4 c5 c6 c7 c8
        go_wp2_with fail
        refine (HG.out (0) _ (by first | exact hex | exact hd)).mono ?_
        rintro e w4 ⟨rfl, hk4⟩
        have P4 := hk4.blk (Blk.new w3 [.int .i64 x.id, .int .i64 (posM x 0), .int .i64 (posM x 1), .int .i64 (posM x 2), .int .u16 x.ang, .int .i64 0] 48) (fun h => h)
        have HP4 := Lib.hid P4
        have HK4 := Lib.hid ((HK3.out.alloc (exO x)).trans hk4 (fun _ h => h.elim))
        have p0 := P4.cell (i := 0) rfl
        have p1 := P4.cell (i := 1) rfl
        have p2 := P4.cell (i := 2) rfl
        have p3 := P4.cell (i := 3) rfl
        have p4 := P4.cell (i := 4) rfl
        have p5 := P4.cell (i := 5) rfl
        have g1 := P4.free 1
        have g2 := P4.free 2
        have g3 := P4.free 3
        have g5 := P4.free 5
        clear q0 q1 q2 q3 q4 q5 hk4 P4
        obtain ⟨j0, hi, hz0, hz1, hz2⟩ := info_parts infoPose
        have HI := Lib.hid hi
        have HZ0 := Lib.hid hz0
        have HZ1 := Lib.hid hz1
        have HZ2 := Lib.hid hz2
        have HSR : Hid (∀ (W : World) (b : Nat), b = W.heap.size → Src (W.alloc (.cells #[.int .i64 x.id, .int .i64 (goM (posM x) (velM x) (0) 0), .int .i64 (goM (posM x) (velM x) (0) 1), .int .i64 (goM (posM x) (velM x) (0) 2), .int .u16 x.ang, .int .i64 0] 48)) (.slice (some ⟨b, 0, none⟩) 1 1) 1 (poseC ⟨x.id, goM (posM x) (velM x) (0), x.ang, 0⟩)) := Lib.hid (fun W b hb => hb ▸ (Sl.made W (poseC ⟨x.id, goM (posM x) (velM x) (0), x.ang, 0⟩) 48 6 1 rfl (by decide)).src)
        have HO : Hid (∀ u ∈ poseC ⟨x.id, goM (posM x) (velM x) (0), x.ang, 0⟩, u.oneCell' = true) := Lib.hid (by simp [Value.oneCell'])
        clear hi hz0 hz1 hz2
        go_wp2_with (at_builtin; refine wpList_append_sl _ rfl _ _ 43 rfl 48 j0 (.agg zpose.toArray) 6 48 Tryz.underlying43 HI.out HZ0.out HZ1.out HZ2.out rfl _ 0 [] none rfl (Sl.nil _ _ _) _ 1 (poseC ⟨x.id, goM (posM x) (velM x) (0), x.ang, 0⟩) rfl (by exact HSR.out _ _ (by simp)) rfl HO.out (by decide) (by decide) ?_; intro v5 w5 own5 hS5 ho5 hK5; have SA := Lib.hid hS5; have OA := Lib.hid ho5; have KA := Lib.hid hK5; clear hS5 ho5 hK5)
        have HF : Hid (OneP 48 6 (poseC ⟨x.id, goM (posM x) (velM x) (0), x.ang, 0⟩) v5 w.heap.size w5 ∧ Kept (fun _ => False) w w5) := Lib.hid (by
          have hw3 := HK3.out.size
          have KW := (((((HK4.out.setCell (a := ⟨w3.heap.size, 5, none⟩) (.inr hw3) _).setCell (a := ⟨w3.heap.size, 1, none⟩) (.inr hw3) _).setCell (a := ⟨w3.heap.size, 2, none⟩) (.inr hw3) _).setCell (a := ⟨w3.heap.size, 3, none⟩) (.inr hw3) _).alloc _).trans KA.out (fun _ h => by cases h)
          refine ⟨?_, KW⟩
          rcases OA.out with e | e
          · have := SA.out
            rw [e] at this
            rcases this.2 with ⟨hh, h2, _⟩ | ⟨_, _, _, _, hh, _⟩
            · cases h2
            · cases hh
          · have := SA.out
            rw [e] at this
            have hw4 := HK4.out.size
            exact ⟨_, this, by simp; omega⟩)
        go_wp2_with fail
        exact ⟨⟨1, _, by simp, rfl, .inr ⟨rfl, HF.out.1, HF.out.2⟩⟩, by simp [intOf]⟩
      · have HP := Lib.hid hP
        have HK := Lib.hid hK
        clear hP hK
        go_wp2_with fail
        go_ret2
        exact ⟨_, rfl, HP.out, HK.out⟩
  · have h0b : (D == 0) = false := by simp [h0]
    by_cases h1 : c.extra < D
    · rw [beyP, if_neg h0, if_pos h1]
      go_enter Tryz.func61, Tryz.ntmps61
      go_wp2_with fail
      refine (HC.out _ (by simp only [List.mem_singleton, forall_eq]; exact ⟨_, HN.out.kept ((((Kept.refl (fun _ => False) w).alloc _).alloc _).alloc _)⟩) _ _ (by exact HSL.out _ _)).mono ?_
      rintro e w1 ⟨rfl, hk1⟩
      have HK1 := Lib.hid (((((Kept.refl (fun _ => False) w).alloc _).alloc _).alloc _).trans hk1 (fun _ h => h.elim))
      have BC := hk1.blk (((Blk.new w (cfgC c) 26).alloc _).alloc _) (fun h => h)
      have BN := hk1.blk ((Blk.new_at (w := w.alloc (.cells (cfgC c).toArray 26)) (n := w.heap.size + 1) (by simp) [.int .i64 tk, .int .i64 tm, .slice (some ⟨g, off, none⟩) 1 nc] 42).alloc _) (fun h => h)
      have s0 := BN.cell (i := 0) rfl
      have s1 := BN.cell (i := 1) rfl
      have s2 := BN.cell (i := 2) rfl
      have HBC := Lib.hid BC
      have HBN := Lib.hid BN
      clear hk1 BC BN
      go_wp2_with fail
      refine (HB.out _).mono ?_
      rintro e w2 ⟨rfl, hk2⟩
      have HK2 := Lib.hid (HK1.out.trans hk2 (fun _ h => h.elim))
      have cx := (hk2.blk HBC.out (fun h => h)).cell (i := 9) rfl
      have n2 := (hk2.blk HBN.out (fun h => h)).cell (i := 2) rfl
      clear hk2 s0 s1 s2
      go_wp2_with fail
      first | (go_quiet (fail); go_wp2_with fail) | skip
      go_loopw [12, 45] (fun l i wr => ∃ (k : Nat) (y : Value), i = .int .i64 k ∧ l = y ∧ (k = 0 ∧ y = .slice none 0 0 ∧ Kept (fun _ => False) w wr ∨ k = 1 ∧ OneP 48 6 (poseC ⟨x.id, goM (posM x) (velM x) (c.extra), x.ang, 4⟩) y w.heap.size wr ∧ Kept (fun _ => False) w wr)) (fun _ i _ => (1 - intOf i).toNat)
      case atStart => first | exact ⟨0, _, rfl, rfl, .inl ⟨rfl, rfl, HK2.out⟩⟩ | exact ⟨0, _, rfl, rfl, .inl ⟨rfl, rfl, HK2.out.drewN _⟩⟩
      case round =>
        obtain ⟨k, y, rfl, hy, hk⟩ := hrel
        have hy2 := hy.symm
        clear hy
        subst hy2
        rcases hk with ⟨rfl, rfl, hK⟩ | ⟨rfl, hP, hK⟩
        · have HK := Lib.hid hK
          obtain ⟨x0, x1, x2, x3, x4, x5, x6, x7, x8⟩ := HX.out
          have hgw : g < wr.heap.size := Nat.lt_of_lt_of_le hgl hK.size
          have c0 := hK.cell x0 (fun h => h)
          have c1 := hK.cell x1 (fun h => h)
          have c2 := hK.cell x2 (fun h => h)
          have c3 := hK.cell x3 (fun h => h)
          have c4 := hK.cell x4 (fun h => h)
          have c5 := hK.cell x5 (fun h => h)
          have c6 := hK.cell x6 (fun h => h)
          have c7 := hK.cell x7 (fun h => h)
          have c8 := hK.cell x8 (fun h => h)
          clear hK x0 x1 x2 x3 x4 x5 x6 x7 x8
          go_wp2_with fail
          refine (HE.out _).mono ?_
          rintro e w3 ⟨rfl, hk3⟩
          have hb3 := hk3.blk (Blk.new wr (entC x) 39) (fun h => h)
          have HB3 := Lib.hid hb3
          have HK3 := Lib.hid ((HK.out.alloc (.cells (entC x).toArray 39)).trans hk3 (fun _ h => h.elim))
          have hn3 : wr.heap.size < w3.heap.size := hb3.lt
          have q0 : (w3.alloc (.cells #[.int .i64 x.id, .int .i64 (posM x 0), .int .i64 (posM x 1), .int .i64 (posM x 2), .int .u16 x.ang, .int .i64 0] 48)).cell? ⟨wr.heap.size, 1, none⟩ = some (.int .i64 (posM x 0)) := (hb3.alloc (exO x)).cell (i := 1) rfl
          have q1 : (w3.alloc (.cells #[.int .i64 x.id, .int .i64 (posM x 0), .int .i64 (posM x 1), .int .i64 (posM x 2), .int .u16 x.ang, .int .i64 0] 48)).cell? ⟨wr.heap.size, 2, none⟩ = some (.int .i64 (posM x 1)) := (hb3.alloc (exO x)).cell (i := 2) rfl
          have q2 : (w3.alloc (.cells #[.int .i64 x.id, .int .i64 (posM x 0), .int .i64 (posM x 1), .int .i64 (posM x 2), .int .u16 x.ang, .int .i64 0] 48)).cell? ⟨wr.heap.size, 3, none⟩ = some (.int .i64 (posM x 2)) := (hb3.alloc (exO x)).cell (i := 3) rfl
          have q3 : (w3.alloc (.cells #[.int .i64 x.id, .int .i64 (posM x 0), .int .i64 (posM x 1), .int .i64 (posM x 2), .int .u16 x.ang, .int .i64 0] 48)).cell? ⟨wr.heap.size, 4, none⟩ = some (.int .i64 (velM x 0)) := (hb3.alloc (exO x)).cell (i := 4) rfl
          have q4 : (w3.alloc (.cells #[.int .i64 x.id, .int .i64 (posM x 0), .int .i64 (posM x 1), .int .i64 (posM x 2), .int .u16 x.ang, .int .i64 0] 48)).cell? ⟨wr.heap.size, 5, none⟩ = some (.int .i64 (velM x 1)) := (hb3.alloc (exO x)).cell (i := 5) rfl
          have q5 : (w3.alloc (.cells #[.int .i64 x.id, .int .i64 (posM x 0), .int .i64 (posM x 1), .int .i64 (posM x 2), .int .u16 x.ang, .int .i64 0] 48)).cell? ⟨wr.heap.size, 6, none⟩ = some (.int .i64 (velM x 2)) := (hb3.alloc (exO x)).cell (i := 6) rfl
          clear hk3 hb3 c0 c1 c2 c3 c4 c5 c6 c7 c8
          go_wp2_with fail
          refine (HG.out (c.extra) _ (by first | exact hex | exact hd)).mono ?_
          rintro e w4 ⟨rfl, hk4⟩
          have P4 := hk4.blk (Blk.new w3 [.int .i64 x.id, .int .i64 (posM x 0), .int .i64 (posM x 1), .int .i64 (posM x 2), .int .u16 x.ang, .int .i64 0] 48) (fun h => h)
          have HP4 := Lib.hid P4
          have HK4 := Lib.hid ((HK3.out.alloc (exO x)).trans hk4 (fun _ h => h.elim))
          have p0 := P4.cell (i := 0) rfl
          have p1 := P4.cell (i := 1) rfl
          have p2 := P4.cell (i := 2) rfl
          have p3 := P4.cell (i := 3) rfl
          have p4 := P4.cell (i := 4) rfl
          have p5 := P4.cell (i := 5) rfl
          have g1 := P4.free 1
          have g2 := P4.free 2
          have g3 := P4.free 3
          have g5 := P4.free 5
          clear q0 q1 q2 q3 q4 q5 hk4 P4
          obtain ⟨j0, hi, hz0, hz1, hz2⟩ := info_parts infoPose
          have HI := Lib.hid hi
          have HZ0 := Lib.hid hz0
          have HZ1 := Lib.hid hz1
          have HZ2 := Lib.hid hz2
          have HSR : Hid (∀ (W : World) (b : Nat), b = W.heap.size → Src (W.alloc (.cells #[.int .i64 x.id, .int .i64 (goM (posM x) (velM x) (c.extra) 0), .int .i64 (goM (posM x) (velM x) (c.extra) 1), .int .i64 (goM (posM x) (velM x) (c.extra) 2), .int .u16 x.ang, .int .i64 4] 48)) (.slice (some ⟨b, 0, none⟩) 1 1) 1 (poseC ⟨x.id, goM (posM x) (velM x) (c.extra), x.ang, 4⟩)) := Lib.hid (fun W b hb => hb ▸ (Sl.made W (poseC ⟨x.id, goM (posM x) (velM x) (c.extra), x.ang, 4⟩) 48 6 1 rfl (by decide)).src)
          have HO : Hid (∀ u ∈ poseC ⟨x.id, goM (posM x) (velM x) (c.extra), x.ang, 4⟩, u.oneCell' = true) := Lib.hid (by simp [Value.oneCell'])
          clear hi hz0 hz1 hz2
          go_wp2_with (at_builtin; refine wpList_append_sl _ rfl _ _ 43 rfl 48 j0 (.agg zpose.toArray) 6 48 Tryz.underlying43 HI.out HZ0.out HZ1.out HZ2.out rfl _ 0 [] none rfl (Sl.nil _ _ _) _ 1 (poseC ⟨x.id, goM (posM x) (velM x) (c.extra), x.ang, 4⟩) rfl (by exact HSR.out _ _ (by simp)) rfl HO.out (by decide) (by decide) ?_; intro v5 w5 own5 hS5 ho5 hK5; have SA := Lib.hid hS5; have OA := Lib.hid ho5; have KA := Lib.hid hK5; clear hS5 ho5 hK5)
          have HF : Hid (OneP 48 6 (poseC ⟨x.id, goM (posM x) (velM x) (c.extra), x.ang, 4⟩) v5 w.heap.size w5 ∧ Kept (fun _ => False) w w5) := Lib.hid (by
            have hw3 := HK3.out.size
            have KW := (((((HK4.out.setCell (a := ⟨w3.heap.size, 5, none⟩) (.inr hw3) _).setCell (a := ⟨w3.heap.size, 1, none⟩) (.inr hw3) _).setCell (a := ⟨w3.heap.size, 2, none⟩) (.inr hw3) _).setCell (a := ⟨w3.heap.size, 3, none⟩) (.inr hw3) _).alloc _).trans KA.out (fun _ h => by cases h)
            refine ⟨?_, KW⟩
            rcases OA.out with e | e
            · have := SA.out
              rw [e] at this
              rcases this.2 with ⟨hh, h2, _⟩ | ⟨_, _, _, _, hh, _⟩
              · cases h2
              · cases hh
            · have := SA.out
              rw [e] at this
              have hw4 := HK4.out.size
              exact ⟨_, this, by simp; omega⟩)
          go_wp2_with fail
          exact ⟨⟨1, _, by simp, rfl, .inr ⟨rfl, HF.out.1, HF.out.2⟩⟩, by simp [intOf]⟩
        · have HP := Lib.hid hP
          have HK := Lib.hid hK
          clear hP hK
          go_wp2_with fail
          go_ret2
          exact ⟨_, rfl, HP.out, HK.out⟩
    · rw [beyP, if_neg h0, if_neg h1]
      go_enter Tryz.func61, Tryz.ntmps61
      go_wp2_with fail
      refine (HC.out _ (by simp only [List.mem_singleton, forall_eq]; exact ⟨_, HN.out.kept ((((Kept.refl (fun _ => False) w).alloc _).alloc _).alloc _)⟩) _ _ (by exact HSL.out _ _)).mono ?_
      rintro e w1 ⟨rfl, hk1⟩
      have HK1 := Lib.hid (((((Kept.refl (fun _ => False) w).alloc _).alloc _).alloc _).trans hk1 (fun _ h => h.elim))
      have BC := hk1.blk (((Blk.new w (cfgC c) 26).alloc _).alloc _) (fun h => h)
      have BN := hk1.blk ((Blk.new_at (w := w.alloc (.cells (cfgC c).toArray 26)) (n := w.heap.size + 1) (by simp) [.int .i64 tk, .int .i64 tm, .slice (some ⟨g, off, none⟩) 1 nc] 42).alloc _) (fun h => h)
      have s0 := BN.cell (i := 0) rfl
      have s1 := BN.cell (i := 1) rfl
      have s2 := BN.cell (i := 2) rfl
      have HBC := Lib.hid BC
      have HBN := Lib.hid BN
      clear hk1 BC BN
      go_wp2_with fail
      refine (HB.out _).mono ?_
      rintro e w2 ⟨rfl, hk2⟩
      have HK2 := Lib.hid (HK1.out.trans hk2 (fun _ h => h.elim))
      have cx := (hk2.blk HBC.out (fun h => h)).cell (i := 9) rfl
      have n2 := (hk2.blk HBN.out (fun h => h)).cell (i := 2) rfl
      clear hk2 s0 s1 s2
      go_wp2_with fail
      first | (go_quiet (fail); go_wp2_with fail) | skip
      go_loopw [12, 45] (fun l i wr => ∃ (k : Nat) (y : Value), i = .int .i64 k ∧ l = y ∧ (k = 0 ∧ y = .slice none 0 0 ∧ Kept (fun _ => False) w wr ∨ k = 1 ∧ OneP 48 6 (poseC ⟨x.id, goM (posM x) (velM x) (D), x.ang, 3⟩) y w.heap.size wr ∧ Kept (fun _ => False) w wr)) (fun _ i _ => (1 - intOf i).toNat)
      case atStart => first | exact ⟨0, _, rfl, rfl, .inl ⟨rfl, rfl, HK2.out⟩⟩ | exact ⟨0, _, rfl, rfl, .inl ⟨rfl, rfl, HK2.out.drewN _⟩⟩
      case round =>
        obtain ⟨k, y, rfl, hy, hk⟩ := hrel
        have hy2 := hy.symm
        clear hy
        subst hy2
        rcases hk with ⟨rfl, rfl, hK⟩ | ⟨rfl, hP, hK⟩
        · have HK := Lib.hid hK
          obtain ⟨x0, x1, x2, x3, x4, x5, x6, x7, x8⟩ := HX.out
          have hgw : g < wr.heap.size := Nat.lt_of_lt_of_le hgl hK.size
          have c0 := hK.cell x0 (fun h => h)
          have c1 := hK.cell x1 (fun h => h)
          have c2 := hK.cell x2 (fun h => h)
          have c3 := hK.cell x3 (fun h => h)
          have c4 := hK.cell x4 (fun h => h)
          have c5 := hK.cell x5 (fun h => h)
          have c6 := hK.cell x6 (fun h => h)
          have c7 := hK.cell x7 (fun h => h)
          have c8 := hK.cell x8 (fun h => h)
          clear hK x0 x1 x2 x3 x4 x5 x6 x7 x8
          go_wp2_with fail
          refine (HE.out _).mono ?_
          rintro e w3 ⟨rfl, hk3⟩
          have hb3 := hk3.blk (Blk.new wr (entC x) 39) (fun h => h)
          have HB3 := Lib.hid hb3
          have HK3 := Lib.hid ((HK.out.alloc (.cells (entC x).toArray 39)).trans hk3 (fun _ h => h.elim))
          have hn3 : wr.heap.size < w3.heap.size := hb3.lt
          have q0 : (w3.alloc (.cells #[.int .i64 x.id, .int .i64 (posM x 0), .int .i64 (posM x 1), .int .i64 (posM x 2), .int .u16 x.ang, .int .i64 0] 48)).cell? ⟨wr.heap.size, 1, none⟩ = some (.int .i64 (posM x 0)) := (hb3.alloc (exO x)).cell (i := 1) rfl
          have q1 : (w3.alloc (.cells #[.int .i64 x.id, .int .i64 (posM x 0), .int .i64 (posM x 1), .int .i64 (posM x 2), .int .u16 x.ang, .int .i64 0] 48)).cell? ⟨wr.heap.size, 2, none⟩ = some (.int .i64 (posM x 1)) := (hb3.alloc (exO x)).cell (i := 2) rfl
          have q2 : (w3.alloc (.cells #[.int .i64 x.id, .int .i64 (posM x 0), .int .i64 (posM x 1), .int .i64 (posM x 2), .int .u16 x.ang, .int .i64 0] 48)).cell? ⟨wr.heap.size, 3, none⟩ = some (.int .i64 (posM x 2)) := (hb3.alloc (exO x)).cell (i := 3) rfl
          have q3 : (w3.alloc (.cells #[.int .i64 x.id, .int .i64 (posM x 0), .int .i64 (posM x 1), .int .i64 (posM x 2), .int .u16 x.ang, .int .i64 0] 48)).cell? ⟨wr.heap.size, 4, none⟩ = some (.int .i64 (velM x 0)) := (hb3.alloc (exO x)).cell (i := 4) rfl
          have q4 : (w3.alloc (.cells #[.int .i64 x.id, .int .i64 (posM x 0), .int .i64 (posM x 1), .int .i64 (posM x 2), .int .u16 x.ang, .int .i64 0] 48)).cell? ⟨wr.heap.size, 5, none⟩ = some (.int .i64 (velM x 1)) := (hb3.alloc (exO x)).cell (i := 5) rfl
          have q5 : (w3.alloc (.cells #[.int .i64 x.id, .int .i64 (posM x 0), .int .i64 (posM x 1), .int .i64 (posM x 2), .int .u16 x.ang, .int .i64 0] 48)).cell? ⟨wr.heap.size, 6, none⟩ = some (.int .i64 (velM x 2)) := (hb3.alloc (exO x)).cell (i := 6) rfl
          clear hk3 hb3 c0 c1 c2 c3 c4 c5 c6 c7 c8
          go_wp2_with fail
          refine (HG.out (D) _ (by first | exact hex | exact hd)).mono ?_
          rintro e w4 ⟨rfl, hk4⟩
          have P4 := hk4.blk (Blk.new w3 [.int .i64 x.id, .int .i64 (posM x 0), .int .i64 (posM x 1), .int .i64 (posM x 2), .int .u16 x.ang, .int .i64 0] 48) (fun h => h)
          have HP4 := Lib.hid P4
          have HK4 := Lib.hid ((HK3.out.alloc (exO x)).trans hk4 (fun _ h => h.elim))
          have p0 := P4.cell (i := 0) rfl
          have p1 := P4.cell (i := 1) rfl
          have p2 := P4.cell (i := 2) rfl
          have p3 := P4.cell (i := 3) rfl
          have p4 := P4.cell (i := 4) rfl
          have p5 := P4.cell (i := 5) rfl
          have g1 := P4.free 1
          have g2 := P4.free 2
          have g3 := P4.free 3
          have g5 := P4.free 5
          clear q0 q1 q2 q3 q4 q5 hk4 P4
          obtain ⟨j0, hi, hz0, hz1, hz2⟩ := info_parts infoPose
          have HI := Lib.hid hi
          have HZ0 := Lib.hid hz0
          have HZ1 := Lib.hid hz1
          have HZ2 := Lib.hid hz2
          have HSR : Hid (∀ (W : World) (b : Nat), b = W.heap.size → Src (W.alloc (.cells #[.int .i64 x.id, .int .i64 (goM (posM x) (velM x) (D) 0), .int .i64 (goM (posM x) (velM x) (D) 1), .int .i64 (goM (posM x) (velM x) (D) 2), .int .u16 x.ang, .int .i64 3] 48)) (.slice (some ⟨b, 0, none⟩) 1 1) 1 (poseC ⟨x.id, goM (posM x) (velM x) (D), x.ang, 3⟩)) := Lib.hid (fun W b hb => hb ▸ (Sl.made W (poseC ⟨x.id, goM (posM x) (velM x) (D), x.ang, 3⟩) 48 6 1 rfl (by decide)).src)
          have HO : Hid (∀ u ∈ poseC ⟨x.id, goM (posM x) (velM x) (D), x.ang, 3⟩, u.oneCell' = true) := Lib.hid (by simp [Value.oneCell'])
          clear hi hz0 hz1 hz2
          go_wp2_with (at_builtin; refine wpList_append_sl _ rfl _ _ 43 rfl 48 j0 (.agg zpose.toArray) 6 48 Tryz.underlying43 HI.out HZ0.out HZ1.out HZ2.out rfl _ 0 [] none rfl (Sl.nil _ _ _) _ 1 (poseC ⟨x.id, goM (posM x) (velM x) (D), x.ang, 3⟩) rfl (by exact HSR.out _ _ (by simp)) rfl HO.out (by decide) (by decide) ?_; intro v5 w5 own5 hS5 ho5 hK5; have SA := Lib.hid hS5; have OA := Lib.hid ho5; have KA := Lib.hid hK5; clear hS5 ho5 hK5)
          have HF : Hid (OneP 48 6 (poseC ⟨x.id, goM (posM x) (velM x) (D), x.ang, 3⟩) v5 w.heap.size w5 ∧ Kept (fun _ => False) w w5) := Lib.hid (by
            have hw3 := HK3.out.size
            have KW := (((((HK4.out.setCell (a := ⟨w3.heap.size, 5, none⟩) (.inr hw3) _).setCell (a := ⟨w3.heap.size, 1, none⟩) (.inr hw3) _).setCell (a := ⟨w3.heap.size, 2, none⟩) (.inr hw3) _).setCell (a := ⟨w3.heap.size, 3, none⟩) (.inr hw3) _).alloc _).trans KA.out (fun _ h => by cases h)
            refine ⟨?_, KW⟩
            rcases OA.out with e | e
            · have := SA.out
              rw [e] at this
              rcases this.2 with ⟨hh, h2, _⟩ | ⟨_, _, _, _, hh, _⟩
              · cases h2
              · cases hh
            · have := SA.out
              rw [e] at this
              have hw4 := HK4.out.size
              exact ⟨_, this, by simp; omega⟩)
          go_wp2_with fail
          exact ⟨⟨1, _, by simp, rfl, .inr ⟨rfl, HF.out.1, HF.out.2⟩⟩, by simp [intOf]⟩
        · have HP := Lib.hid hP
          have HK := Lib.hid hK
          clear hP hK
          go_wp2_with fail
          go_ret2
          exact ⟨_, rfl, HP.out, HK.out⟩
end Go.Proofs.YtekdkckgmleofaaGreat

/- Contract of pose.Between, of snapshots of one entity each, with one Id, angle and Gen. -/
namespace Go.Proofs.YtekdkckgmleofaaGreat
open Go.RowKit
/-- What the way leads to. -/
def WayM (c : Cfg) (x y : EntM) (n k : Nat) (z : Nat → Int) : Prop := (c.curved = true → ∀ j, j < 3 → posM x j = posM y j → z j = posM x j) ∧ (c.curved = false → z = lineM x y n k)
def BtwPost (c : Cfg) (x y : EntM) (n k : Nat) (w : World) (e : Ending) (w' : World) : Prop :=
  ∃ z, WayM c x y n k z ∧ PosePost ⟨x.id, z, x.ang, if c.curved then 2 else 1⟩ w e w'
def PlaceP (c : Cfg) (x y : EntM) (n k : Nat) (w : World) (e : Ending) (w' : World) : Prop := ∃ z : Nat → Int, e = .returned (v3 z) ∧ WayM c x y n k z ∧ Kept (fun _ => False) w w'
theorem eighteen {W : World} {B C : Nat} {x y : EntM} {t u : TypeId} (h : Blk W B (entC x) t) (k : Blk W C (entC y) u) :
    W.cell? ⟨B, 0, none⟩ = some (.int .i64 x.id) ∧ W.cell? ⟨B, 1, none⟩ = some (.int .i64 x.p0) ∧ W.cell? ⟨B, 2, none⟩ = some (.int .i64 x.p1) ∧ W.cell? ⟨B, 3, none⟩ = some (.int .i64 x.p2) ∧ W.cell? ⟨B, 4, none⟩ = some (.int .i64 x.v0) ∧ W.cell? ⟨B, 5, none⟩ = some (.int .i64 x.v1) ∧ W.cell? ⟨B, 6, none⟩ = some (.int .i64 x.v2) ∧ W.cell? ⟨B, 7, none⟩ = some (.int .u16 x.ang) ∧ W.cell? ⟨B, 8, none⟩ = some (.int .u8 x.gen) ∧ W.cell? ⟨C, 0, none⟩ = some (.int .i64 y.id) ∧ W.cell? ⟨C, 1, none⟩ = some (.int .i64 y.p0) ∧ W.cell? ⟨C, 2, none⟩ = some (.int .i64 y.p1) ∧ W.cell? ⟨C, 3, none⟩ = some (.int .i64 y.p2) ∧ W.cell? ⟨C, 4, none⟩ = some (.int .i64 y.v0) ∧ W.cell? ⟨C, 5, none⟩ = some (.int .i64 y.v1) ∧ W.cell? ⟨C, 6, none⟩ = some (.int .i64 y.v2) ∧ W.cell? ⟨C, 7, none⟩ = some (.int .u16 y.ang) ∧ W.cell? ⟨C, 8, none⟩ = some (.int .u8 y.gen) :=
  ⟨h.cell (i := 0) rfl, h.cell (i := 1) rfl, h.cell (i := 2) rfl, h.cell (i := 3) rfl, h.cell (i := 4) rfl, h.cell (i := 5) rfl, h.cell (i := 6) rfl, h.cell (i := 7) rfl, h.cell (i := 8) rfl, k.cell (i := 0) rfl, k.cell (i := 1) rfl, k.cell (i := 2) rfl, k.cell (i := 3) rfl, k.cell (i := 4) rfl, k.cell (i := 5) rfl, k.cell (i := 6) rfl, k.cell (i := 7) rfl, k.cell (i := 8) rfl⟩
def BtwI (c : Cfg) (x y : EntM) (n k : Nat) (m : Int) (w : World) (v : Value) (wr : World) : Prop :=
  ∃ z, WayM c x y n k z ∧ OneP 48 6 (poseC ⟨x.id, z, x.ang, m⟩) v w.heap.size wr ∧ Kept (fun _ => False) w wr
end Go.Proofs.YtekdkckgmleofaaGreat

/- Contract of pose.Between, of snapshots of one entity each, with one Id, angle and Gen: by the way 'curved'. -/
namespace Go.Proofs.YtekdkckgmleofaaGreat
open Go.RowKit
set_option maxRecDepth 100000 in
set_option maxHeartbeats 20000000 in
theorem betweenC_calls (c : Cfg) (hc : COk c) (a b : SnapS) (x y : EntM) (w : World) (ha : SnapAt w a [x]) (hb : SnapAt w b [y]) (at_ : Int) (hab : TimesOk [a, b]) (h1 : a.time ≤ at_) (h2 : at_ ≤ b.time)
    (hid : x.id = y.id) (hgen : x.gen = y.gen) (hang : x.ang = y.ang) (n kk : Nat) (hn : at_ - a.time = n) (hk : b.time - a.time = kk) (h0 : 0 < kk) (hn48 : n < 281474976710656) (hL : c.curved = false → LineOk x y n) (hcu : c.curved = true) :
    Calls Tryz.prog 62 #[cfgV c, sv a, sv b, .int .i64 at_] w (BtwPost c x y n kk w) := by
  have hxo : x.Ok := ha.ok.ok x (by simp)
  have hyo : y.Ok := hb.ok.ok y (by simp)
  have hk62 : kk ≤ 4611686018427387904 := by
    have g1 := hab.bd a (by simp)
    have g2 := hab.bd b (by simp)
    omega
  have hnk : n ≤ kk := by omega
  have HC := Lib.hid (fun W hx v own hv => pcheck_calls c hc [a, b] (by simp) W hx v own hv)
  have HB := Lib.hid (fun W => bpart_calls a b at_ hab h1 h2 W)
  rw [hn, hk] at HB
  have HE := Lib.hid (fun W => pexact_calls x W)
  have HO := Lib.hid (fun W => pof_calls c W)
  have HF := Lib.hid (fun W (h : SnapAt W b [y]) => find_calls b y W h)
  rw [← hid] at HF
  have HA := Lib.hid (fun W => alerp_same x.ang n kk W h0 hk62 hnk hxo.ang)
  have HPL := Lib.hid (fun W (hcu : c.curved = false) => (pplaceL_calls x y hxo hyo n kk W h0 hk62 hnk hn48 (hL hcu)).mono (R' := PlaceP c x y n kk W) (fun e w' h => ⟨_, h.1, ⟨fun g => (by rw [hcu] at g; cases g), fun _ => rfl⟩, h.2⟩))
  have HPC := Lib.hid (fun W (hcu : c.curved = true) => (pplaceC_calls x y hxo hyo n kk W h0 hk62 hnk hn48).mono (R' := PlaceP c x y n kk W) (fun e w' h => by
    obtain ⟨z, he, hz, hk⟩ := h
    exact ⟨z, he, ⟨fun _ j hj => (hz j hj).2, fun g => (by rw [hcu] at g; cases g)⟩, hk⟩))
  have HN := Lib.hid ha
  have HM := Lib.hid hb
  obtain ⟨⟨o, hs⟩, -, -⟩ := ha
  obtain ⟨g, off, cap, ho, hv, hcap, -, hcc, -⟩ := hs.some (by simp)
  simp only [Value.slice.injEq, List.length_singleton] at hv
  obtain ⟨tk, tm, na, nl, nc⟩ := a
  dsimp only at *
  obtain ⟨e1, e2, e3⟩ := hv
  subst e1
  subst e2
  subst e3
  obtain ⟨x0, x1, x2, x3, x4, x5, x6, x7, x8⟩ := ent_at hcc (t := 0) rfl
  simp only [Nat.zero_mul, Nat.add_zero] at x0 x1 x2 x3 x4 x5 x6 x7 x8
  have hgl : g < w.heap.size := lt_of_cell x0
  clear hs hcc
  have HX : Hid (w.cell? ⟨g, off, none⟩ = some (.int .i64 x.id) ∧ w.cell? ⟨g, off + 1, none⟩ = some (.int .i64 x.p0) ∧ w.cell? ⟨g, off + 2, none⟩ = some (.int .i64 x.p1) ∧ w.cell? ⟨g, off + 3, none⟩ = some (.int .i64 x.p2) ∧ w.cell? ⟨g, off + 4, none⟩ = some (.int .i64 x.v0) ∧ w.cell? ⟨g, off + 5, none⟩ = some (.int .i64 x.v1) ∧ w.cell? ⟨g, off + 6, none⟩ = some (.int .i64 x.v2) ∧ w.cell? ⟨g, off + 7, none⟩ = some (.int .u16 x.ang) ∧ w.cell? ⟨g, off + 8, none⟩ = some (.int .u8 x.gen)) := Lib.hid ⟨x0, x1, x2, x3, x4, x5, x6, x7, x8⟩
  clear x0 x1 x2 x3 x4 x5 x6 x7 x8 h1 h2 hn hk h0 hk62 hnk hn48 hL hb hab
  have HSL : Hid (∀ o1 o2 o3, Sl ((((w.alloc o1).alloc o2).alloc o3).alloc (.cells #[.int .i64 tk, .int .i64 tm, .slice (some ⟨g, off, none⟩) 1 nc, .int .i64 b.tick, .int .i64 b.time, .slice b.a b.len b.cap] 42)) (.slice (some ⟨w.heap.size + 1 + 1 + 1, 0, none⟩) 2 2) 42 3 2 (cellsL snC [⟨tk, tm, some ⟨g, off, none⟩, 1, nc⟩, b]) (some (w.heap.size + 1 + 1 + 1))) := Lib.hid (fun o1 o2 o3 => by
    have := Sl.made (((w.alloc o1).alloc o2).alloc o3) (cellsL snC [⟨tk, tm, some ⟨g, off, none⟩, 1, nc⟩, b]) 42 3 2 rfl (by decide)
    rw [size_alloc, size_alloc, size_alloc] at this
    exact this)
  have HID := Lib.hid hid
  have HGEN := Lib.hid hgen
  have HANG := Lib.hid hang
  clear hid hgen hang
  rw [hcu] at HO
  have HCU := Lib.hid hcu
  clear hcu
  replace HO : Hid (∀ W, Calls Tryz.prog 98 #[cfgV c] W fun e w' => e = .returned (.iface 252 (.agg #[])) ∧ Kept (fun _ => False) W w') := HO
  go_enter Tryz.func62, Tryz.ntmps62
  go_wp2_with fail
  refine (HC.out _ (by
    have kk := ((((Kept.refl (fun _ => False) w).alloc (.cells (cfgC c).toArray 26)).alloc (.cells (snC ⟨tk, tm, some ⟨g, off, none⟩, 1, nc⟩).toArray 42)).alloc (.cells (snC b).toArray 42)).alloc (.cells #[.int .i64 tk, .int .i64 tm, .slice (some ⟨g, off, none⟩) 1 nc, .int .i64 b.tick, .int .i64 b.time, .slice b.a b.len b.cap] 42)
    intro s hs
    simp only [List.mem_cons, List.not_mem_nil, or_false] at hs
    rcases hs with rfl | rfl
    · exact ⟨_, HN.out.kept kk⟩
    · exact ⟨_, HM.out.kept kk⟩) _ _ (by exact HSL.out _ _ _)).mono ?_
  rintro e w1 ⟨rfl, hk1⟩
  have HK1 := Lib.hid ((((((Kept.refl (fun _ => False) w).alloc _).alloc _).alloc _).alloc _).trans hk1 (fun _ h => h.elim))
  have BC := hk1.blk ((((Blk.new w (cfgC c) 26).alloc _).alloc _).alloc _) (fun h => h)
  have BN := hk1.blk (((Blk.new_at (w := w.alloc (.cells (cfgC c).toArray 26)) (n := w.heap.size + 1) (by simp) [.int .i64 tk, .int .i64 tm, .slice (some ⟨g, off, none⟩) 1 nc] 42).alloc _).alloc _) (fun h => h)
  have BM := hk1.blk ((Blk.new_at (w := (w.alloc (.cells (cfgC c).toArray 26)).alloc (.cells #[.int .i64 tk, .int .i64 tm, .slice (some ⟨g, off, none⟩) 1 nc] 42)) (n := w.heap.size + 1 + 1) (by simp) [.int .i64 b.tick, .int .i64 b.time, .slice b.a b.len b.cap] 42).alloc _) (fun h => h)
  have s0 := BN.cell (i := 0) rfl
  have s1 := BN.cell (i := 1) rfl
  have s2 := BN.cell (i := 2) rfl
  have m0 := BM.cell (i := 0) rfl
  have m1 := BM.cell (i := 1) rfl
  have m2 := BM.cell (i := 2) rfl
  have HBC := Lib.hid BC
  have HBN := Lib.hid BN
  have HBM := Lib.hid BM
  clear hk1 BC BN BM
  go_wp2_with fail
  refine (HB.out _).mono ?_
  rintro e w2 ⟨rfl, hk2⟩
  have HK2 := Lib.hid (HK1.out.trans hk2 (fun _ h => h.elim))
  have HBC2 := Lib.hid (hk2.blk HBC.out (fun h => h))
  have HBN2 := Lib.hid (hk2.blk HBN.out (fun h => h))
  have HBM2 := Lib.hid (hk2.blk HBM.out (fun h => h))
  have cc := HBC2.out
  have cx0 := cc.cell (i := 0) rfl
  have cx1 := cc.cell (i := 1) rfl
  have cx2 := cc.cell (i := 2) rfl
  have cx3 := cc.cell (i := 3) rfl
  have cx4 := cc.cell (i := 4) rfl
  have cx5 := cc.cell (i := 5) rfl
  have cx6 := cc.cell (i := 6) rfl
  have cx7 := cc.cell (i := 7) rfl
  have cx8 := cc.cell (i := 8) rfl
  have cx9 := cc.cell (i := 9) rfl
  have cx10 := cc.cell (i := 10) rfl
  clear hk2 s0 s1 s2 m0 m1 m2 cc
  go_wp2_with fail
  refine (HO.out _).mono ?_
  rintro e w3 ⟨rfl, hk3⟩
  have HK3 := Lib.hid (HK2.out.trans hk3 (fun _ h => h.elim))
  have HBM3 := Lib.hid (hk3.blk HBM2.out (fun h => h))
  have n2 := (hk3.blk HBN2.out (fun h => h)).cell (i := 2) rfl
  clear hk3 cx0 cx1 cx2 cx3 cx4 cx5 cx6 cx7 cx8 cx9 cx10
  go_wp2_with fail
  go_loopw [15, 45] (fun l i wr => ∃ (k : Nat) (y' : Value), i = .int .i64 k ∧ l = y' ∧ (k = 0 ∧ y' = .slice none 0 0 ∧ Kept (fun _ => False) w3 wr ∨ k = 1 ∧ BtwI c x y n kk 2 w y' wr)) (fun _ i _ => (1 - intOf i).toNat)
  case atStart => exact ⟨0, _, rfl, rfl, .inl ⟨rfl, rfl, Kept.refl _ _⟩⟩
  case round =>
    obtain ⟨k, y', rfl, hy, hk⟩ := hrel
    have hy2 := hy.symm
    clear hy
    subst hy2
    rcases hk with ⟨rfl, rfl, hK⟩ | ⟨rfl, hP⟩
    · have HK := Lib.hid (HK3.out.trans hK (fun _ h => h.elim))
      have HBM4 := Lib.hid (hK.blk HBM3.out (fun h => h))
      obtain ⟨x0, x1, x2, x3, x4, x5, x6, x7, x8⟩ := HX.out
      have hgw : g < wr.heap.size := Nat.lt_of_lt_of_le hgl HK.out.size
      have c0 := HK.out.cell x0 (fun h => h)
      have c1 := HK.out.cell x1 (fun h => h)
      have c2 := HK.out.cell x2 (fun h => h)
      have c3 := HK.out.cell x3 (fun h => h)
      have c4 := HK.out.cell x4 (fun h => h)
      have c5 := HK.out.cell x5 (fun h => h)
      have c6 := HK.out.cell x6 (fun h => h)
      have c7 := HK.out.cell x7 (fun h => h)
      have c8 := HK.out.cell x8 (fun h => h)
      clear hK x0 x1 x2 x3 x4 x5 x6 x7 x8
      go_wp2_with fail
      refine (HE.out _).mono ?_
      rintro e w4 ⟨rfl, hk4⟩
      have HX4 := Lib.hid (hk4.blk (Blk.new wr (entC x) 39) (fun h => h))
      have hn4 : wr.heap.size < w4.heap.size := HX4.out.lt
      have HK4 := Lib.hid ((HK.out.alloc (.cells (entC x).toArray 39)).trans hk4 (fun _ h => h.elim))
      have HBM5 := Lib.hid (hk4.blk (HBM4.out.alloc (.cells (entC x).toArray 39)) (fun h => h))
      have i0 := (HX4.out.alloc (exO x)).cell (i := 0) rfl
      have m0 := (HBM5.out.alloc (exO x)).cell (i := 0) rfl
      have m1 := (HBM5.out.alloc (exO x)).cell (i := 1) rfl
      have m2 := (HBM5.out.alloc (exO x)).cell (i := 2) rfl
      have hbm : w.heap.size + 1 + 1 < wr.heap.size := HBM4.out.lt
      clear hk4 c0 c1 c2 c3 c4 c5 c6 c7 c8
      go_wp2_with fail
      refine (HF.out _ (HM.out.kept (HK4.out.alloc (exO x)))).mono ?_
      rintro e w5 ⟨rfl, hk5⟩
      have hq : ((y.gen : Int) == (x.gen : Int)) = true := by simp [HGEN.out]
      have HX5 := Lib.hid (hk5.blk (HX4.out.alloc (exO x)) (fun h => h))
      have HP5 := Lib.hid (hk5.blk (Blk.new w4 [.int .i64 x.id, .int .i64 (posM x 0), .int .i64 (posM x 1), .int .i64 (posM x 2), .int .u16 x.ang, .int .i64 0] 48) (fun h => h))
      have HK5 := Lib.hid ((HK4.out.alloc (exO x)).trans hk5 (fun _ h => h.elim))
      have hn5 : w4.heap.size < w5.heap.size := HP5.out.lt
      have gx := (HX5.out.alloc (.cells (entC y).toArray 39)).cell (i := 8) rfl
      have px := HX5.out.alloc (.cells (entC y).toArray 39)
      have py := Blk.new w5 (entC y) 39
      obtain ⟨u0, u1, u2, u3, u4, u5, u6, u7, u8⟩ := entb_cells px
      obtain ⟨y0, y1, y2, y3, y4, y5, y6, y7, y8⟩ := entb_cells py
      clear hk5 i0 m0 m1 m2 gx px py
      go_wp2_with fail
      have hm : ∀ W, (method 446 252 (.agg #[]) "afterimage/pose.mode").run Tryz.prog W = .ok (233, .agg #[]) W := fun _ => by kernel_rfl
      have hp : ∀ W, (method 446 252 (.agg #[]) "afterimage/pose.place").run Tryz.prog W = .ok (234, .agg #[]) W := fun _ => by kernel_rfl
      have HPX := Lib.hid (HX5.out.alloc (.cells (entC y).toArray 39))
      have HPY := Lib.hid (Blk.new w5 (entC y) 39)
      have HPP := Lib.hid (HP5.out.alloc (.cells (entC y).toArray 39))
      have HKP := Lib.hid (HK5.out.alloc (.cells (entC y).toArray 39))
      go_region_held3 (fun w' => w'.cell? ⟨wr.heap.size, 0, none⟩ = some (.int .i64 x.id) ∧ w'.cell? ⟨wr.heap.size, 1, none⟩ = some (.int .i64 x.p0) ∧ w'.cell? ⟨wr.heap.size, 2, none⟩ = some (.int .i64 x.p1) ∧ w'.cell? ⟨wr.heap.size, 3, none⟩ = some (.int .i64 x.p2) ∧ w'.cell? ⟨wr.heap.size, 4, none⟩ = some (.int .i64 x.v0) ∧ w'.cell? ⟨wr.heap.size, 5, none⟩ = some (.int .i64 x.v1) ∧ w'.cell? ⟨wr.heap.size, 6, none⟩ = some (.int .i64 x.v2) ∧ w'.cell? ⟨wr.heap.size, 7, none⟩ = some (.int .u16 x.ang) ∧ w'.cell? ⟨wr.heap.size, 8, none⟩ = some (.int .u8 x.gen) ∧ w'.cell? ⟨w5.heap.size, 0, none⟩ = some (.int .i64 y.id) ∧ w'.cell? ⟨w5.heap.size, 1, none⟩ = some (.int .i64 y.p0) ∧ w'.cell? ⟨w5.heap.size, 2, none⟩ = some (.int .i64 y.p1) ∧ w'.cell? ⟨w5.heap.size, 3, none⟩ = some (.int .i64 y.p2) ∧ w'.cell? ⟨w5.heap.size, 4, none⟩ = some (.int .i64 y.v0) ∧ w'.cell? ⟨w5.heap.size, 5, none⟩ = some (.int .i64 y.v1) ∧ w'.cell? ⟨w5.heap.size, 6, none⟩ = some (.int .i64 y.v2) ∧ w'.cell? ⟨w5.heap.size, 7, none⟩ = some (.int .u16 y.ang) ∧ w'.cell? ⟨w5.heap.size, 8, none⟩ = some (.int .u8 y.gen))
        (first | (go_keep; done) | exact eighteen HPX6.out HPY6.out | exact eighteen HPX7.out HPY7.out | (refine eighteen (t := 39) (u := 39) ?_ ?_ <;> (repeat (first | exact HPX7.out | exact HPY7.out | refine Blk.set_ne ?_ (by simp; omega) _))))
        (first
          | (go_at_call 233; refine (pmodeC_calls _).mono ?_; rintro e w6 ⟨rfl, hk6⟩; have HPX6 := Lib.hid (hk6.blk HPX.out.drew (fun h => h)); have HPY6 := Lib.hid (hk6.blk HPY.out.drew (fun h => h)); have HPP6 := Lib.hid (hk6.blk HPP.out.drew (fun h => h)); have HKP6 := Lib.hid (HKP.out.drew.trans hk6 (fun _ h => h.elim)); clear hk6)
          | (go_at_call 234; refine (HPC.out _ HCU.out).mono ?_; rintro e w7 ⟨z, rfl, hz, hk7⟩; have HZ := Lib.hid hz; have HPX7 := Lib.hid (hk7.blk HPX6.out (fun h => h)); have HPY7 := Lib.hid (hk7.blk HPY6.out (fun h => h)); have HPP7 := Lib.hid (hk7.blk HPP6.out (fun h => h)); have HKP7 := Lib.hid (HKP6.out.trans hk7 (fun _ h => h.elim)); have p1 := HPP7.out.cell (i := 1) rfl; have p2 := HPP7.out.cell (i := 2) rfl; have p3 := HPP7.out.cell (i := 3) rfl; have p5 := HPP7.out.cell (i := 5) rfl; have g1 := HPP7.out.free 1; have g2 := HPP7.out.free 2; have g3 := HPP7.out.free 3; have g5 := HPP7.out.free 5; clear hz hk7))
      have HP8 := Lib.hid ((((HPP7.out.set 5 (.int .i64 2)).set 1 (.int .i64 (z 0))).set 2 (.int .i64 (z 1))).set 3 (.int .i64 (z 2)))
      have HX8 := Lib.hid ((((HPX7.out.set_ne (a := ⟨w4.heap.size, 5, none⟩) (by simp; omega) (.int .i64 2)).set_ne (a := ⟨w4.heap.size, 1, none⟩) (by simp; omega) (.int .i64 (z 0))).set_ne (a := ⟨w4.heap.size, 2, none⟩) (by simp; omega) (.int .i64 (z 1))).set_ne (a := ⟨w4.heap.size, 3, none⟩) (by simp; omega) (.int .i64 (z 2)))
      have HY8 := Lib.hid ((((HPY7.out.set_ne (a := ⟨w4.heap.size, 5, none⟩) (by simp; omega) (.int .i64 2)).set_ne (a := ⟨w4.heap.size, 1, none⟩) (by simp; omega) (.int .i64 (z 0))).set_ne (a := ⟨w4.heap.size, 2, none⟩) (by simp; omega) (.int .i64 (z 1))).set_ne (a := ⟨w4.heap.size, 3, none⟩) (by simp; omega) (.int .i64 (z 2)))
      have hw4 := HK4.out.size
      have HK8 := Lib.hid ((((HKP7.out.setCell (a := ⟨w4.heap.size, 5, none⟩) (.inr hw4) (.int .i64 2)).setCell (a := ⟨w4.heap.size, 1, none⟩) (.inr hw4) (.int .i64 (z 0))).setCell (a := ⟨w4.heap.size, 2, none⟩) (.inr hw4) (.int .i64 (z 1))).setCell (a := ⟨w4.heap.size, 3, none⟩) (.inr hw4) (.int .i64 (z 2)))
      generalize ((((w7.setCell ⟨w4.heap.size, 5, none⟩ (.int .i64 2)).setCell ⟨w4.heap.size, 1, none⟩ (.int .i64 (z 0))).setCell ⟨w4.heap.size, 2, none⟩ (.int .i64 (z 1))).setCell ⟨w4.heap.size, 3, none⟩ (.int .i64 (z 2))) = W8 at *
      have HB8 : Hid (Blk W8 w4.heap.size [.int .i64 x.id, .int .i64 (z 0), .int .i64 (z 1), .int .i64 (z 2), .int .u16 x.ang, .int .i64 2] 48) := HP8
      have a1 := HX8.out.cell (i := 7) rfl
      have a2 : W8.cell? ⟨w5.heap.size, 7, none⟩ = some (.int .u16 x.ang) := by rw [HANG.out]; exact HY8.out.cell (i := 7) rfl
      have a3 := HB8.out.cell (i := 4) rfl
      have a4 := HB8.out.free 4
      clear HP8 p1 p2 p3 p5 g1 g2 g3 g5 u0 u1 u2 u3 u4 u5 u6 u7 u8 y0 y1 y2 y3 y4 y5 y6 y7 y8
      go_wp2_with fail
      rw [← HANG.out]
      refine (HA.out _).mono ?_
      rintro e w9 ⟨rfl, n9, rfl⟩
      have HP9 := Lib.hid (HB8.out.drewN n9)
      have p0 := HP9.out.cell (i := 0) rfl
      have p1 := HP9.out.cell (i := 1) rfl
      have p2 := HP9.out.cell (i := 2) rfl
      have p3 := HP9.out.cell (i := 3) rfl
      have p4 := HP9.out.cell (i := 4) rfl
      have p5 := HP9.out.cell (i := 5) rfl
      have g4 := HP9.out.free 4
      clear a1 a2 a3 a4
      obtain ⟨j0, hi, hz0, hz1, hz2⟩ := info_parts infoPose
      have HI := Lib.hid hi
      have HZ0 := Lib.hid hz0
      have HZ1 := Lib.hid hz1
      have HZ2 := Lib.hid hz2
      have HSR : Hid (∀ (W : World) (b : Nat), b = W.heap.size → Src (W.alloc (.cells #[.int .i64 x.id, .int .i64 (z 0), .int .i64 (z 1), .int .i64 (z 2), .int .u16 x.ang, .int .i64 2] 48)) (.slice (some ⟨b, 0, none⟩) 1 1) 1 (poseC ⟨x.id, z, x.ang, 2⟩)) := Lib.hid (fun W b hb => hb ▸ (Sl.made W (poseC ⟨x.id, z, x.ang, 2⟩) 48 6 1 rfl (by decide)).src)
      have HO' : Hid (∀ u ∈ poseC ⟨x.id, z, x.ang, 2⟩, u.oneCell' = true) := Lib.hid (by simp [Value.oneCell'])
      clear hi hz0 hz1 hz2
      go_wp2_with (at_builtin; refine wpList_append_sl _ rfl _ _ 43 rfl 48 j0 (.agg zpose.toArray) 6 48 Tryz.underlying43 HI.out HZ0.out HZ1.out HZ2.out rfl _ 0 [] none rfl (Sl.nil _ _ _) _ 1 (poseC ⟨x.id, z, x.ang, 2⟩) rfl (by exact HSR.out _ _ (by simp)) rfl HO'.out (by decide) (by decide) ?_; intro va wa own5 hS5 ho5 hK5; have SA := Lib.hid hS5; have OA := Lib.hid ho5; have KA := Lib.hid hK5; clear hS5 ho5 hK5)
      have HFF : Hid (BtwI c x y n kk 2 w va wa) := Lib.hid (by
        have KW := (((HK8.out.drewN n9).setCell (a := ⟨w4.heap.size, 4, none⟩) (.inr hw4) _).alloc _).trans KA.out (fun _ h => by cases h)
        refine ⟨z, HZ.out, ?_, KW⟩
        rcases OA.out with e | e
        · have := SA.out
          rw [e] at this
          rcases this.2 with ⟨hh, h2, _⟩ | ⟨_, _, _, _, hh, _⟩
          · cases h2
          · cases hh
        · have := SA.out
          rw [e] at this
          have hw8 := HK8.out.size
          exact ⟨_, this, by simp; omega⟩)
      go_wp2_with fail
      exact ⟨⟨1, _, by simp, rfl, .inr ⟨rfl, HFF.out⟩⟩, by simp [intOf]⟩
    · have HP := Lib.hid hP
      clear hP
      go_wp2_with fail
      go_ret2
      obtain ⟨z, hz, hp, hkk⟩ := HP.out
      exact ⟨z, hz, _, rfl, by rw [HCU.out]; exact hp, hkk⟩
end Go.Proofs.YtekdkckgmleofaaGreat

/- Contract of delta.Find over any entities. -/
namespace Go.Proofs.YtekdkckgmleofaaGreat
open Go.RowKit
theorem find1_any (y : EntM) (idv : Int) (q : Nat) (w : World) (hq : w.cell? ⟨q, 0, none⟩ = some (.int .i64 idv)) :
    Calls Tryz.prog 140 #[entV y, .pointer (some ⟨q, 0, none⟩)] w fun e w' => e = .returned (.bool (y.id == idv)) ∧ Kept (fun _ => False) w w' := by
  have hb := lt_of_cell hq
  have hqa : (w.alloc (.cells (entC y).toArray 39)).cell? ⟨q, 0, none⟩ = some (.int .i64 idv) := ((Kept.refl (fun _ => False) w).alloc _).cell hq (fun h => h)
  go_enter Tryz.func140, Tryz.ntmps140
  go_wp2_with fail
  go_ret
  exact ⟨by first | rfl | simp, (Kept.refl _ w).alloc _⟩
def IxPost (n : Nat) (w : World) (e : Ending) (w' : World) : Prop := ∃ r : Int, e = .returned (.int .i64 r) ∧ (r = -1 ∨ 0 ≤ r ∧ r < n) ∧ Kept (fun _ => False) w w'
set_option maxRecDepth 100000 in
set_option maxHeartbeats 1000000 in
theorem indexG_calls (xs : List EntM) (idv : Int) (q : Nat) (w : World) (v : Value) (own : Option Nat) (hv : Sl w v 39 9 xs.length (cellsL entC xs) own) (hl : xs.length ≤ 1000) (hq : w.cell? ⟨q, 0, none⟩ = some (.int .i64 idv)) :
    Calls Tryz.prog 139 #[v, .func (.func 140) #[] #[.pointer (some ⟨q, 0, none⟩)]] w (IxPost xs.length w) := by
  obtain ⟨a, cap, rfl, -, hcm⟩ := hv.form
  have HV := Lib.hid hv
  have HF := Lib.hid (fun y W (h : Kept (fun _ => False) w W) => find1_any y idv q W (h.cell hq (fun h => h)))
  clear hv hq
  go_enter Tryz.func139, Tryz.ntmps139
  go_wp2_with fail
  go_loopw [8] (fun i wr => ∃ k : Nat, k ≤ xs.length ∧ i = .int .i64 k ∧ Kept (fun _ => False) w wr) (fun i _ => (xs.length - intOf i).toNat)
  case atStart => exact ⟨0, by omega, rfl, Kept.refl _ _⟩
  case round =>
    obtain ⟨k, hk, rfl, hK⟩ := hrel
    have HK := Lib.hid hK
    clear hK
    by_cases hlt : k < xs.length
    · obtain ⟨y, hyk⟩ : ∃ y, xs[k]? = some y := ⟨_, List.getElem?_eq_getElem hlt⟩
      obtain ⟨g, off, cap', ho, hvv, -, -, hc, -⟩ := HV.out.some (by omega)
      cases hvv
      obtain ⟨c0, c1, c2, c3, c4, c5, c6, c7, c8⟩ := ent_at (w := wr) (fun j u hu => HK.out.cell (hc j u hu) (fun h => h)) hyk
      have HQ := Lib.hid (HF.out y wr HK.out)
      clear hc hyk
      generalize (y.id == idv) = b at HQ
      go_wp2_with fail
      refine HQ.out.mono ?_
      rintro e w2 ⟨rfl, hk2⟩
      have HK2 := Lib.hid (HK.out.trans hk2 (fun _ h => h.elim))
      clear c0 c1 c2 c3 c4 c5 c6 c7 c8 hk2
      cases b with
      | true =>
        go_wp2_with fail
        refine bodyPost_ret (results_tmp rfl _ _ _) rfl ?_
        exact ⟨(k : Int), rfl, .inr ⟨by omega, by omega⟩, HK2.out⟩
      | false =>
        go_wp2_with fail
        exact ⟨⟨k + 1, by omega, by simp, HK2.out⟩, by simp [intOf]; omega⟩
    · go_wp2_with fail
      refine bodyPost_ret (results_tmp rfl _ _ _) rfl ?_
      exact ⟨-1, rfl, .inl rfl, HK.out⟩
def FindAny (w : World) (e : Ending) (w' : World) : Prop := ∃ (y : EntM) (ok : Bool), e = .returned (.tuple #[entV y, .bool ok]) ∧ y.Ok ∧ Kept (fun _ => False) w w'
theorem zeroE_ok : EntM.Ok ⟨0, 0, 0, 0, 0, 0, 0, 0, 0⟩ := ⟨by simp [EntM.ns], by decide, by decide, by decide, by decide⟩
set_option maxRecDepth 100000 in
set_option maxHeartbeats 1000000 in
theorem find_any (s : SnapS) (xs : List EntM) (idv : Int) (w : World) (h : SnapAt w s xs) (hl : xs.length ≤ 1000) :
    Calls Tryz.prog 99 #[sv s, .int .i64 idv] w (FindAny w) := by
  obtain ⟨⟨o, hs⟩, hok, -⟩ := h
  obtain ⟨tk, tm, na, nl, nc⟩ := s
  dsimp only at *
  obtain ⟨a, cap, hv, -, hcm⟩ := hs.form
  simp only [Value.slice.injEq] at hv
  obtain ⟨rfl, rfl, rfl⟩ := hv
  have HXO := Lib.hid hok.ok
  have HV := Lib.hid hs
  have K0 := (((Kept.refl (fun _ => False) w).alloc (.cells (snC ⟨tk, tm, na, xs.length, nc⟩).toArray 42)).alloc (.cells #[.int .i64 idv] 3)).alloc (.cells #[.int .i64 0, .int .i64 0, .int .i64 0, .int .i64 0, .int .i64 0, .int .i64 0, .int .i64 0, .int .u16 0, .int .u8 0] 39)
  clear hs hok
  go_enter Tryz.func99, Tryz.ntmps99
  go_wp2_with fail
  refine (indexG_calls xs idv _ _ _ o (HV.out.kept K0 (fun _ _ h => h)) hl (by
    exact ((Blk.new_at (w := w.alloc (.cells #[.int .i64 tk, .int .i64 tm, .slice na xs.length nc] 42)) (n := w.heap.size + 1) (by simp) [.int .i64 idv] 3).alloc _).cell (i := 0) rfl)).mono ?_
  rintro e w2 ⟨r, rfl, hr, hk2⟩
  have hk2' : Kept (fun _ => False) (((w.alloc (.cells #[.int .i64 tk, .int .i64 tm, .slice na xs.length nc] 42)).alloc (.cells #[.int .i64 idv] 3)).alloc (.cells #[.int .i64 0, .int .i64 0, .int .i64 0, .int .i64 0, .int .i64 0, .int .i64 0, .int .i64 0, .int .u16 0, .int .u8 0] 39)) w2 := hk2
  have S2 := hk2'.blk (((Blk.new w [.int .i64 tk, .int .i64 tm, .slice na xs.length nc] 42).alloc _).alloc _) (fun h => h)
  have R2 := hk2'.blk (Blk.new_at (w := (w.alloc (.cells #[.int .i64 tk, .int .i64 tm, .slice na xs.length nc] 42)).alloc (.cells #[.int .i64 idv] 3)) (n := w.heap.size + 1 + 1) (by simp) [.int .i64 0, .int .i64 0, .int .i64 0, .int .i64 0, .int .i64 0, .int .i64 0, .int .i64 0, .int .u16 0, .int .u8 0] 39) (fun h => h)
  have s2 := S2.cell (i := 2) rfl
  have kw : Kept (fun _ => False) w w2 := ((((Kept.refl (fun _ => False) w).alloc _).alloc _).alloc _).trans hk2' (fun _ h => h.elim)
  have HK := Lib.hid kw
  have HR := Lib.hid R2
  clear hk2 hk2' S2 R2 kw K0
  rcases hr with rfl | ⟨hr0, hr1⟩
  · skip
    have f0 := HR.out.free 0
    have f1 := HR.out.free 1
    have f2 := HR.out.free 2
    have f3 := HR.out.free 3
    have f4 := HR.out.free 4
    have f5 := HR.out.free 5
    have f6 := HR.out.free 6
    have f7 := HR.out.free 7
    have f8 := HR.out.free 8
    have r0 := HR.out.cell (i := 0) rfl
    have r1 := HR.out.cell (i := 1) rfl
    have r2 := HR.out.cell (i := 2) rfl
    have r3 := HR.out.cell (i := 3) rfl
    have r4 := HR.out.cell (i := 4) rfl
    have r5 := HR.out.cell (i := 5) rfl
    have r6 := HR.out.cell (i := 6) rfl
    have r7 := HR.out.cell (i := 7) rfl
    have r8 := HR.out.cell (i := 8) rfl
    go_wp2_with fail
    have t0 := (HR.out.set 0 (.int .i64 0)).cell (i := 0) rfl
    have t1 := ((HR.out.set 0 (.int .i64 0)).set 1 (.int .i64 0)).cell (i := 1) rfl
    have t2 := (((HR.out.set 0 (.int .i64 0)).set 1 (.int .i64 0)).set 2 (.int .i64 0)).cell (i := 2) rfl
    have t3 := ((((HR.out.set 0 (.int .i64 0)).set 1 (.int .i64 0)).set 2 (.int .i64 0)).set 3 (.int .i64 0)).cell (i := 3) rfl
    have t4 := (((((HR.out.set 0 (.int .i64 0)).set 1 (.int .i64 0)).set 2 (.int .i64 0)).set 3 (.int .i64 0)).set 4 (.int .i64 0)).cell (i := 4) rfl
    have t5 := ((((((HR.out.set 0 (.int .i64 0)).set 1 (.int .i64 0)).set 2 (.int .i64 0)).set 3 (.int .i64 0)).set 4 (.int .i64 0)).set 5 (.int .i64 0)).cell (i := 5) rfl
    have t6 := (((((((HR.out.set 0 (.int .i64 0)).set 1 (.int .i64 0)).set 2 (.int .i64 0)).set 3 (.int .i64 0)).set 4 (.int .i64 0)).set 5 (.int .i64 0)).set 6 (.int .i64 0)).cell (i := 6) rfl
    have t7 := ((((((((HR.out.set 0 (.int .i64 0)).set 1 (.int .i64 0)).set 2 (.int .i64 0)).set 3 (.int .i64 0)).set 4 (.int .i64 0)).set 5 (.int .i64 0)).set 6 (.int .i64 0)).set 7 (.int .u16 0)).cell (i := 7) rfl
    have t8 := (((((((((HR.out.set 0 (.int .i64 0)).set 1 (.int .i64 0)).set 2 (.int .i64 0)).set 3 (.int .i64 0)).set 4 (.int .i64 0)).set 5 (.int .i64 0)).set 6 (.int .i64 0)).set 7 (.int .u16 0)).set 8 (.int .u8 0)).cell (i := 8) rfl
    refine bodyPost_ret (v := .tuple #[entV ⟨0, 0, 0, 0, 0, 0, 0, 0, 0⟩, .bool false]) (by simp [results, Tryz.f99, Tryz.results99, go_sem, t0, t1, t2, t3, t4, t5, t6, t7, t8]) rfl ⟨⟨0, 0, 0, 0, 0, 0, 0, 0, 0⟩, false, rfl, zeroE_ok, putEnt_kept HK.out (.inr (by omega)) ⟨0, 0, 0, 0, 0, 0, 0, 0, 0⟩⟩
  · obtain ⟨k, rfl⟩ : ∃ k : Nat, r = k := ⟨r.toNat, by omega⟩
    have hlt : k < xs.length := by omega
    obtain ⟨y, hyk⟩ : ∃ y, xs[k]? = some y := ⟨_, List.getElem?_eq_getElem hlt⟩
    obtain ⟨g, off, cap', ho, hvv, -, -, hc, -⟩ := HV.out.some (by omega)
    cases hvv
    obtain ⟨c0, c1, c2, c3, c4, c5, c6, c7, c8⟩ := ent_at (w := w2) (fun j u hu => HK.out.cell (hc j u hu) (fun h => h)) hyk
    have HYO := Lib.hid (HXO.out y (List.mem_of_getElem? hyk))
    have hgl : g < w.heap.size := HV.out.lt ho
    have hneg : ¬ (k : Int) < 0 := by omega
    clear hc hyk
    have f0 := HR.out.free 0
    have f1 := HR.out.free 1
    have f2 := HR.out.free 2
    have f3 := HR.out.free 3
    have f4 := HR.out.free 4
    have f5 := HR.out.free 5
    have f6 := HR.out.free 6
    have f7 := HR.out.free 7
    have f8 := HR.out.free 8
    have r0 := HR.out.cell (i := 0) rfl
    have r1 := HR.out.cell (i := 1) rfl
    have r2 := HR.out.cell (i := 2) rfl
    have r3 := HR.out.cell (i := 3) rfl
    have r4 := HR.out.cell (i := 4) rfl
    have r5 := HR.out.cell (i := 5) rfl
    have r6 := HR.out.cell (i := 6) rfl
    have r7 := HR.out.cell (i := 7) rfl
    have r8 := HR.out.cell (i := 8) rfl
    go_wp2_with fail
    obtain ⟨t0, t1, t2, t3, t4, t5, t6, t7, t8⟩ := entb_cells (putEnt_blk HR.out y)
    refine bodyPost_ret (v := .tuple #[entV y, .bool true]) (by simp [results, Tryz.f99, Tryz.results99, go_sem, t0, t1, t2, t3, t4, t5, t6, t7, t8]) rfl ⟨y, true, rfl, HYO.out, putEnt_kept HK.out (.inr (by omega)) y⟩
end Go.Proofs.YtekdkckgmleofaaGreat
