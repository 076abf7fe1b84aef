/- Joined texts. -/
import Derived.Test.YtekdkckgmleofaaGreatXs17
import Derived.Deep.RegionHeld3
import Derived.Laws.EntriesVeiled
import Derived.ChangeKeysEq
import Derived.Test.YtekdkckgmleofaaGreatXs15
set_option linter.unusedVariables false
set_option linter.unusedSimpArgs false
/- Contracts of package record's functions along the way of kind Put: kinds, Check, Write. -/
namespace Go.Proofs.YtekdkckgmleofaaGreat
open Go.RowKit

/-- An entity. -/
structure EntM where
  id : Int
  p0 : Int
  p1 : Int
  p2 : Int
  v0 : Int
  v1 : Int
  v2 : Int
  ang : Nat
  gen : Nat
abbrev EntM.ns (x : EntM) : List Int := [x.p0, x.p1, x.p2, x.v0, x.v1, x.v2]
structure EntM.Ok (x : EntM) : Prop where
  ns : ∀ n ∈ x.ns, -9223372036854775808 ≤ n ∧ n ≤ 9223372036854775807
  ang : x.ang ≤ 65535
  gen : x.gen ≤ 255
  id0 : 0 ≤ x.id
  id1 : x.id ≤ 65535
abbrev entC (x : EntM) : List Value := [.int .i64 x.id, .int .i64 x.p0, .int .i64 x.p1, .int .i64 x.p2, .int .i64 x.v0, .int .i64 x.v1, .int .i64 x.v2, .int .u16 x.ang, .int .u8 x.gen]
abbrev entV (x : EntM) : Value := .agg (entC x).toArray
/-- The record that tells of a new entity. -/
abbrev putR (x : EntM) : RecM := ⟨0, x.id, x.p0, x.p1, x.p2, x.v0, x.v1, x.v2, x.ang⟩
theorem putR_ok {x : EntM} (h : x.Ok) : (putR x).Ok := ⟨h.ns, h.ang⟩
abbrev fnV (f : Nat) : Value := .func (.func f) #[] #[]
abbrev kindsV : Value := .agg #[fnV 170, fnV 171, fnV 172, fnV 173, fnV 168, fnV 169, fnV 170, fnV 171]
set_option maxRecDepth 100000 in
theorem kinds_calls (w : World) :
    Calls Tryz.prog 134 #[] w fun e w' => e = .returned kindsV ∧ Kept (fun _ => False) w w' := by
  go_enter Tryz.func134, Tryz.ntmps134
  go_wp2_with fail
  refine bodyPost_ret (v := kindsV) (by simp [results, Tryz.f134, Tryz.results134, go_sem]) rfl ⟨rfl, ?_⟩
  exact ((Kept.refl (fun _ => False) w).alloc _).alloc _
set_option maxRecDepth 100000 in
theorem check_put (x : EntM) (w : World) (h0 : 0 ≤ x.id) (h1 : x.id ≤ 65535) :
    Calls Tryz.prog 133 #[recV (putR x)] w fun e w' => e = .returned (.int .i64 0) ∧ Kept (fun _ => False) w w' := by
  have h2 : ¬ x.id < 0 := by omega
  have h3 : ¬ 65535 < x.id := by omega
  go_enter Tryz.func133, Tryz.ntmps133
  go_wp2_with fail
  go_ret
  exact ⟨rfl, ((Kept.refl (fun _ => False) w).alloc _).alloc _⟩
end Go.Proofs.YtekdkckgmleofaaGreat

/- Two places are the same. -/
namespace Go.Proofs.YtekdkckgmleofaaGreat
open Go.RowKit
theorem eq36g (d : Nat) (p q r : Int) (W : World) : Sem.run Tryz.prog (Op.equalIn (d + 2) 36 (.agg #[.int .i64 p, .int .i64 q, .int .i64 r]) (.agg #[.int .i64 p, .int .i64 q, .int .i64 r])) W = .ok true W := by
  have hi : ∃ i, Tryz.prog.info? 2 = some i := by
    have h : (Tryz.prog.info? 2).isSome = true := by kernel_rfl
    exact Option.isSome_iff_exists.1 h
  obtain ⟨i, hi⟩ := hi
  have he : Tryz.prog.plainKey 2 = true := by kernel_rfl
  have hc : Tryz.prog.cellsOf 2 = 1 := by kernel_rfl
  have hu := Tryz.underlying2
  have h0 := run_part_plain (P := Tryz.prog) W he (xs := #[.int .i64 p, .int .i64 q, .int .i64 r]) (off := 0) (v := .int .i64 p) rfl
  have h1 := run_part_plain (P := Tryz.prog) W he (xs := #[.int .i64 p, .int .i64 q, .int .i64 r]) (off := 1) (v := .int .i64 q) rfl
  have h2 := run_part_plain (P := Tryz.prog) W he (xs := #[.int .i64 p, .int .i64 q, .int .i64 r]) (off := 2) (v := .int .i64 r) rfl
  have e0 := run_equalIn_int (P := Tryz.prog) W d 2 .i64 .i64 p p hu
  have e1 := run_equalIn_int (P := Tryz.prog) W d 2 .i64 .i64 q q hu
  have e2 := run_equalIn_int (P := Tryz.prog) W d 2 .i64 .i64 r r hu
  rw [run_equalIn_array (P := Tryz.prog) (w := W) (d + 1) _ _ Tryz.underlying36 hi, hc]
  simp only [beq_self_eq_true] at e0 e1 e2
  show Sem.run Tryz.prog (Op.eqItems (d + 1) 2 1 _ _ [0, 1, 2]) W = _
  simp only [Op.eqItems, Sem.run_bind, Nat.mul_one, h0, h1, h2, e0, e1, e2, Result.andThen_ok, Bool.not_true, Bool.false_eq_true, if_false, Sem.run_pure]
end Go.Proofs.YtekdkckgmleofaaGreat

/- Contracts of package record's functions along the way of kind Put: Write. -/
namespace Go.Proofs.YtekdkckgmleofaaGreat
open Go.RowKit

/-- The bytes of a record that tells of a new entity, behind one of the entity 'last'. -/
def recL (x : EntM) (last : Int) : List Nat := (putL (x.id - last - 1).toNat ++ [0]) ++ wholeL (putR x)
def RecPost (x : EntM) (last : Int) (w : World) (e : Ending) (w' : World) : Prop :=
  ∃ v g, e = .returned (.tuple #[v, .int .i64 0]) ∧ Sl w' v 5 1 (recL x last).length (u8s (recL x last)) (some g) ∧ w.heap.size ≤ g ∧ Kept (fun _ => False) w w'
theorem Src.drew {w : World} {x : Value} {m : Nat} {news : List Value} (h : Src w x m news) : Src w.drew x m news := h
theorem src_one (W : World) (v : Value) (e : TypeId) : Src (W.alloc (.cells #[v] e)) (.slice (some ⟨W.heap.size, 0, none⟩) 1 1) 1 [v] :=
  (Sl.made W [v] e 1 1 rfl (by decide)).src
theorem kinds_ix (W : World) : (Instr.index 245 kindsV (.int .i64 0)).run Tryz.prog W = .ok (.agg #[fnV 170, fnV 171]) W := by
  kernel_rfl
theorem kinds_fd (W : World) : (Instr.field 244 (.agg #[fnV 170, fnV 171]) 0).run Tryz.prog W = .ok (fnV 170) W := by
  kernel_rfl
set_option maxRecDepth 100000 in
set_option maxHeartbeats 2000000 in
theorem write_put (x : EntM) (hx : x.Ok) (last : Int) (w : World) (h1 : -1 ≤ last) (h2 : last < x.id) :
    Calls Tryz.prog 89 #[recV (putR x), .int .i64 last] w (RecPost x last w) := by
  have i0 := hx.id0
  have i1 := hx.id1
  have HC := Lib.hid (fun W => check_put x W i0 i1)
  have HKD := Lib.hid (fun W => kinds_calls W)
  have hpb : (x.id - last - 1).toNat < 18446744073709551616 := by omega
  have HP := Lib.hid (fun W => put_calls (x.id - last - 1).toNat W hpb)
  have e1 : (((x.id - last - 1).toNat : Nat) : Int) = x.id - last - 1 := by omega
  have hs10 := (sizeM_bd (x.id - last - 1).toNat hpb).2.1
  rw [e1] at HP
  unfold PutPost at HP
  rw [show sizeM (x.id - last - 1).toNat = (putL (x.id - last - 1).toNat).length from (putL_len _).symm] at HP hs10
  have HRL : Hid (recL x last = (putL (x.id - last - 1).toNat ++ [0]) ++ wholeL (putR x)) := Lib.hid rfl
  have HWA := Lib.hid (fun (l : List Nat) (q : Nat) (W : World) (v : Value) (own : Option Nat) => writeAll_calls (putR x) (putR_ok hx) q l W v own)
  generalize putL (x.id - last - 1).toNat = t at *
  obtain ⟨j0, hi, hz0, hz1, hz2⟩ := info_parts info8
  have HI := Lib.hid hi
  have HZ0 := Lib.hid hz0
  have HZ1 := Lib.hid hz1
  have HZ2 := Lib.hid hz2
  have HSR := Lib.hid (fun (W : World) => src_one W (.int .u8 0) 5)
  have N1 : Hid (t.length + 1 ≤ maxLen) := Lib.hid (by unfold maxLen; omega)
  have N2 : Hid ((t.length + 1) * 1 ≤ 140737488355328) := Lib.hid (by omega)
  have HO : Hid (∀ u ∈ [Value.int .u8 0], u.oneCell' = true) := Lib.hid (by simp [Value.oneCell'])
  clear hi hz0 hz1 hz2 e1 hpb
  have h3 : ¬ last < -1 := by omega
  have h4 : ¬ 65535 < last := by omega
  have h5 : ¬ x.id ≤ last := by omega
  have HX := Lib.hid hx
  clear hx
  go_enter Tryz.func89, Tryz.ntmps89
  go_wp2_with fail
  refine (HC.out _).mono ?_
  rintro e w1 ⟨rfl, hk1⟩
  have B := hk1.blk (Blk.new w (recC (putR x)) 175) (fun h => h)
  have K : Kept (fun _ => False) w w1 := ((Kept.refl (fun _ => False) w).alloc _).trans hk1 (fun _ h => h.elim)
  clear hk1
  have hbl := B.lt
  have b0 := B.cell (i := 0) rfl
  have b1 := B.cell (i := 1) rfl
  have HB := Lib.hid B
  have HK := Lib.hid K
  clear B K
  go_wp2_with fail
  have q1 : IntKind.i64.wrap (x.id - last) = x.id - last := IntWalk.i64_in _ (by omega)
  have q2 : IntKind.i64.wrap (x.id - last - 1) = x.id - last - 1 := IntWalk.i64_in _ (by omega)
  have q3 : IntKind.u64.wrap (x.id - last - 1) = x.id - last - 1 := IntWalk.u64_in _ (by omega)
  have q4 : IntKind.u8.wrap 0 = 0 := by kernel_rfl
  go_region_held3 (fun w' => w'.cell? ⟨w.heap.size, 0, none⟩ = some (.int .i64 0) ∧ w'.cell? ⟨w.heap.size, 1, none⟩ = some (.int .i64 x.id))
    (first | (go_keep; done) | (refine ⟨hk2.cell ?_ (fun h => h), hk2.cell ?_ (fun h => h)⟩ <;> simp [*]) | (go_split_ands; exact ⟨hk3.cell (by assumption) (fun e => by have e2 : g2 = w.heap.size := Option.some.inj e; simp at hg2; omega), hk3.cell (by assumption) (fun e => by have e2 : g2 = w.heap.size := Option.some.inj e; simp at hg2; omega)⟩))
    ((first
      | (go_at_call 132; refine (HP.out _).mono ?_; rintro e w2 ⟨v2, g2, rfl, hS2, hg2, hk2⟩)
      | (refine step_append_sl _ (by rfl) _ _ _ (by rfl) 5 j0 (.int .u8 0) 1 1 Tryz.underlying23 HI.out HZ0.out HZ1.out HZ2.out rfl _ t.length (u8s t) (some g2) (by rfl) (by first | exact hS2 | exact hS2.alloc _ | exact hS2.drew.alloc _) _ 1 [.int .u8 0] (by rfl) (by first | exact HSR.out _ | exact (HSR.out _).kept hk2 | exact (HSR.out _).drew.kept hk2) rfl HO.out N1.out N2.out ?_; intro v3 w3 o3 hS3 ho3 hk3)))
  all_goals
    have HMI : Hid (∃ Wp, Kept (fun _ => False) w1 Wp ∧ Kept (fun k => some g2 = some k) Wp w3 ∧ (o3 = some g2 ∨ o3 = some Wp.heap.size)) := Lib.hid (by
      first
      | exact ⟨_, ((Kept.refl _ w1).drew.trans hk2 (fun _ h => .inl h)).alloc _, hk3, ho3⟩
      | exact ⟨_, ((Kept.refl _ w1).alloc _).drew.trans hk2 (fun _ h => .inl h), hk3, ho3⟩)
    have hg3 : w.heap.size < g2 := by
      have := hg2
      simp at this
      omega
    have HF : Hid (Blk w3 w.heap.size (recC (putR x)) 175 ∧ Kept (fun _ => False) w w3 ∧ ∃ g, o3 = some g ∧ w.heap.size < g) := Lib.hid (by
      obtain ⟨Wp, k1, k3, ho⟩ := HMI.out
      have z1 := k1.size
      refine ⟨k3.blk (k1.blk HB.out (fun h => h)) (fun e => ?_), (HK.out.trans k1 (fun _ h => .inl h)).trans k3 (fun i hi => .inr ?_), ?_⟩
      · have e2 : g2 = w.heap.size := Option.some.inj e
        omega
      · have e2 : g2 = i := Option.some.inj hi
        omega
      · rcases ho with e | e
        · exact ⟨_, e, hg3⟩
        · exact ⟨_, e, by omega⟩)
    have HS3 : Hid (Sl w3 v3 5 1 (t ++ [0]).length (u8s (t ++ [0])) o3) := Lib.hid (by
      rw [List.length_append, u8s_app]; exact hS3)
    have HL5 : Hid ((t ++ [0]).length ≤ 5000) := Lib.hid (by rw [List.length_append]; simp; omega)
    have c0 := HF.out.1.cell (i := 0) rfl
    obtain ⟨g3, ho3', hg3'⟩ := HF.out.2.2
    have HO3 := Lib.hid ho3'
    have HNE : Hid (o3 ≠ some w.heap.size) := Lib.hid (by rw [ho3']; intro e; have := Option.some.inj e; omega)
    have hix := kinds_ix
    have hfd := kinds_fd
    clear hS2 hg2 hk2 hS3 ho3 hk3 HMI hg3 b0 b1 hbl HB HK q1 q2 q3 q4 ho3'
    go_wp2_with fail
    go_region_held3 (fun w' => w'.cell? ⟨w.heap.size, 0, none⟩ = some (.int .i64 0))
      (first | (go_keep; done) | exact hk5.cell (by assumption) HNE.out | exact hk4.cell (by assumption) (fun h => h))
      ((first
        | (go_at_call 134; refine (HKD.out _).mono ?_; rintro e w4 ⟨rfl, hk4⟩)
        | (go_at_call 170; refine (HWA.out (t ++ [0]) w.heap.size _ v3 o3 (HS3.out.drew.kept hk4 (fun _ _ h => h)) HL5.out (hk4.blk HF.out.1.drew (fun h => h)) HNE.out).mono ?_; rintro e w5 ⟨v5, o5, rfl, hS5, ho5, hk5⟩)))
    all_goals
      have HS5 := Lib.hid hS5
      have HO5 := Lib.hid ho5
      have HK5 := Lib.hid hk5
      have HK4 := Lib.hid hk4
      clear hS5 ho5 hk5 hk4 c0 hix hfd
      go_wp2_with fail
      go_ret2
      have z4 := HK4.out.size
      have z3 := HF.out.2.1.size
      have zz : w3.heap.size ≤ w4.heap.size := z4
      have KK := ((HF.out.2.1.drew.trans HK4.out (fun _ h => .inl h))).trans HK5.out (fun i hi => .inr (by rw [HO3.out] at hi; have := Option.some.inj hi; omega))
      rcases HO5.out with e | ⟨g, e, hg⟩
      · exact ⟨v5, g3, rfl, by rw [HRL.out, ← HO3.out, ← e]; exact HS5.out, by omega, KK⟩
      · exact ⟨v5, g, rfl, by rw [HRL.out, ← e]; exact HS5.out, by omega, KK⟩
end Go.Proofs.YtekdkckgmleofaaGreat

/- Contracts of package record's functions along the way of kind Put: readAll. -/
namespace Go.Proofs.YtekdkckgmleofaaGreat
open Go.RowKit

/-- The row l lies in bs from a on. -/
def At (bs : List Nat) (a : Nat) (l : List Nat) : Prop := ∀ i, i < l.length → bs[a + i]? = l[i]?
theorem At.left {bs : List Nat} {a : Nat} {l m : List Nat} (h : At bs a (l ++ m)) : At bs a l := fun i hi => by
  have := h i (by rw [List.length_append]; omega)
  rw [this, List.getElem?_append_left hi]
theorem At.right {bs : List Nat} {a : Nat} {l m : List Nat} (h : At bs a (l ++ m)) : At bs (a + l.length) m := fun i hi => by
  have := h (l.length + i) (by rw [List.length_append]; omega)
  rw [Nat.add_assoc, this, List.getElem?_append_right (by omega)]
  congr 1
  omega
theorem At.put {bs : List Nat} {a x : Nat} (h : At bs a (putL x)) : ∀ i, i < sizeM x → bs[a + i]? = some (putB x i) := fun i hi => by
  rw [h i (by rw [putL_len]; exact hi), putL_get x i hi]
theorem At.num {bs : List Nat} {a : Nat} {n : Int} (h : At bs a (numL n)) : NumAt bs a n := fun i hi => h.put i hi
theorem At.one {bs : List Nat} {a c : Nat} (h : At bs a [c]) : bs[a]? = some c := by simpa using h 0 (by simp)
theorem wholeL_eq (x : EntM) : wholeL (putR x) = numL x.p0 ++ (numL x.p1 ++ (numL x.p2 ++ (numL x.v0 ++ (numL x.v1 ++ (numL x.v2 ++ putL x.ang))))) := by
  simp [wholeL, allL]

theorem i64_of {x : EntM} (h : x.Ok) : (-9223372036854775808 ≤ x.p0 ∧ x.p0 ≤ 9223372036854775807) ∧ (-9223372036854775808 ≤ x.p1 ∧ x.p1 ≤ 9223372036854775807) ∧ (-9223372036854775808 ≤ x.p2 ∧ x.p2 ≤ 9223372036854775807) ∧ (-9223372036854775808 ≤ x.v0 ∧ x.v0 ≤ 9223372036854775807) ∧ (-9223372036854775808 ≤ x.v1 ∧ x.v1 ≤ 9223372036854775807) ∧ (-9223372036854775808 ≤ x.v2 ∧ x.v2 ≤ 9223372036854775807) := by
  have := h.ns
  simp at this
  obtain ⟨h1, h2, h3, h4, h5, h6⟩ := this
  exact ⟨h1, h2, h3, h4, h5, h6⟩

def ReadAllPost (x : EntM) (k : Int) (p g off cap q : Nat) (bs : List Nat) (a : Nat) (w : World) (e : Ending) (w' : World) : Prop :=
  e = .returned (.tuple #[]) ∧ Rd w' p g off cap bs a ∧ Blk w' q [.int .i64 k, .int .i64 x.id, .int .i64 x.p0, .int .i64 x.p1, .int .i64 x.p2, .int .i64 x.v0, .int .i64 x.v1, .int .i64 x.v2, .int .u16 x.ang] 175 ∧ Kept (fun i => i = p ∨ i = q) w w'
set_option maxRecDepth 100000 in
set_option maxHeartbeats 2000000 in
theorem readAll_calls (x : EntM) (hx : x.Ok) (k : Int) (w : World) (p g off cap q : Nat) (bs : List Nat) (a : Nat) (h : Rd w p g off cap bs a) (hg : g < w.heap.size)
    (hq : Blk w q [.int .i64 k, .int .i64 x.id, .int .i64 0, .int .i64 0, .int .i64 0, .int .i64 0, .int .i64 0, .int .i64 0, .int .u16 0] 175) (hqp : q ≠ p) (hqg : q ≠ g) (ha : At bs a (wholeL (putR x))) :
    Calls Tryz.prog 171 #[.pointer (some ⟨p, 0, none⟩), .pointer (some ⟨q, 0, none⟩)] w (ReadAllPost x k p g off cap q bs (a + (wholeL (putR x)).length) w) := by
  obtain ⟨b0, b1, b2, b3, b4, b5⟩ := i64_of hx
  have hang := hx.ang
  rw [wholeL_eq] at ha ⊢
  have A0 := ha.left.num
  have r1 := ha.right
  have A1 := r1.left.num
  have r2 := r1.right
  have A2 := r2.left.num
  have r3 := r2.right
  have A3 := r3.left.num
  have r4 := r3.right
  have A4 := r4.left.num
  have r5 := r4.right
  have A5 := r5.left.num
  have A6 := r5.right.put
  rw [numL_len] at A1 A2 A3 A4 A5 A6
  rw [numL_len] at A2 A3 A4 A5 A6
  rw [numL_len] at A3 A4 A5 A6
  rw [numL_len] at A4 A5 A6
  rw [numL_len] at A5 A6
  rw [numL_len] at A6
  have HV1 := Lib.hid (fun W (h : Rd W p g off cap bs a) (hg : g < W.heap.size) => vec_calls x.p0 x.p1 x.p2 W p g off cap bs a h hg b0 b1 b2 A0 A1 A2)
  have HV2 := Lib.hid (fun W (h : Rd W p g off cap bs (a + zsz x.p0 + zsz x.p1 + zsz x.p2)) (hg : g < W.heap.size) => vec_calls x.v0 x.v1 x.v2 W p g off cap bs _ h hg b3 b4 b5 A3 A4 A5)
  have HU : Hid (∀ W, Rd W p g off cap bs (a + zsz x.p0 + zsz x.p1 + zsz x.p2 + zsz x.v0 + zsz x.v1 + zsz x.v2) → Calls Tryz.prog 148 #[.pointer (some ⟨p, 0, none⟩), .int .u64 65535] W fun e w' => e = .returned (.int .u64 x.ang) ∧ Rd w' p g off cap bs (a + zsz x.p0 + zsz x.p1 + zsz x.p2 + zsz x.v0 + zsz x.v1 + zsz x.v2 + sizeM x.ang) ∧ Kept (· = p) W w') :=
    Lib.hid (fun W h => uint_calls x.ang 65535 W p g off cap bs _ h (by omega) hang A6)
  have HE : Hid (a + (numL x.p0 ++ (numL x.p1 ++ (numL x.p2 ++ (numL x.v0 ++ (numL x.v1 ++ (numL x.v2 ++ putL x.ang)))))).length = a + zsz x.p0 + zsz x.p1 + zsz x.p2 + zsz x.v0 + zsz x.v1 + zsz x.v2 + sizeM x.ang) := Lib.hid (by
    simp only [List.length_append, numL_len, putL_len]; omega)
  rw [HE.out]
  generalize a + zsz x.p0 + zsz x.p1 + zsz x.p2 + zsz x.v0 + zsz x.v1 + zsz x.v2 + sizeM x.ang = a3 at *
  generalize a + zsz x.p0 + zsz x.p1 + zsz x.p2 + zsz x.v0 + zsz x.v1 + zsz x.v2 = a2 at *
  generalize a + zsz x.p0 + zsz x.p1 + zsz x.p2 = a1 at *
  have HH := Lib.hid h
  have HQ := Lib.hid hq
  have HG := hg
  clear A0 A1 A2 A3 A4 A5 A6 r1 r2 r3 r4 r5 ha HE h hq b0 b1 b2 b3 b4 b5
  go_enter Tryz.func171, Tryz.ntmps171
  go_wp2_with fail
  refine (HV1.out _ HH.out hg).mono ?_
  rintro e w1 ⟨rfl, hr1, hk1⟩
  have hg1 := Nat.lt_of_lt_of_le hg hk1.size
  have q1 := hk1.blk HQ.out hqp
  have HR1 := Lib.hid hr1
  have HK1 := Lib.hid hk1
  have HQ1 := Lib.hid q1
  clear hr1 hk1 q1
  go_wp2_with fail
  refine (HV2.out _ HR1.out hg1).mono ?_
  rintro e w2 ⟨rfl, hr2, hk2⟩
  have q2 := hk2.blk HQ1.out hqp
  have c2 := q2.cell (i := 2) rfl
  have c3 := q2.cell (i := 3) rfl
  have c4 := q2.cell (i := 4) rfl
  have c5 := q2.cell (i := 5) rfl
  have c6 := q2.cell (i := 6) rfl
  have c7 := q2.cell (i := 7) rfl
  have f2 := q2.free 2
  have f3 := q2.free 3
  have f4 := q2.free 4
  have f5 := q2.free 5
  have f6 := q2.free 6
  have f7 := q2.free 7
  have HR2 := Lib.hid hr2
  have HK2 := Lib.hid hk2
  have HQ2 := Lib.hid q2
  have c8 := q2.cell (i := 8) rfl
  have f8 := q2.free 8
  clear hr2 hk2 q2
  have hx0 : (0 : Int) ≤ x.ang := by omega
  have hx1 : (x.ang : Int) ≤ 65535 := by omega
  go_wp2_with fail
  have KS := (((((((Kept.refl (· = q) w2).setCell (a := ⟨q, 2, none⟩) (.inl rfl) (.int .i64 x.p0)).setCell (a := ⟨q, 3, none⟩) (.inl rfl) (.int .i64 x.p1)).setCell (a := ⟨q, 4, none⟩) (.inl rfl) (.int .i64 x.p2)).setCell (a := ⟨q, 5, none⟩) (.inl rfl) (.int .i64 x.v0)).setCell (a := ⟨q, 6, none⟩) (.inl rfl) (.int .i64 x.v1)).setCell (a := ⟨q, 7, none⟩) (.inl rfl) (.int .i64 x.v2))
  have BS := ((((((HQ2.out.set 2 (.int .i64 x.p0)).set 3 (.int .i64 x.p1)).set 4 (.int .i64 x.p2)).set 5 (.int .i64 x.v0)).set 6 (.int .i64 x.v1)).set 7 (.int .i64 x.v2))
  refine (HU.out _ (HR2.out.kept KS (fun e => hqp e.symm) (fun e => hqg e.symm))).mono ?_
  rintro e w3 ⟨rfl, hr3, hk3⟩
  have q3 := hk3.blk BS hqp
  have d8 := q3.cell (i := 8) rfl
  have e8 := q3.free 8
  have HR3 := Lib.hid hr3
  have HQ3 := Lib.hid q3
  have HK3 := Lib.hid ((((HK1.out.mono (G := fun i => i = p ∨ i = q) (fun _ _ h => .inl h)).trans HK2.out (fun _ h => .inl (.inl h))).trans KS (fun _ h => .inl (.inr h))).trans hk3 (fun _ h => .inl (.inl h)))
  clear KS BS hr3 hk3 q3 c2 c3 c4 c5 c6 c7 c8 f2 f3 f4 f5 f6 f7 f8
  go_wp2_with fail
  go_end0
  refine ⟨rfl, HR3.out.kept ((Kept.refl (· = q) w3).setCell (a := ⟨q, 8, none⟩) (.inl rfl) _) (fun e => hqp e.symm) (fun e => hqg e.symm), ?_, HK3.out.setCell (.inl (.inr rfl)) _⟩
  exact HQ3.out.set 8 (.int .u16 x.ang)
end Go.Proofs.YtekdkckgmleofaaGreat
