/- Joined texts. -/
import Derived.Test.YtekdkckgmleofaaGreatXf17
import Derived.Deep.RegionHeld3
import Derived.Laws.EntriesVeiled
import Derived.Test.YtekdkckgmleofaaGreatXf16
import Derived.Deep.RegionLaw
set_option linter.unusedVariables false
set_option linter.unusedSimpArgs false
/- Contracts of package record's functions along the way of kind Put: kinds, Check, Write. -/
namespace Go.Proofs.YtekdkckgmleofaaGreat
open Go.RowKit

/-- An entity. -/
structure EntM where
  id : Int
  p0 : Int
  p1 : Int
  p2 : Int
  v0 : Int
  v1 : Int
  v2 : Int
  ang : Nat
  gen : Nat
abbrev EntM.ns (x : EntM) : List Int := [x.p0, x.p1, x.p2, x.v0, x.v1, x.v2]
structure EntM.Ok (x : EntM) : Prop where
  ns : ∀ n ∈ x.ns, -9223372036854775808 ≤ n ∧ n ≤ 9223372036854775807
  ang : x.ang ≤ 65535
  gen : x.gen ≤ 255
  id0 : 0 ≤ x.id
  id1 : x.id ≤ 65535
abbrev entC (x : EntM) : List Value := [.int .i64 x.id, .int .i64 x.p0, .int .i64 x.p1, .int .i64 x.p2, .int .i64 x.v0, .int .i64 x.v1, .int .i64 x.v2, .int .u16 x.ang, .int .u8 x.gen]
abbrev entV (x : EntM) : Value := .agg (entC x).toArray
/-- The record that tells of a new entity. -/
abbrev putR (x : EntM) : RecM := ⟨0, x.id, x.p0, x.p1, x.p2, x.v0, x.v1, x.v2, x.ang⟩
theorem putR_ok {x : EntM} (h : x.Ok) : (putR x).Ok := ⟨h.ns, h.ang⟩
abbrev fnV (f : Nat) : Value := .func (.func f) #[] #[]
abbrev kindsV : Value := .agg #[fnV 170, fnV 171, fnV 172, fnV 173, fnV 168, fnV 169, fnV 170, fnV 171]
set_option maxRecDepth 100000 in
theorem kinds_calls (w : World) :
    Calls Tryz.prog 134 #[] w fun e w' => e = .returned kindsV ∧ Kept (fun _ => False) w w' := by
  go_enter Tryz.func134, Tryz.ntmps134
  go_wp2_with fail
  refine bodyPost_ret (v := kindsV) (by simp [results, Tryz.f134, Tryz.results134, go_sem]) rfl ⟨rfl, ?_⟩
  exact ((Kept.refl (fun _ => False) w).alloc _).alloc _
set_option maxRecDepth 100000 in
theorem check_put (x : EntM) (w : World) (h0 : 0 ≤ x.id) (h1 : x.id ≤ 65535) :
    Calls Tryz.prog 133 #[recV (putR x)] w fun e w' => e = .returned (.int .i64 0) ∧ Kept (fun _ => False) w w' := by
  have h2 : ¬ x.id < 0 := by omega
  have h3 : ¬ 65535 < x.id := by omega
  go_enter Tryz.func133, Tryz.ntmps133
  go_wp2_with fail
  go_ret
  exact ⟨rfl, ((Kept.refl (fun _ => False) w).alloc _).alloc _⟩
end Go.Proofs.YtekdkckgmleofaaGreat

/- Contracts of package record's functions along the way of kind Put: Write. -/
namespace Go.Proofs.YtekdkckgmleofaaGreat
open Go.RowKit

/-- The bytes of a record that tells of a new entity, behind one of the entity 'last'. -/
def recL (x : EntM) (last : Int) : List Nat := (putL (x.id - last - 1).toNat ++ [0]) ++ wholeL (putR x)
def RecPost (x : EntM) (last : Int) (w : World) (e : Ending) (w' : World) : Prop :=
  ∃ v g, e = .returned (.tuple #[v, .int .i64 0]) ∧ Sl w' v 5 1 (recL x last).length (u8s (recL x last)) (some g) ∧ w.heap.size ≤ g ∧ Kept (fun _ => False) w w'
theorem Src.drew {w : World} {x : Value} {m : Nat} {news : List Value} (h : Src w x m news) : Src w.drew x m news := h
theorem src_one (W : World) (v : Value) (e : TypeId) : Src (W.alloc (.cells #[v] e)) (.slice (some ⟨W.heap.size, 0, none⟩) 1 1) 1 [v] :=
  (Sl.made W [v] e 1 1 rfl (by decide)).src
theorem kinds_ix (W : World) : (Instr.index 245 kindsV (.int .i64 0)).run Tryz.prog W = .ok (.agg #[fnV 170, fnV 171]) W := by
  kernel_rfl
theorem kinds_fd (W : World) : (Instr.field 244 (.agg #[fnV 170, fnV 171]) 0).run Tryz.prog W = .ok (fnV 170) W := by
  kernel_rfl
set_option maxRecDepth 100000 in
set_option maxHeartbeats 2000000 in
theorem write_put (x : EntM) (hx : x.Ok) (last : Int) (w : World) (h1 : -1 ≤ last) (h2 : last < x.id) :
    Calls Tryz.prog 89 #[recV (putR x), .int .i64 last] w (RecPost x last w) := by
  have i0 := hx.id0
  have i1 := hx.id1
  have HC := Lib.hid (fun W => check_put x W i0 i1)
  have HKD := Lib.hid (fun W => kinds_calls W)
  have hpb : (x.id - last - 1).toNat < 18446744073709551616 := by omega
  have HP := Lib.hid (fun W => put_calls (x.id - last - 1).toNat W hpb)
  have e1 : (((x.id - last - 1).toNat : Nat) : Int) = x.id - last - 1 := by omega
  have hs10 := (sizeM_bd (x.id - last - 1).toNat hpb).2.1
  rw [e1] at HP
  unfold PutPost at HP
  rw [show sizeM (x.id - last - 1).toNat = (putL (x.id - last - 1).toNat).length from (putL_len _).symm] at HP hs10
  have HRL : Hid (recL x last = (putL (x.id - last - 1).toNat ++ [0]) ++ wholeL (putR x)) := Lib.hid rfl
  have HWA := Lib.hid (fun (l : List Nat) (q : Nat) (W : World) (v : Value) (own : Option Nat) => writeAll_calls (putR x) (putR_ok hx) q l W v own)
  generalize putL (x.id - last - 1).toNat = t at *
  obtain ⟨j0, hi, hz0, hz1, hz2⟩ := info_parts info8
  have HI := Lib.hid hi
  have HZ0 := Lib.hid hz0
  have HZ1 := Lib.hid hz1
  have HZ2 := Lib.hid hz2
  have HSR := Lib.hid (fun (W : World) => src_one W (.int .u8 0) 5)
  have N1 : Hid (t.length + 1 ≤ maxLen) := Lib.hid (by unfold maxLen; omega)
  have N2 : Hid ((t.length + 1) * 1 ≤ 140737488355328) := Lib.hid (by omega)
  have HO : Hid (∀ u ∈ [Value.int .u8 0], u.oneCell' = true) := Lib.hid (by simp [Value.oneCell'])
  clear hi hz0 hz1 hz2 e1 hpb
  have h3 : ¬ last < -1 := by omega
  have h4 : ¬ 65535 < last := by omega
  have h5 : ¬ x.id ≤ last := by omega
  have HX := Lib.hid hx
  clear hx
  go_enter Tryz.func89, Tryz.ntmps89
  go_wp2_with fail
  refine (HC.out _).mono ?_
  rintro e w1 ⟨rfl, hk1⟩
  have B := hk1.blk (Blk.new w (recC (putR x)) 175) (fun h => h)
  have K : Kept (fun _ => False) w w1 := ((Kept.refl (fun _ => False) w).alloc _).trans hk1 (fun _ h => h.elim)
  clear hk1
  have hbl := B.lt
  have b0 := B.cell (i := 0) rfl
  have b1 := B.cell (i := 1) rfl
  have HB := Lib.hid B
  have HK := Lib.hid K
  clear B K
  go_wp2_with fail
  have q1 : IntKind.i64.wrap (x.id - last) = x.id - last := IntWalk.i64_in _ (by omega)
  have q2 : IntKind.i64.wrap (x.id - last - 1) = x.id - last - 1 := IntWalk.i64_in _ (by omega)
  have q3 : IntKind.u64.wrap (x.id - last - 1) = x.id - last - 1 := IntWalk.u64_in _ (by omega)
  have q4 : IntKind.u8.wrap 0 = 0 := by kernel_rfl
  go_region_held3 (fun w' => w'.cell? ⟨w.heap.size, 0, none⟩ = some (.int .i64 0) ∧ w'.cell? ⟨w.heap.size, 1, none⟩ = some (.int .i64 x.id))
    (first | (go_keep; done) | (refine ⟨hk2.cell ?_ (fun h => h), hk2.cell ?_ (fun h => h)⟩ <;> simp [*]) | (go_split_ands; exact ⟨hk3.cell (by assumption) (fun e => by have e2 : g2 = w.heap.size := Option.some.inj e; simp at hg2; omega), hk3.cell (by assumption) (fun e => by have e2 : g2 = w.heap.size := Option.some.inj e; simp at hg2; omega)⟩))
    ((first
      | (go_at_call 132; refine (HP.out _).mono ?_; rintro e w2 ⟨v2, g2, rfl, hS2, hg2, hk2⟩)
      | (refine step_append_sl _ (by rfl) _ _ _ (by rfl) 5 j0 (.int .u8 0) 1 1 Tryz.underlying23 HI.out HZ0.out HZ1.out HZ2.out rfl _ t.length (u8s t) (some g2) (by rfl) (by first | exact hS2 | exact hS2.alloc _ | exact hS2.drew.alloc _) _ 1 [.int .u8 0] (by rfl) (by first | exact HSR.out _ | exact (HSR.out _).kept hk2 | exact (HSR.out _).drew.kept hk2) rfl HO.out N1.out N2.out ?_; intro v3 w3 o3 hS3 ho3 hk3)))
  all_goals
    have HMI : Hid (∃ Wp, Kept (fun _ => False) w1 Wp ∧ Kept (fun k => some g2 = some k) Wp w3 ∧ (o3 = some g2 ∨ o3 = some Wp.heap.size)) := Lib.hid (by
      first
      | exact ⟨_, ((Kept.refl _ w1).drew.trans hk2 (fun _ h => .inl h)).alloc _, hk3, ho3⟩
      | exact ⟨_, ((Kept.refl _ w1).alloc _).drew.trans hk2 (fun _ h => .inl h), hk3, ho3⟩)
    have hg3 : w.heap.size < g2 := by
      have := hg2
      simp at this
      omega
    have HF : Hid (Blk w3 w.heap.size (recC (putR x)) 175 ∧ Kept (fun _ => False) w w3 ∧ ∃ g, o3 = some g ∧ w.heap.size < g) := Lib.hid (by
      obtain ⟨Wp, k1, k3, ho⟩ := HMI.out
      have z1 := k1.size
      refine ⟨k3.blk (k1.blk HB.out (fun h => h)) (fun e => ?_), (HK.out.trans k1 (fun _ h => .inl h)).trans k3 (fun i hi => .inr ?_), ?_⟩
      · have e2 : g2 = w.heap.size := Option.some.inj e
        omega
      · have e2 : g2 = i := Option.some.inj hi
        omega
      · rcases ho with e | e
        · exact ⟨_, e, hg3⟩
        · exact ⟨_, e, by omega⟩)
    have HS3 : Hid (Sl w3 v3 5 1 (t ++ [0]).length (u8s (t ++ [0])) o3) := Lib.hid (by
      rw [List.length_append, u8s_app]; exact hS3)
    have HL5 : Hid ((t ++ [0]).length ≤ 5000) := Lib.hid (by rw [List.length_append]; simp; omega)
    have c0 := HF.out.1.cell (i := 0) rfl
    obtain ⟨g3, ho3', hg3'⟩ := HF.out.2.2
    have HO3 := Lib.hid ho3'
    have HNE : Hid (o3 ≠ some w.heap.size) := Lib.hid (by rw [ho3']; intro e; have := Option.some.inj e; omega)
    have hix := kinds_ix
    have hfd := kinds_fd
    clear hS2 hg2 hk2 hS3 ho3 hk3 HMI hg3 b0 b1 hbl HB HK q1 q2 q3 q4 ho3'
    go_wp2_with fail
    go_region_held3 (fun w' => w'.cell? ⟨w.heap.size, 0, none⟩ = some (.int .i64 0))
      (first | (go_keep; done) | exact hk5.cell (by assumption) HNE.out | exact hk4.cell (by assumption) (fun h => h))
      ((first
        | (go_at_call 134; refine (HKD.out _).mono ?_; rintro e w4 ⟨rfl, hk4⟩)
        | (go_at_call 170; refine (HWA.out (t ++ [0]) w.heap.size _ v3 o3 (HS3.out.drew.kept hk4 (fun _ _ h => h)) HL5.out (hk4.blk HF.out.1.drew (fun h => h)) HNE.out).mono ?_; rintro e w5 ⟨v5, o5, rfl, hS5, ho5, hk5⟩)))
    all_goals
      have HS5 := Lib.hid hS5
      have HO5 := Lib.hid ho5
      have HK5 := Lib.hid hk5
      have HK4 := Lib.hid hk4
      clear hS5 ho5 hk5 hk4 c0 hix hfd
      go_wp2_with fail
      go_ret2
      have z4 := HK4.out.size
      have z3 := HF.out.2.1.size
      have zz : w3.heap.size ≤ w4.heap.size := z4
      have KK := ((HF.out.2.1.drew.trans HK4.out (fun _ h => .inl h))).trans HK5.out (fun i hi => .inr (by rw [HO3.out] at hi; have := Option.some.inj hi; omega))
      rcases HO5.out with e | ⟨g, e, hg⟩
      · exact ⟨v5, g3, rfl, by rw [HRL.out, ← HO3.out, ← e]; exact HS5.out, by omega, KK⟩
      · exact ⟨v5, g, rfl, by rw [HRL.out, ← e]; exact HS5.out, by omega, KK⟩
end Go.Proofs.YtekdkckgmleofaaGreat

/- Contracts of package record's functions along the way of kind Put: readAll. -/
namespace Go.Proofs.YtekdkckgmleofaaGreat
open Go.RowKit

/-- The row l lies in bs from a on. -/
def At (bs : List Nat) (a : Nat) (l : List Nat) : Prop := ∀ i, i < l.length → bs[a + i]? = l[i]?
theorem At.left {bs : List Nat} {a : Nat} {l m : List Nat} (h : At bs a (l ++ m)) : At bs a l := fun i hi => by
  have := h i (by rw [List.length_append]; omega)
  rw [this, List.getElem?_append_left hi]
theorem At.right {bs : List Nat} {a : Nat} {l m : List Nat} (h : At bs a (l ++ m)) : At bs (a + l.length) m := fun i hi => by
  have := h (l.length + i) (by rw [List.length_append]; omega)
  rw [Nat.add_assoc, this, List.getElem?_append_right (by omega)]
  congr 1
  omega
theorem At.put {bs : List Nat} {a x : Nat} (h : At bs a (putL x)) : ∀ i, i < sizeM x → bs[a + i]? = some (putB x i) := fun i hi => by
  rw [h i (by rw [putL_len]; exact hi), putL_get x i hi]
theorem At.num {bs : List Nat} {a : Nat} {n : Int} (h : At bs a (numL n)) : NumAt bs a n := fun i hi => h.put i hi
theorem At.one {bs : List Nat} {a c : Nat} (h : At bs a [c]) : bs[a]? = some c := by simpa using h 0 (by simp)
theorem wholeL_eq (x : EntM) : wholeL (putR x) = numL x.p0 ++ (numL x.p1 ++ (numL x.p2 ++ (numL x.v0 ++ (numL x.v1 ++ (numL x.v2 ++ putL x.ang))))) := by
  simp [wholeL, allL]

theorem i64_of {x : EntM} (h : x.Ok) : (-9223372036854775808 ≤ x.p0 ∧ x.p0 ≤ 9223372036854775807) ∧ (-9223372036854775808 ≤ x.p1 ∧ x.p1 ≤ 9223372036854775807) ∧ (-9223372036854775808 ≤ x.p2 ∧ x.p2 ≤ 9223372036854775807) ∧ (-9223372036854775808 ≤ x.v0 ∧ x.v0 ≤ 9223372036854775807) ∧ (-9223372036854775808 ≤ x.v1 ∧ x.v1 ≤ 9223372036854775807) ∧ (-9223372036854775808 ≤ x.v2 ∧ x.v2 ≤ 9223372036854775807) := by
  have := h.ns
  simp at this
  obtain ⟨h1, h2, h3, h4, h5, h6⟩ := this
  exact ⟨h1, h2, h3, h4, h5, h6⟩

def ReadAllPost (x : EntM) (k : Int) (p g off cap q : Nat) (bs : List Nat) (a : Nat) (w : World) (e : Ending) (w' : World) : Prop :=
  e = .returned (.tuple #[]) ∧ Rd w' p g off cap bs a ∧ Blk w' q [.int .i64 k, .int .i64 x.id, .int .i64 x.p0, .int .i64 x.p1, .int .i64 x.p2, .int .i64 x.v0, .int .i64 x.v1, .int .i64 x.v2, .int .u16 x.ang] 175 ∧ Kept (fun i => i = p ∨ i = q) w w'
set_option maxRecDepth 100000 in
set_option maxHeartbeats 2000000 in
theorem readAll_calls (x : EntM) (hx : x.Ok) (k : Int) (w : World) (p g off cap q : Nat) (bs : List Nat) (a : Nat) (h : Rd w p g off cap bs a) (hg : g < w.heap.size)
    (hq : Blk w q [.int .i64 k, .int .i64 x.id, .int .i64 0, .int .i64 0, .int .i64 0, .int .i64 0, .int .i64 0, .int .i64 0, .int .u16 0] 175) (hqp : q ≠ p) (hqg : q ≠ g) (ha : At bs a (wholeL (putR x))) :
    Calls Tryz.prog 171 #[.pointer (some ⟨p, 0, none⟩), .pointer (some ⟨q, 0, none⟩)] w (ReadAllPost x k p g off cap q bs (a + (wholeL (putR x)).length) w) := by
  obtain ⟨b0, b1, b2, b3, b4, b5⟩ := i64_of hx
  have hang := hx.ang
  rw [wholeL_eq] at ha ⊢
  have A0 := ha.left.num
  have r1 := ha.right
  have A1 := r1.left.num
  have r2 := r1.right
  have A2 := r2.left.num
  have r3 := r2.right
  have A3 := r3.left.num
  have r4 := r3.right
  have A4 := r4.left.num
  have r5 := r4.right
  have A5 := r5.left.num
  have A6 := r5.right.put
  rw [numL_len] at A1 A2 A3 A4 A5 A6
  rw [numL_len] at A2 A3 A4 A5 A6
  rw [numL_len] at A3 A4 A5 A6
  rw [numL_len] at A4 A5 A6
  rw [numL_len] at A5 A6
  rw [numL_len] at A6
  have HV1 := Lib.hid (fun W (h : Rd W p g off cap bs a) (hg : g < W.heap.size) => vec_calls x.p0 x.p1 x.p2 W p g off cap bs a h hg b0 b1 b2 A0 A1 A2)
  have HV2 := Lib.hid (fun W (h : Rd W p g off cap bs (a + zsz x.p0 + zsz x.p1 + zsz x.p2)) (hg : g < W.heap.size) => vec_calls x.v0 x.v1 x.v2 W p g off cap bs _ h hg b3 b4 b5 A3 A4 A5)
  have HU : Hid (∀ W, Rd W p g off cap bs (a + zsz x.p0 + zsz x.p1 + zsz x.p2 + zsz x.v0 + zsz x.v1 + zsz x.v2) → Calls Tryz.prog 148 #[.pointer (some ⟨p, 0, none⟩), .int .u64 65535] W fun e w' => e = .returned (.int .u64 x.ang) ∧ Rd w' p g off cap bs (a + zsz x.p0 + zsz x.p1 + zsz x.p2 + zsz x.v0 + zsz x.v1 + zsz x.v2 + sizeM x.ang) ∧ Kept (· = p) W w') :=
    Lib.hid (fun W h => uint_calls x.ang 65535 W p g off cap bs _ h (by omega) hang A6)
  have HE : Hid (a + (numL x.p0 ++ (numL x.p1 ++ (numL x.p2 ++ (numL x.v0 ++ (numL x.v1 ++ (numL x.v2 ++ putL x.ang)))))).length = a + zsz x.p0 + zsz x.p1 + zsz x.p2 + zsz x.v0 + zsz x.v1 + zsz x.v2 + sizeM x.ang) := Lib.hid (by
    simp only [List.length_append, numL_len, putL_len]; omega)
  rw [HE.out]
  generalize a + zsz x.p0 + zsz x.p1 + zsz x.p2 + zsz x.v0 + zsz x.v1 + zsz x.v2 + sizeM x.ang = a3 at *
  generalize a + zsz x.p0 + zsz x.p1 + zsz x.p2 + zsz x.v0 + zsz x.v1 + zsz x.v2 = a2 at *
  generalize a + zsz x.p0 + zsz x.p1 + zsz x.p2 = a1 at *
  have HH := Lib.hid h
  have HQ := Lib.hid hq
  have HG := hg
  clear A0 A1 A2 A3 A4 A5 A6 r1 r2 r3 r4 r5 ha HE h hq b0 b1 b2 b3 b4 b5
  go_enter Tryz.func171, Tryz.ntmps171
  go_wp2_with fail
  refine (HV1.out _ HH.out hg).mono ?_
  rintro e w1 ⟨rfl, hr1, hk1⟩
  have hg1 := Nat.lt_of_lt_of_le hg hk1.size
  have q1 := hk1.blk HQ.out hqp
  have HR1 := Lib.hid hr1
  have HK1 := Lib.hid hk1
  have HQ1 := Lib.hid q1
  clear hr1 hk1 q1
  go_wp2_with fail
  refine (HV2.out _ HR1.out hg1).mono ?_
  rintro e w2 ⟨rfl, hr2, hk2⟩
  have q2 := hk2.blk HQ1.out hqp
  have c2 := q2.cell (i := 2) rfl
  have c3 := q2.cell (i := 3) rfl
  have c4 := q2.cell (i := 4) rfl
  have c5 := q2.cell (i := 5) rfl
  have c6 := q2.cell (i := 6) rfl
  have c7 := q2.cell (i := 7) rfl
  have f2 := q2.free 2
  have f3 := q2.free 3
  have f4 := q2.free 4
  have f5 := q2.free 5
  have f6 := q2.free 6
  have f7 := q2.free 7
  have HR2 := Lib.hid hr2
  have HK2 := Lib.hid hk2
  have HQ2 := Lib.hid q2
  have c8 := q2.cell (i := 8) rfl
  have f8 := q2.free 8
  clear hr2 hk2 q2
  have hx0 : (0 : Int) ≤ x.ang := by omega
  have hx1 : (x.ang : Int) ≤ 65535 := by omega
  go_wp2_with fail
  have KS := (((((((Kept.refl (· = q) w2).setCell (a := ⟨q, 2, none⟩) (.inl rfl) (.int .i64 x.p0)).setCell (a := ⟨q, 3, none⟩) (.inl rfl) (.int .i64 x.p1)).setCell (a := ⟨q, 4, none⟩) (.inl rfl) (.int .i64 x.p2)).setCell (a := ⟨q, 5, none⟩) (.inl rfl) (.int .i64 x.v0)).setCell (a := ⟨q, 6, none⟩) (.inl rfl) (.int .i64 x.v1)).setCell (a := ⟨q, 7, none⟩) (.inl rfl) (.int .i64 x.v2))
  have BS := ((((((HQ2.out.set 2 (.int .i64 x.p0)).set 3 (.int .i64 x.p1)).set 4 (.int .i64 x.p2)).set 5 (.int .i64 x.v0)).set 6 (.int .i64 x.v1)).set 7 (.int .i64 x.v2))
  refine (HU.out _ (HR2.out.kept KS (fun e => hqp e.symm) (fun e => hqg e.symm))).mono ?_
  rintro e w3 ⟨rfl, hr3, hk3⟩
  have q3 := hk3.blk BS hqp
  have d8 := q3.cell (i := 8) rfl
  have e8 := q3.free 8
  have HR3 := Lib.hid hr3
  have HQ3 := Lib.hid q3
  have HK3 := Lib.hid ((((HK1.out.mono (G := fun i => i = p ∨ i = q) (fun _ _ h => .inl h)).trans HK2.out (fun _ h => .inl (.inl h))).trans KS (fun _ h => .inl (.inr h))).trans hk3 (fun _ h => .inl (.inl h)))
  clear KS BS hr3 hk3 q3 c2 c3 c4 c5 c6 c7 c8 f2 f3 f4 f5 f6 f7 f8
  go_wp2_with fail
  go_end0
  refine ⟨rfl, HR3.out.kept ((Kept.refl (· = q) w3).setCell (a := ⟨q, 8, none⟩) (.inl rfl) _) (fun e => hqp e.symm) (fun e => hqg e.symm), ?_, HK3.out.setCell (.inl (.inr rfl)) _⟩
  exact HQ3.out.set 8 (.int .u16 x.ang)
end Go.Proofs.YtekdkckgmleofaaGreat

/- Contracts of package record's functions along the way of kind Put: Read. -/
namespace Go.Proofs.YtekdkckgmleofaaGreat
open Go.RowKit

theorem Rd.drew {w : World} {p g off cap : Nat} {bs : List Nat} {a : Nat} (h : Rd w p g off cap bs a) : Rd w.drew p g off cap bs a := h.kept (Kept.refl (fun _ => False) w).drew (fun h => h) (fun h => h)
abbrev hrec (k i : Int) : List Value := [.int .i64 k, .int .i64 i, .int .i64 0, .int .i64 0, .int .i64 0, .int .i64 0, .int .i64 0, .int .i64 0, .int .u16 0]
abbrev zrec : List Value := hrec 0 0
def ReadRecPost (x : EntM) (p g off cap : Nat) (bs : List Nat) (a : Nat) (w : World) (e : Ending) (w' : World) : Prop :=
  e = .returned (.tuple #[recV (putR x), .int .i64 0]) ∧ Rd w' p g off cap bs a ∧ Kept (· = p) w w'
set_option maxRecDepth 100000 in
set_option maxHeartbeats 2000000 in
theorem readRec_calls (x : EntM) (hx : x.Ok) (last : Int) (w : World) (p g off cap : Nat) (bs : List Nat) (a : Nat) (h : Rd w p g off cap bs a) (hg : g < w.heap.size) (h1 : -1 ≤ last) (h2 : last < x.id) (ha : At bs a (recL x last)) :
    Calls Tryz.prog 151 #[.pointer (some ⟨p, 0, none⟩), .int .i64 last] w (ReadRecPost x p g off cap bs (a + (recL x last).length) w) := by
  have i0 := hx.id0
  have i1 := hx.id1
  have A0 := ha.left.left.put
  have A1 := ha.left.right.one
  have A2 := ha.right
  rw [List.length_append] at A2
  rw [show [0].length = 1 from rfl, ← Nat.add_assoc] at A2
  have HKD := Lib.hid (fun W => kinds_calls W)
  have HU : Hid (∀ W, Rd W p g off cap bs a → Calls Tryz.prog 148 #[.pointer (some ⟨p, 0, none⟩), .int .u64 (65535 - (last + 1))] W fun e w' => e = .returned (.int .u64 (x.id - last - 1)) ∧ Rd w' p g off cap bs (a + (putL (x.id - last - 1).toNat).length) ∧ Kept (· = p) W w') := Lib.hid (fun W hW => by
    have := uint_calls (x.id - last - 1).toNat (65535 - (last + 1)).toNat W p g off cap bs a hW (by omega) (by omega) A0
    rw [show (((x.id - last - 1).toNat : Nat) : Int) = x.id - last - 1 by omega, show (((65535 - (last + 1)).toNat : Nat) : Int) = 65535 - (last + 1) by omega] at this
    rw [putL_len]
    exact this)
  have HB : Hid (∀ W, Rd W p g off cap bs (a + (putL (x.id - last - 1).toNat).length) → Calls Tryz.prog 181 #[.pointer (some ⟨p, 0, none⟩)] W fun e w' => e = .returned (.int .u8 0) ∧ Rd w' p g off cap bs (a + (putL (x.id - last - 1).toNat).length + 1) ∧ Kept (· = p) W w') :=
    Lib.hid (fun W hW => byte_calls 0 W p g off cap bs _ hW A1)
  have HRA := Lib.hid (fun W q (hr : Rd W p g off cap bs (a + (putL (x.id - last - 1).toNat).length + 1)) (hg : g < W.heap.size) hq hqp hqg => readAll_calls x hx 0 W p g off cap q bs _ hr hg hq hqp hqg A2)
  have HE := Lib.hid (fun W b (hr : Rd W p g off cap bs b) => rerr_calls W p g off cap bs b hr)
  have HLN : Hid (a + (recL x last).length = a + (putL (x.id - last - 1).toNat).length + 1 + (wholeL (putR x)).length) := Lib.hid (by
    unfold recL; simp only [List.length_append]; rw [show [0].length = 1 from rfl]; omega)
  rw [HLN.out]
  generalize (wholeL (putR x)).length = lw at *
  generalize a + (putL (x.id - last - 1).toNat).length = a1 at *
  have hp := h.blk.lt
  have HH := Lib.hid h
  clear A0 A1 A2 ha h HLN
  have g1 : ¬ last < -1 := by omega
  have g2 : ¬ 65535 < last := by omega
  have g3 : ¬ last = 65535 := by omega
  go_enter Tryz.func151, Tryz.ntmps151
  go_wp2_with fail
  refine at_world (fun W => Blk W w.heap.size zrec 175 ∧ Blk W (w.heap.size + 1) (hrec 0 (last + 1)) 175 ∧ Kept (fun _ => False) w W ∧ w.heap.size + 2 ≤ W.heap.size) ⟨(Blk.new w zrec _).alloc _, Blk.new_at (by simp) (hrec 0 (last + 1)) _, ((Kept.refl _ w).alloc _).alloc _, by simp⟩ ?_
  rintro W ⟨B0, B1, K, hs⟩
  have b1 := B1.cell (i := 1) rfl
  have f1 := B1.free 1
  have hp1 : w.heap.size + 1 ≠ p := by omega
  have hg1 : w.heap.size + 1 ≠ g := by omega
  have HB0 := Lib.hid B0
  have HB1 := Lib.hid B1
  have HK := Lib.hid K
  have HR := Lib.hid (HH.out.kept K (fun h => h) (fun h => h))
  clear B0 B1 K
  have q1 : IntKind.i64.wrap (65535 - (last + 1)) = 65535 - (last + 1) := IntWalk.i64_in _ (by omega)
  have q2 : IntKind.u64.wrap (65535 - (last + 1)) = 65535 - (last + 1) := IntWalk.u64_in _ (by omega)
  have q3 : IntKind.i64.wrap (x.id - last - 1) = x.id - last - 1 := IntWalk.i64_in _ (by omega)
  have q4 : last + 1 + (x.id - last - 1) = x.id := by omega
  have q5 : IntKind.i64.wrap x.id = x.id := IntWalk.i64_in _ (by omega)
  go_region_with ((go_at_call 148; refine (HU.out _ HR.out.drew).mono ?_; rintro e w2 ⟨rfl, hr2, hk2⟩; have d1 := (hk2.blk HB1.out.drew hp1).cell (i := 1) rfl; have df := (hk2.blk HB1.out.drew hp1).free 1))
  all_goals
    have HB3 := Lib.hid ((hk2.blk HB1.out.drew hp1).set 1 (.int .i64 x.id))
    have KS := (Kept.refl (· = w.heap.size + 1) w2).setCell (a := ⟨w.heap.size + 1, 1, none⟩) (.inl rfl) (.int .i64 x.id)
    have HR3 := Lib.hid (hr2.kept KS (fun e => hp1 e.symm) (fun e => hg1 e.symm))
    have HB4 := Lib.hid ((hk2.blk HB0.out.drew (show w.heap.size ≠ p by omega)).set_ne (a := ⟨w.heap.size + 1, 1, none⟩) (show w.heap.size ≠ w.heap.size + 1 by omega) (.int .i64 x.id))
    have HK3 := Lib.hid ((((HK.out.mono (G := (· = p)) (fun _ _ h => h.elim)).drew).trans hk2 (fun _ h => .inl h)).trans KS (fun i h => .inr (by omega)))
    have hs3 : w.heap.size + 2 ≤ (w2.setCell ⟨w.heap.size + 1, 1, none⟩ (.int .i64 x.id)).heap.size := by
      rw [size_setCell]; have := hk2.size; have : W.heap.size ≤ w2.heap.size := this; omega
    clear hr2 hk2 KS d1 df b1 f1 q1 q2 q3 q4 q5
    go_wp2_with fail
    refine (HB.out _ HR3.out).mono ?_
    rintro e w4 ⟨rfl, hr4, hk4⟩
    have B4 := hk4.blk HB3.out hp1
    have e0 := B4.cell (i := 0) rfl
    have e1 := B4.free 0
    have HB5 := Lib.hid (B4.set 0 (.int .i64 0))
    have KS := (Kept.refl (· = w.heap.size + 1) w4).setCell (a := ⟨w.heap.size + 1, 0, none⟩) (.inl rfl) (.int .i64 0)
    have HB6 := Lib.hid ((hk4.blk HB4.out (show w.heap.size ≠ p by omega)).set_ne (a := ⟨w.heap.size + 1, 0, none⟩) (show w.heap.size ≠ w.heap.size + 1 by omega) (.int .i64 0))
    have HR4 := Lib.hid (hr4.kept KS (fun e => hp1 e.symm) (fun e => hg1 e.symm))
    have HK4 := Lib.hid ((HK3.out.trans hk4 (fun _ h => .inl h)).trans KS (fun i h => .inr (by omega)))
    have hs4 : w.heap.size + 2 ≤ (w4.setCell ⟨w.heap.size + 1, 0, none⟩ (.int .i64 0)).heap.size := by
      rw [size_setCell]; have := hk4.size; omega
    clear B4 KS hr4 hk4 HB3 HB4 HR3 HK3
    go_wp2_with fail
    refine (HKD.out _).mono ?_
    rintro e w5 ⟨rfl, hk5⟩
    have B5 := hk5.blk HB5.out (fun h => h)
    have k0 := B5.cell (i := 0) rfl
    have z5 := hk5.size
    have hs5 : w.heap.size + 2 ≤ w5.heap.size := by omega
    have K6 := (Kept.refl (fun _ => False) w5).alloc (.cells #[fnV 170, fnV 171, fnV 172, fnV 173, fnV 168, fnV 169, fnV 170, fnV 171] 245)
    have HR6 := Lib.hid ((HR4.out.kept hk5 (fun h => h) (fun h => h)).kept K6 (fun h => h) (fun h => h))
    have HB7 := Lib.hid (B5.alloc (.cells #[fnV 170, fnV 171, fnV 172, fnV 173, fnV 168, fnV 169, fnV 170, fnV 171] 245))
    have HB8 := Lib.hid ((hk5.blk HB6.out (fun h => h)).alloc (.cells #[fnV 170, fnV 171, fnV 172, fnV 173, fnV 168, fnV 169, fnV 170, fnV 171] 245))
    have HK6 := Lib.hid ((HK4.out.trans hk5 (fun _ h => h.elim)).trans K6 (fun _ h => h.elim))
    have k0' := HB7.out.cell (i := 0) rfl
    clear k0 B5 K6 hk5 HB5 HB6 HR4 HK4
    have hne5 : w.heap.size + 1 ≠ w5.heap.size := by omega
    have hne6 : ¬ w5.heap.size = w.heap.size + 1 := by omega
    go_wp2_with fail
    refine (HRA.out _ (w.heap.size + 1) HR6.out (by have := HK6.out.size; omega) HB7.out hp1 hg1).mono ?_
    rintro e w7 ⟨rfl, hr7, hq7, hk7⟩
    have B8 := hk7.blk HB8.out (fun e => by rcases e with e | e <;> omega)
    have HR7 := Lib.hid hr7
    have HB9 := Lib.hid B8
    have HK7 := Lib.hid (HK6.out.trans hk7 (fun i hi => by rcases hi with hi | hi; exact .inl hi; exact .inr (by omega)))
    have c0 := hq7.cell (i := 0) rfl
    have c1 := hq7.cell (i := 1) rfl
    have c2 := hq7.cell (i := 2) rfl
    have c3 := hq7.cell (i := 3) rfl
    have c4 := hq7.cell (i := 4) rfl
    have c5 := hq7.cell (i := 5) rfl
    have c6 := hq7.cell (i := 6) rfl
    have c7 := hq7.cell (i := 7) rfl
    have c8 := hq7.cell (i := 8) rfl
    have d0 := B8.cell (i := 0) rfl
    have d1 := B8.cell (i := 1) rfl
    have d2 := B8.cell (i := 2) rfl
    have d3 := B8.cell (i := 3) rfl
    have d4 := B8.cell (i := 4) rfl
    have d5 := B8.cell (i := 5) rfl
    have d6 := B8.cell (i := 6) rfl
    have d7 := B8.cell (i := 7) rfl
    have d8 := B8.cell (i := 8) rfl
    have f0 := B8.free 0
    have f1 := B8.free 1
    have f2 := B8.free 2
    have f3 := B8.free 3
    have f4 := B8.free 4
    have f5 := B8.free 5
    have f6 := B8.free 6
    have f7 := B8.free 7
    have f8 := B8.free 8
    clear hr7 hq7 hk7 B8 k0' HR6 HB7 HB8 HK6
    go_wp2_with fail
    refine (HE.out _ _ HR7.out).mono ?_
    rintro e w8 ⟨rfl, rfl⟩
    go_wp2_with fail
    have hf := ((((((((HB9.out.set 0 (.int .i64 0)).set 1 (.int .i64 x.id)).set 2 (.int .i64 x.p0)).set 3 (.int .i64 x.p1)).set 4 (.int .i64 x.p2)).set 5 (.int .i64 x.v0)).set 6 (.int .i64 x.v1)).set 7 (.int .i64 x.v2)).set 8 (.int .u16 x.ang)
    have KS := ((((((((((Kept.refl (· = w.heap.size) w7).setCell (a := ⟨w.heap.size, 0, none⟩) (.inl rfl) (.int .i64 0)).setCell (a := ⟨w.heap.size, 1, none⟩) (.inl rfl) (.int .i64 x.id)).setCell (a := ⟨w.heap.size, 2, none⟩) (.inl rfl) (.int .i64 x.p0)).setCell (a := ⟨w.heap.size, 3, none⟩) (.inl rfl) (.int .i64 x.p1)).setCell (a := ⟨w.heap.size, 4, none⟩) (.inl rfl) (.int .i64 x.p2)).setCell (a := ⟨w.heap.size, 5, none⟩) (.inl rfl) (.int .i64 x.v0)).setCell (a := ⟨w.heap.size, 6, none⟩) (.inl rfl) (.int .i64 x.v1)).setCell (a := ⟨w.heap.size, 7, none⟩) (.inl rfl) (.int .i64 x.v2)).setCell (a := ⟨w.heap.size, 8, none⟩) (.inl rfl) (.int .u16 x.ang))
    have r0 := hf.cell (i := 0) rfl
    have r1 := hf.cell (i := 1) rfl
    have r2 := hf.cell (i := 2) rfl
    have r3 := hf.cell (i := 3) rfl
    have r4 := hf.cell (i := 4) rfl
    have r5 := hf.cell (i := 5) rfl
    have r6 := hf.cell (i := 6) rfl
    have r7 := hf.cell (i := 7) rfl
    have r8 := hf.cell (i := 8) rfl
    refine bodyPost_ret (v := .tuple #[recV (putR x), .int .i64 0]) (by simp [results, Tryz.f151, Tryz.results151, go_sem, r0, r1, r2, r3, r4, r5, r6, r7, r8]) rfl ⟨rfl, HR7.out.kept KS (by omega) (by omega), HK7.out.trans KS (fun i hi => .inr (by omega))⟩
end Go.Proofs.YtekdkckgmleofaaGreat

/- Contracts of package gram's functions for a datagram that tells one new entity by none: timely, head. -/
namespace Go.Proofs.YtekdkckgmleofaaGreat
open Go.RowKit

theorem timely_yes (t : Int) (w : World) (h1 : -2305843009213693952 ≤ t) (h2 : t ≤ 2305843009213693952) :
    Calls Tryz.prog 130 #[.int .i64 t] w fun e w' => e = .returned (.bool true) ∧ w = w' := by
  go_enter Tryz.func130, Tryz.ntmps130
  go_wp2
  go_ret
  exact ⟨rfl, rfl⟩

/-- The numbers that a head tells. -/
abbrev hdN (tick time : Int) : List Nat := [tick.toNat, (zigM time).toNat, 0, 1]
def hdK (ns : List Nat) (k : Nat) : List Nat := [71, 1] ++ (ns.take k).flatMap putL
theorem hdK_step (ns : List Nat) (k n : Nat) (h : ns[k]? = some n) : hdK ns (k + 1) = hdK ns k ++ putL n := by
  unfold hdK
  rw [List.take_add_one, h, List.flatMap_append, List.append_assoc]
  simp
theorem hdK_len (ns : List Nat) (k : Nat) (h : ∀ n ∈ ns, n < 18446744073709551616) : (hdK ns k).length ≤ 2 + 10 * ns.length := by
  unfold hdK
  have : ∀ l : List Nat, (∀ n ∈ l, n < 18446744073709551616) → (l.flatMap putL).length ≤ 10 * l.length := by
    intro l hl
    induction l with
    | nil => simp
    | cons n t ih =>
      have h1 := ih (fun m hm => hl m (List.mem_cons_of_mem _ hm))
      have h2 := (sizeM_bd n (hl n (List.mem_cons_self))).2.1
      rw [List.flatMap_cons, List.length_append, putL_len, List.length_cons]
      omega
  have h2 := this (ns.take k) (fun n hn => h n (List.mem_of_mem_take hn))
  rw [List.length_append, show [71, 1].length = 2 from rfl]
  rw [List.length_take] at h2
  omega
/-- A head's bytes. -/
def headL (tick time : Int) : List Nat := hdK (hdN tick time) 4
structure HdI (ns : List Nat) (m : Nat) (w : World) (k : Nat) (v : Value) (wr : World) (own : Nat) : Prop where
  sl : Sl wr v 5 1 (hdK ns k).length (u8s (hdK ns k)) (some own)
  ow : w.heap.size ≤ own
  ne : own ≠ m
  arr : Blk wr m (ns.map fun n => Value.int .u64 (n : Nat)) 93
  kept : Kept (fun _ => False) w wr
abbrev gramC (tick time base : Int) (rs : Value) : List Value := [.int .i64 tick, .int .i64 time, .int .i64 base, rs]
abbrev gramV (tick time base : Int) (rs : Value) : Value := .agg (gramC tick time base rs).toArray
def RowPost2 (l : List Nat) (w : World) (e : Ending) (w' : World) : Prop :=
  ∃ v g, e = .returned (.tuple #[v, .int .i64 0]) ∧ Sl w' v 5 1 l.length (u8s l) (some g) ∧ w.heap.size ≤ g ∧ Kept (fun _ => False) w w'
structure SnapOk (tick time : Int) : Prop where
  t0 : 0 ≤ tick
  t1 : tick ≤ 4294967295
  s0 : -2305843009213693952 ≤ time
  s1 : time ≤ 2305843009213693952

set_option maxRecDepth 100000 in
set_option maxHeartbeats 2000000 in
theorem head_calls (tick time : Int) (h : SnapOk tick time) (a : Option Addr) (cap : Nat) (w : World) :
    Calls Tryz.prog 88 #[gramV tick time (-1) (.slice a 1 cap)] w (RowPost2 (headL tick time) w) := by
  obtain ⟨t0, t1, s0, s1⟩ := h
  have hz := zigM_bd time (by omega) (by omega)
  have HT := Lib.hid (fun W => timely_yes time W s0 s1)
  have HZ := Lib.hid (fun W => zig_calls time W (by omega) (by omega))
  have hzn : ((zigM time).toNat : Int) = zigM time := by omega
  have htn : (tick.toNat : Int) = tick := by omega
  have HNS : Hid ((hdN tick time).map (fun n => Value.int .u64 (n : Nat)) = [.int .u64 tick, .int .u64 (zigM time), .int .u64 0, .int .u64 1]) := Lib.hid (by
    simp [hzn, htn])
  have HN4 : Hid ((hdN tick time).length = 4) := Lib.hid rfl
  have HNB : Hid (∀ n ∈ hdN tick time, n < 18446744073709551616) := Lib.hid (by
    intro n hn; simp at hn; omega)
  have HHL : Hid (headL tick time = hdK (hdN tick time) 4) := Lib.hid rfl
  generalize hdN tick time = ns at *
  generalize zigM time = z at *
  have g1 : ¬ tick < 0 := by omega
  have g2 : ¬ 4294967295 < tick := by omega
  have g3 : ¬ tick ≤ -1 := by omega
  clear hzn htn
  go_enter Tryz.func88, Tryz.ntmps88
  go_wp2_with (go_at_call 130; refine (HT.out _).mono ?_; rintro e w1 ⟨rfl, rfl⟩)
  refine at_world (fun W => Blk W w.heap.size (gramC tick time (-1) (.slice a 1 cap)) 78 ∧ Sl W (.slice (some ⟨w.heap.size + 1, 0, none⟩) 2 2) 5 1 2 [.int .u8 71, .int .u8 1] (some (w.heap.size + 1)) ∧ Kept (fun _ => False) w W ∧ w.heap.size + 2 ≤ W.heap.size) ⟨(Blk.new w _ _).alloc _, ?_, ((Kept.refl _ w).alloc _).alloc _, by simp⟩ ?_
  · have := Sl.made (w.alloc (.cells #[.int .i64 tick, .int .i64 time, .int .i64 (-1), .slice a 1 cap] 78)) [.int .u8 71, .int .u8 1] 5 1 2 rfl (by decide)
    rw [size_alloc] at this
    exact this
  rintro W ⟨B0, S0, K, hs⟩
  have b0 := B0.cell (i := 0) rfl
  have b1 := B0.cell (i := 1) rfl
  have b3 := B0.cell (i := 3) rfl
  have HS := Lib.hid S0
  have HK := Lib.hid K
  clear B0 S0 K
  have q1 : IntKind.u64.wrap tick = tick := IntWalk.u64_in _ (by omega)
  have q2 : IntKind.u64.wrap 1 = 1 := by kernel_rfl
  have n0 : w.heap.size ≠ W.heap.size := by omega
  go_region_held3 (fun w' => w'.cell? ⟨w.heap.size, 0, none⟩ = some (.int .i64 tick) ∧ w'.cell? ⟨w.heap.size, 1, none⟩ = some (.int .i64 time) ∧ w'.cell? ⟨w.heap.size, 3, none⟩ = some (.slice a 1 cap))
    (first | (go_keep; done))
    ((go_at_call 131; refine (HZ.out _).mono ?_; rintro e w2 ⟨rfl, rfl⟩))
  have HI0 : Hid (HdI ns W.heap.size w 0 (.slice (some ⟨w.heap.size + 1, 0, none⟩) 2 2) (W.alloc (.cells #[.int .u64 tick, .int .u64 z, .int .u64 0, .int .u64 1] 93)).drew (w.heap.size + 1)) := Lib.hid (by
    refine ⟨HS.out.alloc _, by omega, by omega, ?_, (HK.out.alloc _).drew⟩
    rw [HNS.out]
    exact Blk.new W [.int .u64 tick, .int .u64 z, .int .u64 0, .int .u64 1] 93)
  clear b0 b1 b3 q1 q2 HS HK HZ HT
  obtain ⟨j0, hi, hz0, hz1, hz2⟩ := info_parts info8
  have HI := Lib.hid hi
  have HZ0 := Lib.hid hz0
  have HZ1 := Lib.hid hz1
  have HZ2 := Lib.hid hz2
  clear hi hz0 hz1 hz2
  go_wp2_with fail
  go_loopw [5, 62] (fun u i wr => ∃ (k own : Nat) (x : Value), k ≤ 4 ∧ i = .int .i64 k ∧ u = x ∧ HdI ns W.heap.size w k x wr own) (fun _ i _ => (4 - intOf i).toNat)
  case atStart => exact ⟨0, _, _, by omega, rfl, rfl, HI0.out⟩
  case round =>
    obtain ⟨k, own, x, hk, rfl, hx, hI⟩ := hrel
    have hx2 := hx.symm
    clear hx
    subst hx2
    have hl := hdK_len ns k HNB.out
    rw [HN4.out] at hl
    by_cases hlt : k < 4
    · obtain ⟨n, hn⟩ : ∃ n, ns[k]? = some n := ⟨_, List.getElem?_eq_getElem (by rw [HN4.out]; exact hlt)⟩
      have hnb := HNB.out n (List.mem_of_getElem? hn)
      have hs10 := (sizeM_bd n hnb).2.1
      have HP := Lib.hid (fun W => put_calls n W hnb)
      unfold PutPost at HP
      rw [show sizeM n = (putL n).length from (putL_len _).symm] at HP hs10
      have hc := hI.arr.cell (i := k) (v := .int .u64 (n : Nat)) (by rw [List.getElem?_map, hn]; rfl)
      have HST := Lib.hid (hdK_step ns k n hn)
      obtain ⟨a0, cap0, hx, -, -⟩ := hI.sl.form
      subst hx
      have N1 : Hid ((hdK ns k).length + (putL n).length ≤ maxLen) := Lib.hid (by unfold maxLen; omega)
      have N2 : Hid (((hdK ns k).length + (putL n).length) * 1 ≤ 140737488355328) := Lib.hid (by omega)
      have HO := Lib.hid (oneCell_u8s (putL n))
      have HLL := Lib.hid (u8s_len (putL n))
      have HJ := Lib.hid hI
      have HSL := Lib.hid hI.sl
      generalize putL n = t at *
      generalize hdK ns k = L at *
      have hki : (k : Int) < 4 := by omega
      clear hI hl hn hnb
      go_wp2_with fail
      refine (HP.out _).mono ?_
      rintro e w2 ⟨v2, g2, rfl, hS2, hg2, hk2⟩
      obtain ⟨a2, cap2, rfl, -, -⟩ := hS2.form
      have HS2 := Lib.hid hS2.src
      have HK2 := Lib.hid hk2
      clear hS2 hk2
      go_wp2_with (at_builtin; refine wpList_append_sl _ rfl _ _ 23 rfl 5 j0 (.int .u8 0) 1 1 Tryz.underlying23 HI.out HZ0.out HZ1.out HZ2.out rfl _ L.length (u8s L) (some own) rfl (HSL.out.kept HK2.out (fun _ _ h => h)) _ t.length (u8s t) rfl HS2.out (by rw [HLL.out, Nat.mul_one]) HO.out N1.out N2.out ?_; intro v3 w3 own3 hS3 ho3 hK3; have SA := Lib.hid hS3; have OA := Lib.hid ho3; have KA := Lib.hid hK3; clear hS3 ho3 hK3)
      have z1 := HJ.out.kept.size
      have z2 := HK2.out.size
      have z3 := HJ.out.arr.lt
      have z4 := HJ.out.ow
      have z5 := HJ.out.ne
      have KW := HJ.out.kept.trans ((HK2.out.mono (G := fun k => some own = some k) (fun _ _ h => h.elim)).trans KA.out (fun _ h => .inl h)) (fun i hi => .inr (by have := Option.some.inj hi; omega))
      have AR := KA.out.blk (HK2.out.blk HJ.out.arr (fun h => h)) (fun e => z5 (Option.some.inj e))
      have HW : Hid (∃ o, own3 = some o ∧ HdI ns W.heap.size w (k + 1) v3 w3 o) := Lib.hid (by
        rcases OA.out with e | e
        · refine ⟨own, e, ?_, z4, z5, AR, KW⟩
          rw [HST.out, List.length_append, u8s_app, ← e]; exact SA.out
        · refine ⟨_, e, ?_, by omega, by omega, AR, KW⟩
          rw [HST.out, List.length_append, u8s_app, ← e]; exact SA.out)
      clear SA OA KA HS2 HK2 KW AR z1 z2 z3 z4 z5 HJ HSL
      go_wp2_with fail
      obtain ⟨o, -, hW⟩ := HW.out
      exact ⟨⟨k + 1, o, _, by omega, by simp, rfl, hW⟩, by simp [intOf]; omega⟩
    · obtain rfl : k = 4 := by omega
      obtain ⟨a0, cap0, hx, -, -⟩ := hI.sl.form
      subst hx
      have HJ := Lib.hid hI
      clear hI hl
      go_wp2_with fail
      go_ret2
      refine ⟨_, own, rfl, ?_, HJ.out.ow, HJ.out.kept⟩
      rw [HHL.out]
      exact HJ.out.sl
end Go.Proofs.YtekdkckgmleofaaGreat

/- Contracts of package gram's functions for a datagram that tells one new entity by none: body, Write, Check. -/
namespace Go.Proofs.YtekdkckgmleofaaGreat
open Go.RowKit

/-- All bytes but the sum. -/
def bodyL (tick time : Int) (x : EntM) : List Nat := headL tick time ++ recL x (-1)
theorem recL_len {x : EntM} (h : x.Ok) : (recL x (-1)).length ≤ 100 := by
  have h1 := (sizeM_bd (x.id - (-1) - 1).toNat (by have := h.id1; omega)).2.1
  have h2 := allL_len x.ns h.ns
  have h3 := (sizeM_bd x.ang (by have := h.ang; omega)).2.1
  unfold recL wholeL
  simp only [List.length_append, putL_len]
  rw [show x.ns.length = 6 from rfl] at h2
  show _ + 1 + ((allL x.ns).length + _) ≤ _
  omega
theorem headL_len {tick time : Int} (h : SnapOk tick time) : (headL tick time).length ≤ 42 := by
  have hz := zigM_bd time (by have := h.s0; omega) (by have := h.s1; omega)
  have := hdK_len (hdN tick time) 4 (by
    intro n hn; simp at hn; have := h.t0; have := h.t1; omega)
  exact this
def BdP (l : List Nat) (w : World) (v : Value) (wr : World) : Prop := ∃ g, Sl wr v 5 1 l.length (u8s l) (some g) ∧ w.heap.size ≤ g ∧ Kept (fun _ => False) w wr
set_option maxRecDepth 100000 in
set_option maxHeartbeats 2000000 in
theorem body_calls (tick time : Int) (x : EntM) (h : SnapOk tick time) (hx : x.Ok) (w : World) (v : Value) (rb : Nat) (hv : Sl w v 175 9 1 (recC (putR x)) (some rb)) :
    Calls Tryz.prog 54 #[gramV tick time (-1) v] w (RowPost2 (bodyL tick time x) w) := by
  obtain ⟨g, off, cap, ho, rfl, hcap, hcm, hc, hf⟩ := hv.some (by omega)
  cases ho
  have i0 := hx.id0
  have HH := Lib.hid (fun W => head_calls tick time h (some ⟨rb, off, none⟩) cap W)
  have HW := Lib.hid (fun W => write_put x hx (-1) W (by omega) (by omega))
  have hl1 := recL_len hx
  have hl2 := headL_len h
  have HBL : Hid (bodyL tick time x = headL tick time ++ recL x (-1)) := Lib.hid rfl
  unfold RowPost2 at HH
  unfold RecPost at HW
  generalize headL tick time = L at *
  generalize recL x (-1) = t at *
  have N1 : Hid (L.length + t.length ≤ maxLen) := Lib.hid (by unfold maxLen; omega)
  have N2 : Hid ((L.length + t.length) * 1 ≤ 140737488355328) := Lib.hid (by omega)
  have HO := Lib.hid (oneCell_u8s t)
  have HLL := Lib.hid (u8s_len t)
  have hrb := hv.lt rfl
  have HV := Lib.hid hv
  have HC := Lib.hid hc
  obtain ⟨j0, hi, hz0, hz1, hz2⟩ := info_parts info8
  have HI := Lib.hid hi
  have HZ0 := Lib.hid hz0
  have HZ1 := Lib.hid hz1
  have HZ2 := Lib.hid hz2
  clear hi hz0 hz1 hz2 hv hc hf h
  go_enter Tryz.func54, Tryz.ntmps54
  go_wp2_with fail
  refine (HH.out _).mono ?_
  rintro e w1 ⟨v1, g1, rfl, hS1, hg1, hk1⟩
  have B0 := hk1.blk (Blk.new w (gramC tick time (-1) (.slice (some ⟨rb, off, none⟩) 1 cap)) 78) (fun h => h)
  have b3 := B0.cell (i := 3) rfl
  have K1 := ((Kept.refl (fun _ => False) w).alloc (.cells (gramC tick time (-1) (.slice (some ⟨rb, off, none⟩) 1 cap)).toArray 78)).trans hk1 (fun _ h => h.elim)
  have r0 := K1.cell (HC.out 0 _ rfl) (fun h => h)
  have r1 := K1.cell (HC.out 1 _ rfl) (fun h => h)
  have r2 := K1.cell (HC.out 2 _ rfl) (fun h => h)
  have r3 := K1.cell (HC.out 3 _ rfl) (fun h => h)
  have r4 := K1.cell (HC.out 4 _ rfl) (fun h => h)
  have r5 := K1.cell (HC.out 5 _ rfl) (fun h => h)
  have r6 := K1.cell (HC.out 6 _ rfl) (fun h => h)
  have r7 := K1.cell (HC.out 7 _ rfl) (fun h => h)
  have r8 := K1.cell (HC.out 8 _ rfl) (fun h => h)
  have HS1 := Lib.hid hS1
  have HK1 := Lib.hid K1
  have hg1' : w.heap.size < g1 := by simp at hg1; omega
  have hg1l : g1 < w1.heap.size := hS1.lt rfl
  clear hS1 hk1 K1 B0 hg1
  simp only [Nat.add_zero] at r0
  go_wp2_with fail
  go_loopw [4, 6, 22] (fun b l i wr => ∃ (k : Nat) (y : Value) (z : Int), i = .int .i64 k ∧ b = y ∧ l = .int .i64 z ∧ (k = 0 ∧ wr = w1 ∧ y = v1 ∧ z = -1 ∨ k = 1 ∧ BdP (L ++ t) w y wr)) (fun _ _ i _ => (1 - intOf i).toNat)
  case atStart => exact ⟨0, v1, -1, rfl, rfl, rfl, .inl ⟨rfl, rfl, rfl, rfl⟩⟩
  case round =>
    obtain ⟨k, y, z, rfl, hy, rfl, hk⟩ := hrel
    have hy2 := hy.symm
    clear hy
    subst hy2
    rcases hk with ⟨rfl, rfl, rfl, rfl⟩ | ⟨rfl, hP⟩
    · go_wp2_with fail
      refine (HW.out _).mono ?_
      rintro e w2 ⟨v2, g2, rfl, hS2, hg2, hk2⟩
      obtain ⟨a2, cap2, rfl, -, -⟩ := hS2.form
      have hlb : w.heap.size < wr.heap.size := by have := HS1.out.lt rfl; omega
      have K2 := (((Kept.refl (fun _ => False) wr).alloc (.cells #[.int .i64 0, .int .i64 x.id, .int .i64 x.p0, .int .i64 x.p1, .int .i64 x.p2, .int .i64 x.v0, .int .i64 x.v1, .int .i64 x.v2, .int .u16 x.ang] 175))).trans hk2 (fun _ h => h.elim)
      have B2 := (hk2.blk (Blk.new wr (recC (putR x)) 175) (fun h => h))
      have c1 := B2.cell (i := 1) rfl
      have HS2 := Lib.hid hS2.src
      have HSL := Lib.hid (HS1.out.kept K2 (fun _ _ h => h))
      have HK2 := Lib.hid (HK1.out.trans K2 (fun _ h => h.elim))
      have HB2 := Lib.hid B2
      have hz2 : wr.heap.size < w2.heap.size := by have := hk2.size; simp at this; omega
      clear hS2 hk2 K2 B2 r0 r1 r2 r3 r4 r5 r6 r7 r8 b3 hg2
      have hne : ¬ wr.heap.size = g1 := by omega
      go_wp2_with fail
      go_region_held3 (fun w' => w'.cell? ⟨wr.heap.size, 1, none⟩ = some (.int .i64 x.id))
        (first | (go_keep; done) | exact hk3.cell (by assumption) (fun e => hne (Option.some.inj e).symm))
        ((refine step_append_sl _ (by rfl) _ _ _ (by rfl) 5 j0 (.int .u8 0) 1 1 Tryz.underlying23 HI.out HZ0.out HZ1.out HZ2.out rfl _ L.length (u8s L) (some g1) (by rfl) (by exact HSL.out) _ t.length (u8s t) (by rfl) (by exact HS2.out) (by rw [HLL.out, Nat.mul_one]) HO.out N1.out N2.out ?_; intro v3 w3 o3 hS3 ho3 hk3))
      have HP : Hid (BdP (L ++ t) w v3 w3) := Lib.hid (by
        have hSS : Sl w3 v3 5 1 (L ++ t).length (u8s (L ++ t)) o3 := by rw [List.length_append, u8s_app]; exact hS3
        have zw := HK1.out.size
        have KK := HK2.out.drew.trans hk3 (fun i hi => .inr (by have := Option.some.inj hi; omega))
        have zz : w2.drew.heap.size = w2.heap.size := rfl
        rcases ho3 with e | e
        · exact ⟨g1, by rw [← e]; exact hSS, by omega, KK⟩
        · exact ⟨_, by rw [← e]; exact hSS, by omega, KK⟩)
      clear hS3 ho3 hk3 c1
      go_wp2_with fail
      exact ⟨⟨1, _, _, by simp, rfl, rfl, .inr ⟨rfl, HP.out⟩⟩, by simp [intOf]⟩
    · have HP := Lib.hid hP
      obtain ⟨g, hS, -⟩ := hP
      obtain ⟨a0, cap0, hx, -, -⟩ := hS.form
      subst hx
      clear hS
      go_wp2_with fail
      go_ret2
      obtain ⟨g, hS, hg, hK⟩ := HP.out
      exact ⟨_, g, rfl, by rw [HBL.out]; exact hS, hg, hK⟩
theorem bodyL_len {tick time : Int} {x : EntM} (h : SnapOk tick time) (hx : x.Ok) : (bodyL tick time x).length ≤ 142 := by
  have h1 := recL_len hx
  have h2 := headL_len h
  unfold bodyL
  rw [List.length_append]; omega
set_option maxRecDepth 100000 in
theorem gcheck_calls (tick time : Int) (x : EntM) (h : SnapOk tick time) (hx : x.Ok) (w : World) (v : Value) (rb : Nat) (hv : Sl w v 175 9 1 (recC (putR x)) (some rb)) :
    Calls Tryz.prog 116 #[gramV tick time (-1) v] w fun e w' => e = .returned (.int .i64 0) ∧ Kept (fun _ => False) w w' := by
  have HB := Lib.hid (body_calls tick time x h hx (w.alloc (.cells (gramC tick time (-1) v).toArray 78)) v rb (hv.alloc _))
  obtain ⟨a, cap, rfl, -, -⟩ := hv.form
  unfold RowPost2 at HB
  clear hv
  generalize bodyL tick time x = L at *
  go_enter Tryz.func116, Tryz.ntmps116
  go_wp2_with fail
  refine (HB.out).mono ?_
  rintro e w1 ⟨v1, g1, rfl, hS1, hg1, hk1⟩
  have HK1 := Lib.hid (((Kept.refl (fun _ => False) w).alloc (.cells (gramC tick time (-1) (.slice a 1 cap)).toArray 78)).trans hk1 (fun _ h => h.elim))
  clear hS1 hk1 hg1
  go_wp2_with fail
  go_ret
  exact ⟨rfl, HK1.out⟩
/-- A datagram's bytes. -/
def gramL (tick time : Int) (x : EntM) : List Nat := sealM (bodyL tick time x)
theorem lt256_put (x : Nat) : ∀ c ∈ putL x, c < 256 := by
  intro c hc
  unfold putL at hc
  obtain ⟨i, -, rfl⟩ := List.mem_map.1 hc
  have := dig_lt x i
  unfold putB
  split <;> omega
theorem lt256_all (ns : List Int) : ∀ c ∈ allL ns, c < 256 := by
  intro c hc
  unfold allL at hc
  obtain ⟨n, -, h⟩ := List.mem_flatMap.1 hc
  exact lt256_put _ c h
theorem bodyL_byte (tick time : Int) (x : EntM) : ∀ c ∈ bodyL tick time x, c < 256 := by
  intro c hc
  unfold bodyL headL hdK recL wholeL at hc
  simp only [List.mem_append, List.mem_cons, List.mem_flatMap, List.not_mem_nil, or_false] at hc
  rcases hc with (((h | h) | ⟨n, -, h⟩) | ((h | h) | (h | h)))
  · omega
  · omega
  · exact lt256_put _ c h
  · exact lt256_put _ c h
  · omega
  · exact lt256_all _ c h
  · exact lt256_put _ c h
theorem bodyL_pos (tick time : Int) (x : EntM) : 1 ≤ (bodyL tick time x).length := by
  unfold bodyL headL hdK
  simp only [List.length_append, List.length_cons]
  omega
set_option maxRecDepth 100000 in
theorem gwrite_calls (tick time : Int) (x : EntM) (h : SnapOk tick time) (hx : x.Ok) (w : World) (v : Value) (rb : Nat) (hv : Sl w v 175 9 1 (recC (putR x)) (some rb)) :
    Calls Tryz.prog 24 #[gramV tick time (-1) v] w (RowPost2 (gramL tick time x) w) := by
  have HB := Lib.hid (body_calls tick time x h hx (w.alloc (.cells (gramC tick time (-1) v).toArray 78)) v rb (hv.alloc _))
  obtain ⟨a, cap, rfl, -, -⟩ := hv.form
  unfold RowPost2 at HB
  have hl := bodyL_len h hx
  have hl1 := bodyL_pos tick time x
  have HS := Lib.hid (fun W v own hW => seal_calls (bodyL tick time x) W v own hW (bodyL_pos tick time x) (by omega) (bodyL_byte tick time x))
  have HG : Hid (gramL tick time x = sealM (bodyL tick time x)) := Lib.hid rfl
  unfold RowPost at HS
  clear hv
  generalize bodyL tick time x = L at *
  generalize sealM L = M at *
  go_enter Tryz.func24, Tryz.ntmps24
  go_wp2_with fail
  refine (HB.out).mono ?_
  rintro e w1 ⟨v1, g1, rfl, hS1, hg1, hk1⟩
  obtain ⟨a1, cap1, rfl, -, -⟩ := hS1.form
  have HK1 := Lib.hid (((Kept.refl (fun _ => False) w).alloc (.cells (gramC tick time (-1) (.slice a 1 cap)).toArray 78)).trans hk1 (fun _ h => h.elim))
  have HS1 := Lib.hid hS1
  clear hS1 hk1 hg1
  have hl4 : ¬ (4092 : Int) < L.length := by omega
  go_wp2_with fail
  refine (HS.out _ _ _ HS1.out).mono ?_
  rintro e w2 ⟨v2, g2, rfl, hS2, hg2, hk2⟩
  have HS2 := Lib.hid hS2
  have HK2 := Lib.hid hk2
  clear hS2 hk2
  go_wp2_with fail
  go_ret2
  exact ⟨_, g2, rfl, by rw [HG.out]; exact HS2.out, by have := HK1.out.size; omega, HK1.out.trans HK2.out (fun _ h => h.elim)⟩
end Go.Proofs.YtekdkckgmleofaaGreat

/- Contracts of package gram's parser for a datagram that tells one new entity by none: must, signs, when, base. -/
namespace Go.Proofs.YtekdkckgmleofaaGreat
open Go.RowKit

abbrev parC (p : Nat) (tick time base : Int) (rs : Value) : List Value := [.pointer (some ⟨p, 0, none⟩), .int .i64 tick, .int .i64 time, .int .i64 base, rs]
theorem must_calls (c : Nat) (w : World) (q p g off cap : Nat) (bs : List Nat) (a : Nat) (tick time base : Int) (rs : Value) (hq : Blk w q (parC p tick time base rs) 213) (h : Rd w p g off cap bs a) (hb : bs[a]? = some c) :
    Calls Tryz.prog 147 #[.pointer (some ⟨q, 0, none⟩), .int .u8 c] w fun e w' => e = .returned (.tuple #[]) ∧ Rd w' p g off cap bs (a + 1) ∧ Kept (· = p) w w' := by
  have HB := Lib.hid (byte_calls c w p g off cap bs a h hb)
  have q0 := hq.cell (i := 0) rfl
  clear h hb hq
  go_enter Tryz.func147, Tryz.ntmps147
  go_wp2_with fail
  refine (HB.out).mono ?_
  rintro e w1 ⟨rfl, hr, hk⟩
  have HR := Lib.hid hr
  have HK := Lib.hid hk
  clear hr hk
  go_wp2_with fail
  go_end0
  exact ⟨rfl, HR.out, HK.out⟩
theorem signs_calls (w : World) (q p g off cap : Nat) (bs : List Nat) (a : Nat) (tick time base : Int) (rs : Value) (hq : Blk w q (parC p tick time base rs) 213) (hqp : q ≠ p) (h : Rd w p g off cap bs a) (ha : At bs a [71, 1]) :
    Calls Tryz.prog 109 #[.pointer (some ⟨q, 0, none⟩)] w fun e w' => e = .returned (.tuple #[]) ∧ Rd w' p g off cap bs (a + 2) ∧ Kept (· = p) w w' := by
  have A0 : bs[a]? = some 71 := by simpa using ha 0 (by simp)
  have A1 : bs[a + 1]? = some 1 := by simpa using ha 1 (by simp)
  have H1 := Lib.hid (must_calls 71 w q p g off cap bs a tick time base rs hq h A0)
  have H2 := Lib.hid (fun W hq h => must_calls 1 W q p g off cap bs (a + 1) tick time base rs hq h A1)
  have HQ := Lib.hid hq
  clear h hq ha A0 A1
  go_enter Tryz.func109, Tryz.ntmps109
  go_wp2_with fail
  refine (H1.out).mono ?_
  rintro e w1 ⟨rfl, hr, hk⟩
  have HR := Lib.hid hr
  have HK := Lib.hid hk
  clear hr hk
  go_wp2_with fail
  refine (H2.out _ (HK.out.blk HQ.out hqp) HR.out).mono ?_
  rintro e w2 ⟨rfl, hr, hk⟩
  have HR2 := Lib.hid hr
  have HK2 := Lib.hid hk
  clear hr hk
  go_wp2_with fail
  go_end0
  exact ⟨rfl, HR2.out, HK.out.trans HK2.out (fun _ h => .inl h)⟩
set_option maxRecDepth 100000 in
theorem when_calls (tick time : Int) (hs : SnapOk tick time) (w : World) (q p g off cap : Nat) (bs : List Nat) (a : Nat) (base : Int) (rs : Value) (hq : Blk w q (parC p 0 0 base rs) 213) (hqp : q ≠ p) (hqg : q ≠ g) (h : Rd w p g off cap bs a)
    (ha : At bs a (putL tick.toNat ++ putL (zigM time).toNat)) :
    Calls Tryz.prog 110 #[.pointer (some ⟨q, 0, none⟩)] w fun e w' => e = .returned (.tuple #[]) ∧ Rd w' p g off cap bs (a + (putL tick.toNat ++ putL (zigM time).toNat).length) ∧ Blk w' q (parC p tick time base rs) 213 ∧ Kept (fun i => i = p ∨ i = q) w w' := by
  obtain ⟨t0, t1, s0, s1⟩ := hs
  have A0 := ha.left.put
  have A1 := ha.right.put
  rw [putL_len] at A1
  have H1 : Hid (Calls Tryz.prog 148 #[.pointer (some ⟨p, 0, none⟩), .int .u64 4294967295] w fun e w' => e = .returned (.int .u64 tick) ∧ Rd w' p g off cap bs (a + sizeM tick.toNat) ∧ Kept (· = p) w w') := Lib.hid (by
    have := uint_calls tick.toNat 4294967295 w p g off cap bs a h (by omega) (by omega) A0
    rw [show ((tick.toNat : Nat) : Int) = tick by omega] at this
    exact this)
  have H2 := Lib.hid (fun W (h : Rd W p g off cap bs (a + sizeM tick.toNat)) => int_calls time W p g off cap bs (a + sizeM tick.toNat) h (by omega) (by omega) A1)
  have HT := Lib.hid (fun W => timely_yes time W s0 s1)
  have HE : Hid (a + (putL tick.toNat ++ putL (zigM time).toNat).length = a + sizeM tick.toNat + sizeM (zigM time).toNat) := Lib.hid (by
    rw [List.length_append, putL_len, putL_len]; omega)
  rw [HE.out]
  generalize a + sizeM tick.toNat + sizeM (zigM time).toNat = a2 at *
  generalize a + sizeM tick.toNat = a1 at *
  have q0 := hq.cell (i := 0) rfl
  have HQ := Lib.hid hq
  clear h hq ha A0 A1 HE
  have w1t : IntKind.i64.wrap tick = tick := IntWalk.i64_in _ (by omega)
  go_enter Tryz.func110, Tryz.ntmps110
  go_wp2_with fail
  refine (H1.out).mono ?_
  rintro e w1 ⟨rfl, hr, hk⟩
  have B1 := hk.blk HQ.out hqp
  have c0 := B1.cell (i := 0) rfl
  have c1 := B1.cell (i := 1) rfl
  have f1 := B1.free 1
  have KS := (Kept.refl (· = q) w1).setCell (a := ⟨q, 1, none⟩) (.inl rfl) (.int .i64 tick)
  have HR := Lib.hid (hr.kept KS (fun e => hqp e.symm) (fun e => hqg e.symm))
  have HB := Lib.hid (B1.set 1 (.int .i64 tick))
  have HK := Lib.hid ((hk.mono (G := fun i => i = p ∨ i = q) (fun _ _ h => .inl h)).trans KS (fun _ h => .inl (.inr h)))
  clear hr hk KS B1
  go_wp2_with fail
  refine (H2.out _ HR.out).mono ?_
  rintro e w2 ⟨rfl, hr, hk⟩
  have B1 := hk.blk HB.out hqp
  have d0 := B1.cell (i := 0) rfl
  have d2 := B1.cell (i := 2) rfl
  have e2 := B1.free 2
  have KS := (Kept.refl (· = q) w2).setCell (a := ⟨q, 2, none⟩) (.inl rfl) (.int .i64 time)
  have HR2 := Lib.hid (hr.kept KS (fun e => hqp e.symm) (fun e => hqg e.symm))
  have HB2 := Lib.hid (B1.set 2 (.int .i64 time))
  have HK2 := Lib.hid ((HK.out.trans hk (fun _ h => .inl (.inl h))).trans KS (fun _ h => .inl (.inr h)))
  clear hr hk KS B1 HR HB HK
  go_wp2_with fail
  refine (HT.out _).mono ?_
  rintro e w3 ⟨rfl, rfl⟩
  go_wp2_with fail
  go_end0
  exact ⟨rfl, HR2.out, HB2.out, HK2.out⟩
set_option maxRecDepth 100000 in
theorem base_calls (tick time : Int) (hs : SnapOk tick time) (w : World) (q p g off cap : Nat) (bs : List Nat) (a : Nat) (rs : Value) (hq : Blk w q (parC p tick time 0 rs) 213) (hqp : q ≠ p) (hqg : q ≠ g) (h : Rd w p g off cap bs a)
    (ha : At bs a (putL 0)) :
    Calls Tryz.prog 111 #[.pointer (some ⟨q, 0, none⟩)] w fun e w' => e = .returned (.tuple #[]) ∧ Rd w' p g off cap bs (a + (putL 0).length) ∧ Blk w' q (parC p tick time (-1) rs) 213 ∧ Kept (fun i => i = p ∨ i = q) w w' := by
  obtain ⟨t0, t1, s0, s1⟩ := hs
  have A0 := ha.put
  have H1 : Hid (∀ W, Rd W p g off cap bs a → Calls Tryz.prog 148 #[.pointer (some ⟨p, 0, none⟩), .int .u64 tick] W fun e w' => e = .returned (.int .u64 0) ∧ Rd w' p g off cap bs (a + sizeM 0) ∧ Kept (· = p) W w') := Lib.hid (fun W h => by
    have := uint_calls 0 tick.toNat W p g off cap bs a h (by omega) (by omega) A0
    rw [show ((tick.toNat : Nat) : Int) = tick by omega] at this
    exact this)
  rw [putL_len]
  generalize a + sizeM 0 = a1 at *
  have q0 := hq.cell (i := 0) rfl
  have q1 := hq.cell (i := 1) rfl
  have q3 := hq.cell (i := 3) rfl
  have f3 := hq.free 3
  have HQ := Lib.hid hq
  have HH := Lib.hid h
  clear h hq ha A0
  have u1t : IntKind.u64.wrap tick = tick := IntWalk.u64_in _ (by omega)
  go_enter Tryz.func111, Tryz.ntmps111
  go_wp2_with fail
  have KS := (Kept.refl (· = q) w).setCell (a := ⟨q, 3, none⟩) (.inl rfl) (.int .i64 (-1))
  refine at_world (fun W => Blk W q (parC p tick time (-1) rs) 213 ∧ Rd W p g off cap bs a ∧ Kept (· = q) w W) ⟨HQ.out.set 3 (.int .i64 (-1)), HH.out.kept KS (fun e => hqp e.symm) (fun e => hqg e.symm), KS⟩ ?_
  clear KS q0 q1 q3 f3
  rintro W ⟨B, hR, hK⟩
  have q0 := B.cell (i := 0) rfl
  have q1 := B.cell (i := 1) rfl
  have HB := Lib.hid B
  have HR := Lib.hid hR
  have HK := Lib.hid hK
  clear B hR hK
  go_region_held3 (fun w' => w'.cell? ⟨q, 0, none⟩ = some (.pointer (some ⟨p, 0, none⟩)) ∧ w'.cell? ⟨q, 1, none⟩ = some (.int .i64 tick))
    (first | (go_keep; done) | exact ⟨(hk2.blk HB.out.drew hqp).cell (i := 0) rfl, (hk2.blk HB.out.drew hqp).cell (i := 1) rfl⟩)
    ((go_at_call 148; refine (H1.out _ HR.out.drew).mono ?_; rintro e w2 ⟨rfl, hr2, hk2⟩))
  all_goals
    have HR2 := Lib.hid hr2
    have HK2 := Lib.hid hk2
    clear hr2 hk2
    go_wp2_with fail
    go_end0
    exact ⟨rfl, HR2.out, HK2.out.blk HB.out.drew hqp, (HK.out.mono (G := fun i => i = p ∨ i = q) (fun _ _ h => .inr h)).drew.trans HK2.out (fun _ h => .inl (.inl h))⟩
end Go.Proofs.YtekdkckgmleofaaGreat

/- Contracts of package gram's parser for a datagram that tells one new entity by none: records. -/
namespace Go.Proofs.YtekdkckgmleofaaGreat
open Go.RowKit

theorem infoRec : (Tryz.prog.info? 175).map (fun i => (i.zero, i.size, i.bytes)) = some (some (.agg zrec.toArray), 9, 72) := by kernel_rfl
/-- A row of one thing. -/
def OneP (e : TypeId) (s : Nat) (xs : List Value) (v : Value) (lo : Nat) (w : World) : Prop := ∃ g, Sl w v e s 1 xs (some g) ∧ lo ≤ g
theorem OneP.kept {F : Nat → Prop} {e : TypeId} {s : Nat} {xs : List Value} {v : Value} {lo : Nat} {w w' : World} (h : OneP e s xs v lo w) (k : Kept F w w') (hF : ∀ g, lo ≤ g → ¬ F g) : OneP e s xs v lo w' := by
  obtain ⟨g, hS, hg⟩ := h
  exact ⟨g, hS.kept k (fun g' e => by cases e; exact hF g hg), hg⟩
def RecsPost (tick time : Int) (x : EntM) (q p g off cap : Nat) (bs : List Nat) (a lo : Nat) (w : World) (e : Ending) (w' : World) : Prop :=
  ∃ v, e = .returned (.tuple #[]) ∧ Rd w' p g off cap bs a ∧ Blk w' q (parC p tick time (-1) v) 213 ∧ OneP 175 9 (recC (putR x)) v lo w' ∧ Kept (fun i => i = p ∨ i = q) w w'
set_option maxRecDepth 100000 in
set_option maxHeartbeats 2000000 in
theorem records_calls (tick time : Int) (x : EntM) (hx : x.Ok) (w : World) (q p g off cap : Nat) (bs : List Nat) (a : Nat) (hq : Blk w q (parC p tick time (-1) (.slice none 0 0)) 213) (hqp : q ≠ p) (hqg : q ≠ g) (h : Rd w p g off cap bs a)
    (hg : g < w.heap.size) (ha : At bs a (putL 1 ++ recL x (-1))) :
    Calls Tryz.prog 112 #[.pointer (some ⟨q, 0, none⟩)] w (RecsPost tick time x q p g off cap bs (a + (putL 1 ++ recL x (-1)).length) w.heap.size w) := by
  have A0 := ha.left.put
  have A1 := ha.right
  rw [putL_len] at A1
  have i0 := hx.id0
  have H1 : Hid (∀ W, Rd W p g off cap bs a → Calls Tryz.prog 148 #[.pointer (some ⟨p, 0, none⟩), .int .u64 128] W fun e w' => e = .returned (.int .u64 1) ∧ Rd w' p g off cap bs (a + sizeM 1) ∧ Kept (· = p) W w') := Lib.hid (fun W h => uint_calls 1 128 W p g off cap bs a h (by omega) (by omega) A0)
  have H2 := Lib.hid (fun W (h : Rd W p g off cap bs (a + sizeM 1)) hg => readRec_calls x hx (-1) W p g off cap bs (a + sizeM 1) h hg (by omega) (by omega) A1)
  have HE : Hid (a + (putL 1 ++ recL x (-1)).length = a + sizeM 1 + (recL x (-1)).length) := Lib.hid (by
    rw [List.length_append, putL_len]; omega)
  rw [HE.out]
  unfold ReadRecPost at H2
  generalize a + sizeM 1 + (recL x (-1)).length = a2 at *
  generalize a + sizeM 1 = a1 at *
  have q0 := hq.cell (i := 0) rfl
  have HQ := Lib.hid hq
  have HH := Lib.hid h
  have hql := hq.lt
  clear h hq ha A0 A1 HE
  go_enter Tryz.func112, Tryz.ntmps112
  go_wp2_with fail
  refine (H1.out _ HH.out).mono ?_
  rintro e w1 ⟨rfl, hr1, hk1⟩
  have HB1 := Lib.hid (hk1.blk HQ.out hqp)
  have HR1 := Lib.hid hr1
  have HK1 := Lib.hid hk1
  have hg1 : g < w1.heap.size := Nat.lt_of_lt_of_le hg hk1.size
  clear hr1 hk1 q0
  go_wp2_with fail
  go_loopw [2, 10] (fun l i wr => ∃ (k : Nat) (z : Int), i = .int .u64 k ∧ l = .int .i64 z ∧ (k = 0 ∧ z = -1 ∧ wr = w1 ∨ k = 1 ∧ RecsPost tick time x q p g off cap bs a2 w.heap.size w (.returned (.tuple #[])) wr)) (fun _ i _ => (1 - intOf i).toNat)
  case atStart => exact ⟨0, -1, rfl, rfl, .inl ⟨rfl, rfl, rfl⟩⟩
  case round =>
    obtain ⟨k, z, rfl, rfl, hk⟩ := hrel
    rcases hk with ⟨rfl, rfl, rfl⟩ | ⟨rfl, hP⟩
    · have q0 := HB1.out.cell (i := 0) rfl
      go_wp2_with fail
      refine (H2.out _ HR1.out hg1).mono ?_
      rintro e w2 ⟨rfl, hr2, hk2⟩
      have B2 := hk2.blk HB1.out hqp
      have HR2 := Lib.hid hr2
      have HB2 := Lib.hid B2
      have HK2 := Lib.hid (HK1.out.trans hk2 (fun _ h => .inl h))
      clear hr2 hk2 B2 q0
      go_wp2_with fail
      have hz2 : q < w2.heap.size := HB2.out.lt
      refine at_world (fun W => Blk W q (parC p tick time (-1) (.slice none 0 0)) 213 ∧ Blk W w2.heap.size (recC (putR x)) 175 ∧ Rd W p g off cap bs a2 ∧ Kept (· = p) w W) ⟨HB2.out.alloc _, Blk.new w2 _ _, HR2.out.kept ((Kept.refl (fun _ => False) w2).alloc _) (fun h => h) (fun h => h), HK2.out.alloc _⟩ ?_
      rintro W ⟨BQ, BM, hR, hK⟩
      have HBQ := Lib.hid BQ
      have HBM := Lib.hid BM
      have HR := Lib.hid hR
      have HK := Lib.hid hK
      have q4 := BQ.cell (i := 4) rfl
      have hqW := BQ.lt
      have hmW := BM.lt
      have m0 := BM.cell (i := 0) rfl
      have m1 := BM.cell (i := 1) rfl
      have m2 := BM.cell (i := 2) rfl
      have m3 := BM.cell (i := 3) rfl
      have m4 := BM.cell (i := 4) rfl
      have m5 := BM.cell (i := 5) rfl
      have m6 := BM.cell (i := 6) rfl
      have m7 := BM.cell (i := 7) rfl
      have m8 := BM.cell (i := 8) rfl
      have nq : q ≠ W.heap.size := by omega
      have nm : w2.heap.size ≠ W.heap.size := by omega
      clear BQ BM hR hK
      obtain ⟨j0, hi, hz0, hz1, hz2⟩ := info_parts infoRec
      have HI := Lib.hid hi
      have HZ0 := Lib.hid hz0
      have HZ1 := Lib.hid hz1
      have HZ2 := Lib.hid hz2
      have HSR : Hid (∀ W : World, Src (W.alloc (.cells #[.int .i64 0, .int .i64 x.id, .int .i64 x.p0, .int .i64 x.p1, .int .i64 x.p2, .int .i64 x.v0, .int .i64 x.v1, .int .i64 x.v2, .int .u16 x.ang] 175)) (.slice (some ⟨W.heap.size, 0, none⟩) 1 1) 1 (recC (putR x))) := Lib.hid (fun W => (Sl.made W (recC (putR x)) 175 9 1 rfl (by decide)).src)
      have HO : Hid (∀ u ∈ recC (putR x), u.oneCell' = true) := Lib.hid (by simp [Value.oneCell'])
      have N1 : Hid (0 + 1 ≤ maxLen) := Lib.hid (by decide)
      have N2 : Hid ((0 + 1) * 72 ≤ 140737488355328) := Lib.hid (by decide)
      clear hi hz0 hz1 hz2
      go_region_law ((refine step_append_sl _ (by rfl) _ _ _ (by rfl) 175 j0 (.agg zrec.toArray) 9 72 Tryz.underlying76 HI.out HZ0.out HZ1.out HZ2.out rfl (.slice none 0 0) 0 [] none (by rfl) (Sl.nil _ _ _) _ 1 (recC (putR x)) (by rfl) (by exact HSR.out _) rfl HO.out N1.out N2.out ?_; intro v3 w3 o3 hS3 ho3 hk3; have hS3' := hS3; rw [show 0 + 1 = 1 from rfl] at hS3'; obtain ⟨a3, cap3, rfl, -, -⟩ := hS3'.form; have c4 := (hk3.blk (HBQ.out.drew.alloc _) (fun e => by cases e)).cell (i := 4) rfl; have f4 := (hk3.blk (HBQ.out.drew.alloc _) (fun e => by cases e)).free 4; have c1 := (hk3.blk (HBM.out.drew.alloc _) (fun e => by cases e)).cell (i := 1) rfl))
      all_goals
        have HP : Hid (RecsPost tick time x q p g off cap bs a2 w.heap.size w (.returned (.tuple #[])) (w3.setCell ⟨q, 4, none⟩ (.slice a3 (0 + 1) cap3))) := Lib.hid (by
          have kA := ((Kept.refl (fun k => none = some k) W).drew.alloc (.cells #[.int .i64 0, .int .i64 x.id, .int .i64 x.p0, .int .i64 x.p1, .int .i64 x.p2, .int .i64 x.v0, .int .i64 x.v1, .int .i64 x.v2, .int .u16 x.ang] 175)).trans hk3 (fun _ h => .inl h)
          have KS := (Kept.refl (· = q) w3).setCell (a := ⟨q, 4, none⟩) (.inl rfl) (.slice a3 (0 + 1) cap3)
          have zW := HK.out.size
          refine ⟨_, rfl, (HR.out.kept kA (fun h => by cases h) (fun h => by cases h)).kept KS (fun e => hqp e.symm) (fun e => hqg e.symm), (kA.blk HBQ.out (fun h => by cases h)).set 4 (.slice a3 (0 + 1) cap3), ?_, ((HK.out.mono (G := fun i => i = p ∨ i = q) (fun _ _ h => .inl h)).trans kA (fun _ h => by cases h)).trans KS (fun _ h => .inl (.inr h))⟩
          rcases ho3 with e | e
          · subst e
            rcases hS3.2 with ⟨hh, _⟩ | ⟨_, _, _, _, hh, _⟩
            · cases hh
            · cases hh
          · subst e
            refine ⟨_, hS3.setCell (fun g' e' => ?_) _, by simp; omega⟩
            have := Option.some.inj e'
            simp at this
            show g' ≠ q
            omega)
        clear hS3 hS3' ho3 hk3 c4 f4 c1 q4 m0 m1 m2 m3 m4 m5 m6 m7 m8
        go_wp2_with fail
        exact ⟨⟨1, _, by simp, rfl, .inr ⟨rfl, HP.out⟩⟩, by simp [intOf]⟩
    · have HP := Lib.hid hP
      clear hP
      go_wp2_with fail
      go_end0
      exact HP.out
end Go.Proofs.YtekdkckgmleofaaGreat
