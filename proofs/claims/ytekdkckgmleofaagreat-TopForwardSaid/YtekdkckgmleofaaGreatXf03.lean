/- Joined texts. -/
import Derived.Test.YtekdkckgmleofaaGreatXf01
import Derived.StillTail
import Derived.Deep.Quiet
import Derived.Deep.Draws
set_option linter.unusedVariables false
set_option linter.unusedSimpArgs false
/- General words, the third: a statement whose operations Go may carry out in more than one order: copies that may come up whenever, then reads and quiet calls in whatever order, then the rest in the one order that its edges leave. No statement of the seat; no program in sight. -/
namespace Go.Proofs.YtekdkckgmleofaaGreat
open Go.RowKit

section
variable {P : Program} {ops : Array Oper} {md : Region.Mode} {C : World → Prop}

/-- What has come up is closed: all that it waits for has come up. -/
structure Clo (md : Region.Mode) (ops : Array Oper) (listed : Array Bool) : Prop where
  size : listed.size = ops.size
  closed : ∀ j oj, ops[j]? = some oj → listed.getD j false = true → ∀ e ∈ oj.after, Region.binds md e = true → listed.getD e.on false = true

/-- t comes up only behind h. -/
def Anc (md : Region.Mode) (ops : Array Oper) (t h : Nat) : Prop :=
  ∀ listed, Clo md ops listed → (t ∈ Region.ready md ops listed ∨ listed.getD t false = true) → listed.getD h false = true

theorem Anc.one {t h : Nat} {o : Oper} {e : _} (ho : ops[t]? = some o) (he : e ∈ o.after) (hb : Region.binds md e = true) (hh : e.on = h) : Anc md ops t h := by
  intro listed inv ht
  rw [← hh]
  rcases ht with hr | hl
  · obtain ⟨_, o', ho', hall⟩ := mem_ready.1 hr
    have e1 := Option.some.inj (ho'.symm.trans ho)
    subst e1
    exact hall _ he hb
  · exact inv.closed _ _ ho hl _ he hb
theorem Anc.more {t m h : Nat} (h1 : Anc md ops t m) (h2 : Anc md ops m h) : Anc md ops t h :=
  fun listed inv ht => h2 listed inv (.inr (h1 listed inv ht))

def depsOf (md : Region.Mode) (ops : Array Oper) (t : Nat) : List Nat :=
  match ops[t]? with
  | none => []
  | some o => (o.after.toList.filter fun e => Region.binds md e).map (·.on)

theorem depsOf_anc {t h : Nat} (hh : h ∈ depsOf md ops t) : Anc md ops t h := by
  unfold depsOf at hh
  split at hh
  · cases hh
  · rename_i o ho
    obtain ⟨e, he, rfl⟩ := List.mem_map.1 hh
    obtain ⟨h1, h2⟩ := List.mem_filter.1 he
    exact .one ho (by simpa using h1) h2 rfl

def ancs (md : Region.Mode) (ops : Array Oper) : Nat → List Nat → List Nat → List Nat
  | 0, _, seen => seen
  | _ + 1, [], seen => seen
  | f + 1, x :: fr, seen => ancs md ops f (((depsOf md ops x).filter fun y => !seen.contains y) ++ fr) (((depsOf md ops x).filter fun y => !seen.contains y) ++ seen)

theorem ancs_anc {t : Nat} : ∀ (f : Nat) (fr seen : List Nat), (∀ x ∈ fr, x = t ∨ Anc md ops t x) → (∀ x ∈ seen, Anc md ops t x) → ∀ h ∈ ancs md ops f fr seen, Anc md ops t h
  | 0, _, _, _, h2, h, hh => h2 h hh
  | _ + 1, [], _, _, h2, h, hh => h2 h hh
  | f + 1, x :: fr, seen, h1, h2, h, hh => by
    have hd : ∀ y ∈ (depsOf md ops x).filter fun y => !seen.contains y, Anc md ops t y := fun y hy => by
      have hx := depsOf_anc (List.mem_filter.1 hy).1
      rcases h1 x List.mem_cons_self with rfl | hx'
      · exact hx
      · exact .more hx' hx
    refine ancs_anc f _ _ (fun y hy => ?_) (fun y hy => ?_) h hh
    · rcases List.mem_append.1 hy with hy | hy
      · exact .inr (hd y hy)
      · exact h1 y (List.mem_cons_of_mem _ hy)
    · rcases List.mem_append.1 hy with hy | hy
      · exact hd y hy
      · exact h2 y hy

theorem Clo.set {i : Nat} {listed : Array Bool} (inv : Clo md ops listed) (hi : i ∈ Region.ready md ops listed) : Clo md ops (listed.setIfInBounds i true) := by
  obtain ⟨_, oi, hoi, hall⟩ := mem_ready.1 hi
  refine ⟨by simp [inv.size], fun j oj hj hl e he hb => ?_⟩
  by_cases hij : i = j
  · subst hij
    have : oj = oi := Option.some.inj (hj.symm.trans hoi)
    subst this
    exact getD_set_true (hall e he hb)
  · rw [getD_set_ne false hij] at hl
    exact getD_set_true (inv.closed j oj hj hl e he hb)

theorem Clo.anc_ready {listed : Array Bool} (inv : Clo md ops listed) {t h : Nat} (ha : Anc md ops t h) (hr : t ∈ Region.ready md ops listed) : listed.getD h false = true := ha listed inv (.inl hr)

/-- Whatever order is picked, only operations of H come up, each quietly; behind them L. -/
def wpAnyH2 (P : Program) (md : Region.Mode) (ops : Array Oper) (C : World → Prop) (H : List Nat) (L : Array Bool → Act → Prop) : Nat → Array Bool → Act → Prop
  | 0, listed, a => L listed a
  | f + 1, listed, a =>
    Region.ready md ops listed ≠ [] ∧ ∀ i ∈ Region.ready md ops listed, i ∈ H ∧ qOp P ops C i (wpAnyH2 P md ops C H L f (listed.setIfInBounds i true)) a

theorem wpAny_of_head2 {H : List Nat} {g : Nat} {L : Array Bool → Act → Prop} {Q' : Exit → Act → World → Prop} (hL : ∀ listed a w, C w → L listed a → wpAny P md ops Q' g listed a w) :
    ∀ (f : Nat) (listed : Array Bool) (a : Act) (w : World), C w → wpAnyH2 P md ops C H L f listed a → wpAny P md ops Q' (f + g) listed a w
  | 0, listed, a, w, hw, h => by rw [Nat.zero_add]; exact hL _ _ _ hw h
  | f + 1, listed, a, w, hw, h => by
    rw [show f + 1 + g = (f + g) + 1 by omega]
    exact ⟨fun h0 => absurd h0 h.1, fun i hi => wpOp_of_qOp hw (fun a' w' hw' h' => wpAny_of_head2 hL f _ a' w' hw' h') (h.2 i hi).2⟩

theorem wpAnyH2_first {H : List Nat} {i : Nat} {oi : Oper} {v : Value} {L : Array Bool → Act → Prop} (hi : ops[i]? = some oi) (hsel : ∀ (j : Nat) (o : Oper) cs b, ops[j]? = some o → o.op ≠ .select cs b)
    (hin : i ∈ H) (hT : ∀ listed, Clo md ops listed → listed.getD i false = false → ∀ j ∈ Region.ready md ops listed, j ∈ H)
    (hdone : ∀ listed a, L listed a → ∀ j ∈ Region.ready md ops listed, j ∉ H) :
    ∀ (f : Nat) (listed : Array Bool) (a : Act), Clo md ops listed →
      (∀ j oj, ops[j]? = some oj → j ≠ i → listed.getD j true = false → (∀ e ∈ oj.after, Region.binds md e = true → e.on ≠ i) → oi.apart ops oj = true) →
      i ∈ Region.ready md ops listed → YieldsIn P ops C oi v a →
      wpAnyH2 P md ops C H L f (listed.setIfInBounds i true) (a.put oi.dst v) → wpAnyH2 P md ops C H L (f + 1) listed a := by
  intro f
  induction f with
  | zero =>
    intro listed a inv _ hr hy Hh
    have hun := getD_both (mem_ready.1 hr).1
    refine ⟨fun h => (by rw [h] at hr; cases hr), fun j hj => ?_⟩
    have hjn := hT listed inv hun j hj
    refine ⟨hjn, ?_⟩
    by_cases hji : j = i
    · subst hji; exact hy.qOp hi Hh
    · exact absurd hjn (hdone _ _ Hh j (ready_mono hj hji))
  | succ f ih =>
    intro listed a inv hfree hr hy Hh
    have hun := getD_both (mem_ready.1 hr).1
    refine ⟨fun h => (by rw [h] at hr; cases hr), fun j hj => ?_⟩
    have hjn := hT listed inv hun j hj
    refine ⟨hjn, ?_⟩
    by_cases hji : j = i
    · subst hji; exact hy.qOp hi Hh
    · have h1 := (Hh.2 j (ready_mono hj hji)).2
      obtain ⟨hjun, oj, hoj, hall⟩ := mem_ready.1 hj
      have hnot : ∀ e ∈ oj.after, Region.binds md e = true → e.on ≠ i := fun e he hb heq => by
        have h1 := hall e he hb
        rw [heq, hun] at h1
        cases h1
      have h2 := qOp_put hoj (hfree j oj hoj hji hjun hnot) (fun cs b => hsel i oi cs b hi) (fun cs b => hsel j oj cs b hoj) hy h1
      have hfree' : ∀ k ok, ops[k]? = some ok → k ≠ i → (listed.setIfInBounds j true).getD k true = false →
          (∀ e ∈ ok.after, Region.binds md e = true → e.on ≠ i) → oi.apart ops ok = true := fun k ok hk hki hun hno => by
        refine hfree k ok hk hki ?_ hno
        by_cases hjk : j = k
        · subst hjk; exact hjun
        · rw [getD_set_ne true hjk] at hun; exact hun
      refine qOp_mono (fun a' h3 => ih (listed.setIfInBounds j true) a' (inv.set hj) hfree' (ready_mono hr (Ne.symm hji)) h3.1 ?_) h2
      rw [Array.setIfInBounds_comm _ _ hji]
      exact h3.2

def pick (ops : Array Oper) (ks : List Nat) : List Oper := ks.filterMap (ops[·]?)

/-- The rest goes in this one order. -/
def seqB2 (md : Region.Mode) (ops : Array Oper) : List Nat → Array Bool → Bool
  | [], listed => (Region.ready md ops listed).isEmpty
  | k :: ks, listed => decide (Region.ready md ops listed = [k]) && decide (k < ops.size) && seqB2 md ops ks (listed.setIfInBounds k true)

theorem wpAny_of_seq2 {Q' : Exit → Act → World → Prop} : ∀ (ks : List Nat) (listed : Array Bool) (a : Act) (w : World),
    seqB2 md ops ks listed = true → wpList P ops Q' (pick ops ks) a w → wpAny P md ops Q' ks.length listed a w
  | [], _, _, _, hB, h => ⟨by simpa [seqB2] using hB, h⟩
  | k :: ks, listed, a, w, hB, h => by
    simp only [seqB2, Bool.and_eq_true, decide_eq_true_eq] at hB
    obtain ⟨⟨hr, hk⟩, hB'⟩ := hB
    have h0 : ops[k]? = some ops[k] := Array.getElem?_eq_getElem hk
    have hp : pick ops (k :: ks) = ops[k] :: pick ops ks := by simp [pick, h0]
    rw [hp] at h
    refine ⟨fun h1 => (by rw [hr] at h1; cases h1), fun i hi => ?_⟩
    rw [hr] at hi
    have hik : i = k := by simpa using hi
    subst hik
    have hw : wpOp P ops Q' i (wpList P ops Q' (pick ops ks)) a w := by unfold wpOp; simp only [h0]; exact h
    exact wpOp_mono (fun a' w' h' => wpAny_of_seq2 ks _ a' w' hB' h') hw

def headB (md : Region.Mode) (ops : Array Oper) (rest : List Nat) : List Nat → Array Bool → Bool
  | [], listed => seqB2 md ops rest listed
  | k :: ks, listed => (Region.ready md ops listed).contains k && Region.free md ops listed k && decide (k < ops.size) && headB md ops rest ks (listed.setIfInBounds k true)

/-- No operation outside of H comes up before all of 'order' have. -/
def holdB (md : Region.Mode) (ops : Array Oper) (H order : List Nat) : Bool :=
  (List.range ops.size).all fun t => H.contains t || (ancs md ops (ops.size * ops.size) [t] []).length == 0 && order.length == 0 || order.all fun h => (ancs md ops (ops.size * ops.size) [t] []).contains h

theorem holdB_spec {H order : List Nat} (h : holdB md ops H order = true) {i : Nat} (hi : i ∈ order) {listed : Array Bool} (inv : Clo md ops listed) (hun : listed.getD i false = false) :
    ∀ j ∈ Region.ready md ops listed, j ∈ H := by
  intro j hj
  obtain ⟨_, oj, hoj, _⟩ := mem_ready.1 hj
  have h1 := List.all_eq_true.1 h j (List.mem_range.2 (Array.getElem?_eq_some_iff.1 hoj).1)
  simp only [Bool.or_eq_true, Bool.and_eq_true, beq_iff_eq] at h1
  rcases h1 with (h1 | h1) | h1
  · simpa using h1
  · have := List.eq_nil_of_length_eq_zero h1.2
    subst this; cases hi
  · have h2 := List.all_eq_true.1 h1 i hi
    have ha := ancs_anc (md := md) (ops := ops) (t := j) (ops.size * ops.size) [j] [] (by simp) (by simp) i (by simpa using h2)
    rw [inv.anc_ready ha hj] at hun
    cases hun

theorem seqB2_ready {H rest : List Nat} (hd : ∀ k ∈ rest, k ∉ H) {listed : Array Bool} (h : seqB2 md ops rest listed = true) : ∀ j ∈ Region.ready md ops listed, j ∉ H := by
  intro j hj
  cases rest with
  | nil => simp only [seqB2, List.isEmpty_iff] at h; rw [h] at hj; cases hj
  | cons k ks =>
    simp only [seqB2, Bool.and_eq_true, decide_eq_true_eq] at h
    rw [h.1.1] at hj
    have : j = k := by simpa using hj
    subst this
    exact hd _ List.mem_cons_self

theorem wpAnyH2_order {H O rest : List Nat} {Lq : Act → Prop} (hsel : Region.noSelect ops = true) (hd : ∀ k ∈ rest, k ∉ H) (hold : holdB md ops H O = true) :
    ∀ (order : List Nat) (listed : Array Bool) (a : Act), (∀ k ∈ order, k ∈ H ∧ k ∈ O) → Clo md ops listed → headB md ops rest order listed = true → wpQuiet P ops C Lq (pick ops order) a →
    wpAnyH2 P md ops C H (fun listed' a' => seqB2 md ops rest listed' = true ∧ Lq a') order.length listed a
  | [], listed, a, _, _, hB, h => ⟨by simpa [headB] using hB, h⟩
  | k :: ks, listed, a, hH, inv, hB, h => by
    simp only [headB, Bool.and_eq_true, decide_eq_true_eq] at hB
    obtain ⟨⟨⟨hr, hf⟩, hk⟩, hB'⟩ := hB
    have h0 : ops[k]? = some ops[k] := Array.getElem?_eq_getElem hk
    have hp : pick ops (k :: ks) = ops[k] :: pick ops ks := by simp [pick, h0]
    rw [hp] at h
    have hr' : k ∈ Region.ready md ops listed := by simpa using hr
    have hq : qOp P ops C k (wpQuiet P ops C Lq (pick ops ks)) a := by unfold qOp; simp only [h0]; exact h
    obtain ⟨v, hy, hK⟩ := yieldsIn_of_qOp h0 hq
    exact wpAnyH2_first h0 (Region.noSelect_spec hsel) (hH k List.mem_cons_self).1 (fun listed' inv' hun => holdB_spec hold (hH k List.mem_cons_self).2 inv' hun) (fun listed' a' hL => seqB2_ready hd hL.1) ks.length listed a inv (Region.free_spec h0 hf) hr' hy
      (wpAnyH2_order hsel hd hold ks _ _ (fun j hj => hH j (List.mem_cons_of_mem _ hj)) (inv.set hr') hB' hK)

/-- The copies that may come up whenever: taken first. -/
def floatPut (ops : Array Oper) : List Nat → Act → Act
  | [], a => a
  | k :: ks, a => floatPut ops ks (match ops[k]? with | some { op := .move x, dst, .. } => a.put dst (a.eval x) | _ => a)

def floatB (md : Region.Mode) (ops : Array Oper) (H rest order : List Nat) : List Nat → Array Bool → Bool
  | [], listed => headB md ops rest order listed
  | k :: ks, listed => (match ops[k]? with | some { op := .move _, guard := none, .. } => true | _ => false) && (Region.ready md ops listed).contains k && Region.free md ops listed k && floatB md ops H rest order ks (listed.setIfInBounds k true)

theorem wpAny_float {Q : Exit → Act → World → Prop} {w : World} {H rest order : List Nat} (hsel : Region.noSelect ops = true) (hQ : ∀ c a d v w, Q (.panic c) (a.put d v) w → Q (.panic c) a w) (g : Nat) :
    ∀ (fl : List Nat) (listed : Array Bool) (a : Act), Clo md ops listed → floatB md ops H rest order fl listed = true →
      (∀ listed', Clo md ops listed' → headB md ops rest order listed' = true → wpAny P md ops Q g listed' (floatPut ops fl a) w) → wpAny P md ops Q (fl.length + g) listed a w
  | [], listed, a, inv, hB, h => by
    rw [List.length_nil, Nat.zero_add]; exact h listed inv hB
  | k :: ks, listed, a, inv, hB, h => by
    simp only [floatB, Bool.and_eq_true] at hB
    obtain ⟨⟨⟨hmv, hr⟩, hf⟩, hB'⟩ := hB
    have hr' : k ∈ Region.ready md ops listed := by simpa using hr
    cases hok : ops[k]? with
    | none => rw [hok] at hmv; cases hmv
    | some o =>
      obtain ⟨dst, op, type, pos, after, guard⟩ := o
      rw [hok] at hmv
      cases op <;> try (simp at hmv; done)
      rename_i x
      cases guard with
      | some _ => simp at hmv
      | none =>
        rw [show (k :: ks).length + g = (ks.length + g) + 1 by simp; omega]
        refine wpAny_take (v := a.eval x) hok hsel hf hr (fun c a' w' hq => hQ c a' _ _ w' hq) ?_ (wpAny_float hsel hQ g ks _ _ (inv.set hr') hB' ?_)
        · exact .inl ⟨rfl, fun w => by simp [execOp]⟩
        · intro listed' inv' hB2
          have := h listed' inv' hB2
          simpa [floatPut, hok] using this

def mixB (md : Region.Mode) (ops : Array Oper) (fl order rest : List Nat) : Bool :=
  Region.noSelect ops && (fl.length + (order.length + rest.length) == ops.size) && (rest.all fun k => !((fl ++ order).contains k)) && holdB md ops (fl ++ order) order && floatB md ops order rest order fl (Array.replicate ops.size false)

theorem Clo.start : Clo md ops (Array.replicate ops.size false) :=
  ⟨by simp, fun j oj _ hl => (by rw [getD_replicate_false] at hl; cases hl)⟩
end

/-- A region that draws its order: the copies 'fl' first, then the operations 'order', which read or call quietly (C: the class of worlds that they may leave), then 'rest', one behind the other. -/
theorem region_mix {P : Program} {id : Nat} {Q : Exit → Act → World → Prop} {a : Act} {w : World} {ops : Array Oper} (C : World → Prop) (fl order rest : List Nat)
    (hm : P.follows .mixedOrders = true) (hB : mixB .any ops fl order rest = true) (hQ : ∀ c a d v w, Q (.panic c) (a.put d v) w → Q (.panic c) a w) (hC : C w.drew)
    (h : wpQuiet P ops C (fun a' => ∀ w', C w' → wpList P ops Q (pick ops rest) a' w') (pick ops order) (floatPut ops fl a)) : (Code.region id ops true).wp P Q a w := by
  simp only [mixB, Bool.and_eq_true, beq_iff_eq] at hB
  obtain ⟨⟨⟨⟨hsel, hlen⟩, hd⟩, hold⟩, hfl⟩ := hB
  refine wp_region_any hm ?_
  rw [← hlen]
  refine wpAny_float (H := order) (rest := rest) (order := order) hsel hQ _ fl _ a (by rw [hlen]; exact Clo.start) (by rw [hlen]; exact hfl) fun listed' inv' hB' => ?_
  have hd' : ∀ k ∈ rest, k ∉ fl ++ order := fun k hk hh => by
    have := List.all_eq_true.1 hd k hk
    simp only [Bool.not_eq_true', List.contains_eq_mem, decide_eq_false_iff_not] at this
    exact this hh
  have H := wpAnyH2_order (C := C) (md := .any) (Lq := fun a' => ∀ w', C w' → wpList P ops Q (pick ops rest) a' w') hsel hd' hold order listed' _ (fun k hk => ⟨List.mem_append_right _ hk, hk⟩) inv' hB' h
  exact wpAny_of_head2 (fun listed a' w' hw' hL => wpAny_of_seq2 rest listed a' w' hL.1 (hL.2 w' hw')) _ _ _ _ hC H

end Go.Proofs.YtekdkckgmleofaaGreat

/- General words, the fourth: as the third; but behind the quiet operations comes ONE operation that may do whatever, and behind it quiet ones again, in whatever order ('n, e := f(..)' through pointers or elements). No statement of the seat; no program in sight. -/
namespace Go.Proofs.YtekdkckgmleofaaGreat
open Go.RowKit
section
variable {P : Program} {ops : Array Oper} {md : Region.Mode} {C : World → Prop}
def headF (md : Region.Mode) (ops : Array Oper) (F : Array Bool → Bool) : List Nat → Array Bool → Bool
  | [], listed => F listed
  | k :: ks, listed => (Region.ready md ops listed).contains k && Region.free md ops listed k && decide (k < ops.size) && headF md ops F ks (listed.setIfInBounds k true)

theorem wpAnyH2_orderF {H : List Nat} {F : Array Bool → Bool} {Lq : Act → Prop} (hsel : Region.noSelect ops = true) (hF : ∀ listed, F listed = true → ∀ j ∈ Region.ready md ops listed, j ∉ H) :
    ∀ (order : List Nat) (listed : Array Bool) (a : Act), (∀ k ∈ order, k ∈ H ∧ ∀ listed', Clo md ops listed' → listed'.getD k false = false → ∀ j ∈ Region.ready md ops listed', j ∈ H) → Clo md ops listed → headF md ops F order listed = true → wpQuiet P ops C Lq (pick ops order) a →
    wpAnyH2 P md ops C H (fun listed' a' => (Clo md ops listed' ∧ F listed' = true) ∧ Lq a') order.length listed a
  | [], listed, a, _, inv, hB, h => ⟨⟨inv, by simpa [headF] using hB⟩, h⟩
  | k :: ks, listed, a, hH, inv, hB, h => by
    simp only [headF, Bool.and_eq_true, decide_eq_true_eq] at hB
    obtain ⟨⟨⟨hr, hf⟩, hk⟩, hB'⟩ := hB
    have h0 : ops[k]? = some ops[k] := Array.getElem?_eq_getElem hk
    have hp : pick ops (k :: ks) = ops[k] :: pick ops ks := by simp [pick, h0]
    rw [hp] at h
    have hr' : k ∈ Region.ready md ops listed := by simpa using hr
    have hq : qOp P ops C k (wpQuiet P ops C Lq (pick ops ks)) a := by unfold qOp; simp only [h0]; exact h
    obtain ⟨v, hy, hK⟩ := yieldsIn_of_qOp h0 hq
    exact wpAnyH2_first h0 (Region.noSelect_spec hsel) (hH k List.mem_cons_self).1 (hH k List.mem_cons_self).2 (fun listed' a' hL => hF listed' hL.1.2) ks.length listed a inv (Region.free_spec h0 hf) hr' hy
      (wpAnyH2_orderF hsel hF ks _ _ (fun j hj => hH j (List.mem_cons_of_mem _ hj)) (inv.set hr') hB' hK)

def floatF (md : Region.Mode) (ops : Array Oper) (F : Array Bool → Bool) (order : List Nat) : List Nat → Array Bool → Bool
  | [], listed => headF md ops F order listed
  | k :: ks, listed => (match ops[k]? with | some { op := .move _, guard := none, .. } => true | _ => false) && (Region.ready md ops listed).contains k && Region.free md ops listed k && floatF md ops F order ks (listed.setIfInBounds k true)

theorem wpAny_floatF {Q : Exit → Act → World → Prop} {w : World} {F : Array Bool → Bool} {order : List Nat} (hsel : Region.noSelect ops = true) (hQ : ∀ c a d v w, Q (.panic c) (a.put d v) w → Q (.panic c) a w) (g : Nat) :
    ∀ (fl : List Nat) (listed : Array Bool) (a : Act), Clo md ops listed → floatF md ops F order fl listed = true →
      (∀ listed', Clo md ops listed' → headF md ops F order listed' = true → wpAny P md ops Q g listed' (floatPut ops fl a) w) → wpAny P md ops Q (fl.length + g) listed a w
  | [], listed, a, inv, hB, h => by
    rw [List.length_nil, Nat.zero_add]; exact h listed inv hB
  | k :: ks, listed, a, inv, hB, h => by
    simp only [floatF, Bool.and_eq_true] at hB
    obtain ⟨⟨⟨hmv, hr⟩, hf⟩, hB'⟩ := hB
    have hr' : k ∈ Region.ready md ops listed := by simpa using hr
    cases hok : ops[k]? with
    | none => rw [hok] at hmv; cases hmv
    | some o =>
      obtain ⟨dst, op, type, pos, after, guard⟩ := o
      rw [hok] at hmv
      cases op <;> try (simp at hmv; done)
      rename_i x
      cases guard with
      | some _ => simp at hmv
      | none =>
        rw [show (k :: ks).length + g = (ks.length + g) + 1 by simp; omega]
        refine wpAny_take (v := a.eval x) hok hsel hf hr (fun c a' w' hq => hQ c a' _ _ w' hq) ?_ (wpAny_floatF hsel hQ g ks _ _ (inv.set hr') hB' ?_)
        · exact .inl ⟨rfl, fun w => by simp [execOp]⟩
        · intro listed' inv' hB2
          have := h listed' inv' hB2
          simpa [floatPut, hok] using this

/-- What comes behind ONE operation. -/
def QThen (K : Act → World → Prop) (Q : Exit → Act → World → Prop) : Exit → Act → World → Prop
  | .normal, a, w => K a w
  | .panic c, a, w => Q (.panic c) a w
  | .outgrown, a, w => Q .outgrown a w
  | _, _, _ => False
theorem wpOp_of_one {Q : Exit → Act → World → Prop} {K : Act → World → Prop} {k : Nat} {o : Oper} (ho : ops[k]? = some o) {a : Act} {w : World} (h : wpList P ops (QThen K Q) [o] a w) : wpOp P ops Q k K a w := by
  unfold wpOp
  simp only [ho]
  simp only [wpList] at h
  split
  · rename_i hw
    rw [if_pos hw] at h
    rcases h with h | ⟨h1, h2⟩
    · left
      unfold Oper.wp at *
      generalize (execOp a.eval o).run P w = r at *
      cases r with
      | ok n w' =>
        cases n <;> simp only [Oper.upon] at h ⊢ <;>
          first
            | exact h
            | exact Calls.mono h (fun e w'' he => by cases e <;> exact he)
            | exact Rows.mono h (fun _ _ he => he)
      | halt x w' => cases x <;> simp only [Oper.upon] at h ⊢ <;> exact h
    · exact .inr ⟨h1, h2⟩
  · rename_i hw
    rw [if_neg hw] at h
    exact h

def lastF (md : Region.Mode) (ops : Array Oper) (c : Nat) (order2 : List Nat) (listed : Array Bool) : Bool :=
  decide (Region.ready md ops listed = [c]) && decide (c < ops.size) && headF md ops (fun l => (Region.ready md ops l).isEmpty) order2 (listed.setIfInBounds c true)
def mixB2 (md : Region.Mode) (ops : Array Oper) (fl order : List Nat) (c : Nat) (order2 : List Nat) : Bool :=
  Region.noSelect ops && (fl.length + (order.length + (order2.length + 1)) == ops.size) && !((fl ++ order).contains c) && holdB md ops (fl ++ order) order && (order2.all fun k => decide (k < ops.size)) && floatF md ops (lastF md ops c order2) order fl (Array.replicate ops.size false)
theorem ready_lt {listed : Array Bool} {j : Nat} (h : j ∈ Region.ready md ops listed) : j < ops.size := by
  obtain ⟨_, o, ho, _⟩ := mem_ready.1 h
  exact (Array.getElem?_eq_some_iff.1 ho).1
end
/-- A region that draws its order: the copies 'fl' first, then the operations 'order', which read or call quietly, then the operation c, then quietly all that is left. -/
theorem region_mix2 {P : Program} {id : Nat} {Q : Exit → Act → World → Prop} {a : Act} {w : World} {ops : Array Oper} (C : World → Prop) (fl order : List Nat) (c : Nat) (order2 : List Nat)
    (hm : P.follows .mixedOrders = true) (hB : mixB2 .any ops fl order c order2 = true) (hQ : ∀ c a d v w, Q (.panic c) (a.put d v) w → Q (.panic c) a w) (hC : C w.drew)
    (h : wpQuiet P ops C (fun a' => ∀ w', C w' → wpList P ops (QThen (fun a2 w2 => wpQuiet P ops (fun w3 => ∃ n, w3 = w2.drewN n) (fun a3 => ∀ w3, (∃ n, w3 = w2.drewN n) → Q .normal a3 w3) (pick ops order2) a2) Q) (pick ops [c]) a' w') (pick ops order) (floatPut ops fl a)) : (Code.region id ops true).wp P Q a w := by
  simp only [mixB2, Bool.and_eq_true, beq_iff_eq] at hB
  obtain ⟨⟨⟨⟨⟨hsel, hlen⟩, hd⟩, hold⟩, ho2⟩, hfl⟩ := hB
  refine wp_region_any hm ?_
  rw [← hlen]
  refine wpAny_floatF (F := lastF .any ops c order2) (order := order) hsel hQ _ fl _ a (by rw [hlen]; exact Clo.start) (by rw [hlen]; exact hfl) fun listed' inv' hB' => ?_
  have H := wpAnyH2_orderF (C := C) (md := .any) (H := fl ++ order) (F := lastF .any ops c order2) (Lq := fun a' => ∀ w', C w' → wpList P ops (QThen (fun a2 w2 => wpQuiet P ops (fun w3 => ∃ n, w3 = w2.drewN n) (fun a3 => ∀ w3, (∃ n, w3 = w2.drewN n) → Q .normal a3 w3) (pick ops order2) a2) Q) (pick ops [c]) a' w') hsel
    (fun listed hF j hj => by
      simp only [lastF, Bool.and_eq_true, decide_eq_true_eq] at hF
      rw [hF.1.1] at hj
      have : j = c := by simpa using hj
      subst this
      simpa using hd)
    order listed' _ (fun k hk => ⟨List.mem_append_right _ hk, fun l inv hun => holdB_spec hold hk inv hun⟩) inv' hB' h
  refine wpAny_of_head2 (g := order2.length + 1) (fun listed a' w' hw' hL => ?_) _ _ _ _ hC H
  obtain ⟨⟨inv, hF⟩, hK⟩ := hL
  simp only [lastF, Bool.and_eq_true, decide_eq_true_eq] at hF
  obtain ⟨⟨hr, hc⟩, h2⟩ := hF
  have h0 : ops[c]? = some ops[c] := Array.getElem?_eq_getElem hc
  have hp : pick ops [c] = [ops[c]] := by simp [pick, h0]
  have hK' := hK w' hw'
  rw [hp] at hK'
  refine ⟨fun h1 => (by rw [hr] at h1; cases h1), fun i hi => ?_⟩
  have hrc : c ∈ Region.ready .any ops listed := by rw [hr]; simp
  rw [hr] at hi
  have hic : i = c := by simpa using hi
  subst hic
  refine wpOp_mono (fun a2 w2 hq => ?_) (wpOp_of_one h0 hK')
  have H2 := wpAnyH2_orderF (P := P) (C := fun w3 => ∃ n, w3 = w2.drewN n) (md := .any) (H := List.range ops.size) (F := fun l => (Region.ready .any ops l).isEmpty) (Lq := fun a3 => ∀ w3, (∃ n, w3 = w2.drewN n) → Q .normal a3 w3) hsel
    (fun listed hF j hj => by
      simp only [List.isEmpty_iff] at hF
      rw [hF] at hj
      cases hj)
    order2 _ a2 (fun k hk => ⟨List.mem_range.2 (by simpa using List.all_eq_true.1 ho2 k hk), fun l inv hun j hj => List.mem_range.2 (ready_lt hj)⟩) (inv.set hrc) h2 hq
  have H3 := wpAny_of_head2 (g := 0) (Q' := Q) (fun listed3 a3 w3 hw3 hL3 => ⟨by simpa using hL3.1.2, hL3.2 w3 hw3⟩) order2.length _ a2 w2 ⟨0, rfl⟩ H2
  simpa using H3
end Go.Proofs.YtekdkckgmleofaaGreat
