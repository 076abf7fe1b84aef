/- General words, the fourth: what append of zeros, copy and clear do to a slice that the call may write. No statement of the seat; no program in sight. -/
import Derived.Test.YtekdkckgmleofaaGreatXf01
import Derived.Laws.CopyOwn
import Derived.Lib.AppendZeros
set_option linter.unusedVariables false
set_option linter.unusedSimpArgs false
namespace Go.Proofs.YtekdkckgmleofaaGreat
open Go.RowKit

section
variable {w w' : World} {e : TypeId} {s n : Nat} {xs : List Value} {own : Option Nat}

theorem Sl.extend {a : Option Addr} {cap : Nat} (h : Sl w (.slice a n cap) e s n xs own) {k : Nat} (hk : n ≤ k) (hk2 : k ≤ cap) :
    ∃ junk : List Value, junk.length = (k - n) * s ∧ Sl w (.slice a k cap) e s k (xs ++ junk) own := by
  rcases h.2 with ⟨hv, h0, ho⟩ | ⟨g, off, cap', cur, ho, hv, hb, h1, h2, h3, h4⟩
  · cases hv
    have : k = 0 := by omega
    subst this
    have hx : xs = [] := List.eq_nil_of_length_eq_zero (by rw [h.1]; simp)
    subst hx
    exact ⟨[], by simp, by simpa using h⟩
  · cases hv
    have hks : n * s + (k - n) * s = k * s := by rw [← Nat.add_mul, show n + (k - n) = k by omega]
    have hkc : k * s ≤ cap * s := Nat.mul_le_mul_right _ hk2
    refine ⟨((cur.toList.drop off).drop (n * s)).take ((k - n) * s), ?_, ?_, .inr ⟨g, off, cap, cur, ho, rfl, hb, hk2, h2, h3, ?_⟩⟩
    · simp only [List.length_take, List.length_drop, Array.length_toList]
      omega
    · simp only [List.length_append, List.length_take, List.length_drop, Array.length_toList, h.1]
      omega
    · rw [← h4, ← hks, List.take_add]

/-- What is written into the middle of such a slice. -/
theorem sl_wrote {g off cap : Nat} {cur : Array Value} {cs : List Value} {i : Nat} (hlen : xs.length = n * s) (hb : w.heap[g]? = some (.cells cur e (0, 0))) (h1 : n ≤ cap) (h2 : cap ≤ maxLen) (h3 : off + cap * s ≤ cur.size)
    (h4 : (cur.toList.drop off).take (n * s) = xs) (hfit : i + cs.length ≤ n * s) :
    Sl (w.setRow g (cur.toList.take (off + i) ++ cs ++ cur.toList.drop (off + i + cs.length)).toArray) (.slice (some ⟨g, off, none⟩) n cap) e s n (xs.take i ++ cs ++ xs.drop (i + cs.length)) (some g) ∧
    Kept (fun k => some g = some k) w (w.setRow g (cur.toList.take (off + i) ++ cs ++ cur.toList.drop (off + i + cs.length)).toArray) := by
  have hns : n * s ≤ cap * s := Nat.mul_le_mul_right _ h1
  refine ⟨⟨?_, .inr ⟨g, off, cap, _, rfl, rfl, setRow_heap w g cur _ e _ hb, h1, h2, ?_, ?_⟩⟩, ⟨rfl, rfl, rfl, by simp, fun k _ hk => setRow_other w g k _ (fun e => hk (by rw [e]))⟩⟩
  · simp only [List.length_append, List.length_take, List.length_drop, hlen]; omega
  · simp only [List.size_toArray, List.length_append, List.length_take, List.length_drop, Array.length_toList]; omega
  · subst h4
    have hl : (cur.toList.take (off + i)).length = off + i := by simp; omega
    rw [List.append_assoc, List.drop_append_of_le_length (by omega), List.drop_take, show off + i - off = i by omega]
    rw [List.take_append, List.take_of_length_le (by simp; omega), List.append_assoc]
    have h5 : (List.take i (cur.toList.drop off)).length = i := by simp; omega
    rw [h5]
    congr 1
    · rw [List.take_take, Nat.min_eq_left (by omega)]
    · rw [List.take_append, List.take_of_length_le (by omega)]
      congr 1
      rw [List.drop_take, List.drop_drop]
      congr 1
      · omega
      · congr 1
        omega

theorem size_zeroCells' (z : Array Value) (n : Nat) : (Builtin.zeroCells z n).toList.length = n * z.size := by simp [Builtin.zeroCells]
end

section
variable {P : Program} (w : World)

/-- append of zeros that has no room: a new block. -/
theorem run_append_zeros (t tn ty e : TypeId) (i : TypeInfo) (z : Value) (k kn : IntKind) (ht : P.underlying t = some (.slice e)) (htn : P.underlying tn = some (.int kn)) (hi : P.info? e = some i) (hz : i.zero = some z)
    (hzs : z.cells.size = i.size) (hs : 0 < i.size)
    (a : Option Addr) (n cap : Nat) (xs : List Value) (own : Option Nat) (hown : Sl w (.slice a n cap) e i.size n xs own) (m : Nat) (hm : 0 < m) (hg : cap < n + m) (h63 : n + m ≤ maxLen) (hb : (n + m) * i.bytes ≤ 140737488355328) :
    ∃ v' w', (Builtin.append_ #[t, tn] ty #[.slice a n cap, .int k m]).run P w = .ok v' w' ∧ Sl w' v' e i.size (n + m) (xs ++ (Builtin.zeroCells z.cells m).toList) (some w.heap.size) ∧ Kept (fun _ => False) w w' := by
  have h63n : n + m ≤ 9223372036854775807 := by simp only [maxLen] at h63; omega
  have hn : ¬ (n + m ≤ cap) := by omega
  have hw : IntKind.i64.wrap (m : Int) = m := by rw [IntKind.wrap_i64]; omega
  have h63' : ¬ (9223372036854775807 < ((n : Int) + (m : Int))) := by omega
  have hfit : Builtin.nextslicecap (n + m) cap * i.bytes ≤ 281474976710656 := growslice_fits (by omega) hb
  have h48' : ¬ (281474976710656 < Builtin.nextslicecap (n + m) cap * i.bytes) := by omega
  have hmb : m * i.bytes ≤ (n + m) * i.bytes := Nat.mul_le_mul_right _ (by omega)
  have h48i : ¬ (281474976710656 < (m : Int) * (i.bytes : Int)) := by
    rw [← Int.natCast_mul]
    omega
  have hneg : ¬ ((m : Int) < 0) := by omega
  have hns : ¬ (m * i.size = 0) := Nat.mul_ne_zero (by omega) (by omega)
  have hge := grownCap_ge w (n + m) cap e
  have hcm : grownCap w (n + m) cap e ≤ maxLen := grownCap_le_maxLen w (n + m) cap e h63
  have fin : Sl (w.drew.alloc (.cells (xs.toArray ++ Builtin.zeroCells z.cells m ++ Builtin.zeroCells z.cells (grownCap w (n + m) cap e - (n + m))) e))
      (.slice (some ⟨w.heap.size, 0, none⟩) (n + m) (grownCap w (n + m) cap e)) e i.size (n + m) (xs ++ (Builtin.zeroCells z.cells m).toList) (some w.heap.size) ∧
      Kept (fun _ => False) w (w.drew.alloc (.cells (xs.toArray ++ Builtin.zeroCells z.cells m ++ Builtin.zeroCells z.cells (grownCap w (n + m) cap e - (n + m))) e)) := by
    have hlen : (xs ++ (Builtin.zeroCells z.cells m).toList).length = (n + m) * i.size := by rw [List.length_append, hown.1, size_zeroCells', hzs, Nat.add_mul]
    refine ⟨⟨hlen, .inr ⟨w.heap.size, 0, _, _, rfl, rfl, heap_alloc_new w.drew _, hge, hcm, ?_, ?_⟩⟩, (Kept.refl _ w).drew.alloc _⟩
    · simp only [Array.size_append, List.size_toArray, size_zeroCells, hzs, hown.1, ← Nat.add_mul, Nat.zero_add]
      exact Nat.mul_le_mul_right _ (by omega)
    · simp only [Array.toList_append, List.drop_zero]
      rw [← hlen]
      exact List.take_left
  rcases hown.2 with ⟨hv, h0, _⟩ | ⟨g, off, cap', cur, _, hv, hgb, hnc, hcm', hcs, htake⟩
  · cases hv
    have hx : xs = [] := List.eq_nil_of_length_eq_zero (by rw [hown.1]; simp)
    subst hx
    have hr := Lib.run_append_nil_zeros (P := P) w t tn ty e i z k kn ht htn hi hz m hm hs (by omega) (by simp only [Nat.zero_add] at hb; omega)
    simp only [Nat.zero_add, Array.empty_append] at fin ⊢
    exact ⟨_, _, hr, fin.1, fin.2⟩
  · cases hv
    have holds : ∀ j u, xs[j]? = some u → w.cell? ((⟨g, off, none⟩ : Addr).add j) = some u := by
      intro j u hu
      rw [← htake] at hu
      have := take_drop_getElem? _ _ _ _ _ hu
      rw [Addr.add_lit]
      simpa [World.cell?, hgb] using this
    have hfo := run_firstCells_some (P := P) w.drew i.size n ⟨g, off, none⟩ n cap xs hown.1 (by simpa using holds)
    refine ⟨_, _, ?_, fin.1, fin.2⟩
    simp [Builtin.append_, run_underlying ht, run_underlying htn, sizeOf, typeInfo, zeroValue, hi, hz, asInt, asIntOf, hw, hn, hneg, hns, h63', h48', h48i, Question.forced, hfo, newRow, grownCap]

/-- copy into a part of such a slice. -/
theorem run_copy_sl (dT sT ty e : TypeId) (i : TypeInfo) (ht : P.underlying dT = some (.slice e)) (hi : P.info? e = some i)
    (dp : Option Addr) (dLen dCap : Nat) (x : Value) (m : Nat) (news : List Value) (hsrc : Src w x m news) (hl : news.length = m * i.size) (h1 : ∀ u ∈ news.take (min m dLen * i.size), u.oneCell' = true)
    (a : Option Addr) (n cap : Nat) (xs : List Value) (own : Option Nat) (hown : Sl w (.slice a n cap) e i.size n xs own) (at_ : Nat) (hfit : at_ + min m dLen ≤ n)
    (hdp : 0 < min m dLen → ∃ g off, a = some ⟨g, off, none⟩ ∧ dp = some ⟨g, off + at_ * i.size, none⟩) :
    ∃ w', (Builtin.copy_ #[dT, sT] ty #[.slice dp dLen dCap, x]).run P w = .ok (goInt ((min m dLen : Nat) : Int)) w' ∧
      Sl w' (.slice a n cap) e i.size n (xs.take (at_ * i.size) ++ news.take (min m dLen * i.size) ++ xs.drop ((at_ + min m dLen) * i.size)) own ∧ Kept (fun k => own = some k) w w' := by
  rcases Nat.eq_zero_or_pos (min m dLen) with h0 | hpos
  · refine ⟨w, ?_, ?_, Kept.refl _ _⟩
    · have hmin : Nat.min m dLen = 0 := h0
      rw [h0]
      rcases hsrc with ⟨rfl, rfl, rfl⟩ | ⟨ad, c, rfl, hc⟩
      · cases dp <;> simp [Builtin.copy_, run_underlying ht, sizeOf, typeInfo, hi, Builtin.lenOf, Builtin.firstCells, storeCells]
      · have hf : (Builtin.firstCells i.size 0 (.slice (some ad) m c)).run P w = .ok #[] w := by
          have := run_firstCells_some (P := P) w i.size 0 ad m c [] (by simp) (by simp)
          simpa using this
        cases dp <;> simp [Builtin.copy_, run_underlying ht, sizeOf, typeInfo, hi, Builtin.lenOf, hmin, hf, storeCells]
    · rw [h0, Nat.zero_mul, List.take_zero, List.append_nil, Nat.add_zero, List.take_append_drop]
      exact hown
  · obtain ⟨g, off, rfl, rfl⟩ := hdp hpos
    rcases hown.2 with ⟨hv, _⟩ | ⟨g', off', cap', cur, rfl, hv, hg, hnc, hcm, hcs, htake⟩
    · cases hv
    · cases hv
      rcases hsrc with ⟨rfl, rfl, rfl⟩ | ⟨ad, c, rfl, hc⟩
      · simp at hpos
      · have hlc : (news.take (min m dLen * i.size)).length = min m dLen * i.size := by
          rw [List.length_take, hl]
          exact Nat.min_eq_left (Nat.mul_le_mul_right _ (Nat.min_le_left _ _))
        have hle : (at_ + min m dLen) * i.size ≤ n * i.size := Nat.mul_le_mul_right _ hfit
        rw [Nat.add_mul] at hle
        have hns : n * i.size ≤ cap * i.size := Nat.mul_le_mul_right _ hnc
        have hf := run_firstCells_some (P := P) w i.size (min m dLen) ad m c (news.take (min m dLen * i.size)) hlc (fun j u hu => hc j u (by
          rw [List.getElem?_take] at hu
          split at hu
          · exact hu
          · cases hu))
        have hst := run_storeCells_at P g (off + at_ * i.size) e (news.take (min m dLen * i.size)) 0 cur w hg (by rw [hlc]; omega) h1
        simp only [Nat.add_zero] at hst
        obtain ⟨r1, r2⟩ := sl_wrote (w := w) (s := i.size) (n := n) (xs := xs) (cs := news.take (min m dLen * i.size)) (i := at_ * i.size) hown.1 hg hnc hcm hcs htake (by rw [hlc]; omega)
        refine ⟨_, ?_, ?_, r2⟩
        · have hmin : Nat.min m dLen = min m dLen := rfl
          simp [Builtin.copy_, run_underlying ht, sizeOf, typeInfo, hi, Builtin.lenOf, hmin, hf, hst]
        · rw [hlc, ← Nat.add_mul] at r1
          rw [hlc]
          exact r1

theorem wpList_copy_sl {ops : Array Oper} {rest : List Oper} {o : Oper} {ac : Act} {Q : Exit → Act → World → Prop} (hgd : o.guard = none) (dO sO : Operand) (dT sT : TypeId)
    (ho : o.op = .call { callee := .builtin .copy, args := #[dO, sO], argTypes := #[dT, sT] }) (e : TypeId) (i : TypeInfo) (ht : P.underlying dT = some (.slice e)) (hi : P.info? e = some i) (size : Nat) (hsize : i.size = size)
    (dp : Option Addr) (dLen dCap : Nat) (x : Value) (hd : ac.eval dO = .slice dp dLen dCap) (hx : ac.eval sO = x) (m : Nat) (news : List Value) (hsrc : Src w x m news) (hl : news.length = m * size) (h1 : ∀ u ∈ news.take (min m dLen * size), u.oneCell' = true)
    (a : Option Addr) (n cap : Nat) (xs : List Value) (own : Option Nat) (hown : Sl w (.slice a n cap) e size n xs own) (at_ : Nat) (hfit : at_ + min m dLen ≤ n)
    (hdp : 0 < min m dLen → ∃ g off, a = some ⟨g, off, none⟩ ∧ dp = some ⟨g, off + at_ * size, none⟩)
    (h : ∀ w', Sl w' (.slice a n cap) e size n (xs.take (at_ * size) ++ news.take (min m dLen * size) ++ xs.drop ((at_ + min m dLen) * size)) own → Kept (fun k => own = some k) w w' → wpList P ops Q rest (ac.put o.dst (goInt ((min m dLen : Nat) : Int))) w') :
    wpList P ops Q (o :: rest) ac w := by
  subst hsize
  refine wpList_plain hgd fun K hK => ?_
  obtain ⟨w', hr, h2, h3⟩ := run_copy_sl (P := P) w dT sT o.type e i ht hi dp dLen dCap x m news hsrc hl h1 a n cap xs own hown at_ hfit hdp
  unfold Oper.wp execOp
  simp only [ho, resolve, invoke, builtin, Sem.run_bind, Sem.run_pure, Result.andThen_ok, List.map_toArray, List.map_cons, List.map_nil, hd, hx, hr]
  exact hK _ _ (h w' h2 h3)

theorem wpList_append_zeros {ops : Array Oper} {rest : List Oper} {o : Oper} {ac : Act} {Q : Exit → Act → World → Prop} (hgd : o.guard = none) (sO xO : Operand) (t tn : TypeId)
    (ho : o.op = .call { callee := .builtin .append, args := #[sO, xO], argTypes := #[t, tn] })
    (e : TypeId) (i : TypeInfo) (z : Value) (k kn : IntKind) (size bytes : Nat) (ht : P.underlying t = some (.slice e)) (htn : P.underlying tn = some (.int kn)) (hi : P.info? e = some i) (hz : i.zero = some z)
    (hsize : i.size = size) (hby : i.bytes = bytes) (hzs : z.cells.size = size) (hs0 : 0 < size)
    (a : Option Addr) (n cap : Nat) (xs : List Value) (own : Option Nat) (hs : ac.eval sO = .slice a n cap) (hown : Sl w (.slice a n cap) e size n xs own) (m : Nat) (hx : ac.eval xO = .int k m) (hm : 0 < m) (hg : cap < n + m) (h63 : n + m ≤ maxLen) (hb : (n + m) * bytes ≤ 140737488355328)
    (h : ∀ v' w', Sl w' v' e size (n + m) (xs ++ (Builtin.zeroCells z.cells m).toList) (some w.heap.size) → Kept (fun _ => False) w w' → wpList P ops Q rest (ac.put o.dst v') w') :
    wpList P ops Q (o :: rest) ac w := by
  subst hsize
  subst hby
  refine wpList_plain hgd fun K hK => ?_
  obtain ⟨v', w', hr, h2, h3⟩ := run_append_zeros (P := P) w t tn o.type e i z k kn ht htn hi hz hzs hs0 a n cap xs own hown m hm hg h63 hb
  unfold Oper.wp execOp
  simp only [ho, resolve, invoke, builtin, Sem.run_bind, Sem.run_pure, Result.andThen_ok, List.map_toArray, List.map_cons, List.map_nil, hs, hx, hr]
  exact hK _ _ (h v' w' h2 h3)

/-- append that has room: the same address and capacity. -/
theorem wpList_append_in {ops : Array Oper} {rest : List Oper} {o : Oper} {ac : Act} {Q : Exit → Act → World → Prop} (hgd : o.guard = none) (sO xO : Operand) (t : TypeId)
    (ho : o.op = .call { callee := .builtin .append, args := #[sO, xO], argTypes := #[t, t] })
    (e : TypeId) (i : TypeInfo) (size : Nat) (ht : P.underlying t = some (.slice e)) (hi : P.info? e = some i) (hsize : i.size = size)
    (a : Option Addr) (N n cap : Nat) (XS : List Value) (own : Option Nat) (hs : ac.eval sO = .slice a n cap) (hown : Sl w (.slice a N cap) e size N XS own) (hn : n ≤ N)
    (x : Value) (m : Nat) (news : List Value) (hx : ac.eval xO = x) (hsrc : Src w x m news) (hl : news.length = m * size) (h1 : ∀ u ∈ news, u.oneCell' = true) (hroom : n + m ≤ N)
    (h : ∀ w', Sl w' (.slice a N cap) e size N (XS.take (n * size) ++ news ++ XS.drop ((n + m) * size)) own → Kept (fun k => own = some k) w w' → wpList P ops Q rest (ac.put o.dst (.slice a (n + m) cap)) w') :
    wpList P ops Q (o :: rest) ac w := by
  subst hsize
  refine wpList_plain hgd fun K hK => ?_
  have key : ∃ w', (Builtin.append_ #[t, t] o.type #[.slice a n cap, x]).run P w = .ok (.slice a (n + m) cap) w' ∧ Sl w' (.slice a N cap) e i.size N (XS.take (n * i.size) ++ news ++ XS.drop ((n + m) * i.size)) own ∧ Kept (fun k => own = some k) w w' := by
    rcases hsrc with ⟨rfl, rfl, rfl⟩ | ⟨ad, c, rfl, hc⟩
    · obtain ⟨a', cap', hv, h2, h3⟩ := hown.form
      cases hv
      refine ⟨w, run_append_at_nil w t o.type e i ht hi a n cap (by omega), ?_, Kept.refl _ _⟩
      rw [List.append_nil, Nat.add_zero, List.take_append_drop]
      exact hown
    · rcases hown.2 with ⟨hv, hN, rfl⟩ | ⟨g, off, cap', cur, rfl, hv, hg, hnc, hcm, hcs, htake⟩
      · cases hv
        have hn0 : n = 0 := by omega
        have hm0 : m = 0 := by omega
        subst hn0 hm0
        have hw0 : news = [] := List.eq_nil_of_length_eq_zero (by rw [hl]; simp)
        subst hw0
        refine ⟨w, ?_, by simpa using hown, Kept.refl _ _⟩
        simp [Builtin.append_, run_underlying ht, sizeOf, typeInfo, hi, Builtin.lenOf, Builtin.firstCells, loadCells, loadCellsFrom]
      · cases hv
        have hle : (n + m) * i.size ≤ N * i.size := Nat.mul_le_mul_right _ hroom
        rw [Nat.add_mul] at hle
        have hns : N * i.size ≤ cap * i.size := Nat.mul_le_mul_right _ hnc
        have hr := run_append_at (P := P) w t o.type e i ht hi g off n cap cur hg ad m c news hl hc h1 (by omega) (by rw [hl]; omega)
        obtain ⟨r1, r2⟩ := sl_wrote (w := w) (s := i.size) (n := N) (xs := XS) (cs := news) (i := n * i.size) hown.1 hg hnc hcm hcs htake (by rw [hl]; omega)
        refine ⟨_, hr, ?_, r2⟩
        rw [hl, ← Nat.add_mul] at r1
        rw [hl]
        exact r1
  obtain ⟨w', hr, h2, h3⟩ := key
  unfold Oper.wp execOp
  simp only [ho, resolve, invoke, builtin, Sem.run_bind, Sem.run_pure, Result.andThen_ok, List.map_toArray, List.map_cons, List.map_nil, hs, hx, hr]
  exact hK _ _ (h w' h2 h3)

/-- clear of a part of such a slice. -/
theorem wpList_clear_sl {ops : Array Oper} {rest : List Oper} {o : Oper} {ac : Act} {Q : Exit → Act → World → Prop} (hgd : o.guard = none) (dO : Operand) (dT : TypeId)
    (ho : o.op = .call { callee := .builtin .clear, args := #[dO], argTypes := #[dT] }) (e : TypeId) (i : TypeInfo) (z : Value) (ht : P.underlying dT = some (.slice e)) (hi : P.info? e = some i) (hz : i.zero = some z) (size : Nat) (hsize : i.size = size) (hzs : z.cells.size = size)
    (hz1 : ∀ u ∈ z.cells, u.oneCell' = true) (dp : Option Addr) (dLen dCap : Nat) (hd : ac.eval dO = .slice dp dLen dCap)
    (a : Option Addr) (n cap : Nat) (xs : List Value) (own : Option Nat) (hown : Sl w (.slice a n cap) e size n xs own) (at_ : Nat) (hfit : at_ + dLen ≤ n) (hpos : 0 < dLen)
    (hdp : ∃ g off, a = some ⟨g, off, none⟩ ∧ dp = some ⟨g, off + at_ * size, none⟩)
    (h : ∀ w', Sl w' (.slice a n cap) e size n (xs.take (at_ * size) ++ (Builtin.zeroCells z.cells dLen).toList ++ xs.drop ((at_ + dLen) * size)) own → Kept (fun k => own = some k) w w' → wpList P ops Q rest (ac.put o.dst (.tuple #[])) w') :
    wpList P ops Q (o :: rest) ac w := by
  subst hsize
  refine wpList_plain hgd fun K hK => ?_
  obtain ⟨g, off, rfl, rfl⟩ := hdp
  rcases hown.2 with ⟨hv, _⟩ | ⟨g', off', cap', cur, rfl, hv, hg, hnc, hcm, hcs, htake⟩
  · cases hv
  · cases hv
    have hlc : (Builtin.zeroCells z.cells dLen).toList.length = dLen * i.size := by rw [size_zeroCells', hzs]
    have hle : (at_ + dLen) * i.size ≤ n * i.size := Nat.mul_le_mul_right _ hfit
    rw [Nat.add_mul] at hle
    have hns : n * i.size ≤ cap * i.size := Nat.mul_le_mul_right _ hnc
    have hst := run_storeCells_at P g (off + at_ * i.size) e (Builtin.zeroCells z.cells dLen).toList 0 cur w hg (by rw [hlc]; omega) (fun u hu => by
      obtain ⟨j, hj, rfl⟩ := List.getElem_of_mem hu
      rw [hlc] at hj
      have hp : 0 < z.cells.size := by
        rcases Nat.eq_zero_or_pos i.size with h0 | h0
        · rw [h0] at hj; omega
        · rw [hzs]; exact h0
      simp only [Builtin.zeroCells, Array.toList_map, List.getElem_map]
      have hlt := Nat.mod_lt ((Array.range (dLen * z.cells.size)).toList[j]'(by simp [hzs]; omega)) hp
      rw [getElem!_pos z.cells _ hlt]
      exact hz1 _ (Array.getElem_mem hlt))
    simp only [Nat.add_zero] at hst
    obtain ⟨r1, r2⟩ := sl_wrote (w := w) (s := i.size) (n := n) (xs := xs) (cs := (Builtin.zeroCells z.cells dLen).toList) (i := at_ * i.size) hown.1 hg hnc hcm hcs htake (by rw [hlc]; omega)
    have hr : (Builtin.clear_ #[dT] o.type #[.slice (some ⟨g, off + at_ * i.size, none⟩) dLen dCap]).run P w = .ok (.tuple #[]) (w.setRow g (cur.toList.take (off + at_ * i.size) ++ (Builtin.zeroCells z.cells dLen).toList ++ cur.toList.drop (off + at_ * i.size + (Builtin.zeroCells z.cells dLen).toList.length)).toArray) := by
      obtain ⟨d, rfl⟩ : ∃ d, dLen = d + 1 := ⟨dLen - 1, by omega⟩
      simp [Builtin.clear_, run_underlying ht, zeroValue, typeInfo, hi, hz, hst]
    unfold Oper.wp execOp
    simp only [ho, resolve, invoke, builtin, Sem.run_bind, Sem.run_pure, Result.andThen_ok, List.map_toArray, List.map_cons, List.map_nil, hd, hr]
    rw [hlc, ← Nat.add_mul] at r1
    rw [hlc] at r2 ⊢
    exact hK _ _ (h _ r1 r2)
end

end Go.Proofs.YtekdkckgmleofaaGreat
