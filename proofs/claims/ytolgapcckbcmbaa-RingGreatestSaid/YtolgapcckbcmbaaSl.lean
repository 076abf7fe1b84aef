/- General words, the second: a slice value that reads as a row of cells anywhere inside a block that the call may write, and what append does to it. No statement of the seat; no program in sight. -/
import Derived.Test.YtolgapcckbcmbaaBase
import Derived.Laws.AppendOwn
import Derived.Laws.OwnMore
namespace Go.Proofs.Ytolgapcckbcmbaa
open Go.RowKit

/-- The slice value v has n elements of type e, s cells each; its cells read xs; they lie in block 'own' (none: it is nil). -/
def Sl (w : World) (v : Value) (e : TypeId) (s n : Nat) (xs : List Value) (own : Option Nat) : Prop :=
  xs.length = n * s ∧ ((v = .slice none 0 0 ∧ n = 0 ∧ own = none) ∨
    ∃ g off cap cur, own = some g ∧ v = .slice (some ⟨g, off, none⟩) n cap ∧ w.heap[g]? = some (.cells cur e (0, 0)) ∧ n ≤ cap ∧ cap ≤ maxLen ∧ off + cap * s ≤ cur.size ∧ (cur.toList.drop off).take (n * s) = xs)

section
variable {w w' : World} {v : Value} {e : TypeId} {s n : Nat} {xs : List Value} {own : Option Nat}
theorem Sl.nil (w : World) (e : TypeId) (s : Nat) : Sl w (.slice none 0 0) e s 0 [] none := ⟨by simp, .inl ⟨rfl, rfl, rfl⟩⟩

theorem Sl.lt (h : Sl w v e s n xs own) {g : Nat} (hg : own = some g) : g < w.heap.size := by
  rcases h.2 with ⟨_, _, h1⟩ | ⟨g', _, _, _, h1, _, h2, _⟩
  · rw [hg] at h1; cases h1
  · rw [hg] at h1; cases h1; exact (Array.getElem?_eq_some_iff.1 h2).1

theorem Sl.len_le (h : Sl w v e s n xs own) : n ≤ maxLen := by
  rcases h.2 with ⟨_, h1, _⟩ | ⟨_, _, _, _, _, _, _, h1, h2, _⟩
  · omega
  · omega

theorem Sl.kept {F : Nat → Prop} (h : Sl w v e s n xs own) (k : Kept F w w') (hn : ∀ g, own = some g → ¬ F g) : Sl w' v e s n xs own := by
  refine ⟨h.1, ?_⟩
  rcases h.2 with hl | ⟨g, off, cap, cur, rfl, hv, hb, rest⟩
  · exact .inl hl
  · exact .inr ⟨g, off, cap, cur, rfl, hv, by rw [k.block g (Array.getElem?_eq_some_iff.1 hb).1 (hn g rfl)]; exact hb, rest⟩

theorem Sl.drew (h : Sl w v e s n xs own) : Sl w.drew v e s n xs own := h
theorem Sl.drewN (h : Sl w v e s n xs own) (k : Nat) : Sl (w.drewN k) v e s n xs own := h
theorem Sl.alloc (h : Sl w v e s n xs own) (o : Obj) : Sl (w.alloc o) v e s n xs own :=
  h.kept ((Kept.refl (fun _ => False) w).alloc o) (fun _ _ h => h)
theorem Sl.setCell (h : Sl w v e s n xs own) {a : Addr} (ha : ∀ g, own = some g → g ≠ a.block) (u : Value) : Sl (w.setCell a u) v e s n xs own :=
  h.kept (((Kept.refl (fun k => k = a.block) w).setCell (a := a) (.inl rfl) u)) (fun g hg he => ha g hg he)

theorem take_drop_getElem? (l : List Value) (off m j : Nat) (u : Value) (h : ((l.drop off).take m)[j]? = some u) : l[off + j]? = some u := by
  rw [List.getElem?_take] at h
  split at h
  · rw [List.getElem?_drop] at h; exact h
  · cases h

/-- What a value with elements looks like, and its cells. -/
theorem Sl.some (h : Sl w v e s n xs own) (hn : 0 < n) : ∃ g off cap, own = Option.some g ∧ v = .slice (Option.some ⟨g, off, none⟩) n cap ∧ n ≤ cap ∧ cap ≤ maxLen ∧
    (∀ j u, xs[j]? = Option.some u → w.cell? ⟨g, off + j, none⟩ = Option.some u) ∧ (∀ j, w.frozen? ⟨g, j, none⟩ = false) := by
  rcases h.2 with ⟨_, h0, _⟩ | ⟨g, off, cap, cur, ho, hv, hb, h1, h2, h3, h4⟩
  · omega
  · refine ⟨g, off, cap, ho, hv, h1, h2, fun j u hu => ?_, fun j => ?_⟩
    · rw [← h4] at hu
      have := take_drop_getElem? _ _ _ _ _ hu
      simpa [World.cell?, hb] using this
    · simp [World.frozen?, hb]

/-- The value, whatever it holds. -/
theorem Sl.form (h : Sl w v e s n xs own) : ∃ a cap, v = .slice a n cap ∧ n ≤ cap ∧ cap ≤ maxLen := by
  rcases h.2 with ⟨hv, h0, _⟩ | ⟨g, off, cap, cur, ho, hv, hb, h1, h2, h3, h4⟩
  · exact ⟨none, 0, by rw [hv, h0], by omega, Nat.zero_le _⟩
  · exact ⟨_, cap, hv, h1, h2⟩

theorem Sl.take {a : Option Addr} {cap : Nat} (h : Sl w (.slice a n cap) e s n xs own) {k : Nat} (hk : k ≤ n) : Sl w (.slice a k cap) e s k (xs.take (k * s)) own := by
  have hks : k * s ≤ n * s := Nat.mul_le_mul_right _ hk
  refine ⟨by rw [List.length_take, h.1]; omega, ?_⟩
  rcases h.2 with ⟨hv, h0, ho⟩ | ⟨g, off, cap', cur, ho, hv, hb, h1, h2, h3, h4⟩
  · cases hv
    exact .inl ⟨by rw [show k = 0 from by omega], by omega, ho⟩
  · cases hv
    refine .inr ⟨g, off, cap, cur, ho, rfl, hb, by omega, h2, h3, ?_⟩
    rw [← h4, List.take_take, Nat.min_eq_left hks]

theorem Sl.drop {a : Option Addr} {cap : Nat} (h : Sl w (.slice a n cap) e s n xs own) {k : Nat} (hk : k ≤ n) :
    Sl w (.slice (if cap = k then a else a.map (·.add (k * s))) (n - k) (cap - k)) e s (n - k) (xs.drop (k * s)) own := by
  have hks : k * s ≤ n * s := Nat.mul_le_mul_right _ hk
  refine ⟨by rw [List.length_drop, h.1, Nat.sub_mul], ?_⟩
  rcases h.2 with ⟨hv, h0, ho⟩ | ⟨g, off, cap', cur, ho, hv, hb, h1, h2, h3, h4⟩
  · cases hv
    exact .inl ⟨by simp, by omega, ho⟩
  · cases hv
    by_cases hc : cap = k
    · subst hc
      have : n = cap := by omega
      subst this
      refine .inr ⟨g, off, 0, cur, ho, by simp, hb, by omega, by omega, ?_, ?_⟩
      · rw [Nat.zero_mul]; exact Nat.le_trans (Nat.le_add_right _ _) h3
      · simp; exact Nat.le_of_eq h.1
    · refine .inr ⟨g, off + k * s, cap - k, cur, ho, by rw [if_neg hc]; simp [Addr.add_lit], hb, by omega, by omega, ?_, ?_⟩
      · rw [Nat.add_assoc, ← Nat.add_mul, show k + (cap - k) = cap from by omega]; exact h3
      · rw [← h4, List.drop_take, ← List.drop_drop, Nat.sub_mul]

theorem Sl.made (w : World) (cs : List Value) (e : TypeId) (s cap : Nat) (hs : cs.length = cap * s) (hc : cap ≤ maxLen) :
    Sl (w.alloc (.cells cs.toArray e)) (.slice (Option.some ⟨w.heap.size, 0, none⟩) cap cap) e s cap cs (Option.some w.heap.size) := by
  refine ⟨hs, .inr ⟨w.heap.size, 0, cap, cs.toArray, rfl, rfl, heap_alloc_new w _, Nat.le_refl _, hc, by simp [hs], by simp [← hs]⟩⟩
end

/-- What may be handed to append behind '...': nil, or cells that lie one behind the other. -/
def Src (w : World) (x : Value) (m : Nat) (news : List Value) : Prop :=
  (x = .slice none 0 0 ∧ m = 0 ∧ news = []) ∨ ∃ a c, x = .slice (some a) m c ∧ ∀ j u, news[j]? = some u → w.cell? (a.add j) = some u

theorem Sl.src {w : World} {v : Value} {e : TypeId} {s n : Nat} {xs : List Value} {own : Option Nat} (h : Sl w v e s n xs own) : Src w v n xs := by
  rcases h.2 with ⟨hv, h0, _⟩ | ⟨g, off, cap, cur, ho, hv, hb, h1, h2, h3, h4⟩
  · exact .inl ⟨hv, h0, List.eq_nil_of_length_eq_zero (by rw [h.1, h0]; simp)⟩
  · refine .inr ⟨_, cap, hv, fun j u hu => ?_⟩
    rw [← h4] at hu
    have := take_drop_getElem? _ _ _ _ _ hu
    rw [Addr.add_lit]
    simpa [World.cell?, hb] using this

theorem Src.kept {w w' : World} {x : Value} {m : Nat} {news : List Value} (h : Src w x m news) (k : Kept (fun _ => False) w w') : Src w' x m news := by
  rcases h with h | ⟨a, c, hx, hc⟩
  · exact .inl h
  · exact .inr ⟨a, c, hx, fun j u hu => k.cell (hc j u hu) (fun h => h)⟩
/-- What lies in a block that is none of F. -/
theorem Src.keptF {F : Nat → Prop} {w w' : World} {b off c m : Nat} {news : List Value} (h : Src w (.slice (some ⟨b, off, none⟩) m c) m news) (k : Kept F w w') (hF : ¬ F b) : Src w' (.slice (some ⟨b, off, none⟩) m c) m news := by
  rcases h with ⟨h, _⟩ | ⟨a, c', hx, hc⟩
  · cases h
  · cases hx
    exact .inr ⟨_, _, rfl, fun j u hu => k.cell (hc j u hu) (by rw [Addr.add_lit]; exact hF)⟩
/-- The one new cell that 'append(s, x)' lays first. -/
theorem Src.one (w : World) (u : Value) (e : TypeId) : Src (w.alloc (.cells #[u] e)) (.slice (some ⟨w.heap.size, 0, none⟩) 1 1) 1 [u] := by
  refine .inr ⟨_, 1, rfl, fun j v hv => ?_⟩
  rw [Addr.add_lit]
  have hb := (Blk.new w [u] e).cell (i := 0 + j) (v := v) (by simpa using hv)
  exact hb

section
variable {P : Program} (w : World)

theorem run_append_at (t ty e : TypeId) (i : TypeInfo) (ht : P.underlying t = some (.slice e)) (hi : P.info? e = some i)
    (g off sLen sCap : Nat) (cur : Array Value) (hg : w.heap[g]? = some (.cells cur e (0, 0)))
    (a : Addr) (m c : Nat) (news : List Value) (hl : news.length = m * i.size) (hnews : ∀ j u, news[j]? = some u → w.cell? (a.add j) = some u) (h1 : ∀ u ∈ news, u.oneCell' = true)
    (hroom : sLen + m ≤ sCap) (hfit : off + sLen * i.size + news.length ≤ cur.size) :
    (Builtin.append_ #[t, t] ty #[.slice (some ⟨g, off, none⟩) sLen sCap, .slice (some a) m c]).run P w =
      .ok (.slice (some ⟨g, off, none⟩) (sLen + m) sCap) (w.setRow g (cur.toList.take (off + sLen * i.size) ++ news ++ cur.toList.drop (off + sLen * i.size + news.length)).toArray) := by
  have hf := run_firstCells_some (P := P) w i.size m a m c news hl hnews
  have hst := run_storeCells_at P g (off + sLen * i.size) e news 0 cur w hg (by simpa using hfit) h1
  simp only [Nat.add_zero] at hst
  simp [Builtin.append_, run_underlying ht, sizeOf, typeInfo, hi, Builtin.lenOf, hroom, hf, Addr.add_lit, hst]

theorem run_append_at_nil (t ty e : TypeId) (i : TypeInfo) (ht : P.underlying t = some (.slice e)) (hi : P.info? e = some i)
    (b : Option Addr) (sLen sCap : Nat) (hroom : sLen ≤ sCap) :
    (Builtin.append_ #[t, t] ty #[.slice b sLen sCap, .slice none 0 0]).run P w = .ok (.slice b sLen sCap) w := by
  cases b <;> simp [Builtin.append_, run_underlying ht, sizeOf, typeInfo, hi, Builtin.lenOf, hroom, Builtin.firstCells, storeCells]

/-- append on such a slice: it reads as it did, and behind it what was handed over; only its own block, and new ones, have turned. -/
theorem run_append_sl (t ty e : TypeId) (i : TypeInfo) (z : Value) (size bytes : Nat) (ht : P.underlying t = some (.slice e)) (hi : P.info? e = some i) (hz : i.zero = some z)
    (hsize : i.size = size) (hby : i.bytes = bytes) (hzs : z.cells.size = size)
    (v : Value) (n : Nat) (xs : List Value) (own : Option Nat) (hown : Sl w v e size n xs own)
    (x : Value) (m : Nat) (news : List Value) (hsrc : Src w x m news) (hl : news.length = m * size) (h1 : ∀ u ∈ news, u.oneCell' = true)
    (h63 : n + m ≤ maxLen) (hbytes : (n + m) * bytes ≤ 140737488355328) :
    ∃ v' w' own', (Builtin.append_ #[t, t] ty #[v, x]).run P w = .ok v' w' ∧ Sl w' v' e size (n + m) (xs ++ news) own' ∧ (own' = own ∨ own' = some w.heap.size) ∧ Kept (fun k => own = some k) w w' := by
  subst hsize
  subst hby
  have hsmall : n + m ≤ 9223372036854775807 := by simp only [maxLen] at h63; omega
  have hlen : (xs ++ news).length = (n + m) * i.size := by rw [List.length_append, hown.1, hl, Nat.add_mul]
  rcases hsrc with ⟨rfl, rfl, rfl⟩ | ⟨a, c, rfl, hnews⟩
  · have hr : (Builtin.append_ #[t, t] ty #[v, .slice none 0 0]).run P w = .ok v w := by
      rcases hown.2 with ⟨rfl, rfl, _⟩ | ⟨g, off, cap, cur, _, rfl, _, hnc, _⟩
      · exact run_append_at_nil w t ty e i ht hi none 0 0 (Nat.le_refl _)
      · exact run_append_at_nil w t ty e i ht hi _ n cap hnc
    exact ⟨v, w, own, hr, by simpa using hown, .inl rfl, Kept.refl _ _⟩
  · have grown : ∀ (old : Nat), old < n + m →
        Sl (w.drew.alloc (.cells (xs.toArray ++ news.toArray ++ Builtin.zeroCells z.cells (grownCap w (n + m) old e - (n + m))) e))
          (.slice (some ⟨w.heap.size, 0, none⟩) (n + m) (grownCap w (n + m) old e)) e i.size (n + m) (xs ++ news) (some w.heap.size) ∧
        Kept (fun k => own = some k) w (w.drew.alloc (.cells (xs.toArray ++ news.toArray ++ Builtin.zeroCells z.cells (grownCap w (n + m) old e - (n + m))) e)) := by
      intro old ho
      have hge := grownCap_ge w (n + m) old e
      have hcm : grownCap w (n + m) old e ≤ maxLen := grownCap_le_maxLen w (n + m) old e h63
      refine ⟨⟨hlen, .inr ⟨w.heap.size, 0, _, _, rfl, rfl, heap_alloc_new w.drew _, hge, hcm, ?_, ?_⟩⟩, (Kept.refl _ w).drew.alloc _⟩
      · simp only [Array.size_append, List.size_toArray, size_zeroCells, hzs, hown.1, hl, ← Nat.add_mul, Nat.zero_add]
        exact Nat.mul_le_mul_right _ (by omega)
      · simp only [Array.toList_append, List.append_assoc, List.drop_zero]
        rw [← List.append_assoc, ← hlen]
        exact List.take_left
    rcases hown.2 with ⟨rfl, rfl, rfl⟩ | ⟨g, off, cap, cur, rfl, rfl, hg, hnc, hcm, hcs, htake⟩
    · have hx : xs = [] := List.eq_nil_of_length_eq_zero (by simpa using hown.1)
      subst hx
      by_cases hm : m = 0
      · subst hm
        have hn : news = [] := List.eq_nil_of_length_eq_zero (by simpa using hl)
        subst hn
        refine ⟨.slice none 0 0, w, none, ?_, by simpa using Sl.nil w e i.size, .inl rfl, Kept.refl _ _⟩
        simp [Builtin.append_, run_underlying ht, sizeOf, typeInfo, hi, Builtin.lenOf, Builtin.firstCells, loadCells, loadCellsFrom]
      · have hr := run_append_nil (P := P) w t ty e i z ht hi hz a m c news hl hnews (by omega) (by omega) (by have hb := hbytes; simp only [Nat.zero_add] at hb; omega)
        have hgr := grown 0 (by omega)
        simp only [Nat.zero_add, List.nil_append, Array.empty_append] at hgr ⊢
        exact ⟨_, _, _, hr, hgr.1, .inr rfl, hgr.2⟩
    · by_cases hroom : n + m ≤ cap
      · have hms : n * i.size + m * i.size ≤ cap * i.size := by rw [← Nat.add_mul]; exact Nat.mul_le_mul_right _ hroom
        have hfit : off + n * i.size + news.length ≤ cur.size := by rw [hl]; omega
        have hr := run_append_at (P := P) w t ty e i ht hi g off n cap cur hg a m c news hl hnews h1 hroom hfit
        refine ⟨_, _, some g, hr, ⟨hlen, .inr ⟨g, off, cap, _, rfl, rfl, setRow_heap w g cur _ e _ hg, hroom, hcm, ?_, ?_⟩⟩, .inl rfl, ⟨rfl, rfl, rfl, by simp, fun k _ hk => setRow_other w g k _ (fun e => hk (by rw [e]))⟩⟩
        · simp only [List.size_toArray, List.length_append, List.length_take, List.length_drop, Array.length_toList]
          omega
        · have ht : (cur.toList.take (off + n * i.size)).length = off + n * i.size := by simp; omega
          have h5 : (cur.toList.take (off + n * i.size)).drop off = xs := by
            rw [List.drop_take, show off + n * i.size - off = n * i.size from by omega]; exact htake
          rw [List.append_assoc, List.drop_append_of_le_length (by omega), h5, ← List.append_assoc, ← hlen]
          exact List.take_left
      · have holds : ∀ j u, xs[j]? = some u → w.cell? ((⟨g, off, none⟩ : Addr).add j) = some u := by
          intro j u hu
          rw [← htake] at hu
          have := take_drop_getElem? _ _ _ _ _ hu
          rw [Addr.add_lit]
          simpa [World.cell?, hg] using this
        have hr := run_append_grow (P := P) w t ty e i z ht hi hz ⟨g, off, none⟩ n cap xs hown.1 holds a m c news hl hnews (by omega) (by omega) (growslice_fits (by omega) hbytes)
        have hgr := grown cap (by omega)
        exact ⟨_, _, _, hr, hgr.1, .inr rfl, hgr.2⟩

/-- The same as a step of a walk. -/
theorem wpList_append_sl {ops : Array Oper} {rest : List Oper} {o : Oper} {a : Act} {Q : Exit → Act → World → Prop} (hgd : o.guard = none) (sO xO : Operand) (t : TypeId)
    (ho : o.op = .call { callee := .builtin .append, args := #[sO, xO], argTypes := #[t, t] })
    (e : TypeId) (i : TypeInfo) (z : Value) (size bytes : Nat) (ht : P.underlying t = some (.slice e)) (hi : P.info? e = some i) (hz : i.zero = some z)
    (hsize : i.size = size) (hby : i.bytes = bytes) (hzs : z.cells.size = size)
    (v : Value) (n : Nat) (xs : List Value) (own : Option Nat) (hs : a.eval sO = v) (hown : Sl w v e size n xs own)
    (x : Value) (m : Nat) (news : List Value) (hx : a.eval xO = x) (hsrc : Src w x m news) (hl : news.length = m * size) (h1 : ∀ u ∈ news, u.oneCell' = true)
    (h63 : n + m ≤ maxLen) (hbytes : (n + m) * bytes ≤ 140737488355328)
    (h : ∀ v' w' own', Sl w' v' e size (n + m) (xs ++ news) own' → (own' = own ∨ own' = some w.heap.size) → Kept (fun k => own = some k) w w' → wpList P ops Q rest (a.put o.dst v') w') :
    wpList P ops Q (o :: rest) a w := by
  refine wpList_plain hgd fun K hK => ?_
  obtain ⟨v', w', own', hr, h2, h3, h4⟩ := run_append_sl (P := P) w t o.type e i z size bytes ht hi hz hsize hby hzs v n xs own hown x m news hsrc hl h1 h63 hbytes
  unfold Oper.wp execOp
  simp only [ho, resolve, invoke, builtin, Sem.run_bind, Sem.run_pure, Result.andThen_ok, List.map_toArray, List.map_cons, List.map_nil, hs, hx, hr]
  exact hK _ _ (h v' w' own' h2 h3 h4)
end

end Go.Proofs.Ytolgapcckbcmbaa
