/- Joined texts. -/
import Derived.ProofKit
import Derived.WalkKit
import Derived.WalkLawsBesides
import Derived.Defers
import Derived.Lib.Hide
import Derived.StillTailTactics
import Derived.Deep.LoopGhost
import Derived.Deep.Draws
import Derived.Laws.AppendOwn
import Derived.Laws.OwnMore
set_option linter.unusedVariables false
set_option linter.unusedSimpArgs false
/- General words that the walks use: a block of memory known whole, and what a call may have turned. No statement of the seat; no program in sight. -/
namespace Go.Proofs.YtekdkckgmleofaaGreat
open Go.RowKit

theorem ret_int {k : IntKind} {a b : Int} (h : a = b) : Ending.returned (.int k a) = .returned (.int k b) := by rw [h]
theorem ret_bool {a b : Bool} (h : a = b) : Ending.returned (.bool a) = .returned (.bool b) := by rw [h]

theorem wf_bd {a : Int} (h : (Lit.int .i64 a).wf = true) : -9223372036854775808 ≤ a ∧ a ≤ 9223372036854775807 := by
  simp only [Lit.wf, IntKind.min, IntKind.max, IntKind.signed, IntKind.bits, Bool.and_eq_true, decide_eq_true_eq, if_true] at h
  omega

theorem u8_bd {a : Int} (h : (Lit.int .u8 a).wf = true) : 0 ≤ a ∧ a ≤ 255 := by
  simp [Lit.wf, IntKind.min, IntKind.max, IntKind.signed, IntKind.bits] at h
  omega
theorem u16_bd {a : Int} (h : (Lit.int .u16 a).wf = true) : 0 ≤ a ∧ a ≤ 65535 := by
  simp [Lit.wf, IntKind.min, IntKind.max, IntKind.signed, IntKind.bits] at h
  omega
theorem i32_bd {a : Int} (h : (Lit.int .i32 a).wf = true) : -2147483648 ≤ a ∧ a ≤ 2147483647 := by
  simp [Lit.wf, IntKind.min, IntKind.max, IntKind.signed, IntKind.bits] at h
  omega

/-- Block b holds just these cells, of which none is frozen. -/
def Blk (w : World) (b : Nat) (cs : List Value) (t : TypeId) : Prop := w.heap[b]? = some (.cells cs.toArray t (0, 0))

section
variable {w w' : World} {b : Nat} {cs : List Value} {t : TypeId}
theorem Blk.lt (h : Blk w b cs t) : b < w.heap.size := (Array.getElem?_eq_some_iff.1 h).1
theorem Blk.cell (h : Blk w b cs t) {i : Nat} {v : Value} (hi : cs[i]? = some v) : w.cell? ⟨b, i, none⟩ = some v := by
  unfold Blk at h
  simp [World.cell?, h, hi]
theorem Blk.free (h : Blk w b cs t) (i : Nat) : w.frozen? ⟨b, i, none⟩ = false := by
  unfold Blk at h
  simp [World.frozen?, h]
theorem Blk.new (w : World) (cs : List Value) (t : TypeId) : Blk (w.alloc (.cells cs.toArray t)) w.heap.size cs t := by
  unfold Blk
  show (w.heap.push _)[w.heap.size]? = _
  simp
theorem Blk.new_at {w : World} {n : Nat} (hn : n = w.heap.size) (cs : List Value) (t : TypeId) : Blk (w.alloc (.cells cs.toArray t)) n cs t := by
  subst hn; exact Blk.new w cs t
theorem Blk.alloc (h : Blk w b cs t) (o : Obj) : Blk (w.alloc o) b cs t := by
  have := h.lt
  unfold Blk at *
  rw [Below.heap_alloc _ _ _ this]; exact h
theorem Blk.drew (h : Blk w b cs t) : Blk w.drew b cs t := h
theorem Blk.drewN (h : Blk w b cs t) (n : Nat) : Blk (w.drewN n) b cs t := h
theorem Blk.set (h : Blk w b cs t) (i : Nat) (v : Value) : Blk (w.setCell ⟨b, i, none⟩ v) b (cs.set i v) t := by
  unfold Blk at *
  simp [World.setCell, Array.getElem?_modify, h]
theorem Blk.set_ne (h : Blk w b cs t) {a : Addr} (ha : b ≠ a.block) (v : Value) : Blk (w.setCell a v) b cs t := by
  unfold Blk at *
  rw [Below.heap_setCell _ _ _ _ ha]; exact h
end

theorem size_setCell (w : World) (a : Addr) (v : Value) : (w.setCell a v).heap.size = w.heap.size := by simp [World.setCell]
theorem size_alloc (w : World) (o : Obj) : (w.alloc o).heap.size = w.heap.size + 1 := by simp

/-- From w to w' only blocks in F, and new ones, have turned. -/
structure Kept (F : Nat → Prop) (w w' : World) : Prop where
  os : w'.os = w.os
  tape : w'.tape = w.tape
  output : w'.output = w.output
  size : w.heap.size ≤ w'.heap.size
  block : ∀ k, k < w.heap.size → ¬ F k → w'.heap[k]? = w.heap[k]?

section
variable {F G : Nat → Prop} {w w' w'' : World}
theorem Kept.refl (F : Nat → Prop) (w : World) : Kept F w w := ⟨rfl, rfl, rfl, Nat.le_refl _, fun _ _ _ => rfl⟩
theorem Kept.mono (h : Kept F w w') (hFG : ∀ k, k < w.heap.size → F k → G k) : Kept G w w' :=
  ⟨h.os, h.tape, h.output, h.size, fun k hk hn => h.block k hk fun hf => hn (hFG k hk hf)⟩
/-- Two steps: what the second may turn the first may turn too, or it is newer than the first's world. -/
theorem Kept.trans (h : Kept F w w') (k : Kept G w' w'') (hG : ∀ i, G i → F i ∨ w.heap.size ≤ i) : Kept F w w'' :=
  ⟨k.os.trans h.os, k.tape.trans h.tape, k.output.trans h.output, Nat.le_trans h.size k.size, fun i hi hn =>
    (k.block i (Nat.lt_of_lt_of_le hi h.size) fun hg => by rcases hG i hg with h1 | h1; exact hn h1; omega).trans (h.block i hi hn)⟩
theorem Kept.drew (h : Kept F w w') : Kept F w w'.drew := ⟨h.os, h.tape, h.output, h.size, h.block⟩
theorem Kept.drewN (h : Kept F w w') (n : Nat) : Kept F w (w'.drewN n) := ⟨h.os, h.tape, h.output, h.size, h.block⟩
theorem Kept.alloc (h : Kept F w w') (o : Obj) : Kept F w (w'.alloc o) :=
  ⟨h.os, h.tape, h.output, by have := h.size; simp; omega, fun k hk hn => by rw [Below.heap_alloc _ _ _ (Nat.lt_of_lt_of_le hk h.size)]; exact h.block k hk hn⟩
theorem Kept.setCell (h : Kept F w w') {a : Addr} (ha : F a.block ∨ w.heap.size ≤ a.block) (v : Value) : Kept F w (w'.setCell a v) :=
  ⟨h.os, h.tape, h.output, by have := h.size; simpa [World.setCell] using this, fun k hk hn => by
    rw [Below.heap_setCell _ _ _ _ (fun e => by subst e; rcases ha with h1 | h1; exact hn h1; omega)]; exact h.block k hk hn⟩
theorem Kept.blk (h : Kept F w w') {b : Nat} {cs : List Value} {t : TypeId} (hb : Blk w b cs t) (hn : ¬ F b) : Blk w' b cs t := by
  have := hb.lt
  unfold Blk at *
  rw [h.block b this hn]; exact hb
theorem Kept.cell (h : Kept F w w') {p : Addr} {v : Value} (hp : w.cell? p = some v) (hn : ¬ F p.block) : w'.cell? p = some v := by
  have hlt : p.block < w.heap.size := by
    unfold World.cell? at hp
    split at hp
    · rename_i heq; exact (Array.getElem?_eq_some_iff.1 heq).1
    · cases hp
  rw [World.cell?_of_block (w := w) (h.block _ hlt hn)]; exact hp
/-- Nothing that was there has turned. -/
theorem Kept.below (h : Kept F w w') {B : Nat} (hB : B ≤ w.heap.size) (hF : ∀ k, F k → B ≤ k) : Below B w w' :=
  ⟨h.os, h.tape, h.output, h.size, fun k hk => h.block k (by omega) fun hf => by have := hF k hf; omega⟩
theorem Kept.of_below {B : Nat} (h : Below B w w') : Kept (fun k => B ≤ k) w w' :=
  ⟨h.os, h.tape, h.output, h.size, fun k _ hn => h.block k (by omega)⟩
end

/-- A slice of integers: where there are any they lie one behind the other. -/
def Reads (w : World) (k : IntKind) (a : Option Addr) (l : List Int) : Prop :=
  0 < l.length → ∃ b off, a = some ⟨b, off, none⟩ ∧ b < w.heap.size ∧ ∀ i, i < l.length → w.cell? ⟨b, off + i, none⟩ = some (.int k (l.getD i 0))
theorem lt_of_cell {w : World} {p : Addr} {v : Value} (hp : w.cell? p = some v) : p.block < w.heap.size := by
  unfold World.cell? at hp
  split at hp
  · rename_i heq; exact (Array.getElem?_eq_some_iff.1 heq).1
  · cases hp
theorem spot_of_cell {w : World} {p : Addr} {v : Value} (hp : w.cell? p = some v) : p.spot = none := by
  unfold World.cell? at hp
  split at hp
  · split at hp
    · cases hp
    · rename_i h; simpa using h
  · cases hp
theorem Reads.of_row {w : World} {k : IntKind} {a : Option Addr} {len cap : Nat} {zs : List Int}
    (h : (a = none ∧ len = 0 ∧ cap = 0 ∧ zs = []) ∨ ∃ x, a = some x ∧ len ≤ cap ∧ cap ≤ maxLen ∧ zs.length = cap ∧ (∀ i, i < zs.length → w.cell? (x.add i) = some (.int k (zs.getD i 0))) ∧ ∀ n ∈ zs, (Lit.int k n).wf = true) :
    ∃ l : List Int, len = l.length ∧ l.length ≤ cap ∧ cap ≤ maxLen ∧ (∀ x ∈ l, (Lit.int k x).wf = true) ∧ Reads w k a l := by
  rcases h with ⟨rfl, rfl, rfl, rfl⟩ | ⟨x, rfl, hl, hm, hz, hc, hw⟩
  · exact ⟨[], rfl, Nat.zero_le _, Nat.zero_le _, by simp, fun h => absurd h (Nat.lt_irrefl _)⟩
  · refine ⟨zs.take len, by simp [hz]; omega, by simp [hz]; omega, hm, fun y hy => hw y (List.mem_of_mem_take hy), fun h0 => ?_⟩
    have hlen : (zs.take len).length = len := by simp [hz]; omega
    rw [hlen] at h0
    have c0 := hc 0 (by omega)
    have e0 : x.add 0 = x := by simp [Addr.add]
    rw [e0] at c0
    have hs := spot_of_cell c0
    have hb := lt_of_cell c0
    obtain ⟨b, off, spot⟩ := x
    simp only at hs hb
    subst hs
    refine ⟨b, off, rfl, hb, fun i hi => ?_⟩
    rw [hlen] at hi
    have ci := hc i (by omega)
    have ei : (⟨b, off, none⟩ : Addr).add i = ⟨b, off + i, none⟩ := by unfold Addr.add; split <;> simp_all
    rw [ei] at ci
    rw [ci]
    congr 2
    simp [hi]

/-- What is left to walk, from whatever world of which R holds. -/
theorem at_world {P : Program} {c : Code} {Q : Exit → Act → World → Prop} {a : Act} {w : World} (R : World → Prop) (hR : R w) (h : ∀ W, R W → c.wp P Q a W) : c.wp P Q a w := h w hR

/-- A function that has a body is entered. -/
theorem enters {P : Program} {f : FuncId} {fn : Func} (hf : P.funcs[f]? = some fn) (hn : (fn.name == "runtime.NumGoroutine") = false) (hb : fn.body.isSome = true) (args : Array Value) (w : World) :
    (callFunc f args).run P w = .ok (.enter f args) w := by
  cases h : fn.body with
  | none => rw [h] at hb; cases hb
  | some c =>
    have hn2 : ¬ fn.name = "runtime.NumGoroutine" := by simpa using hn
    simp [callFunc, hf, hn2, h]

/-- A region that draws its order, whose operations but for a tail only read. -/
theorem region_tail {P : Program} {id : Nat} {Q : Exit → Act → World → Prop} {a : Act} {w : World} {l : List Oper} (n : Nat) (hm : P.follows .mixedOrders = true) (hB : Region.lexTailB .any l.toArray n = true)
    (h : wpStill P l.toArray w.drew (fun a' => wpList P l.toArray Q (l.drop n) a' w.drew) (l.take n) a) : (Code.region id l.toArray true).wp P Q a w :=
  wp_region_still_tail n hm hB h

end Go.Proofs.YtekdkckgmleofaaGreat

/- General words, the second: a slice value that reads as a row of cells anywhere inside a block that the call may write, and what append does to it. No statement of the seat; no program in sight. -/
namespace Go.Proofs.YtekdkckgmleofaaGreat
open Go.RowKit

/-- The slice value v has n elements of type e, s cells each; its cells read xs; they lie in block 'own' (none: it is nil). -/
def Sl (w : World) (v : Value) (e : TypeId) (s n : Nat) (xs : List Value) (own : Option Nat) : Prop :=
  xs.length = n * s ∧ ((v = .slice none 0 0 ∧ n = 0 ∧ own = none) ∨
    ∃ g off cap cur, own = some g ∧ v = .slice (some ⟨g, off, none⟩) n cap ∧ w.heap[g]? = some (.cells cur e (0, 0)) ∧ n ≤ cap ∧ cap ≤ maxLen ∧ off + cap * s ≤ cur.size ∧ (cur.toList.drop off).take (n * s) = xs)

section
variable {w w' : World} {v : Value} {e : TypeId} {s n : Nat} {xs : List Value} {own : Option Nat}
theorem Sl.nil (w : World) (e : TypeId) (s : Nat) : Sl w (.slice none 0 0) e s 0 [] none := ⟨by simp, .inl ⟨rfl, rfl, rfl⟩⟩

theorem Sl.lt (h : Sl w v e s n xs own) {g : Nat} (hg : own = some g) : g < w.heap.size := by
  rcases h.2 with ⟨_, _, h1⟩ | ⟨g', _, _, _, h1, _, h2, _⟩
  · rw [hg] at h1; cases h1
  · rw [hg] at h1; cases h1; exact (Array.getElem?_eq_some_iff.1 h2).1

theorem Sl.len_le (h : Sl w v e s n xs own) : n ≤ maxLen := by
  rcases h.2 with ⟨_, h1, _⟩ | ⟨_, _, _, _, _, _, _, h1, h2, _⟩
  · omega
  · omega

theorem Sl.kept {F : Nat → Prop} (h : Sl w v e s n xs own) (k : Kept F w w') (hn : ∀ g, own = some g → ¬ F g) : Sl w' v e s n xs own := by
  refine ⟨h.1, ?_⟩
  rcases h.2 with hl | ⟨g, off, cap, cur, rfl, hv, hb, rest⟩
  · exact .inl hl
  · exact .inr ⟨g, off, cap, cur, rfl, hv, by rw [k.block g (Array.getElem?_eq_some_iff.1 hb).1 (hn g rfl)]; exact hb, rest⟩

theorem Sl.drew (h : Sl w v e s n xs own) : Sl w.drew v e s n xs own := h
theorem Sl.drewN (h : Sl w v e s n xs own) (k : Nat) : Sl (w.drewN k) v e s n xs own := h
theorem Sl.alloc (h : Sl w v e s n xs own) (o : Obj) : Sl (w.alloc o) v e s n xs own :=
  h.kept ((Kept.refl (fun _ => False) w).alloc o) (fun _ _ h => h)
theorem Sl.setCell (h : Sl w v e s n xs own) {a : Addr} (ha : ∀ g, own = some g → g ≠ a.block) (u : Value) : Sl (w.setCell a u) v e s n xs own :=
  h.kept (((Kept.refl (fun k => k = a.block) w).setCell (a := a) (.inl rfl) u)) (fun g hg he => ha g hg he)

theorem take_drop_getElem? (l : List Value) (off m j : Nat) (u : Value) (h : ((l.drop off).take m)[j]? = some u) : l[off + j]? = some u := by
  rw [List.getElem?_take] at h
  split at h
  · rw [List.getElem?_drop] at h; exact h
  · cases h

/-- What a value with elements looks like, and its cells. -/
theorem Sl.some (h : Sl w v e s n xs own) (hn : 0 < n) : ∃ g off cap, own = Option.some g ∧ v = .slice (Option.some ⟨g, off, none⟩) n cap ∧ n ≤ cap ∧ cap ≤ maxLen ∧
    (∀ j u, xs[j]? = Option.some u → w.cell? ⟨g, off + j, none⟩ = Option.some u) ∧ (∀ j, w.frozen? ⟨g, j, none⟩ = false) := by
  rcases h.2 with ⟨_, h0, _⟩ | ⟨g, off, cap, cur, ho, hv, hb, h1, h2, h3, h4⟩
  · omega
  · refine ⟨g, off, cap, ho, hv, h1, h2, fun j u hu => ?_, fun j => ?_⟩
    · rw [← h4] at hu
      have := take_drop_getElem? _ _ _ _ _ hu
      simpa [World.cell?, hb] using this
    · simp [World.frozen?, hb]

/-- The value, whatever it holds. -/
theorem Sl.form (h : Sl w v e s n xs own) : ∃ a cap, v = .slice a n cap ∧ n ≤ cap ∧ cap ≤ maxLen := by
  rcases h.2 with ⟨hv, h0, _⟩ | ⟨g, off, cap, cur, ho, hv, hb, h1, h2, h3, h4⟩
  · exact ⟨none, 0, by rw [hv, h0], by omega, Nat.zero_le _⟩
  · exact ⟨_, cap, hv, h1, h2⟩

theorem Sl.take {a : Option Addr} {cap : Nat} (h : Sl w (.slice a n cap) e s n xs own) {k : Nat} (hk : k ≤ n) : Sl w (.slice a k cap) e s k (xs.take (k * s)) own := by
  have hks : k * s ≤ n * s := Nat.mul_le_mul_right _ hk
  refine ⟨by rw [List.length_take, h.1]; omega, ?_⟩
  rcases h.2 with ⟨hv, h0, ho⟩ | ⟨g, off, cap', cur, ho, hv, hb, h1, h2, h3, h4⟩
  · cases hv
    exact .inl ⟨by rw [show k = 0 from by omega], by omega, ho⟩
  · cases hv
    refine .inr ⟨g, off, cap, cur, ho, rfl, hb, by omega, h2, h3, ?_⟩
    rw [← h4, List.take_take, Nat.min_eq_left hks]

theorem Sl.drop {a : Option Addr} {cap : Nat} (h : Sl w (.slice a n cap) e s n xs own) {k : Nat} (hk : k ≤ n) :
    Sl w (.slice (if cap = k then a else a.map (·.add (k * s))) (n - k) (cap - k)) e s (n - k) (xs.drop (k * s)) own := by
  have hks : k * s ≤ n * s := Nat.mul_le_mul_right _ hk
  refine ⟨by rw [List.length_drop, h.1, Nat.sub_mul], ?_⟩
  rcases h.2 with ⟨hv, h0, ho⟩ | ⟨g, off, cap', cur, ho, hv, hb, h1, h2, h3, h4⟩
  · cases hv
    exact .inl ⟨by simp, by omega, ho⟩
  · cases hv
    by_cases hc : cap = k
    · subst hc
      have : n = cap := by omega
      subst this
      refine .inr ⟨g, off, 0, cur, ho, by simp, hb, by omega, by omega, ?_, ?_⟩
      · rw [Nat.zero_mul]; exact Nat.le_trans (Nat.le_add_right _ _) h3
      · simp; exact Nat.le_of_eq h.1
    · refine .inr ⟨g, off + k * s, cap - k, cur, ho, by rw [if_neg hc]; simp [Addr.add_lit], hb, by omega, by omega, ?_, ?_⟩
      · rw [Nat.add_assoc, ← Nat.add_mul, show k + (cap - k) = cap from by omega]; exact h3
      · rw [← h4, List.drop_take, ← List.drop_drop, Nat.sub_mul]

theorem Sl.made (w : World) (cs : List Value) (e : TypeId) (s cap : Nat) (hs : cs.length = cap * s) (hc : cap ≤ maxLen) :
    Sl (w.alloc (.cells cs.toArray e)) (.slice (Option.some ⟨w.heap.size, 0, none⟩) cap cap) e s cap cs (Option.some w.heap.size) := by
  refine ⟨hs, .inr ⟨w.heap.size, 0, cap, cs.toArray, rfl, rfl, heap_alloc_new w _, Nat.le_refl _, hc, by simp [hs], by simp [← hs]⟩⟩
end

/-- What may be handed to append behind '...': nil, or cells that lie one behind the other. -/
def Src (w : World) (x : Value) (m : Nat) (news : List Value) : Prop :=
  (x = .slice none 0 0 ∧ m = 0 ∧ news = []) ∨ ∃ a c, x = .slice (some a) m c ∧ ∀ j u, news[j]? = some u → w.cell? (a.add j) = some u

theorem Sl.src {w : World} {v : Value} {e : TypeId} {s n : Nat} {xs : List Value} {own : Option Nat} (h : Sl w v e s n xs own) : Src w v n xs := by
  rcases h.2 with ⟨hv, h0, _⟩ | ⟨g, off, cap, cur, ho, hv, hb, h1, h2, h3, h4⟩
  · exact .inl ⟨hv, h0, List.eq_nil_of_length_eq_zero (by rw [h.1, h0]; simp)⟩
  · refine .inr ⟨_, cap, hv, fun j u hu => ?_⟩
    rw [← h4] at hu
    have := take_drop_getElem? _ _ _ _ _ hu
    rw [Addr.add_lit]
    simpa [World.cell?, hb] using this

theorem Src.kept {w w' : World} {x : Value} {m : Nat} {news : List Value} (h : Src w x m news) (k : Kept (fun _ => False) w w') : Src w' x m news := by
  rcases h with h | ⟨a, c, hx, hc⟩
  · exact .inl h
  · exact .inr ⟨a, c, hx, fun j u hu => k.cell (hc j u hu) (fun h => h)⟩
/-- What lies in a block that is none of F. -/
theorem Src.keptF {F : Nat → Prop} {w w' : World} {b off c m : Nat} {news : List Value} (h : Src w (.slice (some ⟨b, off, none⟩) m c) m news) (k : Kept F w w') (hF : ¬ F b) : Src w' (.slice (some ⟨b, off, none⟩) m c) m news := by
  rcases h with ⟨h, _⟩ | ⟨a, c', hx, hc⟩
  · cases h
  · cases hx
    exact .inr ⟨_, _, rfl, fun j u hu => k.cell (hc j u hu) (by rw [Addr.add_lit]; exact hF)⟩
/-- The one new cell that 'append(s, x)' lays first. -/
theorem Src.one (w : World) (u : Value) (e : TypeId) : Src (w.alloc (.cells #[u] e)) (.slice (some ⟨w.heap.size, 0, none⟩) 1 1) 1 [u] := by
  refine .inr ⟨_, 1, rfl, fun j v hv => ?_⟩
  rw [Addr.add_lit]
  have hb := (Blk.new w [u] e).cell (i := 0 + j) (v := v) (by simpa using hv)
  exact hb

section
variable {P : Program} (w : World)

theorem run_append_at (t ty e : TypeId) (i : TypeInfo) (ht : P.underlying t = some (.slice e)) (hi : P.info? e = some i)
    (g off sLen sCap : Nat) (cur : Array Value) (hg : w.heap[g]? = some (.cells cur e (0, 0)))
    (a : Addr) (m c : Nat) (news : List Value) (hl : news.length = m * i.size) (hnews : ∀ j u, news[j]? = some u → w.cell? (a.add j) = some u) (h1 : ∀ u ∈ news, u.oneCell' = true)
    (hroom : sLen + m ≤ sCap) (hfit : off + sLen * i.size + news.length ≤ cur.size) :
    (Builtin.append_ #[t, t] ty #[.slice (some ⟨g, off, none⟩) sLen sCap, .slice (some a) m c]).run P w =
      .ok (.slice (some ⟨g, off, none⟩) (sLen + m) sCap) (w.setRow g (cur.toList.take (off + sLen * i.size) ++ news ++ cur.toList.drop (off + sLen * i.size + news.length)).toArray) := by
  have hf := run_firstCells_some (P := P) w i.size m a m c news hl hnews
  have hst := run_storeCells_at P g (off + sLen * i.size) e news 0 cur w hg (by simpa using hfit) h1
  simp only [Nat.add_zero] at hst
  simp [Builtin.append_, run_underlying ht, sizeOf, typeInfo, hi, Builtin.lenOf, hroom, hf, Addr.add_lit, hst]

theorem run_append_at_nil (t ty e : TypeId) (i : TypeInfo) (ht : P.underlying t = some (.slice e)) (hi : P.info? e = some i)
    (b : Option Addr) (sLen sCap : Nat) (hroom : sLen ≤ sCap) :
    (Builtin.append_ #[t, t] ty #[.slice b sLen sCap, .slice none 0 0]).run P w = .ok (.slice b sLen sCap) w := by
  cases b <;> simp [Builtin.append_, run_underlying ht, sizeOf, typeInfo, hi, Builtin.lenOf, hroom, Builtin.firstCells, storeCells]

/-- append on such a slice: it reads as it did, and behind it what was handed over; only its own block, and new ones, have turned. -/
theorem run_append_sl (t ty e : TypeId) (i : TypeInfo) (z : Value) (size bytes : Nat) (ht : P.underlying t = some (.slice e)) (hi : P.info? e = some i) (hz : i.zero = some z)
    (hsize : i.size = size) (hby : i.bytes = bytes) (hzs : z.cells.size = size)
    (v : Value) (n : Nat) (xs : List Value) (own : Option Nat) (hown : Sl w v e size n xs own)
    (x : Value) (m : Nat) (news : List Value) (hsrc : Src w x m news) (hl : news.length = m * size) (h1 : ∀ u ∈ news, u.oneCell' = true)
    (h63 : n + m ≤ maxLen) (hbytes : (n + m) * bytes ≤ 140737488355328) :
    ∃ v' w' own', (Builtin.append_ #[t, t] ty #[v, x]).run P w = .ok v' w' ∧ Sl w' v' e size (n + m) (xs ++ news) own' ∧ (own' = own ∨ own' = some w.heap.size) ∧ Kept (fun k => own = some k) w w' := by
  subst hsize
  subst hby
  have hsmall : n + m ≤ 9223372036854775807 := by simp only [maxLen] at h63; omega
  have hlen : (xs ++ news).length = (n + m) * i.size := by rw [List.length_append, hown.1, hl, Nat.add_mul]
  rcases hsrc with ⟨rfl, rfl, rfl⟩ | ⟨a, c, rfl, hnews⟩
  · have hr : (Builtin.append_ #[t, t] ty #[v, .slice none 0 0]).run P w = .ok v w := by
      rcases hown.2 with ⟨rfl, rfl, _⟩ | ⟨g, off, cap, cur, _, rfl, _, hnc, _⟩
      · exact run_append_at_nil w t ty e i ht hi none 0 0 (Nat.le_refl _)
      · exact run_append_at_nil w t ty e i ht hi _ n cap hnc
    exact ⟨v, w, own, hr, by simpa using hown, .inl rfl, Kept.refl _ _⟩
  · have grown : ∀ (old : Nat), old < n + m →
        Sl (w.drew.alloc (.cells (xs.toArray ++ news.toArray ++ Builtin.zeroCells z.cells (grownCap w (n + m) old e - (n + m))) e))
          (.slice (some ⟨w.heap.size, 0, none⟩) (n + m) (grownCap w (n + m) old e)) e i.size (n + m) (xs ++ news) (some w.heap.size) ∧
        Kept (fun k => own = some k) w (w.drew.alloc (.cells (xs.toArray ++ news.toArray ++ Builtin.zeroCells z.cells (grownCap w (n + m) old e - (n + m))) e)) := by
      intro old ho
      have hge := grownCap_ge w (n + m) old e
      have hcm : grownCap w (n + m) old e ≤ maxLen := grownCap_le_maxLen w (n + m) old e h63
      refine ⟨⟨hlen, .inr ⟨w.heap.size, 0, _, _, rfl, rfl, heap_alloc_new w.drew _, hge, hcm, ?_, ?_⟩⟩, (Kept.refl _ w).drew.alloc _⟩
      · simp only [Array.size_append, List.size_toArray, size_zeroCells, hzs, hown.1, hl, ← Nat.add_mul, Nat.zero_add]
        exact Nat.mul_le_mul_right _ (by omega)
      · simp only [Array.toList_append, List.append_assoc, List.drop_zero]
        rw [← List.append_assoc, ← hlen]
        exact List.take_left
    rcases hown.2 with ⟨rfl, rfl, rfl⟩ | ⟨g, off, cap, cur, rfl, rfl, hg, hnc, hcm, hcs, htake⟩
    · have hx : xs = [] := List.eq_nil_of_length_eq_zero (by simpa using hown.1)
      subst hx
      by_cases hm : m = 0
      · subst hm
        have hn : news = [] := List.eq_nil_of_length_eq_zero (by simpa using hl)
        subst hn
        refine ⟨.slice none 0 0, w, none, ?_, by simpa using Sl.nil w e i.size, .inl rfl, Kept.refl _ _⟩
        simp [Builtin.append_, run_underlying ht, sizeOf, typeInfo, hi, Builtin.lenOf, Builtin.firstCells, loadCells, loadCellsFrom]
      · have hr := run_append_nil (P := P) w t ty e i z ht hi hz a m c news hl hnews (by omega) (by omega) (by have hb := hbytes; simp only [Nat.zero_add] at hb; omega)
        have hgr := grown 0 (by omega)
        simp only [Nat.zero_add, List.nil_append, Array.empty_append] at hgr ⊢
        exact ⟨_, _, _, hr, hgr.1, .inr rfl, hgr.2⟩
    · by_cases hroom : n + m ≤ cap
      · have hms : n * i.size + m * i.size ≤ cap * i.size := by rw [← Nat.add_mul]; exact Nat.mul_le_mul_right _ hroom
        have hfit : off + n * i.size + news.length ≤ cur.size := by rw [hl]; omega
        have hr := run_append_at (P := P) w t ty e i ht hi g off n cap cur hg a m c news hl hnews h1 hroom hfit
        refine ⟨_, _, some g, hr, ⟨hlen, .inr ⟨g, off, cap, _, rfl, rfl, setRow_heap w g cur _ e _ hg, hroom, hcm, ?_, ?_⟩⟩, .inl rfl, ⟨rfl, rfl, rfl, by simp, fun k _ hk => setRow_other w g k _ (fun e => hk (by rw [e]))⟩⟩
        · simp only [List.size_toArray, List.length_append, List.length_take, List.length_drop, Array.length_toList]
          omega
        · have ht : (cur.toList.take (off + n * i.size)).length = off + n * i.size := by simp; omega
          have h5 : (cur.toList.take (off + n * i.size)).drop off = xs := by
            rw [List.drop_take, show off + n * i.size - off = n * i.size from by omega]; exact htake
          rw [List.append_assoc, List.drop_append_of_le_length (by omega), h5, ← List.append_assoc, ← hlen]
          exact List.take_left
      · have holds : ∀ j u, xs[j]? = some u → w.cell? ((⟨g, off, none⟩ : Addr).add j) = some u := by
          intro j u hu
          rw [← htake] at hu
          have := take_drop_getElem? _ _ _ _ _ hu
          rw [Addr.add_lit]
          simpa [World.cell?, hg] using this
        have hr := run_append_grow (P := P) w t ty e i z ht hi hz ⟨g, off, none⟩ n cap xs hown.1 holds a m c news hl hnews (by omega) (by omega) (growslice_fits (by omega) hbytes)
        have hgr := grown cap (by omega)
        exact ⟨_, _, _, hr, hgr.1, .inr rfl, hgr.2⟩

/-- The same as a step of a walk. -/
theorem wpList_append_sl {ops : Array Oper} {rest : List Oper} {o : Oper} {a : Act} {Q : Exit → Act → World → Prop} (hgd : o.guard = none) (sO xO : Operand) (t : TypeId)
    (ho : o.op = .call { callee := .builtin .append, args := #[sO, xO], argTypes := #[t, t] })
    (e : TypeId) (i : TypeInfo) (z : Value) (size bytes : Nat) (ht : P.underlying t = some (.slice e)) (hi : P.info? e = some i) (hz : i.zero = some z)
    (hsize : i.size = size) (hby : i.bytes = bytes) (hzs : z.cells.size = size)
    (v : Value) (n : Nat) (xs : List Value) (own : Option Nat) (hs : a.eval sO = v) (hown : Sl w v e size n xs own)
    (x : Value) (m : Nat) (news : List Value) (hx : a.eval xO = x) (hsrc : Src w x m news) (hl : news.length = m * size) (h1 : ∀ u ∈ news, u.oneCell' = true)
    (h63 : n + m ≤ maxLen) (hbytes : (n + m) * bytes ≤ 140737488355328)
    (h : ∀ v' w' own', Sl w' v' e size (n + m) (xs ++ news) own' → (own' = own ∨ own' = some w.heap.size) → Kept (fun k => own = some k) w w' → wpList P ops Q rest (a.put o.dst v') w') :
    wpList P ops Q (o :: rest) a w := by
  refine wpList_plain hgd fun K hK => ?_
  obtain ⟨v', w', own', hr, h2, h3, h4⟩ := run_append_sl (P := P) w t o.type e i z size bytes ht hi hz hsize hby hzs v n xs own hown x m news hsrc hl h1 h63 hbytes
  unfold Oper.wp execOp
  simp only [ho, resolve, invoke, builtin, Sem.run_bind, Sem.run_pure, Result.andThen_ok, List.map_toArray, List.map_cons, List.map_nil, hs, hx, hr]
  exact hK _ _ (h v' w' own' h2 h3 h4)
end

end Go.Proofs.YtekdkckgmleofaaGreat

/- General words on slices, the fifth: a cell of a slice is written. No statement of the seat; no program in sight. -/
namespace Go.Proofs.YtekdkckgmleofaaGreat
open Go.RowKit
variable {w : World} {e : TypeId} {s n g off cap j : Nat} {xs : List Value} {own : Option Nat}
theorem sl_put (h : Sl w (.slice (some ⟨g, off, none⟩) n cap) e s n xs own) (hj : j < n * s) (u : Value) : Sl (w.setCell ⟨g, off + j, none⟩ u) (.slice (some ⟨g, off, none⟩) n cap) e s n (xs.set j u) own := by
  refine ⟨by rw [List.length_set]; exact h.1, ?_⟩
  rcases h.2 with ⟨hv, _⟩ | ⟨g', off', cap', cur, ho, hv, hb, h1, h2, h3, h4⟩
  · cases hv
  · simp only [Value.slice.injEq, Option.some.injEq, Addr.mk.injEq, and_true, true_and] at hv
    obtain ⟨⟨rfl, rfl⟩, rfl⟩ := hv
    refine .inr ⟨g, off, cap, cur.setIfInBounds (off + j) u, ho, rfl, ?_, h1, h2, by simpa using h3, ?_⟩
    · simp [World.setCell, Array.getElem?_modify, hb]
    · rw [← h4, Array.toList_setIfInBounds]
      apply List.ext_getElem?
      intro i
      rw [List.getElem?_take, List.getElem?_drop, List.getElem?_set, List.getElem?_set, List.getElem?_take, List.getElem?_drop]
      have hlen : off + n * s ≤ cur.toList.length := by
        have : n * s ≤ cap * s := Nat.mul_le_mul_right s h1
        simp
        omega
      by_cases hi : i < n * s
      · simp only [hi, if_true]
        by_cases he : off + j = off + i
        · have e2 : j = i := by omega
          subst e2
          rw [if_pos rfl, if_pos rfl, if_pos (by omega), if_pos (by rw [List.length_take, List.length_drop]; omega)]
        · rw [if_neg he, if_neg (by omega)]
      · simp only [hi, if_false]
        rw [if_neg (by omega)]
theorem sl_at (h : Sl w (.slice (some ⟨g, off, none⟩) n cap) e s n xs own) (hn : 0 < n) : (∀ j u, xs[j]? = some u → w.cell? ⟨g, off + j, none⟩ = some u) ∧ (∀ j, w.frozen? ⟨g, j, none⟩ = false) ∧ own = some g := by
  obtain ⟨g', off', cap', ho, hv, -, -, h1, h2⟩ := h.some hn
  simp only [Value.slice.injEq, Option.some.injEq, Addr.mk.injEq, and_true, true_and] at hv
  obtain ⟨⟨rfl, rfl⟩, rfl⟩ := hv
  exact ⟨h1, h2, ho⟩
end Go.Proofs.YtekdkckgmleofaaGreat
