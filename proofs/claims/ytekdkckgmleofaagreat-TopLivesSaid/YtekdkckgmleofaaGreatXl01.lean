/- Joined texts. -/
import Derived.Test.YtekdkckgmleofaaGreatXs40
import Derived.Test.YtekdkckgmleofaaGreatXs02
import Derived.Test.YtekdkckgmleofaaGreatXs38
import Derived.Test.YtekdkckgmleofaaGreatXs39
import Derived.WideShapes
import Derived.Lib.SmallJoins
set_option linter.unusedVariables false
set_option linter.unusedSimpArgs false
/- General words on slices, the fifth: a cell of a slice is written. No statement of the seat; no program in sight. -/
namespace Go.Proofs.YtekdkckgmleofaaGreat
open Go.RowKit
variable {w : World} {e : TypeId} {s n g off cap j : Nat} {xs : List Value} {own : Option Nat}
theorem sl_put (h : Sl w (.slice (some ⟨g, off, none⟩) n cap) e s n xs own) (hj : j < n * s) (u : Value) : Sl (w.setCell ⟨g, off + j, none⟩ u) (.slice (some ⟨g, off, none⟩) n cap) e s n (xs.set j u) own := by
  refine ⟨by rw [List.length_set]; exact h.1, ?_⟩
  rcases h.2 with ⟨hv, _⟩ | ⟨g', off', cap', cur, ho, hv, hb, h1, h2, h3, h4⟩
  · cases hv
  · simp only [Value.slice.injEq, Option.some.injEq, Addr.mk.injEq, and_true, true_and] at hv
    obtain ⟨⟨rfl, rfl⟩, rfl⟩ := hv
    refine .inr ⟨g, off, cap, cur.setIfInBounds (off + j) u, ho, rfl, ?_, h1, h2, by simpa using h3, ?_⟩
    · simp [World.setCell, Array.getElem?_modify, hb]
    · rw [← h4, Array.toList_setIfInBounds]
      apply List.ext_getElem?
      intro i
      rw [List.getElem?_take, List.getElem?_drop, List.getElem?_set, List.getElem?_set, List.getElem?_take, List.getElem?_drop]
      have hlen : off + n * s ≤ cur.toList.length := by
        have : n * s ≤ cap * s := Nat.mul_le_mul_right s h1
        simp
        omega
      by_cases hi : i < n * s
      · simp only [hi, if_true]
        by_cases he : off + j = off + i
        · have e2 : j = i := by omega
          subst e2
          rw [if_pos rfl, if_pos rfl, if_pos (by omega), if_pos (by rw [List.length_take, List.length_drop]; omega)]
        · rw [if_neg he, if_neg (by omega)]
      · simp only [hi, if_false]
        rw [if_neg (by omega)]
theorem sl_at (h : Sl w (.slice (some ⟨g, off, none⟩) n cap) e s n xs own) (hn : 0 < n) : (∀ j u, xs[j]? = some u → w.cell? ⟨g, off + j, none⟩ = some u) ∧ (∀ j, w.frozen? ⟨g, j, none⟩ = false) ∧ own = some g := by
  obtain ⟨g', off', cap', ho, hv, -, -, h1, h2⟩ := h.some hn
  simp only [Value.slice.injEq, Option.some.injEq, Addr.mk.injEq, and_true, true_and] at hv
  obtain ⟨⟨rfl, rfl⟩, rfl⟩ := hv
  exact ⟨h1, h2, ho⟩
end Go.Proofs.YtekdkckgmleofaaGreat

/- TopLives in plain words: arrivals in order, what a ring keeps of them, how far the shown time is behind. -/
namespace Go.Proofs.YtekdkckgmleofaaGreat
open Go.RowKit
/-- So many arrivals (reading, tick), by rising readings. -/
structure Arr (p far most : Int) (N : Nat) (A : List (Int × Int)) : Prop where
  srt : A.Pairwise (fun a b => a.1 ≤ b.1)
  tk : ∀ a ∈ A, 0 ≤ a.2 ∧ a.2 < N ∧ a.2 * p + far ≤ a.1 ∧ a.1 ≤ a.2 * p + far + most
  dis : A.Pairwise (fun a b => a.2 ≠ b.2)
  all : ∀ k : Nat, k < N → ∃ a ∈ A, a.2 = k
  len : A.length = N
theorem Arr.nil (p far most : Int) : Arr p far most 0 [] := ⟨List.Pairwise.nil, by simp, List.Pairwise.nil, by omega, rfl⟩
theorem mem_put {α : Type} {A : List α} {j : Nat} {a y : α} : y ∈ A.take j ++ a :: A.drop j ↔ y = a ∨ y ∈ A := by
  rw [List.mem_append, List.mem_cons]
  constructor
  · rintro (h | h | h)
    · exact .inr (List.mem_of_mem_take h)
    · exact .inl h
    · exact .inr (List.mem_of_mem_drop h)
  · rintro (h | h)
    · exact .inr (.inl h)
    · rw [← List.take_append_drop j A] at h
      rcases List.mem_append.1 h with h | h
      · exact .inl h
      · exact .inr (.inr h)
theorem Arr.step {p far most : Int} {N : Nat} {A : List (Int × Int)} (h : Arr p far most N A) {a : Int × Int} (ha : a.2 = N) (h1 : a.2 * p + far ≤ a.1) (h2 : a.1 ≤ a.2 * p + far + most) {j : Nat} (hgt : ∀ y ∈ A.drop j, a.1 < y.1) (hle : ∀ y ∈ A.take j, y.1 ≤ a.1) :
    Arr p far most (N + 1) (A.take j ++ a :: A.drop j) := by
  refine ⟨?_, ?_, ?_, ?_, ?_⟩
  · refine List.pairwise_append.2 ⟨h.srt.sublist (List.take_sublist _ _), List.pairwise_cons.2 ⟨fun y hy => Int.le_of_lt (hgt y hy), h.srt.sublist (List.drop_sublist _ _)⟩, ?_⟩
    intro x hx y hy
    have e1 := hle x hx
    rcases List.mem_cons.1 hy with rfl | hy
    · exact e1
    · have := hgt y hy
      omega
  · intro y hy
    rcases mem_put.1 hy with rfl | hy
    · exact ⟨by omega, by omega, h1, h2⟩
    · obtain ⟨e1, e2, e3, e4⟩ := h.tk y hy
      exact ⟨e1, by omega, e3, e4⟩
  · refine List.pairwise_append.2 ⟨h.dis.sublist (List.take_sublist _ _), List.pairwise_cons.2 ⟨fun y hy => ?_, h.dis.sublist (List.drop_sublist _ _)⟩, ?_⟩
    · have := (h.tk y (List.mem_of_mem_drop hy)).2.1
      omega
    · intro x hx y hy
      rcases List.mem_cons.1 hy with rfl | hy
      · have := (h.tk x (List.mem_of_mem_take hx)).2.1
        omega
      · have hd := h.dis
        rw [← List.take_append_drop j A] at hd
        exact (List.pairwise_append.1 hd).2.2 x hx y hy
  · intro k hk
    rcases Nat.lt_or_ge k N with hk | hk
    · obtain ⟨b, hb, e⟩ := h.all k hk
      exact ⟨b, mem_put.2 (.inr hb), e⟩
    · exact ⟨a, mem_put.2 (.inl rfl), by omega⟩
  · have := h.len
    simp
    omega
theorem put_take {A : List (Int × Int)} (hs : A.Pairwise (fun a b => a.1 ≤ b.1)) {j : Nat} {a y : Int × Int} (hy : A[j]? = some y) (hle : y.1 ≤ a.1) : ∀ z ∈ A.take (j + 1), z.1 ≤ a.1 := by
  intro z hz
  obtain ⟨t, ht, hzt⟩ := List.getElem_of_mem hz
  have hl : t < j + 1 ∧ t < A.length := by simp at ht; omega
  have e : A[t]? = some z := by
    rw [List.getElem?_eq_getElem hl.2, ← hzt]
    simp
  have hjl := (List.getElem?_eq_some_iff.1 hy)
  obtain ⟨hj, hyj⟩ := hjl
  rcases Nat.lt_or_ge t j with h | h
  · have := List.pairwise_iff_getElem.1 hs t j hl.2 hj h
    rw [hyj] at this
    have e2 := (List.getElem?_eq_some_iff.1 e).2
    rw [e2] at this
    omega
  · have : t = j := by omega
    subst this
    rw [hy] at e
    cases e
    exact hle
/-- Of two arrivals the earlier one is no further ahead than the scatter lets it. -/
theorem Arr.near {p far most : Int} {N : Nat} {A : List (Int × Int)} (h : Arr p far most N A) {i : Nat} {a b : Int × Int} (ha : A[i]? = some a) (hb : b ∈ A.take i) : (b.2 - a.2) * p ≤ most := by
  obtain ⟨t, ht, hzt⟩ := List.getElem_of_mem hb
  have hl : t < i ∧ t < A.length := by simp at ht; omega
  have e : A[t]? = some b := by
    rw [List.getElem?_eq_getElem hl.2, ← hzt]
    simp
  obtain ⟨hi, hia⟩ := List.getElem?_eq_some_iff.1 ha
  have h1 := List.pairwise_iff_getElem.1 h.srt t i hl.2 hi hl.1
  rw [hia, (List.getElem?_eq_some_iff.1 e).2] at h1
  have h2 := (h.tk a (List.mem_of_getElem? ha)).2.2.2
  have h3 := (h.tk b (List.mem_of_getElem? e)).2.2.1
  rw [Int.sub_mul]
  omega
theorem Arr.fresh {p far most : Int} {N : Nat} {A : List (Int × Int)} (h : Arr p far most N A) {i : Nat} {a b : Int × Int} (ha : A[i]? = some a) (hb : b ∈ A.take i) : b.2 ≠ a.2 := by
  obtain ⟨t, ht, hzt⟩ := List.getElem_of_mem hb
  have hl : t < i ∧ t < A.length := by simp at ht; omega
  have e : A[t]? = some b := by
    rw [List.getElem?_eq_getElem hl.2, ← hzt]
    simp
  obtain ⟨hi, hia⟩ := List.getElem?_eq_some_iff.1 ha
  have h1 := List.pairwise_iff_getElem.1 h.dis t i hl.2 hi hl.1
  rwa [hia, (List.getElem?_eq_some_iff.1 e).2] at h1
/-- The ring has room for the scatter. -/
theorem room_ok {p most x : Int} (hp : 1 ≤ p) (h : x * p ≤ most) : x < (most + 2 * p) / p + 4 := by
  have h1 : (most + 2 * p) / p = most / p + 2 := Int.add_mul_ediv_right most 2 (by omega)
  have h2 : x ≤ most / p := (Int.le_ediv_iff_mul_le (by omega)).2 h
  omega
/-- Numbers that rise. -/
theorem srt_far {α : Type} : ∀ (l : List (Int × α)) (y : Int × α), Srt (y :: l) → l ≠ [] → ∃ z ∈ l, y.1 + l.length ≤ z.1
  | [], _, _, h => absurd rfl h
  | [z], y, h, _ => ⟨z, by simp, by
      have := (List.pairwise_cons.1 h).1 z (by simp)
      simp
      omega⟩
  | z :: u :: l, y, h, _ => by
    have h1 := (List.pairwise_cons.1 h).1 z (by simp)
    obtain ⟨x, hx, e⟩ := srt_far (u :: l) z (List.pairwise_cons.1 h).2 (by simp)
    refine ⟨x, List.mem_cons_of_mem _ hx, ?_⟩
    simp only [List.length_cons] at e ⊢
    omega
theorem may_at {most : Nat} {r : RingM SnapS} {tick time p : Int} (hs : Srt r.l) (hp : 1 ≤ p) (hk : ∀ y ∈ r.l, y.2.time = y.1 * p) (ht : time = tick * p) (hnew : ∀ y ∈ r.l, y.1 ≠ tick) (hf : r.gone = true → r.floor < tick) (hfull : ¬ (r.l.length = most ∧ ∀ y ∈ r.l, tick < y.1)) : May most r tick time := by
  have hn : there r.l tick = false := by
    cases ht : there r.l tick with
    | false => rfl
    | true =>
      obtain ⟨y, hy⟩ := (there_iff _ _ hs).1 ht
      exact absurd rfl (hnew _ hy)
  refine ⟨hn, ?_, ?_⟩
  · unfold staleM RingN.untilM
    rw [hn, Bool.or_eq_false_iff]
    refine ⟨?_, ?_⟩
    · cases hg : r.gone with
      | false => rfl
      | true =>
        have := hf hg
        simp
        omega
    · by_cases hl : r.l.length = most
      · have hpl : plc r.l tick ≠ 0 := by
          intro e
          refine hfull ⟨hl, fun y hy => ?_⟩
          obtain ⟨t, ht, he⟩ := List.getElem_of_mem hy
          have h1 := plc_ge r.l tick t y hs (by omega) (by rw [← he]; exact List.getElem?_eq_getElem ht)
          have h2 := hnew y hy
          omega
        simp [hl, hpl]
      · simp [hl]
  · unfold timelyM RingN.untilM
    rw [hn]
    simp only [Bool.false_eq_true, if_false, Nat.add_zero, Bool.and_eq_true]
    refine ⟨?_, ?_⟩
    · cases ha : atM r.l ((plc r.l tick : Int) - 1) with
      | none => rfl
      | some y =>
        unfold atM at ha
        split at ha
        · cases ha
        · have h1 := plc_lt r.l tick _ y (by omega) ha
          have h2 := hk y (List.mem_of_getElem? ha)
          have h3 : y.1 * p < tick * p := Int.mul_lt_mul_of_pos_right h1 (by omega)
          simp [aheadB]
          omega
    · cases ha : atM r.l (plc r.l tick : Int) with
      | none => rfl
      | some y =>
        unfold atM at ha
        split at ha
        · cases ha
        · have h1 := plc_ge r.l tick _ y hs (by omega) ha
          have h0 := hnew y (List.mem_of_getElem? ha)
          have h2 := hk y (List.mem_of_getElem? ha)
          have h3 : tick * p < y.1 * p := Int.mul_lt_mul_of_pos_right (by omega) (by omega)
          simp [behindB]
          omega
/-- Laying keeps the newest one, and what goes is far behind. -/
theorem lay_new {most : Nat} {r : RingM SnapS} {tick time : Int} (h : May most r tick time) (hs : Srt r.l) (hl : r.l.length ≤ most) (h1 : 1 ≤ most) (sx : SnapS) :
    (∀ y : Int × SnapS, y ∈ r.l ∨ y = (tick, sx) → ∃ z ∈ (layM most r tick sx).1.l, y.1 ≤ z.1) ∧ ((layM most r tick sx).1.gone = true → (r.gone = true ∧ (layM most r tick sx).1.floor = r.floor) ∨ ∃ z ∈ (layM most r tick sx).1.l, (layM most r tick sx).1.floor + most ≤ z.1) := by
  have hin : ∀ y : Int × SnapS, y ∈ r.l ∨ y = (tick, sx) → y ∈ insAt r.l tick sx := by
    intro y hy
    rw [insAt, mem_put]
    exact hy.symm
  have hsi := insAt_srt r.l tick sx hs h.new
  have hil := insAt_len r.l tick sx
  unfold layM
  split
  · rename_i he
    rw [h.new] at he
    cases he
  · split
    · rename_i he
      exfalso
      have h2 := h.fresh
      unfold staleM RingN.untilM at h2
      rw [h.new, Bool.or_eq_false_iff] at h2
      have h3 := h2.2
      rw [Bool.or_eq_true] at he
      rcases he with he | he
      · rw [h2.1] at he
        cases he
      · simp at h3 he
        exact h3 he.2 he.1
    · split
      · exact ⟨fun y hy => ⟨y, hin y hy, Int.le_refl _⟩, fun hg => .inl ⟨hg, rfl⟩⟩
      · rename_i hgt
        split
        · rename_i he
          rw [he] at hil
          simp at hil
        · rename_i y0 t he
          rw [he] at hsi hil
          simp only [List.length_cons] at hil
          obtain ⟨z, hz, hzf⟩ := srt_far t y0 hsi (by intro e; rw [e] at hil; simp only [List.length_nil] at hil; omega)
          refine ⟨fun y hy => ?_, fun _ => .inr ⟨z, hz, ?_⟩⟩
          · have := hin y hy
            rw [he] at this
            rcases List.mem_cons.1 this with rfl | hy
            · exact ⟨z, hz, by omega⟩
            · exact ⟨y, hy, Int.le_refl _⟩
          · show y0.1 + (most : Int) ≤ z.1
            omega
/-- The entity of a tick. -/
abbrev xl (t : Int) : EntM := ⟨1, t, 0, 0, 65536, 0, 0, 0, 0⟩
def RL (p tick time : Int) (x : EntM) : Prop := x = xl tick ∧ time = tick * p ∧ 0 ≤ tick ∧ tick ≤ 1000
theorem RL_one {p : Int} (tick : Int) : ∀ t y, RL p tick t y → t = tick * p := fun t y h => h.2.1
theorem xl_ok {t : Int} (h0 : 0 ≤ t) (h1 : t ≤ 1000) : (xl t).Ok := by
  refine ⟨?_, by simp [xl], by simp [xl], by simp [xl], by simp [xl]⟩
  intro n hn
  simp only [EntM.ns, xl, List.mem_cons, List.not_mem_nil, or_false] at hn
  rcases hn with rfl | rfl | rfl | rfl | rfl | rfl <;> omega
theorem xl_line {s t : Int} (h0 : 0 ≤ s) (h1 : s ≤ t) (h2 : t ≤ 1000) {n : Nat} (hn : n ≤ 1000000) : LineOk (xl s) (xl t) n := by
  have f : ∀ j : Nat, j < 3 → posM (xl t) j - posM (xl s) j < 9223372036854775808 ∧ posM (xl s) j ≤ posM (xl t) j ∧ (posM (xl t) j - posM (xl s) j).toNat ≤ 1000 := by
    intro j hj
    have : j = 0 ∨ j = 1 ∨ j = 2 := by omega
    rcases this with rfl | rfl | rfl <;> simp [posM] <;> omega
  refine ⟨fun j hj => (f j hj).1, fun j hj => (f j hj).2.1, fun j hj => ?_⟩
  have h2 : (posM (xl t) j - posM (xl s) j).toNat * n ≤ 1000 * 1000000 := Nat.mul_le_mul (f j hj).2.2 hn
  omega
theorem liv_ys {c : Cfg} {p : Int} (hp : 1 ≤ p) (hp20 : p ≤ 20) {ys : List (SnapS × EntM)} {l : List (Int × SnapS)} (h : ys.map (fun y => (y.1.tick, y.1.time)) = l.map (fun z => (z.2.tick, z.2.time))) (hs : Srt l) (hk : ∀ z ∈ l, z.1 = z.2.tick) (hR : ∀ y ∈ ys, RL p y.1.tick y.1.time y.2) : Ys c ys := by
  have hr := ticks_rise h hs hk
  have htm : ∀ y ∈ ys, 0 ≤ y.1.time ∧ y.1.time ≤ 20000 := by
    intro y hy
    obtain ⟨_, h1, h2, h3⟩ := hR y hy
    have e1 : 0 ≤ y.1.tick * p := Int.mul_nonneg h2 (by omega)
    have e2 : y.1.tick * p ≤ 1000 * 20 := Int.mul_le_mul h3 hp20 (by omega) (by omega)
    omega
  refine ⟨?_, ?_, ?_, ?_⟩
  · intro y hy
    have := htm y hy
    omega
  · refine List.pairwise_map.2 (List.Pairwise.imp_of_mem ?_ hr)
    intro a b ha hb hab
    have h1 := (hR a ha).2.1
    have h2 := (hR b hb).2.1
    have h3 : a.1.tick * p < b.1.tick * p := Int.mul_lt_mul_of_pos_right hab (by omega)
    omega
  · intro y hy z hz
    rw [(hR y hy).1, (hR z hz).1]
    exact ⟨rfl, rfl, rfl⟩
  · intro _ j y z hy hz n hn
    have hym := List.mem_of_getElem? hy
    have hzm := List.mem_of_getElem? hz
    have hlt : y.1.tick < z.1.tick := by
      obtain ⟨a1, a2⟩ := List.getElem?_eq_some_iff.1 hy
      obtain ⟨b1, b2⟩ := List.getElem?_eq_some_iff.1 hz
      have := List.pairwise_iff_getElem.1 hr j (j + 1) a1 b1 (by omega)
      rwa [a2, b2] at this
    obtain ⟨e1, -, e2, -⟩ := hR y hym
    obtain ⟨e3, -, -, e4⟩ := hR z hzm
    rw [e1, e3]
    have := htm y hym
    have := htm z hzm
    exact xl_line e2 (by omega) e4 (by omega)
/-- What is shown: nothing, or one pose on a line. -/
def LineV (v : Value) (lo : Nat) (w : World) : Prop := v = .slice none 0 0 ∨ ∃ u0 u1 u2 u3 u4 g off cap, v = .slice (some ⟨g, off, none⟩) 1 cap ∧ lo ≤ g ∧ (∀ (i : Nat) u, [Value.int .i64 u0, .int .i64 u1, .int .i64 u2, .int .i64 u3, .int .u16 u4, .int .i64 1][i]? = some u → w.cell? ⟨g, off + i, none⟩ = some u)
theorem liv_poses {c : Cfg} (hcu : c.curved = false) {p : Int} {ys : List (SnapS × EntM)} {l : List (Int × SnapS)} (h : ys.map (fun y => (y.1.tick, y.1.time)) = l.map (fun z => (z.2.tick, z.2.time))) (hs : Srt l) (hk : ∀ z ∈ l, z.1 = z.2.tick) (hp : 1 ≤ p) (hR : ∀ y ∈ ys, RL p y.1.tick y.1.time y.2)
    {at_ : Int} (hat : ∃ z ∈ l, at_ < z.1 * p) {v : Value} {lo : Nat} {w : World} (hv : PosesAt c ys at_ v lo w) : LineV v lo w := by
  have hr := ticks_rise h hs hk
  rcases hv with ⟨_, hv⟩ | ⟨j, y, h3, h4, h5, h6⟩
  · exact .inl hv
  · rcases h6 with ⟨h6, -⟩ | ⟨z, q, h6, hw, g, h8, h9⟩
    · exfalso
      obtain ⟨z, hz, hlt⟩ := hat
      have hzm : (z.2.tick, z.2.time) ∈ ys.map (fun y => (y.1.tick, y.1.time)) := by
        rw [h]
        exact List.mem_map.2 ⟨z, hz, rfl⟩
      obtain ⟨x, hx, e⟩ := List.mem_map.1 hzm
      simp only [Prod.mk.injEq] at e
      have e1 := (hR x hx).2.1
      rw [← hk z hz] at e
      rw [e.1] at e1
      obtain ⟨t, ht, hxt⟩ := List.getElem_of_mem hx
      obtain ⟨a1, a2⟩ := List.getElem?_eq_some_iff.1 h3
      have ey := (hR y (List.mem_of_getElem? h3)).2.1
      rcases Nat.lt_or_ge t j with hlt2 | hge
      · have hp2 := List.pairwise_iff_getElem.1 hr t j ht a1 hlt2
        rw [hxt, a2] at hp2
        have h7 : x.1.tick * p < y.1.tick * p := Int.mul_lt_mul_of_pos_right hp2 (by omega)
        rw [e.1] at h7
        omega
      · have htj : t = j := by omega
        subst htj
        rw [hxt] at a2
        subst a2
        omega
    · obtain ⟨g', off, cap, ho, hv, hcap, -, hc, -⟩ := h8.some (by decide)
      cases ho
      rw [hcu] at hc
      exact .inr ⟨y.2.id, q 0, q 1, q 2, (y.2.ang : Int), g, off, cap, hv, h9, fun i u hu => hc i u hu⟩
/-- So far behind is the time that is wanted. -/
theorem want_le {m : ClkM} {far now base : Int} (hne : m.last ≠ []) (hfar : ∀ d ∈ m.last, far ≤ d) (hd : ∀ d ∈ m.last, d ≤ 100000) (hf : 0 ≤ far) (hb : m.now = base) (h0 : 0 ≤ base) (h1 : base ≤ 1000) (n0 : 0 ≤ now) (n1 : now ≤ 100000) : wantM m now ≤ now - far - base := by
  obtain ⟨h2, -⟩ := least_mem hne
  have h3 := hfar _ h2
  have h4 := hd _ h2
  unfold wantM
  have e1 : satI (now - leastM m) = now - leastM m := satI_in (by unfold I64; omega)
  have e2 : satI (now - leastM m - base) = now - leastM m - base := satI_in (by unfold I64; omega)
  rw [hb, e1, e2]
  omega
theorem frm_at {c : Cfg} {m : ClkM} {loc B : Int} (h1 : m.sl.begun = true → m.sl.at_ ≤ B) (h2 : wantM m loc ≤ B) : (frmM c m loc).sl.at_ ≤ B := by
  unfold frmM toM baseM
  simp only
  cases hb : m.sl.begun with
  | true =>
    have := h1 hb
    simp only [hb, if_true]
    omega
  | false =>
    simp only [hb, Bool.false_eq_true, if_false]
    omega
end Go.Proofs.YtekdkckgmleofaaGreat

/- TopLives: behind so many arrivals. -/
namespace Go.Proofs.YtekdkckgmleofaaGreat
open Go.RowKit
structure LvI (p far base : Int) (c : Cfg) (A : List (Int × Int)) (q n0 : Nat) (own : Option Nat) (i : Nat) (B : Int) (w wr : World) (m : ClkM) (K : Nat) (r : RingM SnapS) : Prop where
  cli : Cli wr q (fun g => n0 ≤ g ∧ own ≠ some g) c m K r (OneE (RL p))
  K : K ≤ i
  keys : ∀ y ∈ r.l, ∃ a ∈ A.take i, a.2 = y.1
  floor : r.gone = true → ∃ a ∈ A.take i, r.floor + c.ring ≤ a.2
  new : ∀ a ∈ A.take i, ∃ y ∈ r.l, a.2 ≤ y.1
  last : 0 < i → m.last ≠ []
  nl : i = 0 → m.last = []
  far : ∀ d ∈ m.last, far ≤ d ∧ d ≤ 100000
  now : m.now = base
  at_ : m.sl.begun = true → m.sl.at_ ≤ B
  kept : Kept (fun g => n0 ≤ g ∧ own ≠ some g) w wr
theorem LvI.more {p far base : Int} {c : Cfg} {A : List (Int × Int)} {q n0 : Nat} {own : Option Nat} {i : Nat} {B B' : Int} {w wr : World} {m : ClkM} {K : Nat} {r : RingM SnapS} (h : LvI p far base c A q n0 own i B w wr m K r) (hB : B ≤ B') : LvI p far base c A q n0 own i B' w wr m K r :=
  { h with at_ := fun e => Int.le_trans (h.at_ e) hB }
theorem LvI.to {p far base : Int} {c : Cfg} {A : List (Int × Int)} {q n0 : Nat} {own : Option Nat} {i : Nat} {B : Int} {w wr w' : World} {m : ClkM} {K : Nat} {r : RingM SnapS} (h : LvI p far base c A q n0 own i B w wr m K r) (k : Kept (fun _ => False) wr w') : LvI p far base c A q n0 own i B w w' m K r :=
  { h with
    cli := h.cli.kept k (fun _ _ h => h)
    kept := h.kept.trans k (fun _ h => h.elim) }
theorem LvI.put {p far base : Int} {c : Cfg} {A : List (Int × Int)} {q n0 : Nat} {own : Option Nat} {i : Nat} {B : Int} {w wr w' : World} {m : ClkM} {K : Nat} {r : RingM SnapS} (h : LvI p far base c A q n0 own i B w wr m K r) (hc : Cli w' q (fun g => n0 ≤ g ∧ own ≠ some g) c m K r (OneE (RL p))) (hk : Kept (fun g => n0 ≤ g ∧ own ≠ some g) wr w') : LvI p far base c A q n0 own i B w w' m K r :=
  { h with
    cli := hc
    kept := h.kept.trans hk (fun g hg => .inl hg) }
structure LivC (p far most base : Int) (c : Cfg) : Prop where
  ok : COk c
  p1 : 1 ≤ p
  p20 : p ≤ 20
  f0 : 0 ≤ far
  f1 : far ≤ 49
  m0 : 0 ≤ most
  m1 : most ≤ 19
  be : base = most + p + 1
  ring : c.ring = (most + 2 * p) / p + 4
  least : c.least = base
  cmost : c.most = base
  cur : c.curved = false
theorem take_add {A : List (Int × Int)} {i : Nat} {a b : Int × Int} (ha : A[i]? = some a) (hb : b ∈ A.take (i + 1)) : b ∈ A.take i ∨ b = a := by
  rw [List.take_add_one, ha] at hb
  rcases List.mem_append.1 hb with h | h
  · exact .inl h
  · simp at h
    exact .inr h
theorem add_take {A : List (Int × Int)} {i : Nat} {a : Int × Int} (ha : A[i]? = some a) : a ∈ A.take (i + 1) ∧ ∀ b ∈ A.take i, b ∈ A.take (i + 1) := by
  rw [List.take_add_one, ha]
  exact ⟨by simp, fun b hb => List.mem_append_left _ hb⟩
theorem LvI.may {p far most base : Int} {c : Cfg} {A : List (Int × Int)} {N q n0 : Nat} {own : Option Nat} {i : Nat} {B : Int} {w wr : World} {m : ClkM} {K : Nat} {r : RingM SnapS} (h : LvI p far base c A q n0 own i B w wr m K r) (hc : LivC p far most base c) (hA : Arr p far most N A) {a : Int × Int} (ha : A[i]? = some a) :
    May c.ring.toNat r a.2 (a.2 * p) := by
  obtain ⟨f1, f2, f3, f4⟩ := h.cli.facts
  have near : ∀ b ∈ A.take i, b.2 - a.2 < c.ring := by
    intro b hb
    rw [hc.ring]
    exact room_ok hc.p1 (hA.near ha hb)
  refine may_at f1 hc.p1 (fun y hy => ?_) rfl (fun y hy => ?_) (fun hg => ?_) ?_
  · obtain ⟨e, x, -, e2, -⟩ := f4 y hy
    rw [e2, e]
  · obtain ⟨b, hb, e⟩ := h.keys y hy
    rw [← e]
    exact hA.fresh ha hb
  · obtain ⟨b, hb, e⟩ := h.floor hg
    have := near b hb
    omega
  · rintro ⟨hl, hall⟩
    have hne : r.l ≠ [] := by
      intro e
      rw [e] at hl
      simp at hl
      omega
    obtain ⟨z, hz, hzf⟩ := srt_far r.l (a.2, (⟨0, 0, none, 0, 0⟩ : SnapS)) (List.pairwise_cons.2 ⟨hall, f1⟩) hne
    obtain ⟨b, hb, e⟩ := h.keys z hz
    have := near b hb
    have h1 : 1 ≤ c.ring := hc.ok.r0
    simp only at hzf
    omega
theorem LvI.step {p far most base : Int} {c : Cfg} {A : List (Int × Int)} {N q n0 : Nat} {own : Option Nat} {i : Nat} {B : Int} {w wr w' : World} {m : ClkM} {K : Nat} {r : RingM SnapS} (h : LvI p far base c A q n0 own i B w wr m K r) (hc : LivC p far most base c) (hA : Arr p far most N A) (hN : N ≤ 60) {a : Int × Int} (ha : A[i]? = some a) {sx : SnapS}
    (hcl : Cli w' q (fun g => n0 ≤ g ∧ own ≠ some g) c (smpM c m a.1 (a.2 * p)) (K + 1) (layM c.ring.toNat r a.2 sx).1 (OneE (RL p))) (hk : Kept (fun g => n0 ≤ g ∧ own ≠ some g) wr w') :
    LvI p far base c A q n0 own (i + 1) B w w' (smpM c m a.1 (a.2 * p)) (K + 1) (layM c.ring.toNat r a.2 sx).1 := by
  have hm := h.may hc hA ha
  obtain ⟨f1, f2, f3, f4⟩ := h.cli.facts
  obtain ⟨n1, n2⟩ := lay_new hm f1 f2 f3 sx
  obtain ⟨t0, t1⟩ := add_take ha
  have hr1 : 1 ≤ c.ring := hc.ok.r0
  obtain ⟨k0, k1, k2, k3⟩ := hA.tk a (List.mem_of_getElem? ha)
  have hkeys : ∀ y ∈ (layM c.ring.toNat r a.2 sx).1.l, ∃ b ∈ A.take (i + 1), b.2 = y.1 := by
    intro y hy
    rcases (lay_may hm sx).2 y hy with hy | rfl
    · obtain ⟨b, hb, e⟩ := h.keys y hy
      exact ⟨b, t1 b hb, e⟩
    · exact ⟨a, t0, rfl⟩
  refine ⟨hcl, by have := h.K; omega, hkeys, fun hg => ?_, fun b hb => ?_, fun _ => addL_ne, fun e => absurd e (by omega), fun d hd => ?_, ?_, h.at_, h.kept.trans hk (fun g hg => .inl hg)⟩
  · rcases n2 hg with ⟨hg, e⟩ | ⟨z, hz, e⟩
    · rw [e]
      obtain ⟨b, hb, e⟩ := h.floor hg
      exact ⟨b, t1 b hb, e⟩
    · obtain ⟨b, hb, e2⟩ := hkeys z hz
      exact ⟨b, hb, by omega⟩
  · rcases take_add ha hb with hb | rfl
    · obtain ⟨y, hy, e⟩ := h.new b hb
      obtain ⟨z, hz, e2⟩ := n1 y (.inl hy)
      exact ⟨z, hz, by omega⟩
    · obtain ⟨z, hz, e2⟩ := n1 (b.2, sx) (.inr rfl)
      exact ⟨z, hz, e2⟩
  · have hp0 : 0 ≤ a.2 * p := Int.mul_nonneg k0 (by have := hc.p1; omega)
    have hp1 : a.2 * p ≤ 60 * 20 := Int.mul_le_mul (by omega) hc.p20 (by have := hc.p1; omega) (by omega)
    have hf0 := hc.f0
    have hf1 := hc.f1
    have hm1 := hc.m1
    have hm0 := hc.m0
    have hd2 : d ∈ addL c m (satI (a.1 - a.2 * p)) := hd
    rw [satI_in (by unfold I64; omega)] at hd2
    unfold addL at hd2
    rcases List.mem_append.1 hd2 with hd2 | hd2
    · split at hd2
      · exact h.far d (List.mem_of_mem_tail hd2)
      · exact h.far d hd2
    · simp only [List.mem_singleton] at hd2
      omega
  · have hb : c.least ≤ m.now ∧ m.now ≤ c.most := by
      rw [hc.least, hc.cmost, h.now]
      exact ⟨Int.le_refl _, Int.le_refl _⟩
    show updM c m.now _ = base
    have := updM_bd (j := stepJ m.jit (satI (satI (a.1 - a.2 * p) - Win64.hd (minsL Win64.lt (addL c m (satI (a.1 - a.2 * p))))))) hc.ok.d hb.1 hb.2
    rw [hc.least, hc.cmost] at this
    omega
/-- A frame. -/
theorem LvI.frame {p far most base : Int} {c : Cfg} {A : List (Int × Int)} {q n0 : Nat} {own : Option Nat} {i : Nat} {now : Int} {w wr w' : World} {m : ClkM} {K : Nat} {r : RingM SnapS} (h : LvI p far base c A q n0 own i (now - far - base) w wr m K r) (hc : LivC p far most base c) (hne : m.last ≠ []) (n0' : 0 ≤ now) (n1 : now ≤ 100000)
    (hcl : Cli w' q (fun g => n0 ≤ g ∧ own ≠ some g) c (frmM c m now) K r (OneE (RL p))) (hk : Kept (fun g => n0 ≤ g ∧ own ≠ some g) wr w') :
    LvI p far base c A q n0 own i (now - far - base) w w' (frmM c m now) K r ∧ (frmM c m now).sl.at_ ≤ now - far - base := by
  have hb := hc.be
  have h1 := hc.p1
  have h2 := hc.p20
  have h3 := hc.m0
  have h4 := hc.m1
  have hw : wantM m now ≤ now - far - base := want_le hne (fun d hd => (h.far d hd).1) (fun d hd => (h.far d hd).2) hc.f0 h.now (by omega) (by omega) n0' n1
  have ha := frm_at (c := c) h.at_ hw
  exact ⟨⟨hcl, h.K, h.keys, h.floor, h.new, h.last, h.nl, h.far, h.now, fun _ => ha, h.kept.trans hk (fun g hg => .inl hg)⟩, ha⟩
/-- The newest snapshot is ahead of what is shown. -/
theorem LvI.ahead {p far most base : Int} {c : Cfg} {A : List (Int × Int)} {N q n0 : Nat} {own : Option Nat} {i : Nat} {B now at_ : Int} {w wr : World} {m : ClkM} {K : Nat} {r : RingM SnapS} (h : LvI p far base c A q n0 own i B w wr m K r) (hc : LivC p far most base c) (hA : Arr p far most N A) (hi : 0 < i)
    (hdone : ∀ a, A[i]? = some a → now < a.1) (hat : at_ ≤ now - far - base) (hnow : now < N * p + far - p) (hiN : i ≤ N) : ∃ z ∈ r.l, at_ < z.1 * p := by
  have hb := hc.be
  have h1 := hc.p1
  have h3 := hc.m0
  have hl := hA.len
  by_cases hneg : now - far - most < 0
  · obtain ⟨a, ha⟩ : ∃ a, A[0]? = some a := ⟨_, List.getElem?_eq_getElem (by omega)⟩
    have hm : a ∈ A.take i := List.mem_of_getElem? (i := 0) (by rw [List.getElem?_take_of_lt hi]; exact ha)
    obtain ⟨z, hz, e⟩ := h.new a hm
    have h0 := (hA.tk a (List.mem_of_getElem? ha)).1
    have : 0 ≤ z.1 * p := Int.mul_nonneg (by omega) (by omega)
    exact ⟨z, hz, by omega⟩
  · have hk0 : 0 ≤ (now - far - most) / p := Int.ediv_nonneg (by omega) (by omega)
    have hk1 : (now - far - most) / p * p ≤ now - far - most := Int.ediv_mul_le _ (by omega)
    have hk2 : now - far - most < (now - far - most) / p * p + p := by
      have := Int.lt_ediv_add_one_mul_self (now - far - most) (show 0 < p by omega)
      rw [Int.add_mul, Int.one_mul] at this
      exact this
    generalize hkk : (now - far - most) / p = kk at *
    have hkN : kk < N := by
      apply Int.lt_of_mul_lt_mul_right (a := p) _ (by omega)
      omega
    obtain ⟨a, ha, e⟩ := hA.all kk.toNat (by omega)
    have ea : a.2 = kk := by omega
    obtain ⟨t, ht, het⟩ := List.getElem_of_mem ha
    have hat2 : A[t]? = some a := by rw [List.getElem?_eq_getElem ht, het]
    have ha1 := (hA.tk a ha).2.2.2
    rw [ea] at ha1
    have hti : t < i := by
      rcases Nat.lt_or_ge t i with h | h
      · exact h
      · exfalso
        obtain ⟨b, hb2⟩ : ∃ b, A[i]? = some b := ⟨_, List.getElem?_eq_getElem (by omega)⟩
        have hlt := hdone b hb2
        rcases Nat.lt_or_ge i t with h2 | h2
        · obtain ⟨b1, b2⟩ := List.getElem?_eq_some_iff.1 hb2
          have := List.pairwise_iff_getElem.1 hA.srt i t b1 ht h2
          rw [b2, het] at this
          omega
        · have : i = t := by omega
          subst this
          rw [hb2] at hat2
          cases hat2
          omega
    have hm : a ∈ A.take i := List.mem_of_getElem? (i := t) (by rw [List.getElem?_take_of_lt hti]; exact hat2)
    obtain ⟨z, hz, e2⟩ := h.new a hm
    have : kk * p ≤ z.1 * p := Int.mul_le_mul_of_nonneg_right (by omega) (by omega)
    exact ⟨z, hz, by omega⟩
end Go.Proofs.YtekdkckgmleofaaGreat

/- Four small numbers that came in, as the statement's row reads them. -/
namespace Go.Proofs.YtekdkckgmleofaaGreat
open Go.RowKit Go.Deep Go.ChangeShapes Go.WideShapes
theorem okWide_arr {P : Program} {w : World} {r : Reach} {base : Nat} {t : TypeId} {v : Value} {n : Nat} {e : TypeId} (ht : P.underlying t = some (.array n e)) (h : Value.okWide P w r base t v) : ∃ cs, v = .agg cs ∧ cs.size = P.cellsOf t := by
  simp only [Value.okWide, ht] at h
  obtain ⟨cs, h1, h2, _⟩ := h
  exact ⟨cs, h1, h2⟩
theorem list4 {α : Type} {l : List α} (h : l.length = 4) : ∃ c0 c1 c2 c3, l = [c0, c1, c2, c3] := by
  match l, h with
  | [c0, c1, c2, c3], _ => exact ⟨c0, c1, c2, c3, rfl⟩
theorem four_of_trod {H : Type} {enc : TypeId × Value → H} {w : World} {base : Nat} {spare : Nat → Bool} {held : Bool} {n : Nat} {cs : List Value} {x : DataW H × List MemPlace} (hl : cs.length = 4) (h : DataW.trod enc Tryz.prog w base spare held n 22 cs = some x) :
    ∃ p q r s : Int, cs = [.int .u8 p, .int .u8 q, .int .u8 r, .int .u8 s] ∧ (0 ≤ p ∧ p ≤ 255) ∧ (0 ≤ q ∧ q ≤ 255) ∧ (0 ≤ r ∧ r ≤ 255) ∧ (0 ≤ s ∧ s ≤ 255) := by
  obtain ⟨c0, c1, c2, c3, rfl⟩ := list4 hl
  obtain ⟨y0, y1, y2, y3, m, -, h0, h1, h2, h3⟩ := trod_array4 Tryz.underlying22 (by kernel_rfl) h
  obtain ⟨p, e0, -, w0⟩ := DataW.trod_int Tryz.underlying5 h0
  obtain ⟨q, e1, -, w1⟩ := DataW.trod_int Tryz.underlying5 h1
  obtain ⟨r, e2, -, w2⟩ := DataW.trod_int Tryz.underlying5 h2
  obtain ⟨s, e3, -, w3⟩ := DataW.trod_int Tryz.underlying5 h3
  simp only [List.cons.injEq, and_true] at e0 e1 e2 e3
  exact ⟨p, q, r, s, by rw [e0, e1, e2, e3], u8_bd w0, u8_bd w1, u8_bd w2, u8_bd w3⟩
end Go.Proofs.YtekdkckgmleofaaGreat
