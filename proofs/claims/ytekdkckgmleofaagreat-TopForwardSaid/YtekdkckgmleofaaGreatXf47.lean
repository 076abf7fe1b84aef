/- slices.SortedFunc of entities by Id, at any length. -/
import Derived.Test.YtekdkckgmleofaaGreatXf26
import Derived.Test.YtekdkckgmleofaaGreatXf33
import Derived.Test.YtekdkckgmleofaaGreatXf08
import Derived.Test.YtekdkckgmleofaaGreatXf44
set_option linter.unusedVariables false
set_option linter.unusedSimpArgs false
namespace Go.Proofs.YtekdkckgmleofaaGreat
open Go.Shelf Go.RowKit Go.Lib Go.Sort Go.MapKept
instance : Inhabited EntM := ⟨⟨0, 0, 0, 0, 0, 0, 0, 0, 0⟩⟩
abbrev cmpE (x y : EntM) : Int := Lib.compareInt x.id y.id
theorem ltE (x y : EntM) : ltOf cmpE x y = decide (x.id < y.id) := by
  unfold ltOf cmpE Lib.compareInt
  by_cases h1 : x.id < y.id
  · simp [h1]
  · by_cases h2 : y.id < x.id <;> simp [h1, h2]
theorem swoE : SWO (ltOf cmpE) where
  irrefl x := by rw [ltE]; simp
  trans x y z h1 h2 := by rw [ltE] at *; simp at *; omega
  ntrans x y z h1 h2 := by rw [ltE] at *; simp at *; omega
set_option maxHeartbeats 1000000 in
theorem cmpE_calls (x y : EntM) (W : World) : Calls Tryz.prog 121 #[entV x, entV y] W fun e w' => e = .returned (.int .i64 (cmpE x y)) ∧ ∃ q os', w' = grow (W.drewN q) os' := by
  have hcon := Lib.hid (fun W' => Tryz.cmp_Compare_int x.id y.id W')
  show Calls _ _ _ _ fun e w' => e = .returned (.int .i64 (Lib.compareInt x.id y.id)) ∧ _
  generalize Lib.compareInt x.id y.id = r at hcon ⊢
  go_enter Tryz.func121, Tryz.ntmps121
  go_wp2_with (go_at_call 87; refine (hcon.out _).mono ?_; rintro e w' ⟨rfl, hw⟩; subst hw)
  go_ret
  exact ⟨rfl, 0, _, by rw [alloc_eq_grow, alloc_eq_grow, grow_grow]; rfl⟩
theorem cmpLaysE (blk off size : Nat) (w : World) : CmpLays Tryz.prog 121 #[] entC 9 cmpE blk off size w :=
  fun _ _ _ _ x y => cmpE_calls x y _
theorem flat_at (d : Array EntM) (j : Nat) (hj : j < d.size * 9) : (cellsL entC d.toList)[j]? = some (flatK entC 9 d)[j]! := by
  have hq : j / 9 < d.size := by omega
  rw [get_flatK _ _ _ _ hj]
  have hx : d.toList[j / 9]? = some d[j / 9]! := by
    rw [getElem!_pos d (j / 9) hq]
    simp [hq]
  have e := cellsL_get entC_len d.toList (j / 9) (j % 9) _ hx (by omega)
  rw [show j / 9 * 9 + j % 9 = j by omega] at e
  rw [e]
  have hl : j % 9 < (entC d[j / 9]!).length := by rw [entC_len]; omega
  rw [getElem!_pos (entC d[j / 9]!) (j % 9) hl, List.getElem?_eq_getElem hl]
theorem sl_holds {w : World} {g off cap : Nat} {e : TypeId} {d : Array EntM} {v : Value} (hd : 0 < d.size) (h : Sl w v e 9 d.size (cellsL entC d.toList) (some g)) (hv : v = .slice (some ⟨g, off, none⟩) d.size cap) : HoldsK entC 9 w g off d := by
  subst hv
  obtain ⟨g', off', cap', ho, hv, -, -, hc, hf⟩ := h.some hd
  cases ho
  simp only [Value.slice.injEq, Option.some.injEq, Addr.mk.injEq, true_and, and_true] at hv
  obtain ⟨rfl, -⟩ := hv
  intro j hj
  rw [size_flatK] at hj
  exact ⟨hc j _ (flat_at d j hj), hf _⟩
theorem sort_sl {w : World} {g off cap : Nat} {e : TypeId} {d d' : Array EntM} (hs : d'.size = d.size) (hd : 0 < d.size) (h : Sl w (.slice (some ⟨g, off, none⟩) d.size cap) e 9 d.size (cellsL entC d.toList) (some g)) (n : Nat) (os : Array Obj) :
    Sl (sortWorldK entC 9 w g off n d' os) (.slice (some ⟨g, off, none⟩) d.size cap) e 9 d.size (cellsL entC d'.toList) (some g) ∧ Kept (fun k => k = g) w (sortWorldK entC 9 w g off n d' os) := by
  rcases h.2 with ⟨hv, -, -⟩ | ⟨g', off', cap', cur, ho, hv, hb, h1, h2, h3, h4⟩
  · cases hv
  cases ho
  simp only [Value.slice.injEq, Option.some.injEq, Addr.mk.injEq, true_and, and_true] at hv
  obtain ⟨rfl, rfl⟩ := hv
  have hgl : g < w.heap.size := (Array.getElem?_eq_some_iff.1 hb).1
  have hblk : (sortWorldK entC 9 w g off n d' os).heap[g]? = some (.cells (putCells id off (flatK entC 9 d') cur) e (0, 0)) := by
    show (((Sort.ahead w n).heap.modify g _) ++ os)[g]? = _
    rw [Array.getElem?_append_left (by simpa using hgl)]
    show (w.heap.modify g _)[g]? = _
    rw [Array.getElem?_modify, if_pos rfl, hb]
    rfl
  refine ⟨⟨by rw [cellsL_len entC_len]; simp [hs], .inr ⟨g, off, cap, _, rfl, rfl, hblk, h1, h2, by simpa [putCells] using h3, ?_⟩⟩, rfl, rfl, rfl, ?_, ?_⟩
  · have hcap : d.size * 9 ≤ cap * 9 := Nat.mul_le_mul_right 9 h1
    apply List.ext_getElem?
    intro j
    rw [List.getElem?_take]
    by_cases hj : j < d.size * 9
    · rw [if_pos hj, List.getElem?_drop, flat_at d' j (by rw [hs]; exact hj)]
      unfold putCells
      have hc : off + j < cur.size := by omega
      simp only [Array.getElem?_toList, Array.getElem?_mapIdx, Array.getElem?_eq_getElem hc, Option.map_some]
      rw [if_pos ⟨by omega, by rw [size_flatK, hs]; omega⟩, show off + j - off = j by omega]
      rfl
    · rw [if_neg hj, List.getElem?_eq_none (by rw [cellsL_len entC_len]; simp [hs]; omega)]
  · show w.heap.size ≤ (((Sort.ahead w n).heap.modify g _) ++ os).size
    simp [Sort.ahead]
  · intro k hk hn
    show (((Sort.ahead w n).heap.modify g _) ++ os)[k]? = _
    rw [Array.getElem?_append_left (by simpa [Sort.ahead] using hk)]
    show (w.heap.modify g _)[k]? = _
    rw [Array.getElem?_modify, if_neg (fun e => hn e.symm)]
theorem ins0 (v fn : Value) (w : World) :
    Calls Tryz.prog 198 #[v, .int .i64 0, .int .i64 0, fn] w fun e w' => e = .returned (.tuple #[]) ∧ w = w' := by
  go_enter Tryz.func198, Tryz.ntmps198
  go_wp2
  go_loopw [8] (fun i wr => i = .int .i64 1 ∧ wr = w) (fun _ _ => 0)
  case atStart => exact ⟨rfl, rfl⟩
  case round =>
    obtain ⟨rfl, rfl⟩ := hrel
    go_wp2
    go_end0
    exact ⟨rfl, rfl⟩
set_option maxRecDepth 100000 in
theorem pdq0 (v fn : Value) (lim : Int) (w : World) :
    Calls Tryz.prog 187 #[v, .int .i64 0, .int .i64 0, .int .i64 lim, fn] w fun e w' => e = .returned (.tuple #[]) ∧ w = w' := by
  have HI := Lib.hid (ins0 v fn w)
  go_enter Tryz.func187, Tryz.ntmps187
  go_wp2_with fail
  go_loopw [1, 2] (fun b c wr => b = .int .i64 0 ∧ c = .int .i64 0 ∧ wr = w) (fun _ _ _ => 0)
  case atStart => exact ⟨rfl, rfl, rfl⟩
  case round =>
    obtain ⟨rfl, rfl, rfl⟩ := hrel
    go_wp2_with fail
    refine (HI.out).mono ?_
    rintro e w' ⟨rfl, rfl⟩
    go_wp2_with fail
    refine bodyPost_ret (results_none rfl _ _ _) rfl ?_
    exact ⟨rfl, rfl⟩
theorem sort0 (a : Option Addr) (cap : Nat) (fn : Value) (w : World) :
    Calls Tryz.prog 155 #[.slice a 0 cap, fn] w fun e w' => e = .returned (.tuple #[]) ∧ w = w' := by
  have HI := Lib.hid (fun lim W => pdq0 (.slice a 0 cap) fn lim W)
  have HB := Lib.hid (fun W => Tryz.bits_Len 0 W (by omega) (by omega))
  go_enter Tryz.func155, Tryz.ntmps155
  go_wp2_with fail
  refine (HB.out _).mono ?_
  rintro e w' ⟨rfl, hw⟩
  subst hw
  go_wp2_with fail
  refine (HI.out _ _).mono ?_
  rintro e w' ⟨rfl, rfl⟩
  go_wp2_with fail
  go_end0
  exact ⟨rfl, rfl⟩
def SortPostK (v : Value) (xs : List EntM) (own : Option Nat) (w : World) (e : Ending) (w' : World) : Prop :=
  ∃ ys, e = .returned (.tuple #[]) ∧ ys.Perm xs ∧ ys.Pairwise (fun a b => a.id ≤ b.id) ∧ Sl w' v 39 9 ys.length (cellsL entC ys) own ∧ Kept (fun k => own = some k) w w'
theorem sortK (v : Value) (xs : List EntM) (own : Option Nat) (w : World) (h : Sl w v 39 9 xs.length (cellsL entC xs) own) (hl : xs.length ≤ 64) :
    Calls Tryz.prog 155 #[v, .func (.func 121) #[] #[]] w (SortPostK v xs own w) := by
  rcases Nat.eq_zero_or_pos xs.length with h0 | h0
  · obtain rfl : xs = [] := List.eq_nil_of_length_eq_zero h0
    obtain ⟨a, cap, rfl, -, -⟩ := h.form
    refine (sort0 a cap _ w).mono ?_
    rintro e w' ⟨rfl, rfl⟩
    exact ⟨[], rfl, List.Perm.refl _, by simp, h, Kept.refl _ _⟩
  · obtain ⟨g, off, cap, rfl, rfl, -, -, -, -⟩ := h.some h0
    have hgl := h.lt rfl
    have hh : HoldsK entC 9 w g off xs.toArray := sl_holds (d := xs.toArray) (cap := cap) (by simpa using h0) (by simpa using h) (by simp)
    have := AnyQ.slices_SortFunc Tryz.sortEnt 9 (by intro w; kernel_rfl) (by intro w; kernel_rfl) entC entC_len (fun x v hv => ent_one [x] v (by simpa [cellsL] using hv)) cmpE swoE 121 #[] g off cap xs.toArray w (fun args w => by kernel_rfl) (cmpLaysE _ _ _ _) hh hgl (by simp; omega)
    refine this.mono ?_
    rintro e w' ⟨rfl, d', n, os, ⟨hs, -, hp⟩, hso, rfl⟩
    have hsz : d'.size = xs.length := by simpa using hs
    have hS := sort_sl (d := xs.toArray) (d' := d') (off := off) (cap := cap) (by simpa using hsz) (by simpa using h0) (by simpa using h) n os
    have hlen : d'.toList.length = xs.length := by simpa using hsz
    refine ⟨d'.toList, rfl, ?_, ?_, ?_, hS.2.mono (fun k _ e => by rw [e])⟩
    · have e1 : (d'.extract 0 xs.toArray.size) = d' := by rw [← hs]; simp
      rw [e1] at hp
      simpa using hp
    · rw [List.pairwise_iff_getElem]
      intro i j hi hj hij
      have := hso i j (Nat.zero_le _) hij (by simp at hj ⊢; omega)
      rw [ltE] at this
      rw [getElem!_pos d' i (by simpa using hi), getElem!_pos d' j (by simpa using hj)] at this
      simp at this
      simpa using this
    · rw [hlen]
      simpa using hS.1
def SortedAny (xs : List EntM) (w : World) (e : Ending) (w' : World) : Prop :=
  ∃ v ys, e = .returned v ∧ ys.Perm xs ∧ ys.Pairwise (fun a b => a.id ≤ b.id) ∧ EntsAt w' v ys (fun g => w.heap.size ≤ g) ∧ Kept (fun _ => False) w w'
theorem owns_any {w : World} {base : Nat} {e : TypeId} {s : Nat} {v : Value} {n : Nat} {xs : List Value} (h : w.ownsRow base e s v n xs) : ∃ o, Sl w v e s n xs o ∧ ∀ g, o = some g → base ≤ g := by
  rcases Nat.eq_zero_or_pos n with h0 | h0
  · rcases h.2 with ⟨hv, hn⟩ | ⟨g, cap, cur, rfl, hb, hg, h1, h2, h3, h4⟩
    · exact ⟨none, ⟨h.1, .inl ⟨hv, hn, rfl⟩⟩, fun g e => by cases e⟩
    · exact ⟨some g, ⟨h.1, .inr ⟨g, 0, cap, cur, rfl, rfl, hg, h1, h2, by omega, by rw [List.drop_zero]; exact h4⟩⟩, fun g' e => by cases e; exact hb⟩
  · obtain ⟨g, h1, h2⟩ := owns_sl h h0
    exact ⟨some g, h1, fun g' e => by cases e; exact h2⟩
theorem sorted_any (xs : List EntM) (Bm b : Nat) (w : World) (hBm : Bm < w.heap.size) (hm : w.cell? ⟨Bm, 0, none⟩ = some (.map (some b))) (hb : MapE w b xs) (hl : xs.length ≤ 64) :
    Calls Tryz.prog 119 #[seqV Bm, .func (.func 121) #[] #[]] w (SortedAny xs w) := by
  have HC := Lib.hid (collect_calls Bm b xs w hBm hm hb (by omega))
  clear hBm hm hb
  go_enter Tryz.func119, Tryz.ntmps119
  go_wp2_with fail
  refine (HC.out).mono ?_
  rintro e w1 ⟨v, ss, rfl, hP, hO, hB⟩
  obtain ⟨o, hS, ho⟩ := owns_any hO
  have HS := Lib.hid (sortK v ss o w1 hS (by rw [hP.length_eq]; exact hl))
  obtain ⟨a, cap, rfl, -, -⟩ := hS.form
  have HP := Lib.hid hP
  have HO := Lib.hid ho
  have HB := Lib.hid hB
  clear hP hO hB hS ho
  go_wp2_with fail
  refine (HS.out).mono ?_
  rintro e w2 ⟨ys, rfl, hp, hs, hS2, hk⟩
  have HP2 := Lib.hid (And.intro hp hs)
  have HS2 := Lib.hid hS2
  have HK := Lib.hid hk
  clear hp hs hS2 hk
  go_wp2_with fail
  go_ret
  exact ⟨_, ys, rfl, HP2.out.1.trans HP.out, HP2.out.2, ⟨o, HS2.out, HO.out⟩, ((Kept.of_below HB.out).mono (fun k hk h => by omega)).trans HK.out (fun k hk => .inr (HO.out k hk))⟩
end Go.Proofs.YtekdkckgmleofaaGreat
