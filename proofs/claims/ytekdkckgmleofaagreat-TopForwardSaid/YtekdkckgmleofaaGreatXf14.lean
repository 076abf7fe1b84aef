/- Joined texts. -/
import Derived.Test.YtekdkckgmleofaaGreatXf13
import Derived.Test.YtekdkckgmleofaaGreatXf03
import Derived.Test.YtekdkckgmleofaaGreatXf02
import Derived.Test.YtekdkckgmleofaaGreatRows
import Derived.Lib.Overlaps
import Derived.Laws.Externs
import Derived.Deep.QuietTactic
import Derived.BigQuiet
import Derived.Outline
set_option linter.unusedVariables false
set_option linter.unusedSimpArgs false
/- Contracts at things of afterimage/api.Snap: the search for a number, slices.Insert of one thing, slices.Delete of the first one. -/
namespace Go.Proofs.YtekdkckgmleofaaGreat.RingN
open Go.RowKit

/-- The two cells of a thing at a number. -/
def enc (y : Int × SnapS) : List Value := [.int .i64 y.1, .int .i64 y.2.tick, .int .i64 y.2.time, .slice y.2.a y.2.len y.2.cap]
theorem enc_len (y : Int × SnapS) : (enc y).length = 4 := rfl
theorem enc_one (l : List (Int × SnapS)) : ∀ u ∈ cellsL enc l, u.oneCell' = true := by
  intro u hu
  obtain ⟨y, _, hy⟩ := List.mem_flatMap.1 hu
  simp only [enc, List.mem_cons, List.not_mem_nil, or_false] at hy
  rcases hy with rfl | rfl | rfl | rfl <;> rfl

theorem infoE : (Tryz.prog.info? 168).map (fun i => (i.zero, i.size, i.bytes)) = some (some (.agg #[.int .i64 0, .int .i64 0, .int .i64 0, .slice none 0 0]), 4, 48) := by kernel_rfl

/-- -1, 0, 1. -/
def cmpI (a b : Int) : Int := if a < b then -1 else if b < a then 1 else 0

theorem cmp_calls (k key : Int) (x : SnapS) (w : World) :
    Calls Tryz.prog 123 #[.agg #[.int .i64 k, .int .i64 x.tick, .int .i64 x.time, .slice x.a x.len x.cap], .int .i64 key] w fun e w' => e = .returned (.int .i64 (cmpI k key)) ∧ Kept (fun _ => False) w w' := by
  unfold cmpI
  by_cases h1 : k < key
  · rw [if_pos h1]
    go_enter Tryz.func123, Tryz.ntmps123
    go_wp2
    go_ret
    exact ⟨rfl, (Kept.refl _ _).alloc _⟩
  · rw [if_neg h1]
    by_cases h2 : key < k
    · rw [if_pos h2]
      go_enter Tryz.func123, Tryz.ntmps123
      go_wp2
      go_ret
      exact ⟨rfl, (Kept.refl _ _).alloc _⟩
    · rw [if_neg h2]
      go_enter Tryz.func123, Tryz.ntmps123
      go_wp2
      go_ret
      exact ⟨rfl, (Kept.refl _ _).alloc _⟩

theorem cells_at {w : World} {g off : Nat} {l : List (Int × SnapS)} (h : ∀ j u, (cellsL enc l)[j]? = some u → w.cell? ⟨g, off + j, none⟩ = some u) {t : Nat} {y : Int × SnapS} (hy : l[t]? = some y) :
    w.cell? ⟨g, off + t * 4, none⟩ = some (.int .i64 y.1) ∧ w.cell? ⟨g, off + t * 4 + 1, none⟩ = some (.int .i64 y.2.tick) ∧ w.cell? ⟨g, off + t * 4 + 2, none⟩ = some (.int .i64 y.2.time) ∧ w.cell? ⟨g, off + t * 4 + 3, none⟩ = some (.slice y.2.a y.2.len y.2.cap) := by
  have h0 := cellsL_get enc_len l t 0 y hy (by omega)
  have h1 := cellsL_get enc_len l t 1 y hy (by omega)
  have h2 := cellsL_get enc_len l t 2 y hy (by omega)
  have h3 := cellsL_get enc_len l t 3 y hy (by omega)
  exact ⟨h _ _ h0, h _ _ h1, h _ _ h2, h _ _ h3⟩

def Brk (l : List (Int × SnapS)) (key : Int) (i j : Nat) : Prop := (∀ t y, t < i → l[t]? = some y → y.1 < key) ∧ (∀ t y, j ≤ t → l[t]? = some y → key ≤ y.1)
theorem Brk.start (l : List (Int × SnapS)) (key : Int) : Brk l key 0 l.length := ⟨fun t y h => by omega, fun t y h hy => by rw [List.getElem?_eq_none h] at hy; cases hy⟩
theorem Brk.up {l : List (Int × SnapS)} {key : Int} {i j mid : Nat} {y : Int × SnapS} (h : Brk l key i j) (hs : Srt l) (hy : l[mid]? = some y) (hlt : y.1 < key) : Brk l key (mid + 1) j := by
  refine ⟨fun t z ht hz => ?_, h.2⟩
  rcases Nat.lt_succ_iff_lt_or_eq.1 ht with h1 | h1
  · obtain ⟨a, ha⟩ := List.getElem?_eq_some_iff.1 hz
    obtain ⟨b, hb⟩ := List.getElem?_eq_some_iff.1 hy
    have := List.pairwise_iff_getElem.1 hs t mid a b h1
    rw [ha, hb] at this
    omega
  · subst h1; rw [hy] at hz; cases hz; exact hlt
theorem Brk.down {l : List (Int × SnapS)} {key : Int} {i j mid : Nat} {y : Int × SnapS} (h : Brk l key i j) (hs : Srt l) (hy : l[mid]? = some y) (hge : key ≤ y.1) : Brk l key i mid := by
  refine ⟨h.1, fun t z ht hz => ?_⟩
  rcases Nat.eq_or_lt_of_le ht with h1 | h1
  · subst h1; rw [hy] at hz; cases hz; exact hge
  · obtain ⟨a, ha⟩ := List.getElem?_eq_some_iff.1 hz
    obtain ⟨b, hb⟩ := List.getElem?_eq_some_iff.1 hy
    have := List.pairwise_iff_getElem.1 hs mid t b a h1
    rw [ha, hb] at this
    omega

theorem fin_search {l : List (Int × SnapS)} {key : Int} {i : Nat} {b : Bool} (hp : i = plc l key) (ht : there l key = b) : Ending.returned (.tuple #[.int .i64 i, .bool b]) = .returned (.tuple #[.int .i64 (plc l key), .bool (there l key)]) := by
  rw [← hp, ht]

set_option maxHeartbeats 2000000 in
theorem search_calls (w : World) (v : Value) (l : List (Int × SnapS)) (own : Option Nat) (key : Int) (h : Sl w v 168 4 l.length (cellsL enc l) own) (hs : Srt l) (hl : l.length ≤ 1000) :
    Calls Tryz.prog 122 #[v, .int .i64 key, .func (.func 123) #[] #[]] w
      fun e w' => e = .returned (.tuple #[.int .i64 (plc l key), .bool (there l key)]) ∧ Kept (fun _ => False) w w' := by
  obtain ⟨a, cap, rfl, hc, hm⟩ := h.form
  unfold maxLen at hm
  have H := Lib.hid h
  have HS := Lib.hid hs
  clear h hs
  go_enter Tryz.func122, Tryz.ntmps122
  go_wp2_with fail
  go_loopw [9, 10] (fun u v wr => ∃ i j : Nat, i ≤ j ∧ j ≤ l.length ∧ u = .int .i64 i ∧ v = .int .i64 j ∧ Brk l key i j ∧ Kept (fun _ => False) w wr) (fun u v _ => (intOf v - intOf u).toNat)
  case atStart => exact ⟨0, l.length, Nat.zero_le _, Nat.le_refl _, rfl, rfl, Brk.start l key, Kept.refl _ _⟩
  case round =>
    obtain ⟨i, j, hij, hj, rfl, rfl, hbr, hk⟩ := hrel
    have HB := Lib.hid hbr
    have HK := Lib.hid hk
    clear hbr hk
    by_cases hlt : i < j
    · have hmid : (i + j) / 2 < l.length := by omega
      obtain ⟨g, off, cap', ho, hv, -, -, hcell, -⟩ := (H.out.kept HK.out (fun _ _ h => h)).some (by omega)
      cases hv
      have hy : l[(i + j) / 2]? = some l[(i + j) / 2] := List.getElem?_eq_getElem hmid
      obtain ⟨c0, c1, c2, c3⟩ := cells_at hcell hy
      have HY := Lib.hid hy
      clear hcell hy
      have hm1 : i ≤ (i + j) / 2 := by omega
      have hm2 : (i + j) / 2 < j := by omega
      have em : ((i : Int) + (j : Int)) / 2 = ((i + j) / 2 : Nat) := by omega
      generalize hy0 : l[(i + j) / 2] = y at *
      have HY0 := Lib.hid hy0
      clear hy0
      generalize (i + j) / 2 = mid at *
      have HC := Lib.hid (fun W => cmp_calls y.1 key y.2 W)
      have HU := Lib.hid (fun h : y.1 < key => HB.out.up HS.out HY.out h)
      have HD := Lib.hid (fun h : key ≤ y.1 => HB.out.down HS.out HY.out h)
      obtain ⟨k0, x0⟩ := y
      simp only at c0 c1 c2 c3
      have HE := Lib.hid (enters Tryz.func123 (by kernel_rfl) (by kernel_rfl))
      go_wp2_with fail
      refine (HC.out _).mono ?_
      rintro e w2 ⟨rfl, hk2⟩
      have HK2 := Lib.hid (HK.out.trans hk2 (fun _ h => .inl h))
      clear hk2
      unfold cmpI
      by_cases hlo : k0 < key
      · rw [if_pos hlo]
        go_wp2_with fail
        exact ⟨⟨mid + 1, j, by omega, by omega, by go_num, rfl, HU.out hlo, HK2.out⟩, by simp [intOf]; omega⟩
      · rw [if_neg hlo]
        by_cases hhi : key < k0
        · rw [if_pos hhi]
          go_wp2_with fail
          exact ⟨⟨i, mid, by omega, by omega, rfl, rfl, HD.out (by omega), HK2.out⟩, by simp [intOf]; omega⟩
        · rw [if_neg hhi]
          go_wp2_with fail
          exact ⟨⟨i, mid, by omega, by omega, rfl, rfl, HD.out (by omega), HK2.out⟩, by simp [intOf]; omega⟩
    · obtain rfl : i = j := by omega
      have hpl : i = plc l key := plc_uniq l key i HS.out hj HB.out.1 HB.out.2
      have HP := Lib.hid hpl
      clear hpl
      by_cases hin : i < l.length
      · obtain ⟨g, off, cap', ho, hv, -, -, hcell, -⟩ := (H.out.kept HK.out (fun _ _ h => h)).some (by omega)
        cases hv
        have hy : l[i]? = some l[i] := List.getElem?_eq_getElem hin
        obtain ⟨c0, c1, c2, c3⟩ := cells_at hcell hy
        have HT : Hid (there l key = decide (l[i].1 = key)) := Lib.hid (by unfold there; rw [← HP.out, hy])
        clear hcell hy
        generalize l[i] = y at *
        have HC := Lib.hid (fun W => cmp_calls y.1 key y.2 W)
        obtain ⟨k0, x0⟩ := y
        simp only at c0 c1 c2 c3
        go_wp2_with fail
        refine (HC.out _).mono ?_
        rintro e w2 ⟨rfl, hk2⟩
        have HK2 := Lib.hid (HK.out.trans hk2 (fun _ h => .inl h))
        clear hk2
        unfold cmpI
        by_cases hlo : k0 < key
        · have hne := Lib.hid (show decide (k0 = key) = false by simp; omega)
          rw [if_pos hlo]
          go_wp2_with fail
          go_ret2
          exact ⟨fin_search HP.out (HT.out.trans hne.out), HK2.out⟩
        · rw [if_neg hlo]
          by_cases hhi : key < k0
          · have hne := Lib.hid (show decide (k0 = key) = false by simp; omega)
            rw [if_pos hhi]
            go_wp2_with fail
            go_ret2
            exact ⟨fin_search HP.out (HT.out.trans hne.out), HK2.out⟩
          · have hne := Lib.hid (show decide (k0 = key) = true by simp; omega)
            rw [if_neg hhi]
            go_wp2_with fail
            go_ret2
            exact ⟨fin_search HP.out (HT.out.trans hne.out), HK2.out⟩
      · have HT : Hid (there l key = false) := Lib.hid (by unfold there; rw [← HP.out, List.getElem?_eq_none (by omega)])
        go_wp2_with fail
        go_ret2
        exact ⟨fin_search HP.out HT.out, HK.out⟩

end Go.Proofs.YtekdkckgmleofaaGreat.RingN

/- slices.Delete of the first thing at afterimage/api.Snap. -/
namespace Go.Proofs.YtekdkckgmleofaaGreat.RingN
open Go.RowKit

def DelPost (w : World) (l : List (Int × SnapS)) (own : Option Nat) (e : Ending) (w' : World) : Prop :=
  ∃ v', e = .returned v' ∧ Sl w' v' 168 4 l.length (cellsL enc l) own ∧ Kept (fun k => own = some k) w w'

theorem take_appD {α : Type} {a b : List α} {n : Nat} (h : a.length = n) : (a ++ b).take n = a := by subst h; simp

theorem del_cells (l : List (Int × SnapS)) (y : Int × SnapS) (Z R : List Value) :
    ((((cellsL enc (y :: l)).take (0 * 4) ++ cellsL enc l ++ (cellsL enc (y :: l)).drop ((0 + l.length) * 4)).take (l.length * 4) ++ Z ++ R).take (l.length * 4)) = cellsL enc l := by
  have h := cellsL_len enc_len l
  rw [Nat.zero_mul, List.take_zero, List.nil_append, take_appD h, List.append_assoc, take_appD h]


set_option maxHeartbeats 2000000 in
set_option maxRecDepth 100000 in
theorem delete_one (w : World) (own : Option Nat) (y : Int × SnapS) (g off : Nat) (ho : own = some g) (h : Sl w (.slice (some ⟨g, off, none⟩) 1 1) 168 4 1 (cellsL enc [y]) own) :
    Calls Tryz.prog 76 #[.slice (some ⟨g, off, none⟩) 1 1, .int .i64 0, .int .i64 1] w (DelPost w [] own) := by
  obtain ⟨i0, hi, hz0, hz1, hz2⟩ := info_parts infoE
  have HI := Lib.hid hi
  have HZ0 := Lib.hid hz0
  have HZ1 := Lib.hid hz1
  clear hi hz0 hz1 hz2
  have H := Lib.hid h
  clear h
  subst ho
  have HZC : Hid (∀ u ∈ (Value.agg #[.int .i64 0, .int .i64 0, .int .i64 0, .slice none 0 0]).cells, u.oneCell' = true) := Lib.hid (fun u hu => enc_one [(0, zS)] u (by simpa [cellsL, enc, Value.cells] using hu))
  have HSQ : Hid (Src w (.slice (some ⟨g, off, none⟩) 0 0) 0 []) := Lib.hid (.inr ⟨_, 0, rfl, fun j u hu => by simp at hu⟩)
  go_enter Tryz.func76, Tryz.ntmps76
  go_wp2_with fail
  refine region_mix (fun w' => ∃ n, w' = w.drewN n) [] [0, 1, 2, 3, 4, 5] [6, 7] (by kernel_rfl) (by kernel_rfl) (fun _ _ d _ _ h => by cases d <;> exact h) ⟨1, rfl⟩ ?_
  simp only [pick, List.filterMap_cons, List.filterMap_nil, List.getElem?_toArray, List.getElem?_cons_zero, List.getElem?_cons_succ, floatPut, Act.put, Act.eval, List.setIfInBounds_toArray, List.set_cons_zero, List.set_cons_succ, Array.getD_eq_getD_getElem?, Option.getD_some]
  repeat (change wpQuiet _ _ _ _ (List.cons _ _) _; go_big_quiet_step (fail))
  refine wpQuiet_nil ?_
  rintro _ ⟨nr, rfl⟩
  have HW := Lib.hid (H.out.drewN nr)
  have HSw : Hid (Src (w.drewN nr) (.slice (some ⟨g, off, none⟩) 0 0) 0 []) := Lib.hid HSQ.out
  refine wpList_append_in _ rfl _ _ 157 rfl 168 i0 4 Tryz.underlying157 HI.out HZ1.out _ 1 0 _ _ _ (by exact rfl) HW.out (by omega) (.slice (some ⟨g, off, none⟩) 0 0) 0 [] (by exact rfl) HSw.out rfl (by simp) (by omega) ?_
  intro w2 hS2 hK2
  have SB := Lib.hid hS2
  have KB := Lib.hid hK2
  clear hS2 hK2
  go_wp2_with (refine wpList_clear_sl _ rfl _ 157 rfl 168 i0 (.agg #[.int .i64 0, .int .i64 0, .int .i64 0, .slice none 0 0]) Tryz.underlying157 HI.out HZ0.out 4 HZ1.out rfl HZC.out (some ⟨g, off, none⟩) 1 1 (by exact rfl) _ 1 _ _ _ SB.out 0 (by omega) (by omega) ⟨g, off, rfl, by simp⟩ ?_; intro w3 hS3 hK3; have SD := Lib.hid hS3; have KD := Lib.hid hK3; clear hS3 hK3)
  all_goals
    go_ret
    refine ⟨_, rfl, ?_, ((((Kept.refl _ w).drewN nr).trans KB.out (fun _ h => .inl h)).trans KD.out (fun _ h => .inl h))⟩
    have := SD.out.take (k := 0) (by omega)
    simpa [cellsL] using this

set_option maxHeartbeats 2000000 in
set_option maxRecDepth 100000 in
theorem delete_calls (w : World) (v0 : Value) (l : List (Int × SnapS)) (own : Option Nat) (y : Int × SnapS) (h : Sl w v0 168 4 (l.length + 1) (cellsL enc (y :: l)) own) (hl : l.length ≤ 200) :
    Calls Tryz.prog 76 #[v0, .int .i64 0, .int .i64 1] w (DelPost w l own) := by
  obtain ⟨i0, hi, hz0, hz1, hz2⟩ := info_parts infoE
  have HI := Lib.hid hi
  have HZ0 := Lib.hid hz0
  have HZ1 := Lib.hid hz1
  clear hi hz0 hz1 hz2
  have H := Lib.hid h
  obtain ⟨g, off, cap, ho, rfl, hc, hm, -, -⟩ := H.out.some (by omega)
  clear h
  subst ho
  unfold maxLen at hm
  have HZC : Hid (∀ u ∈ (Value.agg #[.int .i64 0, .int .i64 0, .int .i64 0, .slice none 0 0]).cells, u.oneCell' = true) := Lib.hid (fun u hu => enc_one [(0, zS)] u (by simpa [cellsL, enc, Value.cells] using hu))
  have n1 : ¬ cap = l.length := by omega
  by_cases n2 : cap = 1
  · have e0 : l = [] := List.eq_nil_of_length_eq_zero (by omega)
    subst e0
    subst n2
    exact delete_one w (some g) y g off rfl H.out
  · have N2 := Lib.hid n2
    have HSR := Lib.hid (H.out.drop (k := 1) (by omega)).src
    have H1C : Hid (∀ u ∈ cellsL enc l, u.oneCell' = true) := Lib.hid (enc_one l)
    have HLL : Hid ((cellsL enc l).length = l.length * 4) := Lib.hid (cellsL_len enc_len l)
    have HSQ : Hid (Src w (.slice (some ⟨g, off + 1 * 4, none⟩) l.length (cap - 1)) l.length (cellsL enc l)) := Lib.hid (by
      have := HSR.out
      rw [if_neg N2.out, Option.map_some, Addr.add_lit] at this
      rw [show (cellsL enc (y :: l)).drop (1 * 4) = cellsL enc l by rw [cellsL_drop enc_len]; rfl] at this
      simpa using this)
    clear HSR
    go_enter Tryz.func76, Tryz.ntmps76
    go_wp2_with fail
    refine region_mix (fun w' => ∃ n, w' = w.drewN n) [] [0, 1, 2, 3, 4, 5] [6, 7] (by kernel_rfl) (by kernel_rfl) (fun _ _ d _ _ h => by cases d <;> exact h) ⟨1, rfl⟩ ?_
    simp only [pick, List.filterMap_cons, List.filterMap_nil, List.getElem?_toArray, List.getElem?_cons_zero, List.getElem?_cons_succ, floatPut, Act.put, Act.eval, List.setIfInBounds_toArray, List.set_cons_zero, List.set_cons_succ, Array.getD_eq_getD_getElem?, Option.getD_some]
    repeat (change wpQuiet _ _ _ _ (List.cons _ _) _; go_big_quiet_step (fail))
    refine wpQuiet_nil ?_
    rintro _ ⟨nr, rfl⟩
    have HW := Lib.hid (H.out.drewN nr)
    have HSw : Hid (Src (w.drewN nr) (.slice (some ⟨g, off + 1 * 4, none⟩) l.length (cap - 1)) l.length (cellsL enc l)) := Lib.hid HSQ.out
    refine wpList_append_in _ rfl _ _ 157 rfl 168 i0 4 Tryz.underlying157 HI.out HZ1.out _ (l.length + 1) 0 _ _ _ (by exact rfl) HW.out (by omega) (.slice (some ⟨g, off + 1 * 4, none⟩) l.length (cap - 1)) l.length (cellsL enc l) (by exact rfl) HSw.out HLL.out H1C.out (by omega) ?_
    intro w2 hS2 hK2
    have SB := Lib.hid hS2
    have KB := Lib.hid hK2
    clear hS2 hK2
    go_wp2_with (refine wpList_clear_sl _ rfl _ 157 rfl 168 i0 (.agg #[.int .i64 0, .int .i64 0, .int .i64 0, .slice none 0 0]) Tryz.underlying157 HI.out HZ0.out 4 HZ1.out rfl HZC.out (some ⟨g, off + l.length * 4, none⟩) 1 (cap - l.length) (by exact rfl) _ (l.length + 1) _ _ _ SB.out l.length (by omega) (by omega) ⟨g, off, rfl, rfl⟩ ?_; intro w3 hS3 hK3; have SD := Lib.hid hS3; have KD := Lib.hid hK3; clear hS3 hK3)
    all_goals
      go_ret
      refine ⟨_, rfl, ?_, ((((Kept.refl _ w).drewN nr).trans KB.out (fun _ h => .inl h)).trans KD.out (fun _ h => .inl h))⟩
      have := SD.out.take (k := l.length) (by omega)
      rw [del_cells] at this
      exact this
end Go.Proofs.YtekdkckgmleofaaGreat.RingN

/- slices.Insert of one thing at afterimage/api.Snap. -/
namespace Go.Proofs.YtekdkckgmleofaaGreat.RingN
open Go.RowKit

def InsPost (w : World) (l' : List (Int × SnapS)) (own : Option Nat) (e : Ending) (w' : World) : Prop :=
  ∃ v' own', e = .returned v' ∧ Sl w' v' 168 4 l'.length (cellsL enc l') own' ∧ (own' = own ∨ ∃ q, own' = some q ∧ w.heap.size ≤ q) ∧ Kept (fun k => own = some k) w w'

theorem sizeE : ∀ w : World, (Go.sizeOf 168).run Tryz.prog w = .ok 4 w := fun w => by kernel_rfl

theorem ins_len {l : List (Int × SnapS)} {i : Nat} (hi : i ≤ l.length) (y : Int × SnapS) : (l.take i ++ y :: l.drop i).length = l.length + 1 := by simp; omega

theorem take_app {α : Type} {a b : List α} {n : Nat} (h : a.length = n) : (a ++ b).take n = a := by subst h; simp
theorem drop_app {α : Type} {a b : List α} {n : Nat} (h : a.length = n) : (a ++ b).drop n = b := by subst h; simp

theorem ins_gen {α : Type} (C E Z D : List α) {a b t : Nat} (hC : C.length = a) (hE : a + E.length = b) (ht : a + Z.length ≤ t) (hb : b ≤ a + Z.length) :
    ((C ++ Z).take a ++ E ++ (C ++ Z).drop b).take b ++ D ++ ((C ++ Z).take a ++ E ++ (C ++ Z).drop b).drop t = C ++ E ++ D := by
  rw [take_app hC, take_app (by rw [List.length_append]; omega)]
  rw [List.drop_eq_nil_of_le (i := t) (by simp only [List.length_append, List.length_drop]; omega), List.append_nil]

theorem ins_cells (l : List (Int × SnapS)) (y : Int × SnapS) (i : Nat) (hi : i ≤ l.length) (Z : List Value) (hZ : Z.length = (l.length + 1 - i) * 4) :
    ((((cellsL enc l).take (i * 4) ++ Z).take (i * 4) ++ (enc y).take (min 1 (l.length + 1 - i) * 4) ++ ((cellsL enc l).take (i * 4) ++ Z).drop ((i + min 1 (l.length + 1 - i)) * 4)).take ((i + 1) * 4) ++
      (cellsL enc (l.drop i)).take (min (l.length - i) (l.length - i) * 4) ++
      (((cellsL enc l).take (i * 4) ++ Z).take (i * 4) ++ (enc y).take (min 1 (l.length + 1 - i) * 4) ++ ((cellsL enc l).take (i * 4) ++ Z).drop ((i + min 1 (l.length + 1 - i)) * 4)).drop ((i + 1 + min (l.length - i) (l.length - i)) * 4)) = cellsL enc (l.take i ++ y :: l.drop i) := by
  have hL := cellsL_len enc_len l
  have e0 : ((cellsL enc l).take (i * 4)).length = i * 4 := by rw [List.length_take, hL]; omega
  have hD : (cellsL enc (l.drop i)).length = (l.length - i) * 4 := by rw [cellsL_len enc_len, List.length_drop]
  rw [show min 1 (l.length + 1 - i) = 1 from by omega, show min (l.length - i) (l.length - i) = l.length - i from by omega, show (enc y).take (1 * 4) = enc y from rfl, List.take_of_length_le (Nat.le_of_eq hD), cellsL_append, cellsL_cons, ← cellsL_take enc_len]
  exact (ins_gen _ (enc y) Z (cellsL enc (l.drop i)) e0 (by rw [enc_len]; omega) (by omega) (by omega)).trans (List.append_assoc ..)

def INS : FuncId := 75


set_option maxHeartbeats 1000000 in
set_option maxRecDepth 100000 in
theorem insert_end (w : World) (v0 : Value) (l : List (Int × SnapS)) (own : Option Nat) (y : Int × SnapS) (gv : Nat) (h : Sl w v0 168 4 l.length (cellsL enc l) own) (hl : l.length ≤ 200)
    (hv : Src w (.slice (some ⟨gv, 0, none⟩) 1 1) 1 (enc y)) :
    Calls Tryz.prog 75 #[v0, .int .i64 l.length, .slice (some ⟨gv, 0, none⟩) 1 1] w (InsPost w (l ++ [y]) own) := by
  obtain ⟨i0, hi, hz0, hz1, hz2⟩ := info_parts infoE
  have HI := Lib.hid hi
  have HZ0 := Lib.hid hz0
  have HZ1 := Lib.hid hz1
  have HZ2 := Lib.hid hz2
  clear hi hz0 hz1 hz2
  have HV := Lib.hid hv
  have H := Lib.hid h
  have HX : Hid (∀ u ∈ enc y, u.oneCell' = true) := Lib.hid (by intro u hu; have := enc_one [y] u (by simpa [cellsL] using hu); exact this)
  clear h hv
  obtain ⟨a, cap, rfl, hc, hm⟩ := H.out.form
  unfold maxLen at hm
  have N1 : Hid (l.length + 1 ≤ maxLen) := Lib.hid (by unfold maxLen; omega)
  have N2 : Hid ((l.length + 1) * 48 ≤ 140737488355328) := Lib.hid (by omega)
  go_enter Tryz.func75, Tryz.ntmps75
  go_wp2_with (at_builtin; refine wpList_append_sl _ rfl _ _ 157 rfl 168 i0 (.agg #[.int .i64 0, .int .i64 0, .int .i64 0, .slice none 0 0]) 4 48 Tryz.underlying157 HI.out HZ0.out HZ1.out HZ2.out rfl _ _ _ own rfl H.out _ 1 (enc y) rfl HV.out rfl HX.out N1.out N2.out ?_; intro v' w' own' hS' ho' hK'; have SA := Lib.hid hS'; have OA := Lib.hid ho'; have KA := Lib.hid hK'; clear hS' ho' hK')
  all_goals
    go_ret
    refine ⟨_, _, rfl, ?_, OA.out.imp id (fun h => ⟨_, h, Nat.le_refl _⟩), KA.out⟩
    rw [List.length_append, List.length_cons, List.length_nil, cellsL_append, cellsL_cons]
    simpa [cellsL] using SA.out

set_option maxHeartbeats 2000000 in
set_option maxRecDepth 100000 in
theorem insert_new (w : World) (v0 : Value) (l : List (Int × SnapS)) (own : Option Nat) (i : Nat) (y : Int × SnapS) (gv : Nat) (a : Option Addr) (cap : Nat) (hv0 : v0 = .slice a l.length cap) (h : Sl w v0 168 4 l.length (cellsL enc l) own) (hl : l.length ≤ 200)
    (hi : i < l.length) (hcap : cap < l.length + 1) (hv : Src w (.slice (some ⟨gv, 0, none⟩) 1 1) 1 (enc y)) :
    Calls Tryz.prog 75 #[v0, .int .i64 i, .slice (some ⟨gv, 0, none⟩) 1 1] w (InsPost w (l.take i ++ y :: l.drop i) own) := by
  obtain ⟨i0, hi, hz0, hz1, hz2⟩ := info_parts infoE
  have HI := Lib.hid hi
  have HZ0 := Lib.hid hz0
  have HZ1 := Lib.hid hz1
  have HZ2 := Lib.hid hz2
  clear hi hz0 hz1 hz2
  have HV := Lib.hid hv
  have H := Lib.hid h
  have HX : Hid (∀ u ∈ enc y, u.oneCell' = true) := Lib.hid (by intro u hu; have := enc_one [y] u (by simpa [cellsL] using hu); exact this)
  clear h hv
  obtain ⟨g, off, cap', ho, hv1, hc, hm, -, -⟩ := H.out.some (by omega)
  rw [hv0] at hv1
  cases hv1
  subst hv0
  unfold maxLen at hm
  have em : (l.length : Int) + 1 - (i : Int) = ((l.length + 1 - i : Nat) : Int) := by omega
  have hne : ((i : Int) == (l.length : Int)) = false := by simp; omega
  have hmz : 0 < l.length + 1 - i := by omega
  have HT := Lib.hid (H.out.take (k := i) (by omega))
  have HD := Lib.hid (H.out.drop (k := i) (by omega))
  have nci : ¬ cap = i := by omega
  have HSR : Hid (Src w (.slice (some ⟨g, off + i * 4, none⟩) (l.length - i) (cap - i)) (l.length - i) (cellsL enc (l.drop i))) := Lib.hid (by
    have := HD.out.src
    rw [if_neg nci, Option.map_some, Addr.add_lit, cellsL_drop enc_len] at this
    exact this)
  have e9 : i + (l.length + 1 - i) = l.length + 1 := by omega
  have E9 := Lib.hid e9
  have N1 : Hid (i + (l.length + 1 - i) ≤ maxLen) := Lib.hid (by rw [e9]; unfold maxLen; omega)
  have N2 : Hid ((i + (l.length + 1 - i)) * 48 ≤ 140737488355328) := Lib.hid (by rw [e9]; omega)
  have N3 : Hid (cap < i + (l.length + 1 - i)) := Lib.hid (by omega)
  clear e9
  go_enter Tryz.func75, Tryz.ntmps75
  go_wp2_with (at_builtin; refine wpList_append_zeros _ rfl _ _ 157 3 rfl 168 i0 (.agg #[.int .i64 0, .int .i64 0, .int .i64 0, .slice none 0 0]) .i64 .i64 4 48 Tryz.underlying157 Tryz.underlying3 HI.out HZ0.out HZ1.out HZ2.out rfl (by omega) _ _ _ _ own rfl HT.out (l.length + 1 - i) rfl hmz N3.out N1.out N2.out ?_; intro v' w' hS' hK'; have SA0 := Lib.hid hS'; have KA := Lib.hid hK'; clear hS' hK')
  have hS' := SA0.out
  rw [E9.out] at hS'
  obtain ⟨g2, off2, cap2, ho2, rfl, hc2, hm2, -, -⟩ := hS'.some (by omega)
  unfold maxLen at hm2
  have SA := Lib.hid hS'
  have n2a : ¬ cap2 = i := by omega
  have n2b : ¬ cap2 = i + 1 := by omega
  have HV2 := Lib.hid (HV.out.kept KA.out)
  clear hS' SA0
  go_simp
  go_wp2_with (refine wpList_copy_sl (dp := some ⟨g2, off2 + i * 4, none⟩) (dLen := l.length + 1 - i) (dCap := cap2 - i) (x := .slice (some ⟨gv, 0, none⟩) 1 1) _ rfl _ _ 157 157 rfl 168 i0 Tryz.underlying157 HI.out 4 HZ1.out (by exact rfl) (by exact rfl) 1 (enc y) HV2.out rfl (fun u hu => HX.out u (List.mem_of_mem_take hu)) _ (l.length + 1) _ _ _ SA.out i (by omega) (fun _ => ⟨g2, off2, rfl, rfl⟩) ?_; intro w2 hS2 hK2; have SB := Lib.hid hS2; have KB := Lib.hid hK2; clear hS2 hK2)
  go_simp
  refine region_mix (fun w' => ∃ n, w' = w2.drewN n) [] [0, 1, 2, 3, 4, 5, 6, 7] [8] (by kernel_rfl) (by kernel_rfl) (fun _ _ d _ _ h => by cases d <;> exact h) ⟨1, rfl⟩ ?_
  simp only [pick, List.filterMap_cons, List.filterMap_nil, List.getElem?_toArray, List.getElem?_cons_zero, List.getElem?_cons_succ, floatPut, Act.put, Act.eval, List.setIfInBounds_toArray, List.set_cons_zero, List.set_cons_succ, Array.getD_eq_getD_getElem?, Option.getD_some]
  repeat (change wpQuiet _ _ _ _ (List.cons _ _) _; go_big_quiet_step (fail))
  refine wpQuiet_nil ?_
  rintro _ ⟨nr, rfl⟩
  have KB' := Lib.hid (KA.out.trans KB.out (G := fun k => some w.heap.size = some k) (fun k hk => .inr (Nat.le_of_eq (Option.some.inj hk))))
  have glt : g < w.heap.size := H.out.lt ho
  have gne : Hid (¬ some w.heap.size = some g) := Lib.hid (fun e => by have := Option.some.inj e; omega)
  have HS := Lib.hid ((HSR.out.keptF KA.out (fun h => h)).keptF KB.out gne.out)
  have SC := Lib.hid (SB.out.drewN nr)
  have HS' : Hid (Src (w2.drewN nr) (.slice (some ⟨g, off + i * 4, none⟩) (l.length - i) (cap - i)) (l.length - i) (cellsL enc (l.drop i))) := Lib.hid HS.out
  have HL := cellsL_len enc_len (l.drop i)
  rw [List.length_drop] at HL
  have HL' := Lib.hid HL
  clear HL HS HD KA KB glt
  refine wpList_copy_sl (dp := some ⟨g2, off2 + (i + 1) * 4, none⟩) (dLen := l.length - i) (dCap := cap2 - (i + 1)) (x := .slice (some ⟨g, off + i * 4, none⟩) (l.length - i) (cap - i)) _ rfl _ _ 157 157 rfl 168 i0 Tryz.underlying157 HI.out 4 HZ1.out (by exact rfl) (by exact rfl) (l.length - i) (cellsL enc (l.drop i)) HS'.out HL'.out (fun u hu => enc_one _ u (List.mem_of_mem_take hu)) _ (l.length + 1) _ _ _ SC.out (i + 1) (by omega) (fun _ => ⟨g2, off2, rfl, rfl⟩) ?_
  intro w3 hS3 hK3; have SD := Lib.hid hS3; have KD := Lib.hid hK3; clear hS3 hK3
  go_wp2_with fail
  go_ret
  refine ⟨_, _, rfl, ?_, .inr ⟨_, rfl, Nat.le_refl _⟩, ((KB'.out.drewN nr).trans KD.out (G := fun k => some w.heap.size = some k) (fun k hk => .inr (Nat.le_of_eq (Option.some.inj hk)))).mono (fun _ _ h => h.elim)⟩
  rw [ins_len (Nat.le_of_lt hi)]
  have := SD.out
  rw [ins_cells l y i (Nat.le_of_lt hi) _ (by rw [size_zeroCells']; rfl)] at this
  exact this

theorem ins_gen2 {α : Type} (A E : List α) {a b c t : Nat} (hab : a ≤ b) (hb : b ≤ A.length) (ht : A.length ≤ t) :
    (A.take b ++ (A.drop a).take c ++ A.drop t).take a ++ E ++ (A.take b ++ (A.drop a).take c ++ A.drop t).drop b = A.take a ++ E ++ (A.drop a).take c := by
  rw [List.drop_eq_nil_of_le ht, List.append_nil, drop_app (by rw [List.length_take]; omega), List.take_append_of_le_length (by rw [List.length_take]; omega), List.take_take, Nat.min_eq_left hab]

theorem ins_cells2 (l : List (Int × SnapS)) (y : Int × SnapS) (i : Nat) (hi : i ≤ l.length) (J : List Value) (hJ : J.length = (l.length + 1 - l.length) * 4) :
    (((cellsL enc l ++ J).take ((i + 1) * 4) ++ ((cellsL enc l ++ J).drop (i * 4)).take (min (l.length + 1 - i) (l.length - i) * 4) ++ (cellsL enc l ++ J).drop ((i + 1 + min (l.length + 1 - i) (l.length - i)) * 4)).take (i * 4) ++
      (enc y).take (min 1 (l.length + 1 - i) * 4) ++
      ((cellsL enc l ++ J).take ((i + 1) * 4) ++ ((cellsL enc l ++ J).drop (i * 4)).take (min (l.length + 1 - i) (l.length - i) * 4) ++ (cellsL enc l ++ J).drop ((i + 1 + min (l.length + 1 - i) (l.length - i)) * 4)).drop ((i + min 1 (l.length + 1 - i)) * 4)) = cellsL enc (l.take i ++ y :: l.drop i) := by
  have hL := cellsL_len enc_len l
  have hA : (cellsL enc l ++ J).length = (l.length + 1) * 4 := by rw [List.length_append, hL, hJ]; omega
  have hD : (cellsL enc (l.drop i)).length = (l.length - i) * 4 := by rw [cellsL_len enc_len, List.length_drop]
  rw [show min 1 (l.length + 1 - i) = 1 from by omega, show min (l.length + 1 - i) (l.length - i) = l.length - i from by omega, show (enc y).take (1 * 4) = enc y from rfl, ins_gen2 _ _ (by omega) (by omega) (by omega),
    List.take_append_of_le_length (by rw [hL]; omega), List.drop_append_of_le_length (by rw [hL]; omega), cellsL_drop enc_len, take_app hD, cellsL_append, cellsL_cons, cellsL_take enc_len, List.append_assoc]

theorem overlaps_no (w : World) (gv g off n cap : Nat) (xs : List Value) (y : Int × SnapS) (t : TypeId) (hb : Blk w gv (enc y) t) (h : Sl w (.slice (some ⟨g, off, none⟩) n cap) 168 4 n xs (some g)) (hc : 0 < cap) (hne : gv ≠ g) (o la ca lb cb : Nat) :
    (callFunc 124 #[.slice (some ⟨gv, 0, none⟩) la ca, .slice (some ⟨g, o, none⟩) lb cb]).run Tryz.prog w = .ok (.value (.bool false)) w := by
  rcases h.2 with ⟨hv, -, -⟩ | ⟨g', off', cap', cur, ho, hv, hbb, h1, h2, h3, h4⟩
  · cases hv
  · cases hv
    cases ho
    rw [run_callFunc_extern Tryz.func124 (by kernel_rfl) (by kernel_rfl) (by kernel_rfl) (e := Extern.SlicesOverlaps.overlaps #[157, 157] #[4]) (by kernel_rfl),
      Lib.run_overlaps_apart w _ _ _ Tryz.underlying157 4 sizeE ⟨gv, 0, none⟩ ⟨g, o, none⟩ la ca lb cb hne t 168 4 cur.size
        (by unfold World.shape?; rw [hb]; rfl) (by unfold World.shape?; rw [hbb]) (by omega) (by unfold World.frozen?; rw [hb]; rfl) (by unfold World.frozen?; rw [hb]; rfl)]
    rfl

set_option maxHeartbeats 2000000 in
set_option maxRecDepth 100000 in
theorem insert_in (w : World) (v0 : Value) (l : List (Int × SnapS)) (own : Option Nat) (i : Nat) (y : Int × SnapS) (gv : Nat) (a : Option Addr) (cap : Nat) (hv0 : v0 = .slice a l.length cap) (h : Sl w v0 168 4 l.length (cellsL enc l) own) (hl : l.length ≤ 200)
    (hi : i < l.length) (hcap : l.length + 1 ≤ cap) (hv : Src w (.slice (some ⟨gv, 0, none⟩) 1 1) 1 (enc y)) (t : TypeId) (hvb : Blk w gv (enc y) t) (hvo : own ≠ some gv) :
    Calls Tryz.prog 75 #[v0, .int .i64 i, .slice (some ⟨gv, 0, none⟩) 1 1] w (InsPost w (l.take i ++ y :: l.drop i) own) := by
  obtain ⟨i0, hi, hz0, hz1, hz2⟩ := info_parts infoE
  have HI := Lib.hid hi
  have HZ0 := Lib.hid hz0
  have HZ1 := Lib.hid hz1
  have HZ2 := Lib.hid hz2
  clear hi hz0 hz1 hz2
  have HV := Lib.hid hv
  have H := Lib.hid h
  have HX : Hid (∀ u ∈ enc y, u.oneCell' = true) := Lib.hid (by intro u hu; have := enc_one [y] u (by simpa [cellsL] using hu); exact this)
  clear h hv
  obtain ⟨g, off, cap', ho, hv1, hc, hm, -, -⟩ := H.out.some (by omega)
  rw [hv0] at hv1
  cases hv1
  subst hv0
  subst ho
  unfold maxLen at hm
  have hne : ((i : Int) == (l.length : Int)) = false := by simp; omega
  have n1 : ¬ cap = i := by omega
  have n2 : ¬ cap = i + 1 := by omega
  have gne : gv ≠ g := fun e => hvo (by rw [e])
  have GNE : Hid (¬ (some g = some gv)) := Lib.hid (fun e => gne (Option.some.inj e).symm)
  obtain ⟨J, hJ, hE⟩ := H.out.extend (k := l.length + 1) (by omega) hcap
  have HJ := Lib.hid hJ
  have HE := Lib.hid hE
  have HSR : Hid (Src w (.slice (some ⟨g, off + i * 4, none⟩) (l.length + 1 - i) (cap - i)) (l.length + 1 - i) ((cellsL enc l ++ J).drop (i * 4))) := Lib.hid (by
    have := (hE.drop (k := i) (by omega)).src
    rw [if_neg n1, Option.map_some, Addr.add_lit] at this
    exact this)
  have hL := cellsL_len enc_len l
  have H1C : Hid (∀ u ∈ ((cellsL enc l ++ J).drop (i * 4)).take (min (l.length + 1 - i) (l.length - i) * 4), u.oneCell' = true) := Lib.hid (by
    rw [List.drop_append_of_le_length (by rw [hL]; omega), List.take_append_of_le_length (by rw [List.length_drop, hL]; omega), cellsL_drop enc_len]
    exact fun u hu => enc_one _ u (List.mem_of_mem_take hu))
  have HLD : Hid (((cellsL enc l ++ J).drop (i * 4)).length = (l.length + 1 - i) * 4) := Lib.hid (by rw [List.length_drop, List.length_append, cellsL_len enc_len, hJ]; omega)
  have hov := fun lb cb => overlaps_no w gv g off l.length cap _ y t hvb H.out (by omega) gne (off + (i + 1) * 4) 1 1 lb cb
  clear hvb hvo gne hJ hE hL
  go_enter Tryz.func75, Tryz.ntmps75
  go_wp2_with fail
  refine region_mix (fun w' => ∃ n, w' = w.drewN n) [] [0, 1, 2, 3, 4, 5, 6, 7] [8] (by kernel_rfl) (by kernel_rfl) (fun _ _ d _ _ h => by cases d <;> exact h) ⟨1, rfl⟩ ?_
  simp only [pick, List.filterMap_cons, List.filterMap_nil, List.getElem?_toArray, List.getElem?_cons_zero, List.getElem?_cons_succ, floatPut, Act.put, Act.eval, List.setIfInBounds_toArray, List.set_cons_zero, List.set_cons_succ, Array.getD_eq_getD_getElem?, Option.getD_some]
  repeat (change wpQuiet _ _ _ _ (List.cons _ _) _; go_big_quiet_step (fail))
  refine wpQuiet_nil ?_
  rintro _ ⟨nr, rfl⟩
  have HEw := Lib.hid (HE.out.drewN nr)
  have HSw : Hid (Src (w.drewN nr) (.slice (some ⟨g, off + i * 4, none⟩) (l.length + 1 - i) (cap - i)) (l.length + 1 - i) ((cellsL enc l ++ J).drop (i * 4))) := Lib.hid HSR.out
  have HVw : Hid (Src (w.drewN nr) (.slice (some ⟨gv, 0, none⟩) 1 1) 1 (enc y)) := Lib.hid HV.out
  refine wpList_copy_sl (dp := some ⟨g, off + (i + 1) * 4, none⟩) (dLen := l.length - i) (dCap := cap - (i + 1)) (x := .slice (some ⟨g, off + i * 4, none⟩) (l.length + 1 - i) (cap - i)) _ rfl _ _ 157 157 rfl 168 i0 Tryz.underlying157 HI.out 4 HZ1.out (by exact rfl) (by exact rfl) (l.length + 1 - i) _ HSw.out HLD.out H1C.out _ (l.length + 1) _ _ _ HEw.out (i + 1) (by omega) (fun _ => ⟨g, off, rfl, rfl⟩) ?_
  intro w2 hS2 hK2
  have SB := Lib.hid hS2
  have KB := Lib.hid hK2
  have HV2 := Lib.hid (HVw.out.keptF KB.out GNE.out)
  clear hS2 hK2
  go_wp2_with (refine wpList_copy_sl (dp := some ⟨g, off + i * 4, none⟩) (dLen := l.length + 1 - i) (dCap := cap - i) (x := .slice (some ⟨gv, 0, none⟩) 1 1) _ rfl _ _ 157 157 rfl 168 i0 Tryz.underlying157 HI.out 4 HZ1.out (by exact rfl) (by exact rfl) 1 (enc y) HV2.out rfl (fun u hu => HX.out u (List.mem_of_mem_take hu)) _ (l.length + 1) _ _ _ SB.out i (by omega) (fun _ => ⟨g, off, rfl, rfl⟩) ?_; intro w3 hS3 hK3; have SD := Lib.hid hS3; have KD := Lib.hid hK3; clear hS3 hK3)
  go_ret
  refine ⟨_, _, rfl, ?_, .inl rfl, (((Kept.refl _ w).drewN nr).trans KB.out (fun _ h => .inl h)).trans KD.out (fun _ h => .inl h)⟩
  rw [ins_len (Nat.le_of_lt hi)]
  have := SD.out
  rw [ins_cells2 l y i (Nat.le_of_lt hi) J HJ.out] at this
  exact this

theorem src_of_blk {w : World} {gv : Nat} {y : Int × SnapS} {t : TypeId} (hb : Blk w gv (enc y) t) : Src w (.slice (some ⟨gv, 0, none⟩) 1 1) 1 (enc y) := by
  refine .inr ⟨_, 1, rfl, fun j u hu => ?_⟩
  rw [Addr.add_lit, Nat.zero_add]
  unfold World.cell?
  rw [hb]
  simpa using hu

/-- slices.Insert of one thing. -/
theorem insert_calls (w : World) (v0 : Value) (l : List (Int × SnapS)) (own : Option Nat) (i : Nat) (y : Int × SnapS) (gv : Nat) (h : Sl w v0 168 4 l.length (cellsL enc l) own) (hl : l.length ≤ 200)
    (hi : i ≤ l.length) (t : TypeId) (hvb : Blk w gv (enc y) t) (hvo : own ≠ some gv) :
    Calls Tryz.prog 75 #[v0, .int .i64 i, .slice (some ⟨gv, 0, none⟩) 1 1] w (InsPost w (l.take i ++ y :: l.drop i) own) := by
  have hs := src_of_blk hvb
  obtain ⟨a, cap, hv, hc, hm⟩ := h.form
  rcases Nat.lt_or_ge i l.length with h1 | h1
  · rcases Nat.lt_or_ge cap (l.length + 1) with h2 | h2
    · exact insert_new w v0 l own i y gv a cap hv h hl h1 h2 hs
    · exact insert_in w v0 l own i y gv a cap hv h hl h1 h2 hs t hvb hvo
  · have e : i = l.length := by omega
    subst e
    rw [List.take_length, List.drop_length]
    exact insert_end w v0 l own y gv h hl hs
end Go.Proofs.YtekdkckgmleofaaGreat.RingN
