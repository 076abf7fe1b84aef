/- Contracts at things of string: the search for a number, slices.Insert of one thing, slices.Delete of the first one. -/
import Derived.Test.YtolgapcckbcmbaaSl2
import Derived.Test.YtolgapcckbcmbaaReg
import Derived.Test.YtolgapcckbcmbaaRingPure
import Derived.Test.YtolgapcckbcmbaaRows
import Derived.Lib.Overlaps
import Derived.Laws.Externs
import Derived.Deep.QuietTactic
import Derived.BigQuiet
import Derived.Outline
namespace Go.Proofs.Ytolgapcckbcmbaa.RingS
open Go.RowKit

/-- The two cells of a thing at a number. -/
def enc (y : Int × ByteArray) : List Value := [.int .i64 y.1, Value.string y.2]
theorem enc_len (y : Int × ByteArray) : (enc y).length = 2 := rfl
theorem enc_one (l : List (Int × ByteArray)) : ∀ u ∈ cellsL enc l, u.oneCell' = true := by
  intro u hu
  obtain ⟨y, _, hy⟩ := List.mem_flatMap.1 hu
  simp only [enc, List.mem_cons, List.not_mem_nil, or_false] at hy
  rcases hy with rfl | rfl <;> rfl

theorem infoE : (Try.prog.info? 82).map (fun i => (i.zero, i.size, i.bytes)) = some (some (.agg #[.int .i64 0, Value.string ByteArray.empty]), 2, 24) := by kernel_rfl

/-- -1, 0, 1. -/
def cmpI (a b : Int) : Int := if a < b then -1 else if b < a then 1 else 0

theorem cmp_calls (k key : Int) (x : ByteArray) (w : World) :
    Calls Try.prog 41 #[.agg #[.int .i64 k, Value.string x], .int .i64 key] w fun e w' => e = .returned (.int .i64 (cmpI k key)) ∧ Kept (fun _ => False) w w' := by
  unfold cmpI
  by_cases h1 : k < key
  · rw [if_pos h1]
    go_enter Try.func41, Try.ntmps41
    go_wp2
    go_ret
    exact ⟨rfl, (Kept.refl _ _).alloc _⟩
  · rw [if_neg h1]
    by_cases h2 : key < k
    · rw [if_pos h2]
      go_enter Try.func41, Try.ntmps41
      go_wp2
      go_ret
      exact ⟨rfl, (Kept.refl _ _).alloc _⟩
    · rw [if_neg h2]
      go_enter Try.func41, Try.ntmps41
      go_wp2
      go_ret
      exact ⟨rfl, (Kept.refl _ _).alloc _⟩

theorem cells_at {w : World} {g off : Nat} {l : List (Int × ByteArray)} (h : ∀ j u, (cellsL enc l)[j]? = some u → w.cell? ⟨g, off + j, none⟩ = some u) {t : Nat} {y : Int × ByteArray} (hy : l[t]? = some y) :
    w.cell? ⟨g, off + t * 2, none⟩ = some (.int .i64 y.1) ∧ w.cell? ⟨g, off + t * 2 + 1, none⟩ = some (Value.string y.2) := by
  have h0 := cellsL_get enc_len l t 0 y hy (by omega)
  have h1 := cellsL_get enc_len l t 1 y hy (by omega)
  exact ⟨h _ _ h0, h _ _ h1⟩

def Brk (l : List (Int × ByteArray)) (key : Int) (i j : Nat) : Prop := (∀ t y, t < i → l[t]? = some y → y.1 < key) ∧ (∀ t y, j ≤ t → l[t]? = some y → key ≤ y.1)
theorem Brk.start (l : List (Int × ByteArray)) (key : Int) : Brk l key 0 l.length := ⟨fun t y h => by omega, fun t y h hy => by rw [List.getElem?_eq_none h] at hy; cases hy⟩
theorem Brk.up {l : List (Int × ByteArray)} {key : Int} {i j mid : Nat} {y : Int × ByteArray} (h : Brk l key i j) (hs : Srt l) (hy : l[mid]? = some y) (hlt : y.1 < key) : Brk l key (mid + 1) j := by
  refine ⟨fun t z ht hz => ?_, h.2⟩
  rcases Nat.lt_succ_iff_lt_or_eq.1 ht with h1 | h1
  · obtain ⟨a, ha⟩ := List.getElem?_eq_some_iff.1 hz
    obtain ⟨b, hb⟩ := List.getElem?_eq_some_iff.1 hy
    have := List.pairwise_iff_getElem.1 hs t mid a b h1
    rw [ha, hb] at this
    omega
  · subst h1; rw [hy] at hz; cases hz; exact hlt
theorem Brk.down {l : List (Int × ByteArray)} {key : Int} {i j mid : Nat} {y : Int × ByteArray} (h : Brk l key i j) (hs : Srt l) (hy : l[mid]? = some y) (hge : key ≤ y.1) : Brk l key i mid := by
  refine ⟨h.1, fun t z ht hz => ?_⟩
  rcases Nat.eq_or_lt_of_le ht with h1 | h1
  · subst h1; rw [hy] at hz; cases hz; exact hge
  · obtain ⟨a, ha⟩ := List.getElem?_eq_some_iff.1 hz
    obtain ⟨b, hb⟩ := List.getElem?_eq_some_iff.1 hy
    have := List.pairwise_iff_getElem.1 hs mid t b a h1
    rw [ha, hb] at this
    omega

theorem fin_search {l : List (Int × ByteArray)} {key : Int} {i : Nat} {b : Bool} (hp : i = plc l key) (ht : there l key = b) : Ending.returned (.tuple #[.int .i64 i, .bool b]) = .returned (.tuple #[.int .i64 (plc l key), .bool (there l key)]) := by
  rw [← hp, ht]

set_option maxHeartbeats 2000000 in
theorem search_calls (w : World) (v : Value) (l : List (Int × ByteArray)) (own : Option Nat) (key : Int) (h : Sl w v 82 2 l.length (cellsL enc l) own) (hs : Srt l) (hl : l.length ≤ 1000) :
    Calls Try.prog 40 #[v, .int .i64 key, .func (.func 41) #[] #[]] w
      fun e w' => e = .returned (.tuple #[.int .i64 (plc l key), .bool (there l key)]) ∧ Kept (fun _ => False) w w' := by
  obtain ⟨a, cap, rfl, hc, hm⟩ := h.form
  unfold maxLen at hm
  have H := Lib.hid h
  have HS := Lib.hid hs
  clear h hs
  go_enter Try.func40, Try.ntmps40
  go_wp2_with fail
  go_loopw [9, 10] (fun u v wr => ∃ i j : Nat, i ≤ j ∧ j ≤ l.length ∧ u = .int .i64 i ∧ v = .int .i64 j ∧ Brk l key i j ∧ Kept (fun _ => False) w wr) (fun u v _ => (intOf v - intOf u).toNat)
  case atStart => exact ⟨0, l.length, Nat.zero_le _, Nat.le_refl _, rfl, rfl, Brk.start l key, Kept.refl _ _⟩
  case round =>
    obtain ⟨i, j, hij, hj, rfl, rfl, hbr, hk⟩ := hrel
    have HB := Lib.hid hbr
    have HK := Lib.hid hk
    clear hbr hk
    by_cases hlt : i < j
    · have hmid : (i + j) / 2 < l.length := by omega
      obtain ⟨g, off, cap', ho, hv, -, -, hcell, -⟩ := (H.out.kept HK.out (fun _ _ h => h)).some (by omega)
      cases hv
      have hy : l[(i + j) / 2]? = some l[(i + j) / 2] := List.getElem?_eq_getElem hmid
      obtain ⟨c0, c1⟩ := cells_at hcell hy
      have HY := Lib.hid hy
      clear hcell hy
      have hm1 : i ≤ (i + j) / 2 := by omega
      have hm2 : (i + j) / 2 < j := by omega
      have em : ((i : Int) + (j : Int)) / 2 = ((i + j) / 2 : Nat) := by omega
      generalize hy0 : l[(i + j) / 2] = y at *
      have HY0 := Lib.hid hy0
      clear hy0
      generalize (i + j) / 2 = mid at *
      have HC := Lib.hid (fun W => cmp_calls y.1 key y.2 W)
      have HU := Lib.hid (fun h : y.1 < key => HB.out.up HS.out HY.out h)
      have HD := Lib.hid (fun h : key ≤ y.1 => HB.out.down HS.out HY.out h)
      obtain ⟨k0, x0⟩ := y
      simp only at c0 c1
      have HE := Lib.hid (enters Try.func41 (by kernel_rfl) (by kernel_rfl))
      go_wp2_with fail
      refine (HC.out _).mono ?_
      rintro e w2 ⟨rfl, hk2⟩
      have HK2 := Lib.hid (HK.out.trans hk2 (fun _ h => .inl h))
      clear hk2
      unfold cmpI
      by_cases hlo : k0 < key
      · rw [if_pos hlo]
        go_wp2_with fail
        exact ⟨⟨mid + 1, j, by omega, by omega, by go_num, rfl, HU.out hlo, HK2.out⟩, by simp [intOf]; omega⟩
      · rw [if_neg hlo]
        by_cases hhi : key < k0
        · rw [if_pos hhi]
          go_wp2_with fail
          exact ⟨⟨i, mid, by omega, by omega, rfl, rfl, HD.out (by omega), HK2.out⟩, by simp [intOf]; omega⟩
        · rw [if_neg hhi]
          go_wp2_with fail
          exact ⟨⟨i, mid, by omega, by omega, rfl, rfl, HD.out (by omega), HK2.out⟩, by simp [intOf]; omega⟩
    · obtain rfl : i = j := by omega
      have hpl : i = plc l key := plc_uniq l key i HS.out hj HB.out.1 HB.out.2
      have HP := Lib.hid hpl
      clear hpl
      by_cases hin : i < l.length
      · obtain ⟨g, off, cap', ho, hv, -, -, hcell, -⟩ := (H.out.kept HK.out (fun _ _ h => h)).some (by omega)
        cases hv
        have hy : l[i]? = some l[i] := List.getElem?_eq_getElem hin
        obtain ⟨c0, c1⟩ := cells_at hcell hy
        have HT : Hid (there l key = decide (l[i].1 = key)) := Lib.hid (by unfold there; rw [← HP.out, hy])
        clear hcell hy
        generalize l[i] = y at *
        have HC := Lib.hid (fun W => cmp_calls y.1 key y.2 W)
        obtain ⟨k0, x0⟩ := y
        simp only at c0 c1
        go_wp2_with fail
        refine (HC.out _).mono ?_
        rintro e w2 ⟨rfl, hk2⟩
        have HK2 := Lib.hid (HK.out.trans hk2 (fun _ h => .inl h))
        clear hk2
        unfold cmpI
        by_cases hlo : k0 < key
        · have hne := Lib.hid (show decide (k0 = key) = false by simp; omega)
          rw [if_pos hlo]
          go_wp2_with fail
          go_ret2
          exact ⟨fin_search HP.out (HT.out.trans hne.out), HK2.out⟩
        · rw [if_neg hlo]
          by_cases hhi : key < k0
          · have hne := Lib.hid (show decide (k0 = key) = false by simp; omega)
            rw [if_pos hhi]
            go_wp2_with fail
            go_ret2
            exact ⟨fin_search HP.out (HT.out.trans hne.out), HK2.out⟩
          · have hne := Lib.hid (show decide (k0 = key) = true by simp; omega)
            rw [if_neg hhi]
            go_wp2_with fail
            go_ret2
            exact ⟨fin_search HP.out (HT.out.trans hne.out), HK2.out⟩
      · have HT : Hid (there l key = false) := Lib.hid (by unfold there; rw [← HP.out, List.getElem?_eq_none (by omega)])
        go_wp2_with fail
        go_ret2
        exact ⟨fin_search HP.out HT.out, HK.out⟩

end Go.Proofs.Ytolgapcckbcmbaa.RingS
