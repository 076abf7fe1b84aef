/- The document's ring (afterimageref11): what it is in memory; Get, Until, Lay. -/
import Derived.Test.YtolgapcckbcmbaaRingGetS
import Derived.Test.YtolgapcckbcmbaaSl3
import Derived.Deep.Cut
namespace Go.Proofs.Ytolgapcckbcmbaa.Ref
open Go.RowKit
open RingS (enc enc_len enc_one cells_at untilM getM there_some)

def Ref (w : World) (p : Nat) (fp : Nat → Prop) (most : Nat) (r : RingM ByteArray) : Prop :=
  ∃ v o, Blk w p [v, .int .i64 most, .int .i64 r.floor, .bool r.gone] 66 ∧ Sl w v 70 2 r.l.length (cellsL enc r.l) o ∧ fp p ∧ (∀ g, o = some g → fp g ∧ g ≠ p) ∧ Srt r.l ∧ r.l.length ≤ most

theorem Ref.kept {F : Nat → Prop} {w w' : World} {p : Nat} {fp : Nat → Prop} {most : Nat} {r : RingM ByteArray} (h : Ref w p fp most r) (k : Kept F w w') (hF : ∀ g, fp g → ¬ F g) : Ref w' p fp most r := by
  obtain ⟨v, o, hb, h1, hp, d1, hs, hl⟩ := h
  exact ⟨v, o, k.blk hb (hF p hp), h1.kept k (fun g hg => hF g (d1 g hg).1), hp, d1, hs, hl⟩
theorem Ref.mono {w : World} {p : Nat} {fp fq : Nat → Prop} {most : Nat} {r : RingM ByteArray} (h : Ref w p fp most r) (hF : ∀ g, g < w.heap.size → fp g → fq g) : Ref w p fq most r := by
  obtain ⟨v, o, hb, h1, hp, d1, hs, hl⟩ := h
  exact ⟨v, o, hb, h1, hF p hb.lt hp, fun g hg => ⟨hF g (h1.lt hg) (d1 g hg).1, (d1 g hg).2⟩, hs, hl⟩
theorem Ref.srt {w : World} {p : Nat} {fp : Nat → Prop} {most : Nat} {r : RingM ByteArray} (h : Ref w p fp most r) : Srt r.l := by
  obtain ⟨v, o, hb, h1, hp, d1, hs, hl⟩ := h
  exact hs
theorem Ref.len {w : World} {p : Nat} {fp : Nat → Prop} {most : Nat} {r : RingM ByteArray} (h : Ref w p fp most r) : r.l.length ≤ most := by
  obtain ⟨v, o, hb, h1, hp, d1, hs, hl⟩ := h
  exact hl


theorem get_lt {α : Type} {l : List α} {i : Nat} {y : α} (h : l[i]? = some y) : i < l.length := (List.getElem?_eq_some_iff.1 h).1
theorem srt_lt {α : Type} {l : List (Int × α)} {i j : Nat} {y z : Int × α} (hs : Srt l) (hij : i < j) (hy : l[i]? = some y) (hz : l[j]? = some z) : y.1 < z.1 := by
  obtain ⟨h1, rfl⟩ := List.getElem?_eq_some_iff.1 hy
  obtain ⟨h2, rfl⟩ := List.getElem?_eq_some_iff.1 hz
  exact List.pairwise_iff_getElem.1 hs i j h1 h2 hij
theorem plc_is {l : List (Int × ByteArray)} {k : Int} {i : Nat} {y : Int × ByteArray} (hs : Srt l) (hy : l[i]? = some y) (hk : y.1 = k) : plc l k = i := by
  refine (plc_uniq l k i hs (Nat.le_of_lt (get_lt hy)) (fun t z ht hz => ?_) (fun t z ht hz => ?_)).symm
  · have := srt_lt hs ht hz hy; omega
  · rcases Nat.lt_or_ge i t with h | h
    · have := srt_lt hs h hy hz; omega
    · obtain rfl : i = t := by omega
      rw [hy] at hz
      obtain rfl := Option.some.inj hz
      omega
/-- The first place at which the number lies. -/
theorem get_at {l : List (Int × ByteArray)} {k : Int} {i : Nat} {y : Int × ByteArray} (hs : Srt l) (hy : l[i]? = some y) (hk : y.1 = k) : there l k = true ∧ getM l k = y.2 := by
  have h1 : there l k = true := (there_iff l k hs).2 ⟨y.2, by rw [← hk]; exact List.mem_of_getElem? hy⟩
  refine ⟨h1, ?_⟩
  unfold getM
  rw [if_pos h1, plc_is hs hy hk, hy]
theorem get_none {l : List (Int × ByteArray)} {k : Int} (h : ∀ (t : Nat) (y : Int × ByteArray), l[t]? = some y → y.1 ≠ k) : there l k = false ∧ getM l k = ByteArray.empty := by
  have h1 : there l k = false := by
    cases ht : there l k with
    | false => rfl
    | true =>
      obtain ⟨y, hy, hk⟩ := there_some ht
      exact absurd hk (h _ y hy)
  exact ⟨h1, by unfold getM; rw [h1]; rfl⟩

theorem get_calls (w : World) (p : Nat) (fp : Nat → Prop) (most : Nat) (r : RingM ByteArray) (k : Int) (h : Ref w p fp most r) (hm : most ≤ 64) :
    Calls Try.prog 28 #[.pointer (some ⟨p, 0, none⟩), .int .i64 k] w fun e w' => e = .returned (.tuple #[.string (getM r.l k), .bool (there r.l k)]) ∧ w = w' := by
  obtain ⟨v, o, hb, h1, hp, d1, hs, hl⟩ := h
  obtain ⟨a, cap, rfl, hcap, hcm⟩ := h1.form
  unfold maxLen at hcm
  have c0 := hb.cell (i := 0) rfl
  have c1 := hb.cell (i := 1) rfl
  have c2 := hb.cell (i := 2) rfl
  have c3 := hb.cell (i := 3) rfl
  have HB := Lib.hid hb
  have H1 := Lib.hid h1
  have HS := Lib.hid hs
  have D1 := Lib.hid d1
  clear hb h1 hs d1
  go_enter Try.func28, Try.ntmps28
  go_wp2_with fail
  go_loopw [6] (fun i wr => ∃ j : Nat, j ≤ r.l.length ∧ i = .int .i64 j ∧ (∀ t y, t < j → r.l[t]? = some y → y.1 ≠ k) ∧ w = wr) (fun i _ => r.l.length - (intOf i).toNat)
  case atStart => exact ⟨0, Nat.zero_le _, rfl, fun t y h => by omega, rfl⟩
  case round =>
    obtain ⟨j, hj, rfl, hall, rfl⟩ := hrel
    have HA := Lib.hid hall
    clear hall
    by_cases hjl : j < r.l.length
    · obtain ⟨y, hy⟩ : ∃ y, r.l[j]? = some y := ⟨_, List.getElem?_eq_getElem hjl⟩
      obtain ⟨g, off, cap', ho, hv, -, -, hcell, -⟩ := H1.out.some (by omega)
      cases hv
      obtain ⟨e1, e2⟩ := cells_at hcell hy
      have HY := Lib.hid hy
      clear hcell hy
      by_cases hyk : y.1 = k
      · have hg := get_at HS.out HY.out hyk
        go_wp2_with fail
        go_ret2
        exact ⟨by rw [hg.1, hg.2]; rfl, rfl⟩
      · go_wp2_with fail
        exact ⟨⟨j + 1, by omega, by go_num, fun t z ht hz => by
          rcases Nat.lt_or_ge t j with h | h
          · exact HA.out t z h hz
          · obtain rfl : t = j := by omega
            rw [HY.out] at hz
            obtain rfl := Option.some.inj hz
            exact hyk, trivial⟩, by simp [intOf]; omega⟩
    · have hg := get_none (fun t z hz => HA.out t z (by have := get_lt hz; omega) hz)
      have HG := Lib.hid hg
      clear hg
      go_wp2_with fail
      go_ret2
      exact ⟨by rw [HG.out.1, HG.out.2]; rfl, rfl⟩

section
variable {l : List (Int × ByteArray)} {k : Int} {i : Nat} {y : Int × ByteArray}
theorem until_le : untilM l k ≤ l.length := by
  unfold untilM
  have := plc_le l k
  split
  · rename_i h
    obtain ⟨y, hy, -⟩ := there_some h
    have := (List.getElem?_eq_some_iff.1 hy).1
    omega
  · omega
theorem until_iff (hs : Srt l) (hy : l[i]? = some y) : y.1 ≤ k ↔ i < untilM l k := by
  unfold untilM
  cases ht : there l k with
  | true =>
    obtain ⟨z, hz, hk⟩ := there_some ht
    simp only [if_true]
    rcases Nat.lt_trichotomy i (plc l k) with h | h | h
    · have := plc_lt l k i y h hy
      constructor <;> intro <;> omega
    · subst h
      rw [hz] at hy
      obtain rfl := Option.some.inj hy
      constructor <;> intro <;> omega
    · have := srt_lt hs h hz hy
      constructor <;> intro <;> omega
  | false =>
    simp only [Bool.false_eq_true, if_false]
    rcases Nat.lt_or_ge i (plc l k) with h | h
    · have := plc_lt l k i y h hy
      constructor <;> intro <;> omega
    · have h1 := plc_ge l k i y hs h hy
      have h2 : y.1 ≠ k := fun e => by
        have : there l k = true := (there_iff l k hs).2 ⟨y.2, by rw [← e]; exact List.mem_of_getElem? hy⟩
        rw [ht] at this
        cases this
      constructor <;> intro <;> omega
end

theorem until_calls (w : World) (p : Nat) (fp : Nat → Prop) (most : Nat) (r : RingM ByteArray) (k : Int) (h : Ref w p fp most r) (hm : most ≤ 64) :
    Calls Try.prog 29 #[.pointer (some ⟨p, 0, none⟩), .int .i64 k] w fun e w' => e = .returned (.int .i64 (untilM r.l k)) ∧ w = w' := by
  have hcl := until_le (l := r.l) (k := k)
  have HIF : Hid (∀ (i : Nat) y, r.l[i]? = some y → (y.1 ≤ k ↔ i < untilM r.l k)) := Lib.hid (fun i y hy => until_iff h.srt hy)
  generalize untilM r.l k = c at *
  obtain ⟨v, o, hb, h1, hp, d1, hs, hl⟩ := h
  obtain ⟨a, cap, rfl, hcap, hcm⟩ := h1.form
  unfold maxLen at hcm
  have c0 := hb.cell (i := 0) rfl
  have c1 := hb.cell (i := 1) rfl
  have c2 := hb.cell (i := 2) rfl
  have c3 := hb.cell (i := 3) rfl
  have HB := Lib.hid hb
  have H1 := Lib.hid h1
  have HS := Lib.hid hs
  have D1 := Lib.hid d1
  clear hb h1 hs d1
  go_enter Try.func29, Try.ntmps29
  go_wp2_with fail
  go_loopw [5, 6] (fun n i wr => ∃ j : Nat, j ≤ r.l.length ∧ i = .int .i64 j ∧ n = .int .i64 ((min j c : Nat) : Int) ∧ w = wr) (fun _ i _ => r.l.length - (intOf i).toNat)
  case atStart => exact ⟨0, Nat.zero_le _, rfl, by rw [Nat.zero_min]; rfl, rfl⟩
  case round =>
    obtain ⟨j, hj, rfl, rfl, rfl⟩ := hrel
    by_cases hjl : j < r.l.length
    · obtain ⟨y, hy⟩ : ∃ y, r.l[j]? = some y := ⟨_, List.getElem?_eq_getElem hjl⟩
      obtain ⟨g, off, cap', ho, hv, -, -, hcell, -⟩ := H1.out.some (by omega)
      cases hv
      obtain ⟨e1, e2⟩ := cells_at hcell hy
      have hif := HIF.out j y hy
      clear hcell hy
      by_cases hyk : y.1 ≤ k
      · have hjc := hif.1 hyk
        have hmin : min j c = j := by omega
        have hmin2 : min (j + 1) c = j + 1 := by omega
        rw [hmin]
        clear hif hmin
        go_wp2_with fail
        exact ⟨⟨j + 1, by omega, by go_num, by rw [hmin2]; go_num, trivial⟩, by simp [intOf]; omega⟩
      · have hjc : ¬ j < c := fun h => hyk (hif.2 h)
        have hmin2 : min (j + 1) c = min j c := by omega
        have hq : min j c ≤ 64 := by omega
        clear hif
        generalize hz : min j c = z at *
        go_wp2_with fail
        exact ⟨⟨j + 1, by omega, by go_num, by rw [hmin2], trivial⟩, by simp [intOf]; omega⟩
    · have hmin : min j c = c := by omega
      rw [hmin]
      go_wp2_with fail
      go_ret
      exact ⟨rfl, rfl⟩
end Go.Proofs.Ytolgapcckbcmbaa.Ref
