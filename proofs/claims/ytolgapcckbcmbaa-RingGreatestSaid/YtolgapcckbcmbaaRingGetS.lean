/- Get and Until of a ring at string. -/
import Derived.Test.YtolgapcckbcmbaaRingS
namespace Go.Proofs.Ytolgapcckbcmbaa.RingS
open Go.RowKit


/-- What Until counts. -/
def untilM (l : List (Int × ByteArray)) (k : Int) : Nat := plc l k + (if there l k then 1 else 0)
/-- What Get tells. -/
def getM (l : List (Int × ByteArray)) (k : Int) : ByteArray := if there l k then (match l[plc l k]? with | some y => y.2 | none => ByteArray.empty) else ByteArray.empty

theorem there_some {l : List (Int × ByteArray)} {k : Int} (h : there l k = true) : ∃ y, l[plc l k]? = some y ∧ y.1 = k := by
  unfold there at h
  split at h
  · rename_i y hy
    exact ⟨y, hy, by simpa using h⟩
  · cases h

theorem until_nil (w : World) (k : Int) : Calls Try.prog 25 #[.pointer none, .int .i64 k] w fun e w' => e = .returned (.int .i64 0) ∧ w' = w := by
  go_enter Try.func25, Try.ntmps25
  go_wp2
  go_ret
  exact ⟨rfl, rfl⟩
theorem until_calls (w : World) (p : Nat) (fp : Nat → Prop) (most : Nat) (r : RingM ByteArray) (k : Int) (h : Ring w p fp most r) (hm : most ≤ 64) :
    Calls Try.prog 25 #[.pointer (some ⟨p, 0, none⟩), .int .i64 k] w fun e w' => e = .returned (.int .i64 (untilM r.l k)) ∧ Kept (fun _ => False) w w' := by
  have HP := Lib.hid (place_calls w p fp most r k h hm)
  have hpl : plc r.l k ≤ r.l.length := plc_le _ _
  have hlm := h.len
  clear h
  cases ht : there r.l k with
  | true =>
    rw [ht] at HP
    have eu : Hid (untilM r.l k = plc r.l k + 1) := Lib.hid (by unfold untilM; rw [ht]; rfl)
    clear ht
    generalize plc r.l k = q at *
    go_enter Try.func25, Try.ntmps25
    go_wp2_with fail
    refine (HP.out).mono ?_
    rintro e w' ⟨rfl, hk⟩
    have HK := Lib.hid hk
    clear hk
    go_wp2_with fail
    go_ret
    exact ⟨by rw [eu.out]; congr 2, HK.out⟩
  | false =>
    rw [ht] at HP
    have eu : Hid (untilM r.l k = plc r.l k) := Lib.hid (by unfold untilM; rw [ht]; rfl)
    clear ht
    generalize plc r.l k = q at *
    go_enter Try.func25, Try.ntmps25
    go_wp2_with fail
    refine (HP.out).mono ?_
    rintro e w' ⟨rfl, hk⟩
    have HK := Lib.hid hk
    clear hk
    go_wp2_with fail
    go_ret
    exact ⟨by rw [eu.out]; rfl, HK.out⟩

theorem get_nil (w : World) (k : Int) : Calls Try.prog 26 #[.pointer none, .int .i64 k] w fun e w' => e = .returned (.tuple #[Value.string ByteArray.empty, .bool false]) ∧ w' = w := by
  go_enter Try.func26, Try.ntmps26
  go_wp2
  go_ret2
  exact ⟨rfl, rfl⟩
theorem get_calls (w : World) (p : Nat) (fp : Nat → Prop) (most : Nat) (r : RingM ByteArray) (k : Int) (h : Ring w p fp most r) (hm : most ≤ 64) :
    Calls Try.prog 26 #[.pointer (some ⟨p, 0, none⟩), .int .i64 k] w fun e w' => e = .returned (.tuple #[Value.string (getM r.l k), .bool (there r.l k)]) ∧ Kept (fun _ => False) w w' := by
  have HP := Lib.hid (place_calls w p fp most r k h hm)
  cases ht : there r.l k with
  | true =>
    rw [ht] at HP
    obtain ⟨y, hy, -⟩ := there_some ht
    have hil : plc r.l k < r.l.length := by
      rcases Nat.lt_or_ge (plc r.l k) r.l.length with h | h
      · exact h
      · rw [List.getElem?_eq_none h] at hy; cases hy
    have eu : Hid (getM r.l k = y.2) := Lib.hid (by unfold getM; rw [ht, hy]; rfl)
    clear ht
    obtain ⟨v, o, hb, h1, hp, d1, hs, hl⟩ := h
    obtain ⟨a, cap, rfl, hcap, hcm⟩ := h1.form
    unfold maxLen at hcm
    have c0 := hb.cell (i := 0) rfl
    have c1 := hb.cell (i := 1) rfl
    have c2 := hb.cell (i := 2) rfl
    have c3 := hb.cell (i := 3) rfl
    have HB := Lib.hid hb
    have H1 := Lib.hid h1
    have HS := Lib.hid hs
    have D1 := Lib.hid d1
    clear hb h1 hs d1
    obtain ⟨g, off, cap', ho, hv, -, -, hcell, -⟩ := H1.out.some (by omega)
    cases hv
    obtain ⟨e1, e2⟩ := cells_at hcell hy
    have gp := (D1.out g ho).2
    clear hcell hy
    generalize plc r.l k = q at *
    go_enter Try.func26, Try.ntmps26
    go_wp2_with fail
    refine (HP.out).mono ?_
    rintro e w' ⟨rfl, hk⟩
    have HK := Lib.hid hk
    have c0' := hk.cell c0 (fun h => h)
    have e2' := hk.cell e2 (fun h => h)
    clear hk
    go_wp2_with fail
    go_ret2
    exact ⟨by rw [eu.out]; rfl, HK.out⟩
  | false =>
    rw [ht] at HP
    have eu : Hid (getM r.l k = ByteArray.empty) := Lib.hid (by unfold getM; rw [ht]; rfl)
    clear ht h
    generalize plc r.l k = q at *
    go_enter Try.func26, Try.ntmps26
    go_wp2_with fail
    refine (HP.out).mono ?_
    rintro e w' ⟨rfl, hk⟩
    have HK := Lib.hid hk
    clear hk
    go_wp2_with fail
    go_ret2
    exact ⟨by rw [eu.out]; rfl, HK.out⟩
end Go.Proofs.Ytolgapcckbcmbaa.RingS
