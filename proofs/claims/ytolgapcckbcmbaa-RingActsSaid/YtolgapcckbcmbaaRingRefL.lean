/- The document's ring (afterimageref11): Lay. -/
import Derived.Test.YtolgapcckbcmbaaRingRef
import Derived.Test.YtolgapcckbcmbaaRingLayS
import Derived.Deep.Cut
namespace Go.Proofs.Ytolgapcckbcmbaa.Ref
open Go.RowKit
open RingS (enc enc_len enc_one cells_at layM_pass infoE)


def LayPost (w : World) (p : Nat) (fp : Nat → Prop) (most : Nat) (R : RingM ByteArray × Int × Bool × Int) (e : Ending) (w' : World) : Prop :=
  e = .returned (.tuple #[.int .i64 R.2.1, .bool R.2.2.1, .int .i64 R.2.2.2]) ∧ Ref w' p (fun g => fp g ∨ (w.heap.size ≤ g ∧ g < w'.heap.size)) most R.1 ∧ Kept fp w w'

theorem lay_still {w w' : World} {p : Nat} {fp : Nat → Prop} {most : Nat} {r : RingM ByteArray} {c : Int} (h : Ref w p fp most r) (k : Kept (fun _ => False) w w') : LayPost w p fp most (r, 0, false, c) (.returned (.tuple #[.int .i64 0, .bool false, .int .i64 c])) w' :=
  ⟨rfl, (h.kept k (fun _ _ h => h)).mono (fun _ _ h => .inl h), k.mono (fun _ _ h => h.elim)⟩

theorem miss_gt {l : List (Int × ByteArray)} {k : Int} {y : Int × ByteArray} (hs : Srt l) (ht : there l k = false) (hy : l[plc l k]? = some y) : k < y.1 := by
  have h1 := plc_ge l k _ y hs (Nat.le_refl _) hy
  have h2 : y.1 ≠ k := fun e => by
    have := (there_iff l k hs).2 ⟨y.2, by rw [← e]; exact List.mem_of_getElem? hy⟩
    rw [ht] at this
    cases this
  omega


set_option maxHeartbeats 2000000 in
theorem lay_there (w : World) (p : Nat) (fp : Nat → Prop) (most : Nat) (r : RingM ByteArray) (k : Int) (x : ByteArray) (h : Ref w p fp most r) (hm : most ≤ 64) (ht : there r.l k = true) :
    Calls Try.prog 27 #[.pointer (some ⟨p, 0, none⟩), .int .i64 k, .string x] w (LayPost w p fp most (r, 0, false, 12)) := by
  have HR := Lib.hid h
  obtain ⟨y, hy, hyk⟩ := RingS.there_some ht
  have hql := get_lt hy
  have HLT : Hid (∀ (t : Nat) (y : Int × ByteArray), t < plc r.l k → r.l[t]? = some y → y.1 < k) := Lib.hid (fun t y h1 h2 => plc_lt r.l k t y h1 h2)
  generalize plc r.l k = q at *
  have HY := Lib.hid hy
  clear hy ht
  obtain ⟨v, o, hb, h1, hp, d1, hs, hl⟩ := h
  obtain ⟨a, cap, rfl, hcap, hcm⟩ := h1.form
  unfold maxLen at hcm
  have c0 := hb.cell (i := 0) rfl
  have c1 := hb.cell (i := 1) rfl
  have c2 := hb.cell (i := 2) rfl
  have c3 := hb.cell (i := 3) rfl
  have HB := Lib.hid hb
  have H1 := Lib.hid h1
  have HS := Lib.hid hs
  have D1 := Lib.hid d1
  clear hb h1 hs d1
  go_enter Try.func27, Try.ntmps27
  go_wp2_with fail
  go_loopw [9] (fun i wr => ∃ j : Nat, j ≤ q ∧ i = .int .i64 j ∧ w = wr) (fun i _ => q - (intOf i).toNat)
  case atStart => exact ⟨0, Nat.zero_le _, rfl, rfl⟩
  case round =>
    obtain ⟨j, hj, rfl, rfl⟩ := hrel
    by_cases hjq : j < q
    · obtain ⟨y, hy⟩ : ∃ y, r.l[j]? = some y := ⟨_, List.getElem?_eq_getElem (by omega)⟩
      have hlt : y.1 < k := HLT.out j y hjq hy
      obtain ⟨g, off, cap', ho, hv, -, -, hcell, -⟩ := H1.out.some (by omega)
      cases hv
      obtain ⟨e1, e2⟩ := cells_at hcell hy
      clear hcell hy
      have hjl : j < r.l.length := by omega
      go_wp2_with fail
      exact ⟨⟨j + 1, by omega, by go_num, trivial⟩, by simp [intOf]; omega⟩
    · obtain rfl : j = q := by omega
      obtain ⟨g, off, cap', ho, hv, -, -, hcell, -⟩ := H1.out.some (by omega)
      cases hv
      obtain ⟨e1, e2⟩ := cells_at hcell HY.out
      clear hcell
      go_wp2_with fail
      go_ret3
      exact lay_still HR.out (Kept.refl _ _)


set_option maxHeartbeats 2000000 in
theorem lay_low (w : World) (p : Nat) (fp : Nat → Prop) (most : Nat) (r : RingM ByteArray) (k : Int) (x : ByteArray) (h : Ref w p fp most r) (hm : most ≤ 64) (ht : there r.l k = false) (hg : r.gone = true) (hf : k ≤ r.floor) :
    Calls Try.prog 27 #[.pointer (some ⟨p, 0, none⟩), .int .i64 k, .string x] w (LayPost w p fp most (r, 0, false, 13)) := by
  have HR := Lib.hid h
  have hpl := plc_le r.l k
  have HLT : Hid (∀ (t : Nat) (y : Int × ByteArray), t < plc r.l k → r.l[t]? = some y → y.1 < k) := Lib.hid (fun t y h1 h2 => plc_lt r.l k t y h1 h2)
  have HGT : Hid (∀ y : Int × ByteArray, r.l[plc r.l k]? = some y → k < y.1) := Lib.hid (fun y hy => miss_gt h.srt ht hy)
  clear ht
  generalize plc r.l k = q at *
  obtain ⟨v, o, hb, h1, hp, d1, hs, hl⟩ := h
  obtain ⟨a, cap, rfl, hcap, hcm⟩ := h1.form
  unfold maxLen at hcm
  have c0 := hb.cell (i := 0) rfl
  have c1 := hb.cell (i := 1) rfl
  have c2 := hb.cell (i := 2) rfl
  have c3 := hb.cell (i := 3) rfl
  have HB := Lib.hid hb
  have H1 := Lib.hid h1
  have HS := Lib.hid hs
  have D1 := Lib.hid d1
  clear hb h1 hs d1
  rw [hg] at c3
  go_enter Try.func27, Try.ntmps27
  go_wp2_with fail
  go_loopw [9] (fun i wr => ∃ j : Nat, j ≤ q ∧ i = .int .i64 j ∧ w = wr) (fun i _ => q - (intOf i).toNat)
  case atStart => exact ⟨0, Nat.zero_le _, rfl, rfl⟩
  case round =>
    obtain ⟨j, hj, rfl, rfl⟩ := hrel
    by_cases hjq : j < q
    · obtain ⟨y, hy⟩ : ∃ y, r.l[j]? = some y := ⟨_, List.getElem?_eq_getElem (by omega)⟩
      have hlt : y.1 < k := HLT.out j y hjq hy
      obtain ⟨g, off, cap', ho, hv, -, -, hcell, -⟩ := H1.out.some (by omega)
      cases hv
      obtain ⟨e1, e2⟩ := cells_at hcell hy
      clear hcell hy
      have hjl : j < r.l.length := by omega
      go_wp2_with fail
      exact ⟨⟨j + 1, by omega, by go_num, trivial⟩, by simp [intOf]; omega⟩
    · obtain rfl : j = q := by omega
      by_cases hqn : j < r.l.length
      · obtain ⟨y, hy⟩ : ∃ y, r.l[j]? = some y := ⟨_, List.getElem?_eq_getElem hqn⟩
        have hgt := HGT.out y hy
        obtain ⟨g, off, cap', ho, hv, -, -, hcell, -⟩ := H1.out.some (by omega)
        cases hv
        obtain ⟨e1, e2⟩ := cells_at hcell hy
        have hne : ¬ y.1 = k := by omega
        clear hcell hy
        go_wp2_with fail
        go_quiet (fail)
        go_wp2_with fail
        go_ret3
        exact lay_still HR.out ((Kept.refl _ _).drewN _)
      · go_wp2_with fail
        go_quiet (fail)
        go_wp2_with fail
        go_ret3
        exact lay_still HR.out ((Kept.refl _ _).drewN _)


set_option maxHeartbeats 2000000 in
theorem lay_full (w : World) (p : Nat) (fp : Nat → Prop) (most : Nat) (r : RingM ByteArray) (k : Int) (x : ByteArray) (h : Ref w p fp most r) (hm : most ≤ 64) (ht : there r.l k = false) (hg : r.gone = true → ¬ k ≤ r.floor) (hq : plc r.l k = 0) (hf : r.l.length = most) :
    Calls Try.prog 27 #[.pointer (some ⟨p, 0, none⟩), .int .i64 k, .string x] w (LayPost w p fp most (r, 0, false, 13)) := by
  have HR := Lib.hid h
  have hpl := plc_le r.l k
  have HLT : Hid (∀ (t : Nat) (y : Int × ByteArray), t < plc r.l k → r.l[t]? = some y → y.1 < k) := Lib.hid (fun t y h1 h2 => plc_lt r.l k t y h1 h2)
  have HGT : Hid (∀ y : Int × ByteArray, r.l[plc r.l k]? = some y → k < y.1) := Lib.hid (fun y hy => miss_gt h.srt ht hy)
  clear ht
  rw [hq] at HLT HGT
  clear hpl
  obtain ⟨v, o, hb, h1, hp, d1, hs, hl⟩ := h
  obtain ⟨a, cap, rfl, hcap, hcm⟩ := h1.form
  unfold maxLen at hcm
  have c0 := hb.cell (i := 0) rfl
  have c1 := hb.cell (i := 1) rfl
  have c2 := hb.cell (i := 2) rfl
  have c3 := hb.cell (i := 3) rfl
  have HB := Lib.hid hb
  have H1 := Lib.hid h1
  have HS := Lib.hid hs
  have D1 := Lib.hid d1
  clear hb h1 hs d1
  cases hgg : r.gone with
  | false =>
    rw [hgg] at c3
    go_enter Try.func27, Try.ntmps27
    go_wp2_with fail
    go_loopw [9] (fun i wr => ∃ j : Nat, j = 0 ∧ i = .int .i64 j ∧ w = wr) (fun i _ => 0)
    case atStart => exact ⟨0, rfl, rfl, rfl⟩
    case round =>
      obtain ⟨j, hj, rfl, rfl⟩ := hrel
      subst hj
      by_cases hqn : 0 < r.l.length
      · obtain ⟨y, hy⟩ : ∃ y, r.l[0]? = some y := ⟨_, List.getElem?_eq_getElem hqn⟩
        have hgt := HGT.out y hy
        obtain ⟨g, off, cap', ho, hv, -, -, hcell, -⟩ := H1.out.some (by omega)
        cases hv
        obtain ⟨e1, e2⟩ := cells_at hcell hy
        try simp only [Nat.zero_mul, Nat.add_zero] at e1 e2
        have hne : ¬ y.1 = k := by omega
        clear hcell hy
        go_wp2_with fail
        go_quiet (fail)
        go_wp2_with fail
        go_ret3
        exact lay_still HR.out ((Kept.refl _ _).drewN _)
      · go_wp2_with fail
        go_quiet (fail)
        go_wp2_with fail
        go_ret3
        exact lay_still HR.out ((Kept.refl _ _).drewN _)
  | true =>
    rw [hgg] at c3
    have hfl : ¬ k ≤ r.floor := hg hgg
    go_enter Try.func27, Try.ntmps27
    go_wp2_with fail
    go_loopw [9] (fun i wr => ∃ j : Nat, j = 0 ∧ i = .int .i64 j ∧ w = wr) (fun i _ => 0)
    case atStart => exact ⟨0, rfl, rfl, rfl⟩
    case round =>
      obtain ⟨j, hj, rfl, rfl⟩ := hrel
      subst hj
      by_cases hqn : 0 < r.l.length
      · obtain ⟨y, hy⟩ : ∃ y, r.l[0]? = some y := ⟨_, List.getElem?_eq_getElem hqn⟩
        have hgt := HGT.out y hy
        obtain ⟨g, off, cap', ho, hv, -, -, hcell, -⟩ := H1.out.some (by omega)
        cases hv
        obtain ⟨e1, e2⟩ := cells_at hcell hy
        try simp only [Nat.zero_mul, Nat.add_zero] at e1 e2
        have hne : ¬ y.1 = k := by omega
        clear hcell hy
        go_wp2_with fail
        go_quiet (fail)
        go_wp2_with fail
        go_ret3
        exact lay_still HR.out ((Kept.refl _ _).drewN _)
      · go_wp2_with fail
        go_quiet (fail)
        go_wp2_with fail
        go_ret3
        exact lay_still HR.out ((Kept.refl _ _).drewN _)
end Go.Proofs.Ytolgapcckbcmbaa.Ref
