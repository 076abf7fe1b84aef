/- The law's walk: WindowTexts. -/
import Derived.Test.YtnohlghgihfhbaaWinLaw
import Derived.Test.YtnohlghgihfhbaaWinBS
import Derived.Test.YtnohlghgihfhbaaRdS
namespace Go.Proofs.Ytnohlghgihfhbaa
open Go.RowKit

theorem take_snocS (l : List ByteArray) (k : Nat) (h : k < l.length) : l.take (k + 1) = l.take k ++ [l.getD k ByteArray.empty] := by
  rw [List.take_succ_eq_append_getElem h]; simp [h]
theorem getDS_at (l : List ByteArray) (k : Nat) (h : k < l.length) : l.getD k ByteArray.empty = l[k] := by simp [h]
theorem mem_take_snoc (L : List ByteArray) (j : Nat) (h : j < L.length) (a : ByteArray) : a ∈ L.take (j + 1) ↔ a ∈ L.take j ∨ L.getD j ByteArray.empty = a := by
  rw [take_snocS L j h]
  simp [eq_comm]
theorem lastS_at (m : Nat) (l : List ByteArray) (k j : Nat) (hk : k ≤ l.length) (hj : j < (lastN m (l.take k)).length) : (lastN m (l.take k)).getD j ByteArray.empty = l.getD (k - m + j) ByteArray.empty := by
  have hl : (l.take k).length = k := by simp; omega
  have hlen := lastN_len m (l.take k)
  rw [hl] at hlen
  simp only [lastN, hl, List.getD_eq_getElem?_getD, List.getElem?_drop, List.getElem?_take]
  rw [if_pos (by omega)]


theorem round_mem {f : Bool} {p q : Prop} {y a : ByteArray} {e : Bool} (h : f = true ↔ p) (h2 : q ↔ p ∨ y = a) (h3 : e = true ↔ y = a) : (f || e) = true ↔ q := by
  rw [h2, Bool.or_eq_true, h, h3]

set_option maxRecDepth 100000 in
set_option maxHeartbeats 8000000 in
theorem texts_walk (n : Int) (a : Option Addr) (cap : Nat) (l : List ByteArray) (w : World) (hr : ReadsS w a l) (hcap : l.length ≤ cap) (hcm : cap ≤ maxLen) :
    Calls Try.prog 3 #[.int .i64 n, .slice a l.length cap] w fun e w' => e = .returned (.bool true) ∧ Below w.heap.size w w' := by
  have hm : l.length ≤ maxLen := Nat.le_trans hcap hcm
  unfold maxLen at hcm
  unfold maxLen at hm
  have HR := Lib.hid hr
  clear hr
  have hmb := mostN_bd n
  go_enter Try.func3, Try.ntmps3
  go_wp2_with fail
  refine (most_calls n _).mono ?_
  rintro e w1 ⟨rfl, rfl⟩
  generalize hmm : mostN n = m at *
  have HM := Lib.hid hmm
  clear hmm
  go_wp2_with fail
  refine (WinS.new_good _ m (by omega) (by omega)).mono ?_
  rintro e w1 ⟨rfl, rfl⟩
  have HW0 := Lib.hid ((WinS.win_new w m).mono (fq := fun g => w.heap.size ≤ g) (fun g _ hg => by omega))
  have HL0 := Lib.hid ((Below.refl w.heap.size w).alloc (Nat.le_refl _) (.cells #[.int .i64 m, .slice none 0 0, .slice none 0 0, .slice none 0 0] 51))
  go_wp2_with fail
  refine (alive_calls _).mono ?_
  rintro e w1 ⟨rfl, K1⟩
  have HW := Lib.hid (HW0.out.kept K1 (fun _ _ h => h))
  have HL := Lib.hid (HL0.out.trans (K1.below (B := w.heap.size) HL0.out.size (fun _ h => h.elim)))
  clear K1 HW0 HL0
  by_cases h500 : (200 : Int) < l.length
  ·
    go_wp2_with fail
    refine (alive_calls _).mono ?_
    rintro e w2 ⟨rfl, K2⟩
    have HL2 := Lib.hid (HL.out.trans (K2.below (B := w.heap.size) HL.out.size (fun _ h => h.elim)))
    clear K2
    go_wp2_with fail
    go_ret
    exact ⟨rfl, HL2.out⟩
  · go_wp2_with fail
    go_loopw [41] (fun i wr => ∃ k : Nat, k ≤ l.length ∧ i = .int .i64 k ∧ WinS.Win wr w.heap.size (fun g => w.heap.size ≤ g) m (lastN m (l.take k)) ∧ Below w.heap.size w wr) (fun i _ => l.length - (intOf i).toNat)
    case atStart => exact ⟨0, Nat.zero_le _, rfl, by rw [List.take_zero, lastN_nil]; exact HW.out, HL.out⟩
    case round =>
      obtain ⟨k, hk, rfl, hw, hl⟩ := hrel
      have HW1 := Lib.hid hw
      have HL1 := Lib.hid hl
      clear hw hl HW HL
      by_cases hlt : k < l.length
      · obtain ⟨bb, off, rfl, hbb, hcell⟩ := HR.out (by omega)
        have hc : wr.cell? ⟨bb, off + k, none⟩ = some (.string (l.getD k ByteArray.empty)) := (HL1.out.cell (p := ⟨bb, off + k, none⟩) hbb).trans (hcell k hlt)
        have HC := Lib.hid hcell
        clear hcell
        have HT := Lib.hid (take_snocS l k hlt)
        generalize hx : l.getD k ByteArray.empty = x at *
        have HX := Lib.hid hx
        clear hx
        go_wp2_with fail
        refine (WinS.addB _ _ _ _ _ x hmb.1 hmb.2 HL1.out.size HW1.out).mono ?_
        rintro e w3 ⟨rfl, hw3, hl3⟩
        rw [← HT.out] at hw3
        have HW3 := Lib.hid hw3
        have HL3 := Lib.hid (HL1.out.trans hl3)
        clear hw3 hl3
        have hlk : (l.take (k + 1)).length = k + 1 := by simp; omega
        have hlen := lastN_len m (l.take (k + 1))
        rw [hlk] at hlen
        have hne : lastN m (l.take (k + 1)) ≠ [] := by rw [HT.out]; exact WinS.lastN_ne hmb.1 _ _
        obtain ⟨i1, i2⟩ := WinS.least_spec hne
        obtain ⟨i3, i4⟩ := WinS.greatest_spec hne
        have hcells : ∀ j, j < (lastN m (l.take (k + 1))).length → w3.cell? ⟨bb, off + (k + 1 - m) + j, none⟩ = some (.string ((lastN m (l.take (k + 1))).getD j ByteArray.empty)) := by
          intro j hj
          rw [lastS_at m l (k + 1) j (by omega) hj, Nat.add_assoc]
          exact (HL3.out.cell (p := ⟨bb, off + (k + 1 - m + j), none⟩) hbb).trans (HC.out (k + 1 - m + j) (by omega))
        have hlen2 : (lastN m (l.take (k + 1))).length = k + 1 - (k + 1 - m) := by omega
        have hemp : (lastN m (l.take (k + 1))).isEmpty = false := by rw [HT.out, WinS.lastN_isEmpty hmb.1]; simp
        generalize hLL : lastN m (l.take (k + 1)) = L at *
        have HW := Lib.hid hcells
        have HI1 := Lib.hid i1
        have HI2 := Lib.hid i3
        have HMIN := Lib.hid i2
        have HMAX := Lib.hid i4
        have HE := Lib.hid hemp
        have HLL := Lib.hid hLL
        have HLE := Lib.hid hlen2
        clear hcells i1 i2 i3 i4 hemp hLL hne hlk
        generalize hlo : WinS.least L = lo at *
        generalize hhi : WinS.greatest L = hi at *
        have HLO := Lib.hid hlo
        have HHI := Lib.hid hhi
        clear hlo hhi
        go_wp2_with fail
        refine (WinS.leastC _ _ _ _ _ HW3.out).mono ?_
        rintro e w4 ⟨rfl, rfl⟩
        rw [HLO.out, HE.out]
        go_wp2_with fail
        refine (WinS.greatestC _ _ _ _ _ HW3.out).mono ?_
        rintro e w4 ⟨rfl, rfl⟩
        rw [HHI.out, HE.out]
        go_wp2_with fail
        refine (most_calls n _).mono ?_
        rintro e w4 ⟨rfl, rfl⟩
        rw [HM.out]
        by_cases hmk : m < k + 1
        · have ekm : ((k : Int) + 1 - (m : Int)).toNat = k + 1 - m := by omega
          have ncm : ¬ cap = k + 1 - m := by omega
          have HN : Hid (L.length = k + 1 - (k + 1 - m)) := Lib.hid hlen2
          have hq64 : k + 1 - (k + 1 - m) ≤ 64 := by omega
          clear hlen2 hlen
          go_wp2_with fail
          generalize off + (k + 1 - m) = o2 at *
          generalize k + 1 - (k + 1 - m) = q at *
          go_loopw [13, 14, 70] (fun u v i wr => ∃ (j : Nat) (f g : Bool), j ≤ q ∧ i = .int .i64 j ∧ u = .bool f ∧ v = .bool g ∧ (f = true ↔ lo ∈ L.take j) ∧ (g = true ↔ hi ∈ L.take j) ∧ w3 = wr) (fun _ _ i _ => q - (intOf i).toNat)
          case atStart => exact ⟨0, false, false, Nat.zero_le _, rfl, rfl, rfl, by simp, by simp, rfl⟩
          case round =>
            obtain ⟨j, f, g, hj, rfl, rfl, rfl, hf, hg, rfl⟩ := hrel
            have HF := Lib.hid hf
            have HG := Lib.hid hg
            clear hf hg
            by_cases hjl : j < q
            · have hjL : j < L.length := by rw [HN.out]; exact hjl
              have cj := HW.out j hjL
              have hmem : L.getD j ByteArray.empty ∈ L := by rw [getDS_at _ _ hjL]; exact List.getElem_mem _
              have t1 : Op.bytesLess (L.getD j ByteArray.empty).toList lo.toList = false := HMIN.out _ hmem
              have t2 : (!Op.bytesLess (L.getD j ByteArray.empty).toList hi.toList && !(L.getD j ByteArray.empty).toList == hi.toList) = false := by
                rw [← Bool.not_or, gtS]; exact HMAX.out _ hmem
              have HM1 := Lib.hid (mem_take_snoc L j hjL lo)
              have HM2 := Lib.hid (mem_take_snoc L j hjL hi)
              clear hmem hjL
              generalize L.getD j ByteArray.empty = y at *
              have e1 : Hid ((y.toList == lo.toList) = true ↔ y = lo) := Lib.hid ⟨fun h => toList_inj (by simpa using h), fun h => by rw [h]; simp⟩
              have e2 : Hid ((y.toList == hi.toList) = true ↔ y = hi) := Lib.hid ⟨fun h => toList_inj (by simpa using h), fun h => by rw [h]; simp⟩
              cases f <;> cases g
              all_goals
                go_wp2_with fail
                first
                  | exact ⟨⟨j + 1, _, _, by omega, by go_num, rfl, rfl, round_mem HF.out HM1.out e1.out, round_mem HG.out HM2.out e2.out, trivial⟩, by simp [intOf]; omega⟩
                  | skip
            · obtain rfl : j = q := by omega
              have f1 : f = true := HF.out.2 (by rw [← HN.out, List.take_length]; exact HI1.out)
              have g1 : g = true := HG.out.2 (by rw [← HN.out, List.take_length]; exact HI2.out)
              subst f1
              subst g1
              go_wp2_with fail
              exact ⟨⟨k + 1, by omega, by go_num, by rw [HLL.out]; exact HW3.out, HL3.out⟩, by simp [intOf]; omega⟩
        · have hmk' : ¬ (0 : Int) < (k : Int) + 1 - (m : Int) := by omega
          have ek0 : k + 1 - m = 0 := by omega
          rw [ek0, Nat.add_zero] at HW
          have HN : Hid (L.length = k + 1) := Lib.hid (by omega)
          clear hlen2 hlen ek0
          go_wp2_with fail
          go_loopw [13, 14, 70] (fun u v i wr => ∃ (j : Nat) (f g : Bool), j ≤ (k + 1) ∧ i = .int .i64 j ∧ u = .bool f ∧ v = .bool g ∧ (f = true ↔ lo ∈ L.take j) ∧ (g = true ↔ hi ∈ L.take j) ∧ w3 = wr) (fun _ _ i _ => (k + 1) - (intOf i).toNat)
          case atStart => exact ⟨0, false, false, Nat.zero_le _, rfl, rfl, rfl, by simp, by simp, rfl⟩
          case round =>
            obtain ⟨j, f, g, hj, rfl, rfl, rfl, hf, hg, rfl⟩ := hrel
            have HF := Lib.hid hf
            have HG := Lib.hid hg
            clear hf hg
            by_cases hjl : j < (k + 1)
            · have hjL : j < L.length := by rw [HN.out]; exact hjl
              have cj := HW.out j hjL
              have hmem : L.getD j ByteArray.empty ∈ L := by rw [getDS_at _ _ hjL]; exact List.getElem_mem _
              have t1 : Op.bytesLess (L.getD j ByteArray.empty).toList lo.toList = false := HMIN.out _ hmem
              have t2 : (!Op.bytesLess (L.getD j ByteArray.empty).toList hi.toList && !(L.getD j ByteArray.empty).toList == hi.toList) = false := by
                rw [← Bool.not_or, gtS]; exact HMAX.out _ hmem
              have HM1 := Lib.hid (mem_take_snoc L j hjL lo)
              have HM2 := Lib.hid (mem_take_snoc L j hjL hi)
              clear hmem hjL
              generalize L.getD j ByteArray.empty = y at *
              have e1 : Hid ((y.toList == lo.toList) = true ↔ y = lo) := Lib.hid ⟨fun h => toList_inj (by simpa using h), fun h => by rw [h]; simp⟩
              have e2 : Hid ((y.toList == hi.toList) = true ↔ y = hi) := Lib.hid ⟨fun h => toList_inj (by simpa using h), fun h => by rw [h]; simp⟩
              cases f <;> cases g
              all_goals
                go_wp2_with fail
                first
                  | exact ⟨⟨j + 1, _, _, by omega, by go_num, rfl, rfl, round_mem HF.out HM1.out e1.out, round_mem HG.out HM2.out e2.out, trivial⟩, by simp [intOf]; omega⟩
                  | skip
            · obtain rfl : j = (k + 1) := by omega
              have f1 : f = true := HF.out.2 (by rw [← HN.out, List.take_length]; exact HI1.out)
              have g1 : g = true := HG.out.2 (by rw [← HN.out, List.take_length]; exact HI2.out)
              subst f1
              subst g1
              go_wp2_with fail
              exact ⟨⟨k + 1, by omega, by go_num, by rw [HLL.out]; exact HW3.out, HL3.out⟩, by simp [intOf]; omega⟩
      · go_wp2_with fail
        go_ret
        exact ⟨rfl, HL1.out⟩
end Go.Proofs.Ytnohlghgihfhbaa
