/- The law's walk: WindowFalls. -/
import Derived.Test.YtnohlghgihfhbaaWinLaw
import Derived.Test.YtnohlghgihfhbaaWinB64
namespace Go.Proofs.Ytnohlghgihfhbaa
open Go.RowKit

theorem take_snocD (l : List Int) (k : Nat) (h : k < l.length) : l.take (k + 1) = l.take k ++ [l.getD k 0] := by
  rw [List.take_succ_eq_append_getElem h]; simp [h]

theorem lt64 (a b : Int) : (Win64.lt a b = false) ↔ b ≤ a := by
  unfold Win64.lt
  rw [decide_eq_false_iff_not, Int.not_lt]

theorem falls_pure (m : Nat) (hm : 1 ≤ m) (l : List Int) (k : Nat) (hk : k < l.length) :
    Win64.least (lastN m (l.take k ++ [l.getD k 0])) ≤ l.getD k 0 ∧
    ((lastN m (l.take k)).isEmpty = false → l.getD k 0 ≤ Win64.least (lastN m (l.take k)) → Win64.least (lastN m (l.take k ++ [l.getD k 0])) = l.getD k 0) ∧
    ((lastN m (l.take k)).isEmpty = false → Win64.least (lastN m (l.take k)) < Win64.least (lastN m (l.take k ++ [l.getD k 0])) → m ≤ k ∧ l.getD (k - m) 0 = Win64.least (lastN m (l.take k))) := by
  have hlen : (l.take k).length = k := by simp; omega
  have hn := Win64.lastN_ne hm (l.take k) (l.getD k 0)
  obtain ⟨h1, h2⟩ := Win64.least_spec hn
  have hs := lastN_snoc (l.take k) (l.getD k 0) hm
  generalize hx : l.getD k 0 = x at *
  generalize hL' : lastN m (l.take k ++ [x]) = L' at *
  have hxm : x ∈ L' := by rw [hs]; simp
  have a1 : Win64.least L' ≤ x := (lt64 _ _).1 (h2 x hxm)
  generalize Win64.least L' = v at *
  refine ⟨a1, fun he hle => ?_, fun he hlt => ?_⟩
  · have hne : lastN m (l.take k) ≠ [] := by intro h; rw [h] at he; cases he
    obtain ⟨h3, h4⟩ := Win64.least_spec hne
    refine Int.le_antisymm a1 ?_
    rw [hs] at h1
    rcases List.mem_append.1 h1 with h1 | h1
    · have : v ∈ lastN m (l.take k) := by
        split at h1
        · exact List.mem_of_mem_tail h1
        · exact h1
      have := (lt64 _ _).1 (h4 _ this)
      omega
    · have : v = x := by simpa using h1
      exact Int.le_of_eq this.symm
  · have hne : lastN m (l.take k) ≠ [] := by intro h; rw [h] at he; cases he
    obtain ⟨h3, h4⟩ := Win64.least_spec hne
    have hnot : Win64.least (lastN m (l.take k)) ∉ L' := fun hmem => by
      have := (lt64 _ _).1 (h2 _ hmem)
      exact absurd hlt (Int.not_lt.2 this)
    rw [hs] at hnot
    simp only [List.mem_append, not_or] at hnot
    have hfull : (lastN m (l.take k)).length = m := by
      rcases Classical.em ((lastN m (l.take k)).length = m) with h | h
      · exact h
      · rw [if_neg h] at hnot
        exact absurd h3 hnot.1
    rw [if_pos hfull] at hnot
    have hmk : m ≤ k := by rw [lastN_len, hlen] at hfull; omega
    refine ⟨hmk, ?_⟩
    cases hL : lastN m (l.take k) with
    | nil => exact absurd hL hne
    | cons y t =>
      rw [hL] at h3 hnot
      have hy : Win64.least (y :: t) = y := by
        rcases List.mem_cons.1 h3 with h | h
        · exact h
        · exact absurd h hnot.1
      rw [hy]
      have h0 : (lastN m (l.take k))[0]? = some y := by rw [hL]; rfl
      unfold lastN at h0
      rw [List.getElem?_drop, hlen, List.getElem?_take] at h0
      split at h0
      · simp only [Nat.add_zero] at h0
        simp [h0]
      · cases h0

set_option maxRecDepth 100000 in
set_option maxHeartbeats 4000000 in
theorem falls_walk (n : Int) (a : Option Addr) (cap : Nat) (l : List Int) (w : World) (hr : Reads w .i64 a l) (hm : l.length ≤ maxLen) :
    Calls Try.prog 4 #[.int .i64 n, .slice a l.length cap] w fun e w' => e = .returned (.bool true) ∧ Below w.heap.size w w' := by
  unfold maxLen at hm
  have HR := Lib.hid hr
  clear hr
  have hmb := mostN_bd n
  go_enter Try.func4, Try.ntmps4
  go_wp2_with fail
  refine (most_calls n _).mono ?_
  rintro e w1 ⟨rfl, rfl⟩
  generalize hmm : mostN n = m at *
  have HM := Lib.hid hmm
  clear hmm
  go_wp2_with fail
  refine (Win64.new_good _ m (by omega) (by omega)).mono ?_
  rintro e w1 ⟨rfl, rfl⟩
  have HW0 := Lib.hid ((Win64.win_new w m).mono (fq := fun g => w.heap.size ≤ g) (fun g _ hg => by omega))
  have HL0 := Lib.hid ((Below.refl w.heap.size w).alloc (Nat.le_refl _) (.cells #[.int .i64 m, .slice none 0 0, .slice none 0 0, .slice none 0 0] 64))
  go_wp2_with fail
  refine (alive_calls _).mono ?_
  rintro e w1 ⟨rfl, K1⟩
  have HW := Lib.hid (HW0.out.kept K1 (fun _ _ h => h))
  have HL := Lib.hid (HL0.out.trans (K1.below (B := w.heap.size) HL0.out.size (fun _ h => h.elim)))
  clear K1 HW0 HL0
  by_cases h500 : (400 : Int) < l.length
  · go_wp2_with fail
    refine (alive_calls _).mono ?_
    rintro e w2 ⟨rfl, K2⟩
    have HL2 := Lib.hid (HL.out.trans (K2.below (B := w.heap.size) HL.out.size (fun _ h => h.elim)))
    clear K2
    go_wp2_with fail
    go_ret
    exact ⟨rfl, HL2.out⟩
  · go_wp2_with fail
    go_loopw [37] (fun i wr => ∃ k : Nat, k ≤ l.length ∧ i = .int .i64 k ∧ Win64.Win wr w.heap.size (fun g => w.heap.size ≤ g) m (lastN m (l.take k)) ∧ Below w.heap.size w wr) (fun i _ => l.length - (intOf i).toNat)
    case atStart => exact ⟨0, Nat.zero_le _, rfl, by rw [List.take_zero, lastN_nil]; exact HW.out, HL.out⟩
    case round =>
      obtain ⟨k, hk, rfl, hw, hl⟩ := hrel
      have HW1 := Lib.hid hw
      have HL1 := Lib.hid hl
      clear hw hl
      by_cases hlt : k < l.length
      · obtain ⟨bb, off, rfl, hbb, hcell⟩ := HR.out (by omega)
        have hc : wr.cell? ⟨bb, off + k, none⟩ = some (.int .i64 (l.getD k 0)) := (HL1.out.cell (p := ⟨bb, off + k, none⟩) hbb).trans (hcell k hlt)
        have HC := Lib.hid hcell
        clear hcell
        have HT := Lib.hid (take_snocD l k hlt)
        obtain ⟨p1, p2, p3⟩ := falls_pure m hmb.1 l k hlt
        have he1 : (lastN m (l.take k ++ [l.getD k 0])).isEmpty = false := by
          rw [Win64.lastN_isEmpty hmb.1]; simp
        have HE := Lib.hid he1
        have P2 := Lib.hid p2
        have P3 := Lib.hid p3
        clear he1 p2 p3
        generalize hx : l.getD k 0 = x at *
        have HX := Lib.hid hx
        clear hx
        go_wp2_with fail
        refine (Win64.leastC _ _ _ _ _ HW1.out).mono ?_
        rintro e w2 ⟨rfl, rfl⟩
        generalize hem : (lastN m (l.take k)).isEmpty = em at *
        have HEM := Lib.hid hem
        clear hem
        generalize hwas : Win64.least (lastN m (l.take k)) = was at *
        have HWAS := Lib.hid hwas
        clear hwas
        go_wp2_with fail
        refine (Win64.addB _ _ _ _ _ x hmb.1 hmb.2 HL1.out.size HW1.out).mono ?_
        rintro e w3 ⟨rfl, hw3, hl3⟩
        have HW3 := Lib.hid hw3
        have HL3 := Lib.hid (HL1.out.trans hl3)
        clear hw3 hl3
        go_wp2_with fail
        refine (Win64.leastC _ _ _ _ _ HW3.out).mono ?_
        rintro e w4 ⟨rfl, rfl⟩
        rw [HE.out]
        generalize hnow : Win64.least (lastN m (l.take k ++ [x])) = now at *
        have HNOW := Lib.hid hnow
        clear hnow
        cases em with
        | true =>
          go_wp2_with fail
          exact ⟨⟨k + 1, by omega, by go_num, by rw [HT.out]; exact HW3.out, HL3.out⟩, by simp [intOf]; omega⟩
        | false =>
          by_cases hup : was < now
          · obtain ⟨q1, q2⟩ := P3.out rfl hup
            have HQ2 := Lib.hid q2
            clear q2
            have hxw : ¬ x ≤ was := fun h => by have := P2.out rfl h; omega
            have hcm : w3.cell? ⟨bb, off + (k - m), none⟩ = some (.int .i64 was) := by
              have := (HL3.out.cell (p := ⟨bb, off + (k - m), none⟩) hbb).trans (HC.out (k - m) (by omega))
              rw [HQ2.out] at this; exact this
            have hkm : ¬ k < m := by omega
            have ekm : ((k : Int) - (m : Int)).toNat = k - m := by omega
            go_wp2_with fail
            refine (most_calls n _).mono ?_
            rintro e w5 ⟨rfl, rfl⟩
            rw [HM.out]
            go_wp2_with fail
            refine (most_calls n _).mono ?_
            rintro e w5 ⟨rfl, rfl⟩
            rw [HM.out]
            go_wp2_with fail
            exact ⟨⟨k + 1, by omega, by go_num, by rw [HT.out]; exact HW3.out, HL3.out⟩, by simp [intOf]; omega⟩
          · by_cases hle : x ≤ was
            · obtain rfl := P2.out rfl hle
              go_wp2_with fail
              exact ⟨⟨k + 1, by omega, by go_num, by rw [HT.out]; exact HW3.out, HL3.out⟩, by simp [intOf]; omega⟩
            · go_wp2_with fail
              exact ⟨⟨k + 1, by omega, by go_num, by rw [HT.out]; exact HW3.out, HL3.out⟩, by simp [intOf]; omega⟩
      · go_wp2_with fail
        go_ret
        exact ⟨rfl, HL1.out⟩
end Go.Proofs.Ytnohlghgihfhbaa
