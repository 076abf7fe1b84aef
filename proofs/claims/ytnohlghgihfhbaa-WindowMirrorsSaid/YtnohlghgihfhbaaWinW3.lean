/- The law's walk: WindowMirrors. -/
import Derived.Test.YtnohlghgihfhbaaWinW2
import Derived.Test.YtnohlghgihfhbaaWinTwo64
import Derived.Test.YtnohlghgihfhbaaWinLen64
namespace Go.Proofs.Ytnohlghgihfhbaa
open Go.RowKit

theorem lt64t (a b : Int) (h : Win64.lt a b = false) : b ≤ a := (lt64 a b).1 h
theorem mirror_least (L : List Int) (h : L ≠ []) : Win64.least (L.map (fun x => -x)) = -Win64.greatest L := by
  have hn : L.map (fun x => -x) ≠ [] := by simpa using h
  obtain ⟨h1, h2⟩ := Win64.least_spec hn
  obtain ⟨h3, h4⟩ := Win64.greatest_spec h
  obtain ⟨y, hy, hy2⟩ := List.mem_map.1 h1
  have a1 := lt64t _ _ (h2 (-Win64.greatest L) (List.mem_map.2 ⟨_, h3, rfl⟩))
  have a2 := lt64t _ _ (h4 y hy)
  omega
theorem mirror_greatest (L : List Int) (h : L ≠ []) : Win64.greatest (L.map (fun x => -x)) = -Win64.least L := by
  have hn : L.map (fun x => -x) ≠ [] := by simpa using h
  obtain ⟨h1, h2⟩ := Win64.greatest_spec hn
  obtain ⟨h3, h4⟩ := Win64.least_spec h
  obtain ⟨y, hy, hy2⟩ := List.mem_map.1 h1
  have a1 := lt64t _ _ (h2 (-Win64.least L) (List.mem_map.2 ⟨_, h3, rfl⟩))
  have a2 := lt64t _ _ (h4 y hy)
  omega
theorem least_le_greatest (L : List Int) (h : L ≠ []) : Win64.least L ≤ Win64.greatest L :=
  lt64t _ _ ((Win64.greatest_spec h).2 _ (Win64.least_spec h).1)
theorem lastN_map {α β : Type} (m : Nat) (f : α → β) (l : List α) : lastN m (l.map f) = (lastN m l).map f := by
  simp [lastN, List.map_drop]


set_option maxRecDepth 100000 in
set_option maxHeartbeats 4000000 in
theorem mirrors_walk (n : Int) (a : Option Addr) (cap : Nat) (l : List Int) (w : World) (hr : Reads w .i32 a l) (hm : l.length ≤ maxLen) (hwf : ∀ x ∈ l, (Lit.int .i32 x).wf = true) :
    Calls Try.prog 5 #[.int .i64 n, .slice a l.length cap] w fun e w' => e = .returned (.bool true) ∧ Below w.heap.size w w' := by
  have HWF := Lib.hid hwf
  clear hwf
  unfold maxLen at hm
  have HR := Lib.hid hr
  clear hr
  have hmb := mostN_bd n
  go_enter Try.func5, Try.ntmps5
  go_wp2_with fail
  refine (most_calls n _).mono ?_
  rintro e w1 ⟨rfl, rfl⟩
  generalize hmm : mostN n = m at *
  have HM := Lib.hid hmm
  clear hmm
  go_wp2_with fail
  refine (Win64.new_good _ m (by omega) (by omega)).mono ?_
  rintro e w1 ⟨rfl, rfl⟩
  go_wp2_with fail
  refine (most_calls n _).mono ?_
  rintro e w1 ⟨rfl, rfl⟩
  rw [HM.out]
  go_wp2_with fail
  refine (Win64.new_good _ m (by omega) (by omega)).mono ?_
  rintro e w1 ⟨rfl, rfl⟩
  have HW0 := Lib.hid (Win64.two_new w m _ _ rfl rfl)
  have HL0 := Lib.hid (((Below.refl w.heap.size w).alloc (Nat.le_refl _) (.cells #[.int .i64 m, .slice none 0 0, .slice none 0 0, .slice none 0 0] 64)).alloc (by simp) (.cells #[.int .i64 m, .slice none 0 0, .slice none 0 0, .slice none 0 0] 64))
  go_wp2_with fail
  refine (alive_calls _).mono ?_
  rintro e w1 ⟨rfl, K1⟩
  have HW := Lib.hid (HW0.out.kept K1)
  have HL := Lib.hid (HL0.out.trans (K1.below (B := w.heap.size) HL0.out.size (fun _ h => h.elim)))
  clear K1 HW0 HL0
  by_cases h500 : (300 : Int) < l.length
  ·
    go_wp2_with fail
    refine (alive_calls _).mono ?_
    rintro e w2 ⟨rfl, K2⟩
    have HL2 := Lib.hid (HL.out.trans (K2.below (B := w.heap.size) HL.out.size (fun _ h => h.elim)))
    clear K2
    go_wp2_with fail
    go_ret
    exact ⟨rfl, HL2.out⟩
  · go_wp2_with fail
    go_loopw [57] (fun i wr => ∃ k : Nat, k ≤ l.length ∧ i = .int .i64 k ∧ Win64.Two w.heap.size wr w.heap.size (w.heap.size + 1) m (lastN m (l.take k)) (lastN m ((l.take k).map (fun x => -x))) ∧ Below w.heap.size w wr) (fun i _ => l.length - (intOf i).toNat)
    case atStart => exact ⟨0, Nat.zero_le _, rfl, by rw [List.take_zero, List.map_nil, lastN_nil]; exact HW.out, HL.out⟩
    case round =>
      obtain ⟨k, hk, rfl, hw, hl⟩ := hrel
      have HW1 := Lib.hid hw
      have HL1 := Lib.hid hl
      clear hw hl
      by_cases hlt : k < l.length
      · obtain ⟨bb, off, rfl, hbb, hcell⟩ := HR.out (by omega)
        have hc : wr.cell? ⟨bb, off + k, none⟩ = some (.int .i32 (l.getD k 0)) := (HL1.out.cell (p := ⟨bb, off + k, none⟩) hbb).trans (hcell k hlt)
        clear hcell
        have hxb : -2147483648 ≤ l.getD k 0 ∧ l.getD k 0 ≤ 2147483647 := by
          have : l.getD k 0 = l[k] := by simp [hlt]
          rw [this]; exact i32_bd (HWF.out _ (List.getElem_mem hlt))
        have HT := Lib.hid (take_snocD l k hlt)
        generalize hx : l.getD k 0 = x at *
        have hn1 : lastN m (l.take k ++ [x]) ≠ [] := Win64.lastN_ne hmb.1 _ _
        have M1 := Lib.hid (mirror_least _ hn1)
        have M2 := Lib.hid (mirror_greatest _ hn1)
        have hle := least_le_greatest _ hn1
        have em : lastN m ((l.take k).map (fun x => -x) ++ [-x]) = (lastN m (l.take k ++ [x])).map (fun x => -x) := by
          rw [← lastN_map, List.map_append]; rfl
        have EM := Lib.hid em
        have HX := Lib.hid hx
        have hall : ∀ y ∈ lastN m (l.take k ++ [x]), -2147483648 ≤ y ∧ y ≤ 2147483647 := by
          intro y hy
          rcases List.mem_append.1 (lastN_mem hy) with h | h
          · exact i32_bd (HWF.out _ (List.mem_of_mem_take h))
          · have : y = x := by simpa using h
            rw [this]; exact hxb
        have hb1 := hall _ (Win64.least_spec hn1).1
        have hb2 := hall _ (Win64.greatest_spec hn1).1
        have HN := Lib.hid hn1
        clear hn1 em hx hall
        go_wp2_with fail
        refine (Win64.two_add _ _ _ _ _ _ x _ hmb.1 hmb.2 HL1.out.size HW1.out).mono ?_
        rintro e w3 ⟨rfl, hw3, hl3⟩
        have HW3 := Lib.hid hw3.symm
        have HL3 := Lib.hid (HL1.out.trans hl3)
        clear hw3 hl3
        go_wp2_with fail
        refine (Win64.two_add _ _ _ _ _ _ (-x) _ hmb.1 hmb.2 HL3.out.size HW3.out).mono ?_
        rintro e w4 ⟨rfl, hw4, hl4⟩
        rw [EM.out] at hw4
        have HW4 := Lib.hid hw4.symm
        have HL4 := Lib.hid (HL3.out.trans hl4)
        clear hw4 hl4
        generalize hL : lastN m (l.take k ++ [x]) = L at *
        have HEQ := Lib.hid hL
        clear hL
        go_wp2_with fail
        refine (Win64.leastC _ _ _ _ _ HW4.out.one).mono ?_
        rintro e w5 ⟨rfl, rfl⟩
        go_wp2_with fail
        refine (Win64.greatestC _ _ _ _ _ HW4.out.one).mono ?_
        rintro e w5 ⟨rfl, rfl⟩
        go_wp2_with fail
        refine (Win64.leastC _ _ _ _ _ HW4.out.symm.one).mono ?_
        rintro e w5 ⟨rfl, rfl⟩
        rw [M1.out]
        go_wp2_with fail
        refine (Win64.greatestC _ _ _ _ _ HW4.out.symm.one).mono ?_
        rintro e w5 ⟨rfl, rfl⟩
        rw [M2.out]
        generalize Win64.least L = p1 at *
        generalize Win64.greatest L = p2 at *
        go_wp2_with fail
        exact ⟨⟨k + 1, by omega, by go_num, by rw [HT.out, List.map_append, List.map_cons, List.map_nil, EM.out, HEQ.out]; exact HW4.out, HL4.out⟩, by simp [intOf]; omega⟩
      · obtain rfl : k = l.length := by omega
        have hz1 : (lastN m (l.take l.length)).length = min m l.length := by rw [lastN_len, List.take_length]
        have hz2 : (lastN m ((l.take l.length).map (fun x => -x))).length = min m l.length := by rw [lastN_len, List.length_map, List.take_length]
        have HZ1 := Lib.hid hz1
        have HZ2 := Lib.hid hz2
        clear hz1 hz2
        by_cases hml : m ≤ l.length
        · have hmin : min m l.length = m := Nat.min_eq_left hml
          rw [hmin] at HZ1 HZ2
          clear hmin
          go_wp2_with fail
          refine (Win64.len_calls _ _ _ _ _ HW1.out.one).mono ?_
          rintro e w4 ⟨rfl, rfl⟩
          rw [HZ1.out]
          go_wp2_with fail
          refine (Win64.len_calls _ _ _ _ _ HW1.out.symm.one).mono ?_
          rintro e w4 ⟨rfl, rfl⟩
          rw [HZ2.out]
          go_wp2_with fail
          refine (Win64.len_calls _ _ _ _ _ HW1.out.one).mono ?_
          rintro e w4 ⟨rfl, rfl⟩
          rw [HZ1.out]
          go_wp2_with fail
          refine (most_calls n _).mono ?_
          rintro e w5 ⟨rfl, rfl⟩
          rw [HM.out]
          go_wp2_with fail
          all_goals go_ret
          all_goals first | exact ⟨rfl, HL1.out⟩ | exact ⟨ret_bool (by simp; omega), HL1.out⟩
        · have hmin : min m l.length = l.length := Nat.min_eq_right (by omega)
          rw [hmin] at HZ1 HZ2
          clear hmin
          go_wp2_with fail
          refine (Win64.len_calls _ _ _ _ _ HW1.out.one).mono ?_
          rintro e w4 ⟨rfl, rfl⟩
          rw [HZ1.out]
          go_wp2_with fail
          refine (Win64.len_calls _ _ _ _ _ HW1.out.symm.one).mono ?_
          rintro e w4 ⟨rfl, rfl⟩
          rw [HZ2.out]
          go_wp2_with fail
          refine (Win64.len_calls _ _ _ _ _ HW1.out.one).mono ?_
          rintro e w4 ⟨rfl, rfl⟩
          rw [HZ1.out]
          go_wp2_with fail
          refine (most_calls n _).mono ?_
          rintro e w5 ⟨rfl, rfl⟩
          rw [HM.out]
          go_wp2_with fail
          all_goals go_ret
          all_goals first | exact ⟨rfl, HL1.out⟩ | exact ⟨ret_bool (by simp; omega), HL1.out⟩
end Go.Proofs.Ytnohlghgihfhbaa
