/- The law's walk: RingRising. -/
import Derived.Test.YtolgapcckbcmbaaRingLaw
import Derived.Test.YtolgapcckbcmbaaRingLayI
import Derived.Test.YtolgapcckbcmbaaRingRisP
namespace Go.Proofs.Ytolgapcckbcmbaa
open Go.RowKit

theorem info64 : (Try.prog.info? 2).map (fun i => (i.zero, i.size, i.bytes)) = some (some (.int .i64 0), 1, 8) := by kernel_rfl

/-- The ring of the numbers so far, and the row of all numbers. -/
def Ris (B : Nat) (w : World) (p m : Nat) (l : List Int) (k j : Nat) (v : Value) : Prop :=
  ∃ f own, RingI.Ring w p f m (risR l m k) ∧ Sl w v 2 1 j ((numsL l j).map (.int .i64)) own ∧ (∀ g, f g → B ≤ g ∧ g < w.heap.size) ∧ (∀ g, own = some g → B ≤ g ∧ ¬ f g)

theorem Ris.kept {B : Nat} {w w' : World} {p m : Nat} {l : List Int} {k j : Nat} {v : Value} (h : Ris B w p m l k j v) (hk : Kept (fun _ => False) w w') : Ris B w' p m l k j v := by
  obtain ⟨f, own, h1, h2, d1, d2⟩ := h
  have := hk.size
  exact ⟨f, own, h1.kept hk (fun _ _ h => h), h2.kept hk (fun _ _ h => h), fun g hg => by have := d1 g hg; omega, d2⟩
theorem Ris.ring {B : Nat} {w : World} {p m : Nat} {l : List Int} {k j : Nat} {v : Value} (h : Ris B w p m l k j v) : RingI.Ring w p (fun g => B ≤ g) m (risR l m k) := by
  obtain ⟨f, own, h1, h2, d1, d2⟩ := h
  exact h1.mono fun g _ hg => (d1 g hg).1
theorem Ris.row {B : Nat} {w : World} {p m : Nat} {l : List Int} {k j : Nat} {v : Value} (h : Ris B w p m l k j v) : ∃ own, Sl w v 2 1 j ((numsL l j).map (.int .i64)) own := by
  obtain ⟨f, own, h1, h2, d1, d2⟩ := h
  exact ⟨own, h2⟩
theorem Ris.start {w w1 : World} {m : Nat} {l : List Int} (h : RingI.Ring w1 w.heap.size (fun g => g = w.heap.size) m ⟨[], 0, false⟩) (hz : w1.heap.size = w.heap.size + 1) : Ris w.heap.size w1 w.heap.size m l 0 0 (.slice none 0 0) :=
  ⟨fun g => g = w.heap.size, none, by rw [show risR l m 0 = ⟨[], 0, false⟩ by simp [risR, risL]]; exact h, Sl.nil _ _ _, fun g hg => by omega, fun g hg => by cases hg⟩

theorem ris_calls (B : Nat) (w : World) (p m : Nat) (l : List Int) (k : Nat) (v : Value) (K : Int) (hK : K = psum l (k + 1)) (hl : ∀ x ∈ l, 0 ≤ x) (h1 : 1 ≤ m) (hm : m ≤ 64) (hB : B ≤ w.heap.size) (h : Ris B w p m l k (k + 1) v) :
    Calls Try.prog 20 #[.pointer (some ⟨p, 0, none⟩), .int .i64 K, .int .i64 k] w fun e w' =>
      e = .returned (.tuple #[.int .i64 (if k < m then 0 else psum l (k - m + 1)), .bool (decide (m ≤ k)), .int .i64 0]) ∧ Ris B w' p m l (k + 1) (k + 1) v ∧ Below B w w' := by
  subst hK
  obtain ⟨f, own, hr, hs, d1, d2⟩ := h
  refine (RingI.lay_calls w p f m _ (psum l (k + 1)) k hr hm).mono ?_
  rintro e w' ⟨he, hw, hk⟩
  have hsz := hk.size
  rw [ris_lay l hl m k h1] at he hw
  refine ⟨he, ⟨_, own, hw, hs.kept hk (fun g hg => (d2 g hg).2), ?_, ?_⟩, hk.below hB (fun g hg => (d1 g hg).1)⟩
  · intro g hg
    rcases hg with hg | hg
    · have := d1 g hg; omega
    · omega
  · intro g hg
    have := hs.lt hg
    exact ⟨(d2 g hg).1, fun hf => by
      rcases hf with hf | hf
      · exact (d2 g hg).2 hf
      · omega⟩

theorem ris_grown {B : Nat} {w w' : World} {p m : Nat} {l : List Int} {k : Nat} {v' : Value} {f : Nat → Prop} {own own' : Option Nat} {ob : Obj} (hr : RingI.Ring w p f m (risR l m k)) (hB : B ≤ w.heap.size)
    (d1 : ∀ g, f g → B ≤ g ∧ g < w.heap.size) (d2 : ∀ g, own = some g → B ≤ g ∧ ¬ f g) (hs : Sl w' v' 2 1 (k + 1) ((numsL l k).map (.int .i64) ++ [.int .i64 (psum l (k + 1))]) own') (ho : own' = own ∨ own' = some (w.alloc ob).heap.size) (hk : Kept (fun g => own = some g) (w.alloc ob) w') :
    Ris B w' p m l k (k + 1) v' ∧ Below B w w' := by
  have K0 := ((Kept.refl (fun g => own = some g) w).alloc ob).trans hk (fun _ h => .inl h)
  have hz := K0.size
  rw [size_alloc] at ho
  refine ⟨⟨f, own', hr.kept K0 (fun g hg he => (d2 g he).2 hg), by rw [numsL_snoc, List.map_append]; exact hs, fun g hg => by have := d1 g hg; omega, fun g hg => ?_⟩, K0.below hB (fun g hg => (d2 g hg).1)⟩
  rcases ho with e | e
  · exact d2 g (by rw [← e]; exact hg)
  · have e1 : w.heap.size + 1 = g := by rw [e] at hg; exact Option.some.inj hg
    exact ⟨by omega, fun hf => by have := d1 g hf; omega⟩

theorem Ris.cell {B : Nat} {w : World} {p m : Nat} {l : List Int} {k j g off cap : Nat} (h : Ris B w p m l k j (.slice (some ⟨g, off, none⟩) j cap)) {i : Nat} (hi : i < j) : w.cell? ⟨g, off + i, none⟩ = some (.int .i64 (psum l (i + 1))) := by
  obtain ⟨own, hs⟩ := h.row
  obtain ⟨g5, off5, cap5, -, hv, -, -, hcell, -⟩ := hs.some (by omega)
  cases hv
  exact hcell i _ (by rw [List.getElem?_map, numsL_get _ _ _ hi]; rfl)

theorem kept_drewN {w w' : World} (h : ∃ n, w' = w.drewN n) : Kept (fun _ => False) w w' := by
  obtain ⟨n, rfl⟩ := h
  exact (Kept.refl _ _).drewN n

set_option maxRecDepth 100000 in
set_option maxHeartbeats 8000000 in
theorem rising_walk (n : Int) (a : Option Addr) (cap : Nat) (l : List Int) (w : World) (hr : Reads w .u16 a l) (hm : l.length ≤ maxLen) (hwf : ∀ x ∈ l, (Lit.int .u16 x).wf = true) :
    Calls Try.prog 4 #[.int .i64 n, .slice a l.length cap] w fun e w' => e = .returned (.bool true) ∧ Below w.heap.size w w' := by
  have hbd : ∀ x ∈ l, 0 ≤ x ∧ x ≤ 65535 := fun x hx => u16_bd (hwf x hx)
  have HBD := Lib.hid hbd
  have HPOS : Hid (∀ x ∈ l, 0 ≤ x) := Lib.hid (fun x hx => (hbd x hx).1)
  clear hwf hbd
  obtain ⟨i0, hi, hz0, hz1, hz2⟩ := info_parts info64
  have HI := Lib.hid hi
  have HZ0 := Lib.hid hz0
  have HZ1 := Lib.hid hz1
  have HZ2 := Lib.hid hz2
  clear hi hz0 hz1 hz2
  unfold maxLen at hm
  have HR := Lib.hid hr
  clear hr
  have hmb := mostN_bd n
  go_enter Try.func4, Try.ntmps4
  go_wp2_with fail
  refine (most_calls n _).mono ?_
  rintro e w1 ⟨rfl, rfl⟩
  generalize hmm : mostN n = m at *
  have HM := Lib.hid hmm
  clear hmm
  have hmi : ((m : Int)).toNat = m := by omega
  go_wp2_with fail
  refine (RingI.new_good _ m (by omega) (by omega)).mono ?_
  rintro e w1 ⟨rfl, hw0, hk0, hz0⟩
  rw [hmi] at hw0
  have HW0 := Lib.hid (Ris.start (l := l) hw0 hz0)
  have HL0 := Lib.hid (hk0.below (B := w.heap.size) (Nat.le_refl _) (fun _ h => h.elim))
  clear hw0 hk0 hz0
  go_wp2_with fail
  refine (alive_calls _).mono ?_
  rintro e w3 ⟨rfl, K1⟩
  have HW := Lib.hid (HW0.out.kept K1)
  have HL := Lib.hid (HL0.out.trans (K1.below (B := w.heap.size) HL0.out.size (fun _ h => h.elim)))
  clear K1 HW0 HL0
  by_cases h500 : (200 : Int) < l.length
  ·
    go_wp2_with fail
    refine (alive_calls _).mono ?_
    rintro e w2 ⟨rfl, K2⟩
    have HL2 := Lib.hid (HL.out.trans (K2.below (B := w.heap.size) HL.out.size (fun _ h => h.elim)))
    clear K2
    go_wp2_with fail
    go_ret
    exact ⟨rfl, HL2.out⟩
  · go_wp2_with fail
    go_loopw [7, 8, 43] (fun v s i wr => ∃ k : Nat, k ≤ l.length ∧ i = .int .i64 k ∧ s = .int .i64 (psum l k) ∧ (k = 0 → v = .slice none 0 0) ∧ Ris w.heap.size wr w.heap.size m l k k v ∧ Below w.heap.size w wr) (fun _ _ i _ => l.length - (intOf i).toNat)
    case atStart => exact ⟨0, Nat.zero_le _, rfl, rfl, fun _ => rfl, HW.out, HL.out⟩
    case round =>
      obtain ⟨k, hk, rfl, rfl, hv0, hw, hl⟩ := hrel
      have HV0 := Lib.hid hv0
      have HW1 := Lib.hid hw
      have HL1 := Lib.hid hl
      clear hw hl HW HL hv0
      by_cases hlt : k < l.length
      · obtain ⟨bb, off, rfl, hbb, hcell⟩ := HR.out (by omega)
        have hc : wr.cell? ⟨bb, off + k, none⟩ = some (.int .u16 (l.getD k 0)) := (HL1.out.cell (p := ⟨bb, off + k, none⟩) hbb).trans (hcell k hlt)
        clear hcell
        have hxb : 0 ≤ l.getD k 0 ∧ l.getD k 0 ≤ 65535 := by
          have : l.getD k 0 = l[k] := by simp [hlt]
          rw [this]; exact HBD.out _ (List.getElem_mem hlt)
        have hsb := psum_bd l HBD.out k
        have HKK : Hid (psum l k + (1 + l.getD k 0) = psum l (k + 1)) := Lib.hid rfl
        generalize hx : l.getD k 0 = x at *
        generalize psum l k = s at *
        obtain ⟨f, own, hwr, hsl, d1, d2⟩ := HW1.out
        obtain ⟨av, capv, rfl, -, -⟩ := hsl.form
        have HSL := Lib.hid hsl
        have HWR := Lib.hid hwr
        have HD1 := Lib.hid d1
        have HD2 := Lib.hid d2
        have H1 : Hid (∀ u ∈ [Value.int .i64 (s + (1 + x))], u.oneCell' = true) := Lib.hid (by simp [Value.oneCell'])
        have N1 : Hid (k + 1 ≤ maxLen) := Lib.hid (by unfold maxLen; omega)
        have N2 : Hid ((k + 1) * 8 ≤ 140737488355328) := Lib.hid (by omega)
        clear hwr hsl d1 d2 HW1
        go_wp2_with (at_builtin; refine wpList_append_sl _ rfl _ _ 22 rfl 2 i0 (.int .i64 0) 1 8 Try.underlying22 HI.out HZ0.out HZ1.out HZ2.out rfl _ k _ own rfl (HSL.out.alloc _) _ 1 [.int .i64 (s + (1 + x))] rfl (Src.one _ _ _) rfl H1.out N1.out N2.out ?_; intro v' w' own' hS' ho' hK'; have SA := Lib.hid hS'; have OA := Lib.hid ho'; have KA := Lib.hid hK'; clear hS' ho' hK')
        have HG := ris_grown HWR.out HL1.out.size HD1.out HD2.out (by rw [← HKK.out]; exact SA.out) OA.out KA.out
        have HW2 := Lib.hid HG.1
        have HL2 := Lib.hid (HL1.out.trans HG.2)
        clear HG SA OA KA HSL HWR HD1 HD2
        refine (ris_calls _ _ _ _ l k _ (s + (1 + x)) HKK.out HPOS.out hmb.1 hmb.2 HL2.out.size HW2.out).mono ?_
        rintro e w5 ⟨rfl, hw5, hl5⟩
        obtain ⟨own5, hs5⟩ := hw5.row
        obtain ⟨g5, off5, cap5, -, rfl, hc5, hm5, hcell5, -⟩ := hs5.some (by omega)
        unfold maxLen at hm5
        have HW5 := Lib.hid hw5
        have HL5 := Lib.hid (HL2.out.trans hl5)
        clear hw5 hl5 HW2 HL2 hs5
        by_cases hkm : k < m
        · have hd : decide (m ≤ k) = false := by simp; omega
          have hnk : ¬ ((m : Int) ≤ (k : Int)) := by omega
          rw [if_pos hkm, hd]
          clear hcell5 hd
          go_wp2_with fail
          refine (most_calls n _).mono ?_
          rintro e w6 ⟨rfl, rfl⟩
          rw [HM.out]
          go_wp2_with fail
          exact ⟨⟨k + 1, by omega, by go_num, by rw [← HKK.out], fun h => by omega, HW5.out, HL5.out⟩, by simp [intOf]; omega⟩
        · have hd : decide (m ≤ k) = true := by simp; omega
          have hnk : ((m : Int) ≤ (k : Int)) := by omega
          have hkm2 : ((k : Int) - (m : Int)).toNat = k - m := by omega
          have cc := hcell5 (k - m) (.int .i64 (psum l (k - m + 1))) (by rw [List.getElem?_map, numsL_get _ _ _ (by omega)]; rfl)
          rw [if_neg hkm, hd]
          clear hcell5 hd
          generalize psum l (k - m + 1) = z at *
          go_wp2_with fail
          refine (most_calls n _).mono ?_
          rintro e w6 ⟨rfl, rfl⟩
          rw [HM.out]
          go_wp2_with fail
          refine (most_calls n _).mono ?_
          rintro e w6 ⟨rfl, rfl⟩
          rw [HM.out]
          go_wp2_with fail
          exact ⟨⟨k + 1, by omega, by go_num, by rw [← HKK.out], fun h => by omega, HW5.out, HL5.out⟩, by simp [intOf]; omega⟩
      · obtain rfl : k = l.length := by omega
        generalize hN : l.length = N at *
        have HNN := Lib.hid hN
        clear hN
        have HLEN : Hid ((risR l m N).l.length = min m N) := Lib.hid (risL_len l m N)
        rcases Nat.eq_zero_or_pos N with h0 | h0
        · have hv := HV0.out h0
          subst hv
          subst h0
          rw [show min m 0 = 0 from by omega] at HLEN
          have hmx : (0 : Int) - (m : Int) ≤ 0 := by omega
          go_wp2_with fail
          refine (most_calls n _).mono ?_
          rintro e w6 ⟨rfl, rfl⟩
          rw [HM.out]
          go_wp2_with fail
          go_loopw [100] (fun i wx => i = .int .i64 0 ∧ wr = wx) (fun _ _ => 0)
          case atStart => exact ⟨rfl, rfl⟩
          case round =>
            obtain ⟨rfl, rfl⟩ := hrel
            go_wp2_with fail
            refine (RingI.len_calls _ _ _ _ _ HW1.out.ring).mono ?_
            rintro e w7 ⟨rfl, rfl⟩
            rw [HLEN.out]
            go_wp2_with fail
            go_ret
            exact ⟨rfl, HL1.out⟩
        · obtain ⟨own5, hs5⟩ := HW1.out.row
          obtain ⟨g5, off5, cap5, -, rfl, hc5, hm5, -, -⟩ := hs5.some h0
          unfold maxLen at hm5
          clear hs5
          by_cases hmn : m < N
          · have hmx : (N : Int) - (m : Int) = ((N - m : Nat) : Int) := by omega
            have hcm5 : ¬ cap5 = N - m := by omega
            have hlm : N - (N - m) = m := by omega
            rw [show min m N = m from by omega] at HLEN
            go_wp2_with fail
            refine (most_calls n _).mono ?_
            rintro e w6 ⟨rfl, rfl⟩
            rw [HM.out]
            go_wp2_with fail
            go_loopw [100] (fun i wx => ∃ j : Nat, j ≤ m ∧ i = .int .i64 j ∧ Ris w.heap.size wx w.heap.size m l N N (.slice (some ⟨g5, off5, none⟩) N cap5) ∧ Below w.heap.size w wx) (fun i _ => m - (intOf i).toNat)
            case atStart => exact ⟨0, Nat.zero_le _, rfl, HW1.out, HL1.out⟩
            case round =>
              obtain ⟨j, hj, rfl, hw, hl⟩ := hrel
              have HW2 := Lib.hid hw
              have HL2 := Lib.hid hl
              clear hw hl HW1 HL1
              by_cases hjl : j < m
              · have cc : wr.cell? ⟨g5, off5 + (N - m) + j, none⟩ = some (Value.int .i64 (psum l (N - m + j + 1))) := (by have h := HW2.out.cell (i := N - m + j) (by omega); rw [← Nat.add_assoc] at h; exact h)
                have HY : Hid ((risR l m N).l[j]? = some ((psum l (N - m + j + 1)), ((N - m + j : Nat) : Int))) := Lib.hid (risL_get l m N j (by omega))
                have hfa : ((N : Int) - (m : Int) + (j : Int) = ((N - m + j : Nat) : Int)) := by omega
                generalize (psum l (N - m + j + 1)) = z at *
                go_wp2_with fail
                refine (RingI.at_in _ _ _ _ _ HW2.out.ring j _ HY.out).mono ?_
                rintro e w7 ⟨rfl, hq⟩
                have hk : Kept (fun _ => False) _ w7 := kept_drewN hq
                have HW3 := Lib.hid (HW2.out.kept hk)
                have HL3 := Lib.hid (HL2.out.trans (hk.below HL2.out.size (fun _ h => h.elim)))
                clear hq hk
                go_wp2_with fail
                exact ⟨⟨j + 1, by omega, by go_num, HW3.out, HL3.out⟩, by simp [intOf]; omega⟩
              · go_wp2_with fail
                refine (RingI.len_calls _ _ _ _ _ HW2.out.ring).mono ?_
                rintro e w7 ⟨rfl, rfl⟩
                rw [HLEN.out]
                go_wp2_with fail
                go_ret
                exact ⟨ret_bool (by simp), HL2.out⟩
          · have hmx : (N : Int) - (m : Int) ≤ 0 := by omega
            have hc0 : ¬ cap5 = 0 := by omega
            rw [show min m N = N from by omega] at HLEN
            go_wp2_with fail
            refine (most_calls n _).mono ?_
            rintro e w6 ⟨rfl, rfl⟩
            rw [HM.out]
            go_wp2_with fail
            go_loopw [100] (fun i wx => ∃ j : Nat, j ≤ N ∧ i = .int .i64 j ∧ Ris w.heap.size wx w.heap.size m l N N (.slice (some ⟨g5, off5, none⟩) N cap5) ∧ Below w.heap.size w wx) (fun i _ => N - (intOf i).toNat)
            case atStart => exact ⟨0, Nat.zero_le _, rfl, HW1.out, HL1.out⟩
            case round =>
              obtain ⟨j, hj, rfl, hw, hl⟩ := hrel
              have HW2 := Lib.hid hw
              have HL2 := Lib.hid hl
              clear hw hl HW1 HL1
              by_cases hjl : j < N
              · have cc : wr.cell? ⟨g5, off5 + j, none⟩ = some (Value.int .i64 (psum l (j + 1))) := (HW2.out.cell (i := j) hjl)
                have HY : Hid ((risR l m N).l[j]? = some ((psum l (j + 1)), ((j : Nat) : Int))) := Lib.hid (by have h := risL_get l m N j (by omega); rw [show N - m = 0 from by omega, Nat.zero_add] at h; exact h)
                have hfa : ((N : Int) - (N : Int) + (j : Int) = (j : Int)) := by omega
                generalize (psum l (j + 1)) = z at *
                go_wp2_with fail
                refine (RingI.at_in _ _ _ _ _ HW2.out.ring j _ HY.out).mono ?_
                rintro e w7 ⟨rfl, hq⟩
                have hk : Kept (fun _ => False) _ w7 := kept_drewN hq
                have HW3 := Lib.hid (HW2.out.kept hk)
                have HL3 := Lib.hid (HL2.out.trans (hk.below HL2.out.size (fun _ h => h.elim)))
                clear hq hk
                go_wp2_with fail
                exact ⟨⟨j + 1, by omega, by go_num, HW3.out, HL3.out⟩, by simp [intOf]; omega⟩
              · go_wp2_with fail
                refine (RingI.len_calls _ _ _ _ _ HW2.out.ring).mono ?_
                rintro e w7 ⟨rfl, rfl⟩
                rw [HLEN.out]
                go_wp2_with fail
                go_ret
                exact ⟨ret_bool (by simp), HL2.out⟩
end Go.Proofs.Ytolgapcckbcmbaa
