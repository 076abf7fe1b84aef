/- The law's walk: RingTypes. -/
import Derived.Test.YtolgapcckbcmbaaRingLaw
import Derived.Test.YtolgapcckbcmbaaRingLay64
import Derived.Test.YtolgapcckbcmbaaRingPure2
namespace Go.Proofs.Ytolgapcckbcmbaa
open Go.RowKit

def tX : ByteArray := ⟨#[120]⟩

theorem kept_drewN {w w' : World} (h : ∃ n, w' = w.drewN n) : Kept (fun _ => False) w w' := by
  obtain ⟨n, rfl⟩ := h
  exact (Kept.refl _ _).drewN n

/-- A ring of texts and one of numbers, which have the same numbers. -/
def Two (B : Nat) (w : World) (p q m : Nat) (r : RingM Int) : Prop :=
  ∃ f1 f2 : Nat → Prop, RingS.Ring w p f1 m (mapR (fun _ => tX) r) ∧ Ring64.Ring w q f2 m r ∧ (∀ g, f1 g → B ≤ g ∧ g < w.heap.size) ∧ (∀ g, f2 g → B ≤ g ∧ g < w.heap.size) ∧ (∀ g, f1 g → ¬ f2 g) ∧ ∀ y ∈ r.l, y.2 = y.1
/-- Between the two calls. -/
def Half (B : Nat) (w : World) (p q m : Nat) (r : RingM Int) (r1 : RingM ByteArray) : Prop :=
  ∃ f1 f2 : Nat → Prop, RingS.Ring w p f1 m r1 ∧ Ring64.Ring w q f2 m r ∧ (∀ g, f1 g → B ≤ g ∧ g < w.heap.size) ∧ (∀ g, f2 g → B ≤ g ∧ g < w.heap.size) ∧ (∀ g, f1 g → ¬ f2 g) ∧ ∀ y ∈ r.l, y.2 = y.1

section
variable {B : Nat} {w w' : World} {p q m : Nat} {r : RingM Int}
theorem Two.one (h : Two B w p q m r) : RingS.Ring w p (fun g => B ≤ g) m (mapR (fun _ => tX) r) := by
  obtain ⟨f1, f2, h1, h2, d1, d2, d, hy⟩ := h
  exact h1.mono fun g _ hg => (d1 g hg).1
theorem Two.two (h : Two B w p q m r) : Ring64.Ring w q (fun g => B ≤ g) m r := by
  obtain ⟨f1, f2, h1, h2, d1, d2, d, hy⟩ := h
  exact h2.mono fun g _ hg => (d2 g hg).1
theorem Two.same (h : Two B w p q m r) : ∀ y ∈ r.l, y.2 = y.1 := by
  obtain ⟨f1, f2, h1, h2, d1, d2, d, hy⟩ := h
  exact hy
theorem Two.kept (h : Two B w p q m r) (k : Kept (fun _ => False) w w') : Two B w' p q m r := by
  obtain ⟨f1, f2, h1, h2, d1, d2, d, hy⟩ := h
  have := k.size
  exact ⟨f1, f2, h1.kept k (fun _ _ h => h), h2.kept k (fun _ _ h => h), fun g hg => by have := d1 g hg; omega, fun g hg => by have := d2 g hg; omega, d, hy⟩
end

theorem two_new {w w1 w2 : World} {n : Nat} (h1 : RingS.Ring w1 w.heap.size (fun g => g = w.heap.size) n ⟨[], 0, false⟩) (z1 : w1.heap.size = w.heap.size + 1)
    (h2 : Ring64.Ring w2 w1.heap.size (fun g => g = w1.heap.size) n ⟨[], 0, false⟩) (k2 : Kept (fun _ => False) w1 w2) (z2 : w2.heap.size = w1.heap.size + 1) : Two w.heap.size w2 w.heap.size w1.heap.size n ⟨[], 0, false⟩ :=
  ⟨_, _, h1.kept k2 (fun _ _ h => h), h2, fun g hg => by omega, fun g hg => by omega, fun g hg hh => by omega, fun y hy => by cases hy⟩

theorem lay_one (B : Nat) (w : World) (p q m : Nat) (r : RingM Int) (k : Int) (hm : m ≤ 64) (hB : B ≤ w.heap.size) (h : Two B w p q m r) :
    Calls Try.prog 13 #[.pointer (some ⟨p, 0, none⟩), .int .i64 k, .string tX] w fun e w' =>
      e = .returned (.tuple #[.int .i64 (layM m r k k).2.1, .bool (layM m r k k).2.2.1, .int .i64 (layM m r k k).2.2.2]) ∧ Half B w' p q m r (mapR (fun _ => tX) (layM m r k k).1) ∧ Below B w w' := by
  obtain ⟨f1, f2, h1, h2, d1, d2, d, hy⟩ := h
  refine (RingS.lay_calls w p f1 m _ k tX h1 hm).mono ?_
  rintro e w' ⟨he, hw, hk⟩
  have hs := hk.size
  rw [layM_map (fun _ => tX) m r k k] at he hw
  refine ⟨he, ⟨_, f2, hw, h2.kept hk (fun g hg hf => d g hf hg), ?_, ?_, ?_, hy⟩, hk.below hB (fun g hg => (d1 g hg).1)⟩
  · intro g hg
    rcases hg with hg | hg
    · have := d1 g hg; omega
    · omega
  · intro g hg
    have := d2 g hg; omega
  · intro g hg hf
    rcases hg with hg | hg
    · exact d g hg hf
    · have := d2 g hf; omega

theorem lay_two (B : Nat) (w : World) (p q m : Nat) (r : RingM Int) (k : Int) (hm : m ≤ 64) (hB : B ≤ w.heap.size) (h : Half B w p q m r (mapR (fun _ => tX) (layM m r k k).1)) :
    Calls Try.prog 14 #[.pointer (some ⟨q, 0, none⟩), .int .i64 k, .int .i64 k] w fun e w' =>
      e = .returned (.tuple #[.int .i64 (layM m r k k).2.1, .bool (layM m r k k).2.2.1, .int .i64 (layM m r k k).2.2.2]) ∧ Two B w' p q m (layM m r k k).1 ∧ Below B w w' := by
  obtain ⟨f1, f2, h1, h2, d1, d2, d, hy⟩ := h
  refine (Ring64.lay_calls w q f2 m _ k k h2 hm).mono ?_
  rintro e w' ⟨he, hw, hk⟩
  have hs := hk.size
  refine ⟨he, ⟨f1, _, h1.kept hk d, hw, ?_, ?_, ?_, ?_⟩, hk.below hB (fun g hg => (d2 g hg).1)⟩
  · intro g hg
    have := d1 g hg; omega
  · intro g hg
    rcases hg with hg | hg
    · have := d2 g hg; omega
    · omega
  · intro g hf hg
    rcases hg with hg | hg
    · exact d g hf hg
    · have := d1 g hf; omega
  · intro y hm
    rcases layM_mem hm with h | h
    · exact hy y h
    · rw [h]

set_option maxRecDepth 100000 in
set_option maxHeartbeats 4000000 in
theorem types_walk (n : Int) (a : Option Addr) (cap : Nat) (l : List Int) (w : World) (hr : Reads w .i64 a l) (hm : l.length ≤ maxLen) :
    Calls Try.prog 3 #[.int .i64 n, .slice a l.length cap] w fun e w' => e = .returned (.bool true) ∧ Below w.heap.size w w' := by
  unfold maxLen at hm
  have HR := Lib.hid hr
  clear hr
  have hmb := mostN_bd n
  go_enter Try.func3, Try.ntmps3
  go_wp2_with fail
  refine (most_calls n _).mono ?_
  rintro e w1 ⟨rfl, rfl⟩
  generalize hmm : mostN n = m at *
  have HM := Lib.hid hmm
  clear hmm
  have hmi : ((m : Int)).toNat = m := by omega
  go_wp2_with fail
  refine (RingS.new_good _ m (by omega) (by omega)).mono ?_
  rintro e w1 ⟨rfl, hw0, hk0, hz0⟩
  rw [hmi] at hw0
  go_wp2_with fail
  refine (most_calls n _).mono ?_
  rintro e w2 ⟨rfl, rfl⟩
  rw [HM.out]
  go_wp2_with fail
  refine (Ring64.new_good _ m (by omega) (by omega)).mono ?_
  rintro e w2 ⟨rfl, hw1, hk1, hz1⟩
  rw [hmi] at hw1
  have HW0 := Lib.hid (two_new hw0 hz0 hw1 hk1 hz1)
  have HL0 := Lib.hid ((hk0.below (B := w.heap.size) (Nat.le_refl _) (fun _ h => h.elim)).trans (hk1.below (B := w.heap.size) (by omega) (fun _ h => h.elim)))
  clear hw0 hk0 hz0 hw1 hk1 hz1
  generalize w1.heap.size = q at *
  go_wp2_with fail
  refine (alive_calls _).mono ?_
  rintro e w3 ⟨rfl, K1⟩
  have HW := Lib.hid (HW0.out.kept K1)
  have HL := Lib.hid (HL0.out.trans (K1.below (B := w.heap.size) HL0.out.size (fun _ h => h.elim)))
  clear K1 HW0 HL0
  by_cases h500 : (200 : Int) < l.length
  ·
    go_wp2_with fail
    refine (alive_calls _).mono ?_
    rintro e w2 ⟨rfl, K2⟩
    have HL2 := Lib.hid (HL.out.trans (K2.below (B := w.heap.size) HL.out.size (fun _ h => h.elim)))
    clear K2
    go_wp2_with fail
    go_ret
    exact ⟨rfl, HL2.out⟩
  · go_wp2_with fail
    go_loopw [62] (fun i wr => ∃ (k : Nat) (r : RingM Int), k ≤ l.length ∧ i = .int .i64 k ∧ Two w.heap.size wr w.heap.size q m r ∧ Below w.heap.size w wr) (fun i _ => l.length - (intOf i).toNat)
    case atStart => exact ⟨0, _, Nat.zero_le _, rfl, HW.out, HL.out⟩
    case round =>
      obtain ⟨k, r, hk, rfl, hw, hl⟩ := hrel
      have HW1 := Lib.hid hw
      have HL1 := Lib.hid hl
      clear hw hl HW HL
      by_cases hlt : k < l.length
      · obtain ⟨bb, off, rfl, hbb, hcell⟩ := HR.out (by omega)
        have hc : wr.cell? ⟨bb, off + k, none⟩ = some (.int .i64 (l.getD k 0)) := (HL1.out.cell (p := ⟨bb, off + k, none⟩) hbb).trans (hcell k hlt)
        clear hcell
        generalize hx : l.getD k 0 = x at *
        go_wp2_with fail
        refine (lay_one _ _ _ _ _ r x hmb.2 HL1.out.size HW1.out).mono ?_
        rintro e w4 ⟨rfl, hw4, hl4⟩
        have HW4 := Lib.hid hw4
        have HL4 := Lib.hid (HL1.out.trans hl4)
        clear hw4 hl4
        go_wp2_with fail
        refine (lay_two _ _ _ _ _ r x hmb.2 HL4.out.size HW4.out).mono ?_
        rintro e w5 ⟨rfl, hw5, hl5⟩
        have HW5 := Lib.hid hw5
        have HL5 := Lib.hid (HL4.out.trans hl5)
        clear hw5 hl5 HW4 HL4
        generalize layM m r x x = R at *
        obtain ⟨r', num, b, err⟩ := R
        dsimp only at *
        go_wp2_with fail
        refine (RingS.len_calls _ _ _ _ _ HW5.out.one).mono ?_
        rintro e w6 ⟨rfl, rfl⟩
        rw [show (mapR (fun _ => tX) r').l.length = r'.l.length by simp [mapR]]
        go_wp2_with fail
        refine (Ring64.len_calls _ _ _ _ _ HW5.out.two).mono ?_
        rintro e w6 ⟨rfl, rfl⟩
        go_wp2_with fail
        exact ⟨⟨k + 1, r', by omega, by go_num, HW5.out, HL5.out⟩, by simp [intOf]; omega⟩
      · go_wp2_with fail
        refine (Ring64.len_calls _ _ _ _ _ HW1.out.two).mono ?_
        rintro e w6 ⟨rfl, rfl⟩
        have hrl := HW1.out.two.len
        generalize hN : r.l.length = N at *
        have HNN := Lib.hid hN
        clear hN
        go_wp2_with fail
        go_loopw [104] (fun i wx => ∃ j : Nat, j ≤ N ∧ i = .int .i64 j ∧ Two w.heap.size wx w.heap.size q m r ∧ Below w.heap.size w wx) (fun i _ => N - (intOf i).toNat)
        case atStart => exact ⟨0, Nat.zero_le _, rfl, HW1.out, HL1.out⟩
        case round =>
          obtain ⟨j, hj, rfl, hw, hl⟩ := hrel
          have HW2 := Lib.hid hw
          have HL2 := Lib.hid hl
          clear hw hl HW1 HL1
          by_cases hjl : j < N
          · obtain ⟨y, hy⟩ : ∃ y, r.l[j]? = some y := ⟨_, List.getElem?_eq_getElem (by rw [HNN.out]; exact hjl)⟩
            have hs : y.2 = y.1 := HW2.out.same y (List.mem_of_getElem? hy)
            have HY := Lib.hid hy
            have HY2 : Hid ((mapR (fun _ => tX) r).l[j]? = some (y.1, tX)) := Lib.hid (by unfold mapR; rw [List.getElem?_map, hy]; rfl)
            clear hy
            go_wp2_with fail
            refine (Ring64.at_in _ _ _ _ _ HW2.out.two j y HY.out).mono ?_
            rintro e w7 ⟨rfl, hq⟩
            have hk : Kept (fun _ => False) _ w7 := kept_drewN hq
            have HW3 := Lib.hid (HW2.out.kept hk)
            have HL3 := Lib.hid (HL2.out.trans (hk.below HL2.out.size (fun _ h => h.elim)))
            clear hq hk
            rw [hs]
            go_wp2_with fail
            refine (RingS.at_in _ _ _ _ _ HW3.out.one j _ HY2.out).mono ?_
            rintro e w8 ⟨rfl, hq⟩
            have hk : Kept (fun _ => False) _ w8 := kept_drewN hq
            have HW4 := Lib.hid (HW3.out.kept hk)
            have HL4 := Lib.hid (HL3.out.trans (hk.below HL3.out.size (fun _ h => h.elim)))
            clear hq hk
            go_wp2_with fail
            exact ⟨⟨j + 1, by omega, by go_num, HW4.out, HL4.out⟩, by simp [intOf]; omega⟩
          · go_wp2_with fail
            go_ret
            exact ⟨rfl, HL2.out⟩
end Go.Proofs.Ytolgapcckbcmbaa
