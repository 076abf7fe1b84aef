/- The law's walk: RingActs. -/
import Derived.Test.YtolgapcckbcmbaaRingLaw
import Derived.Test.YtolgapcckbcmbaaRingRefP
import Derived.Test.YtolgapcckbcmbaaRingFloorS
import Derived.Test.YtolgapcckbcmbaaRdA
import Derived.Deep.CutRange
import Derived.Deep.CutBlock
import Derived.Deep.LoopGhost
namespace Go.Proofs.Ytolgapcckbcmbaa
open Go.RowKit

theorem Ring_mem {w : World} {p : Nat} {fp : Nat → Prop} {m : Nat} {r : RingM ByteArray} (h : RingS.Ring w p fp m r) : fp p ∧ p < w.heap.size := by
  obtain ⟨v, o, hb, h1, hp, -⟩ := h
  exact ⟨hp, hb.lt⟩
theorem Ref_mem {w : World} {p : Nat} {fp : Nat → Prop} {m : Nat} {r : RingM ByteArray} (h : Ref.Ref w p fp m r) : fp p ∧ p < w.heap.size := by
  obtain ⟨v, o, hb, h1, hp, -⟩ := h
  exact ⟨hp, hb.lt⟩
theorem kept_drewN' {w w' : World} (h : ∃ n, w' = w.drewN n) : Kept (fun _ => False) w w' := by
  obtain ⟨n, rfl⟩ := h
  exact (Kept.refl _ _).drewN n

/-- The ring and the document's, which hold the same; their memory lies from B on, below T. -/
def Uno (B T : Nat) (w : World) (p q m : Nat) (r1 r2 : RingM ByteArray) : Prop :=
  ∃ f1 f2 : Nat → Prop, RingS.Ring w p f1 m r1 ∧ Ref.Ref w q f2 m r2 ∧ (∀ g, f1 g → B ≤ g ∧ g < T) ∧ (∀ g, f2 g → B ≤ g ∧ g < T) ∧ (∀ g, f1 g → ¬ f2 g) ∧ T ≤ w.heap.size

section
variable {B T : Nat} {w w' : World} {p q m : Nat} {r1 r2 : RingM ByteArray}
theorem Uno.one (h : Uno B T w p q m r1 r2) : RingS.Ring w p (fun g => B ≤ g) m r1 := by
  obtain ⟨f1, f2, h1, h2, d1, d2, d, hT⟩ := h
  exact h1.mono fun g _ hg => (d1 g hg).1
theorem Uno.two (h : Uno B T w p q m r1 r2) : Ref.Ref w q (fun g => B ≤ g) m r2 := by
  obtain ⟨f1, f2, h1, h2, d1, d2, d, hT⟩ := h
  exact h2.mono fun g _ hg => (d2 g hg).1
theorem Uno.keptF {F : Nat → Prop} (h : Uno B T w p q m r1 r2) (k : Kept F w w') (hF : ∀ g, F g → T ≤ g) : Uno B T w' p q m r1 r2 := by
  obtain ⟨f1, f2, h1, h2, d1, d2, d, hT⟩ := h
  have := k.size
  exact ⟨f1, f2, h1.kept k (fun g hg hf => by have := d1 g hg; have := hF g hf; omega), h2.kept k (fun g hg hf => by have := d2 g hg; have := hF g hf; omega), d1, d2, d, by omega⟩
theorem Uno.kept (h : Uno B T w p q m r1 r2) (k : Kept (fun _ => False) w w') : Uno B T w' p q m r1 r2 := h.keptF k (fun _ h => h.elim)
theorem Uno.up (h : Uno B T w p q m r1 r2) : Uno B w.heap.size w p q m r1 r2 := by
  obtain ⟨f1, f2, h1, h2, d1, d2, d, hT⟩ := h
  exact ⟨f1, f2, h1, h2, fun g hg => by have := d1 g hg; omega, fun g hg => by have := d2 g hg; omega, d, Nat.le_refl _⟩
end

theorem lay_uno (B T : Nat) (w : World) (p q m : Nat) (r : RingM ByteArray) (k : Int) (x : ByteArray) (hm : m ≤ 64) (h : Uno B T w p q m r r) :
    Calls Try.prog 13 #[.pointer (some ⟨p, 0, none⟩), .int .i64 k, .string x] w fun e w' =>
      e = .returned (.tuple #[.int .i64 (layM m r k x).2.1, .bool (layM m r k x).2.2.1, .int .i64 (layM m r k x).2.2.2]) ∧ Uno B w'.heap.size w' p q m (layM m r k x).1 r ∧ Kept (fun g => B ≤ g ∧ g < T) w w' := by
  obtain ⟨f1, f2, h1, h2, d1, d2, d, hT⟩ := h
  refine (RingS.lay_calls w p f1 m _ k x h1 hm).mono ?_
  rintro e w' ⟨he, hw, hk⟩
  have hs := hk.size
  refine ⟨he, ⟨_, f2, hw, h2.kept hk (fun g hg hf => d g hf hg), ?_, ?_, ?_, Nat.le_refl _⟩, hk.mono (fun g _ hg => d1 g hg)⟩
  · intro g hg
    rcases hg with hg | hg
    · have := d1 g hg; omega
    · have := d1 p (Ring_mem h1).1; omega
  · intro g hg
    have := d2 g hg; omega
  · intro g hg hf
    rcases hg with hg | hg
    · exact d g hg hf
    · have := d2 g hf; omega
theorem lay_duo (B T : Nat) (w : World) (p q m : Nat) (r : RingM ByteArray) (k : Int) (x : ByteArray) (hm : m ≤ 64) (h : Uno B T w p q m (layM m r k x).1 r) :
    Calls Try.prog 27 #[.pointer (some ⟨q, 0, none⟩), .int .i64 k, .string x] w fun e w' =>
      e = .returned (.tuple #[.int .i64 (layM m r k x).2.1, .bool (layM m r k x).2.2.1, .int .i64 (layM m r k x).2.2.2]) ∧ Uno B w'.heap.size w' p q m (layM m r k x).1 (layM m r k x).1 ∧ Kept (fun g => B ≤ g ∧ g < T) w w' := by
  obtain ⟨f1, f2, h1, h2, d1, d2, d, hT⟩ := h
  refine (Ref.lay_calls w q f2 m _ k x h2 hm).mono ?_
  rintro e w' ⟨he, hw, hk⟩
  have hs := hk.size
  refine ⟨he, ⟨f1, _, h1.kept hk d, hw, ?_, ?_, ?_, Nat.le_refl _⟩, hk.mono (fun g _ hg => d2 g hg)⟩
  · intro g hg
    have := d1 g hg; omega
  · intro g hg
    rcases hg with hg | hg
    · have := d2 g hg; omega
    · have := d2 q (Ref_mem h2).1; omega
  · intro g hf hg
    rcases hg with hg | hg
    · exact d g hf hg
    · have := d1 g hf; omega

theorem duo_new {w w1 w2 : World} {m : Nat} {ob : Obj} (h1 : RingS.Ring w1 w.heap.size (fun g => g = w.heap.size) m ⟨[], 0, false⟩) (z1 : w1.heap.size = w.heap.size + 1) (K1 : Kept (fun _ => False) w1 w2)
    (hob : ob = .cells [.slice none 0 0, .int .i64 m, .int .i64 0, .bool false].toArray 66) : Uno w.heap.size (w2.alloc ob).heap.size (w2.alloc ob) w.heap.size w2.heap.size m ⟨[], 0, false⟩ ⟨[], 0, false⟩ := by
  subst hob
  have := K1.size
  refine ⟨_, fun g => g = w2.heap.size, (h1.kept K1 (fun _ _ h => h)).kept ((Kept.refl (fun _ => False) w2).alloc _) (fun _ _ h => h), ⟨.slice none 0 0, none, Blk.new w2 _ _, Sl.nil _ _ _, rfl, fun g hg => by simp at hg, List.Pairwise.nil, Nat.zero_le _⟩, fun g hg => ?_, fun g hg => ?_, fun g hg hh => ?_, Nat.le_refl _⟩
  · rw [size_alloc]; omega
  · rw [size_alloc]; omega
  · omega

/-- What stands while both are asked. -/
def ActsS (T p q m : Nat) (r : RingM ByteArray) (key : Int) (w W : World) : Prop := W.cell? ⟨T, 1, none⟩ = some (.int .i64 key) ∧ Uno w.heap.size T W p q m r r ∧ Below w.heap.size w W
theorem ActsS.kept {T p q m : Nat} {r : RingM ByteArray} {key : Int} {w W W' : World} (h : ActsS T p q m r key w W) (k : Kept (fun _ => False) W W') : ActsS T p q m r key w W' :=
  ⟨k.cell h.1 (fun h => h), h.2.1.kept k, h.2.2.trans (k.below h.2.2.size (fun _ h => h.elim))⟩
theorem ActsS.drew {T p q m : Nat} {r : RingM ByteArray} {key : Int} {w W : World} (h : ActsS T p q m r key w W) : ActsS T p q m r key w W.drew := h.kept ((Kept.refl _ _).drewN 1)
theorem ActsS.u {T p q m : Nat} {r : RingM ByteArray} {key : Int} {w W : World} (h : ActsS T p q m r key w W) : Uno w.heap.size T W p q m r r := h.2.1

theorem ActsS.b {T p q m : Nat} {r : RingM ByteArray} {key : Int} {w W : World} (h : ActsS T p q m r key w W) : Below w.heap.size w W := h.2.2

set_option maxRecDepth 100000 in
set_option maxHeartbeats 8000000 in
theorem acts_walk (n : Int) (a : Option Addr) (cap : Nat) (l : List Act) (w : World) (hr : ReadsA w a l) (hm : l.length ≤ maxLen) :
    Calls Try.prog 7 #[.int .i64 n, .slice a l.length cap] w fun e w' => e = .returned (.bool true) ∧ Below w.heap.size w w' := by
  unfold maxLen at hm
  have HR := Lib.hid hr
  clear hr
  have hmb := mostN_bd n
  go_enter Try.func7, Try.ntmps7
  go_wp2_with fail
  refine (most_calls n _).mono ?_
  rintro e w1 ⟨rfl, rfl⟩
  generalize hmm : mostN n = m at *
  have HM := Lib.hid hmm
  clear hmm
  have hmi : ((m : Int)).toNat = m := by omega
  go_wp2_with fail
  refine (RingS.new_good _ m (by omega) (by omega)).mono ?_
  rintro e w1 ⟨rfl, hw0, hk0, hz0⟩
  rw [hmi] at hw0
  have HL0 := Lib.hid (hk0.below (B := w.heap.size) (Nat.le_refl _) (fun _ h => h.elim))
  have HW0 := Lib.hid hw0
  have HZ0 := Lib.hid hz0
  clear hw0 hk0 hz0
  go_wp2_with fail
  refine (alive_calls _).mono ?_
  rintro e w3 ⟨rfl, K1⟩
  have HL := Lib.hid (HL0.out.trans (K1.below (B := w.heap.size) HL0.out.size (fun _ h => h.elim)))
  have HK1 := Lib.hid K1
  clear K1
  by_cases h500 : (200 : Int) < l.length
  ·
    go_wp2_with fail
    refine (alive_calls _).mono ?_
    rintro e w2 ⟨rfl, K2⟩
    have HL2 := Lib.hid (HL.out.trans (K2.below (B := w.heap.size) HL.out.size (fun _ h => h.elim)))
    clear K2
    go_wp2_with fail
    go_ret
    exact ⟨rfl, HL2.out⟩
  · go_wp2_with fail
    refine (most_calls n _).mono ?_
    rintro e w4 ⟨rfl, rfl⟩
    rw [HM.out]
    go_upto_region 5 with (fail)
    have HW : Hid (Uno w.heap.size (w3.heap.size + 1) (w3.alloc (.cells #[.slice none 0 0, .int .i64 m, .int .i64 0, .bool false] 66)) w.heap.size w3.heap.size m ⟨[], 0, false⟩ ⟨[], 0, false⟩) := Lib.hid (by
      have := duo_new HW0.out HZ0.out HK1.out rfl
      rw [size_alloc] at this
      exact this)
    have HL1 := Lib.hid (HL.out.alloc (by have := HL.out.size; omega) (.cells #[.slice none 0 0, .int .i64 m, .int .i64 0, .bool false] 66))
    clear HW0 HZ0 HK1 HL HL0
    go_wp2_with fail
    go_loopg [63] (l.length) (fun gk i wr => ∃ (k : Nat) (r : RingM ByteArray), k ≤ l.length ∧ l.length ≤ k + gk ∧ i = .int .i64 k ∧ Uno w.heap.size wr.heap.size wr w.heap.size w3.heap.size m r r ∧ Below w.heap.size w wr)
    case atStart => exact ⟨0, _, Nat.zero_le _, by omega, rfl, HW.out.up, HL1.out⟩
    case round =>
      obtain ⟨k, r, hk, hgk, rfl, hw, hl⟩ := hrel
      obtain ⟨GK, hGK⟩ : ∃ GK, GK = gk := ⟨_, rfl⟩
      subst hGK
      have HW1 := Lib.hid hw
      have HL2 := Lib.hid hl
      clear hw hl HW HL1
      by_cases hlt : k < l.length
      · obtain ⟨bb, off, rfl, hbb, hcell⟩ := HR.out (by omega)
        obtain ⟨y, hy⟩ : ∃ y, l[k]? = some y := ⟨_, List.getElem?_eq_getElem hlt⟩
        obtain ⟨q0, q1, q2⟩ := hcell k y hy
        have c0 := (HL2.out.cell (p := ⟨bb, off + k * 3, none⟩) hbb).trans q0
        have c1 := (HL2.out.cell (p := ⟨bb, off + k * 3 + 1, none⟩) hbb).trans q1
        have c2 := (HL2.out.cell (p := ⟨bb, off + k * 3 + 2, none⟩) hbb).trans q2
        clear hcell hy q0 q1 q2
        obtain ⟨kd, key, x⟩ := y
        dsimp only at c0 c1 c2
        go_upto_block 2 with (fail)
        refine at_world (fun W => Blk W wr.heap.size [.int .i64 kd, .int .i64 key, .string x] 53 ∧ Uno w.heap.size wr.heap.size W w.heap.size w3.heap.size m r r ∧ Below w.heap.size w W) ⟨Blk.new wr _ _, HW1.out.kept ((Kept.refl _ _).alloc _), HL2.out.alloc (by have := HL2.out.size; omega) _⟩ ?_
        rintro W ⟨hb, hu, hl⟩
        have a0 := hb.cell (i := 0) rfl
        have a1 := hb.cell (i := 1) rfl
        have a2 := hb.cell (i := 2) rfl
        have HB := Lib.hid hb
        have HU := Lib.hid hu
        have HL := Lib.hid hl
        have HBS : Hid (w.heap.size ≤ wr.heap.size) := Lib.hid HL2.out.size
        clear hb hu hl c0 c1 c2 HW1 HL2
        go_cut [] from 64 to 200 (fun wx => ∃ r' : RingM ByteArray, Uno w.heap.size wx.heap.size wx w.heap.size w3.heap.size m r' r' ∧ Below w.heap.size w wx)
        case first =>
          by_cases h0 : kd = 0
          · subst h0
            go_wp2_with fail
            refine (lay_uno _ _ _ _ _ _ r key x hmb.2 HU.out).mono ?_
            rintro e w4 ⟨rfl, hw4, hk4⟩
            have b1 := (hk4.blk HB.out (fun h => by omega)).cell (i := 1) rfl
            have b2 := (hk4.blk HB.out (fun h => by omega)).cell (i := 2) rfl
            have HW4 := Lib.hid hw4
            have HL4 := Lib.hid (HL.out.trans (hk4.below HL.out.size (fun _ h => h.1)))
            clear hw4 hk4
            go_wp2_with fail
            refine (lay_duo _ _ _ _ _ _ r key x hmb.2 HW4.out).mono ?_
            rintro e w5 ⟨rfl, hw5, hk5⟩
            have HW5 := Lib.hid hw5
            have HL5 := Lib.hid (HL4.out.trans (hk5.below HL4.out.size (fun _ h => h.1)))
            clear hw5 hk5
            generalize layM m r key x = R at *
            obtain ⟨r', num, b, err⟩ := R
            dsimp only at *
            go_wp2_with fail
            go_meet
            exact ⟨_, HW5.out, HL5.out⟩
          · by_cases h1 : kd = 1
            · subst h1
              go_wp2_with fail
              refine (RingS.get_calls _ _ _ _ _ key HU.out.one hmb.2).mono ?_
              rintro e w4 ⟨rfl, hk4⟩
              have b1 := (hk4.blk HB.out (fun h => h)).cell (i := 1) rfl
              have HU4 := Lib.hid (HU.out.kept hk4)
              have HL4 := Lib.hid (HL.out.trans (hk4.below HL.out.size (fun _ h => h.elim)))
              clear hk4
              go_wp2_with fail
              refine (Ref.get_calls _ _ _ _ _ key HU4.out.two hmb.2).mono ?_
              rintro e w5 ⟨rfl, rfl⟩
              generalize RingS.getM r.l key = gv at *
              generalize there r.l key = tb at *
              go_wp2_with fail
              go_meet
              exact ⟨_, HU4.out.up, HL4.out⟩
            · by_cases h2 : kd = 2
              · subst h2
                have HT1 : Hid (∀ wx, Uno w.heap.size wr.heap.size wx w.heap.size w3.heap.size m r r → Calls Try.prog 25 #[.pointer (some ⟨w.heap.size, 0, none⟩), .int .i64 key] wx fun e w' => e = .returned (.int .i64 (RingS.untilM r.l key)) ∧ Kept (fun _ => False) wx w') := Lib.hid (fun wx h => RingS.until_calls _ _ _ _ _ key h.one hmb.2)
                have HT2 : Hid (∀ wx, Uno w.heap.size wr.heap.size wx w.heap.size w3.heap.size m r r → Calls Try.prog 29 #[.pointer (some ⟨w3.heap.size, 0, none⟩), .int .i64 key] wx fun e w' => e = .returned (.int .i64 (RingS.untilM r.l key)) ∧ wx = w') := Lib.hid (fun wx h => Ref.until_calls _ _ _ _ _ key h.two hmb.2)
                generalize RingS.untilM r.l key = c at *
                go_wp2_with fail
                have hs0 : ActsS wr.heap.size w.heap.size w3.heap.size m r key w W := ⟨a1, HU.out, HL.out⟩
                go_region_held3 (fun w' => w'.cell? ⟨wr.heap.size, 1, none⟩ = some (.int .i64 key) ∧ ActsS wr.heap.size w.heap.size w3.heap.size m r key w w')
                  (first | (go_split_ands; refine ⟨by simp [*], ?_⟩; first | assumption | exact ActsS.drew (by assumption)) | (go_split_ands; refine ⟨hk4.cell ‹_› (fun h => h), ?_⟩; exact ActsS.kept (by assumption) hk4))
                  (first | (go_at_call 25; go_split_ands; refine (HT1.out _ (ActsS.u (by assumption))).mono ?_; rintro e w4 ⟨rfl, hk4⟩) | (go_at_call 29; go_split_ands; refine (HT2.out _ (ActsS.u (by assumption))).mono ?_; rintro e w5 ⟨rfl, rfl⟩))
                all_goals
                  go_split_ands
                  go_wp2_with fail
                  go_meet
                  exact ⟨_, (ActsS.u (by assumption)).up, (ActsS.b (by assumption))⟩
              · go_wp2_with fail
                go_meet
                exact ⟨_, HU.out.up, HL.out⟩
        case rest =>
          obtain ⟨r', hu, hl⟩ := hcut
          have HU1 := Lib.hid hu
          have HL1 := Lib.hid hl
          clear hu hl a0 a1 a2 HU HL HB
          go_wp2_with fail
          refine (RingS.floor_calls _ _ _ _ _ HU1.out.one).mono ?_
          rintro e w6 ⟨rfl, hq⟩
          have hk : Kept (fun _ => False) _ w6 := kept_drewN' hq
          have HU2 := Lib.hid (HU1.out.kept hk)
          have HL2 := Lib.hid (HL1.out.trans (hk.below HL1.out.size (fun _ h => h.elim)))
          clear hq hk HU1 HL1
          obtain ⟨v, o, hb, h1, -, hd1, hs, hlen⟩ := HU2.out.two
          obtain ⟨a2, cap2, rfl, hcap2, hcm2⟩ := h1.form
          unfold maxLen at hcm2
          have c0 := hb.cell (i := 0) rfl
          have c2 := hb.cell (i := 2) rfl
          have c3 := hb.cell (i := 3) rfl
          have H1 := Lib.hid h1
          have HOL : Hid (∀ g, o = some g → w.heap.size ≤ g) := Lib.hid (fun g hg => (hd1 g hg).1)
          clear hb h1 hd1 hs
          have HLE := Lib.hid (fun n => RingS.len_calls (w6.drewN n) _ _ _ _ (HU2.out.one.kept ((Kept.refl (fun _ => False) w6).drewN n) (fun _ _ h => h)))
          go_wp2_with fail
          go_quiet ((go_at_call 15; exact Calls.quiet_of_same ((HLE.out _).mono (fun _ _ h => ⟨h.1, h.2.symm⟩))))
          go_wp2_with fail
          have HKQ : Hid (Kept (fun _ => False) w6 (w6.drewN nq)) := Lib.hid ((Kept.refl _ _).drewN nq)
          go_loopg [173] (r'.l.length) (fun gj i wx => ∃ j : Nat, j ≤ r'.l.length ∧ r'.l.length ≤ j + gj ∧ i = .int .i64 j ∧ Kept (fun _ => False) w6 wx)
          case atStart => exact ⟨0, Nat.zero_le _, by omega, rfl, HKQ.out⟩
          case round =>
            obtain ⟨j, hj, hgj, rfl, hkx⟩ := hrel
            clear c0 c2 c3 HKQ
            have HKX := Lib.hid hkx
            have HU3 := Lib.hid (HU2.out.kept hkx)
            have HL3 := Lib.hid (HL2.out.trans (hkx.below HL2.out.size (fun _ h => h.elim)))
            by_cases hjl : j < r'.l.length
            · obtain ⟨y, hy⟩ : ∃ y, r'.l[j]? = some y := ⟨_, List.getElem?_eq_getElem hjl⟩
              obtain ⟨g2, off2, cap3, ho, hv, -, -, hcell, -⟩ := (H1.out.kept hkx (fun _ _ h => h)).some (by omega)
              cases hv
              obtain ⟨e1, e2⟩ := RingS.cells_at hcell hy
              have HY := Lib.hid hy
              clear hcell hy hkx
              go_wp2_with fail
              refine (RingS.at_in _ _ _ _ _ (HU3.out.kept ((Kept.refl _ _).alloc _)).one j y HY.out).mono ?_
              rintro e w7 ⟨rfl, nz, rfl⟩
              have hb7 := (Blk.new wr [.int .i64 y.1, .string y.2] 70).drewN nz
              have d0 := hb7.cell (i := 0) rfl
              have d1 := hb7.cell (i := 1) rfl
              clear hb7
              go_wp2_with fail
              go_roundg (gk - 1)
              case measure => omega
              case rel => exact ⟨j + 1, by omega, by omega, by go_num, (HKX.out.alloc _).drewN _⟩
            · clear hkx
              go_wp2_with fail
              go_roundg (GK - 1)
              case measure => omega
              case rel => exact ⟨k + 1, r', by omega, by omega, by go_num, HU3.out.up, HL3.out⟩
      · go_wp2_with fail
        go_ret
        exact ⟨rfl, HL2.out⟩
end Go.Proofs.Ytolgapcckbcmbaa
