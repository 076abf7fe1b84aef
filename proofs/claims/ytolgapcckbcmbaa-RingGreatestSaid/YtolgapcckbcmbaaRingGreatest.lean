/- The law's walk: RingGreatest. -/
import Derived.Test.YtolgapcckbcmbaaRingLaw
import Derived.Test.YtolgapcckbcmbaaRingGrM
import Derived.Test.YtolgapcckbcmbaaRingFloorI
import Derived.Test.YtolgapcckbcmbaaRingLayI
import Derived.Test.YtolgapcckbcmbaaRdB
import Derived.Deep.CutRange
import Derived.Deep.CutBlock
import Derived.Deep.LoopGhost
namespace Go.Proofs.Ytolgapcckbcmbaa
open Go.RowKit Go.Maps

theorem RingI_mem {w : World} {p : Nat} {fp : Nat → Prop} {m : Nat} {r : RingM Int} (h : RingI.Ring w p fp m r) : fp p ∧ p < w.heap.size := by
  obtain ⟨v, o, hb, h1, hp, -⟩ := h
  exact ⟨hp, hb.lt⟩
theorem kept_drewN'' {w w' : World} (h : ∃ n, w' = w.drewN n) : Kept (fun _ => False) w w' := by
  obtain ⟨n, rfl⟩ := h
  exact (Kept.refl _ _).drewN n

/-- The ring at p, of memory from B on and below T, and the map at b. -/
def Gr (B T : Nat) (w : World) (p b m n : Nat) (r : RingM Int) (l : List (Int × Int)) : Prop :=
  (∃ f : Nat → Prop, RingI.Ring w p f m r ∧ (∀ g, f g → B ≤ g ∧ g < T) ∧ ¬ f b) ∧ MapL w b n l ∧ B ≤ b ∧ b < T ∧ T ≤ w.heap.size

section
variable {B T : Nat} {w w' : World} {p b m n : Nat} {r : RingM Int} {l : List (Int × Int)}
theorem Gr.one (h : Gr B T w p b m n r l) : RingI.Ring w p (fun g => B ≤ g) m r := by
  obtain ⟨⟨f, h1, d, hb⟩, -⟩ := h
  exact h1.mono fun g _ hg => (d g hg).1
theorem Gr.map (h : Gr B T w p b m n r l) : MapL w b n l := h.2.1
theorem Gr.keptF {F : Nat → Prop} (h : Gr B T w p b m n r l) (k : Kept F w w') (hF : ∀ g, F g → T ≤ g) : Gr B T w' p b m n r l := by
  obtain ⟨⟨f, h1, d, hb⟩, h2, h3, h4, h5⟩ := h
  have := k.size
  exact ⟨⟨f, h1.kept k (fun g hg hf => by have := d g hg; have := hF g hf; omega), d, hb⟩, h2.kept k (fun hf => by have := hF b hf; omega), h3, h4, by omega⟩
theorem Gr.kept (h : Gr B T w p b m n r l) (k : Kept (fun _ => False) w w') : Gr B T w' p b m n r l := h.keptF k (fun _ h => h.elim)
theorem Gr.up (h : Gr B T w p b m n r l) : Gr B w.heap.size w p b m n r l := by
  obtain ⟨⟨f, h1, d, hb⟩, h2, h3, h4, h5⟩ := h
  exact ⟨⟨f, h1, fun g hg => by have := d g hg; omega, hb⟩, h2, h3, by omega, Nat.le_refl _⟩
theorem Gr.more (h : Gr B T w p b m n r l) {n' : Nat} (hn : n ≤ n') : Gr B T w p b m n' r l := ⟨h.1, h.2.1.mono hn, h.2.2⟩
/-- The map has turned. -/
theorem Gr.turn {l' : List (Int × Int)} {n' : Nat} (h : Gr B T w p b m n r l) (k : Kept (fun g => g = b) w w') (hm : MapL w' b n' l') : Gr B T w' p b m n' r l' := by
  obtain ⟨⟨f, h1, d, hb⟩, h2, h3, h4, h5⟩ := h
  have := k.size
  exact ⟨⟨f, h1.kept k (fun g hg hf => hb (by rw [← hf]; exact hg)), d, hb⟩, hm, h3, h4, by omega⟩
end

theorem lay_gr (B T : Nat) (w : World) (p b m n : Nat) (r : RingM Int) (k x : Int) (hm : m ≤ 64) (h : Gr B T w p b m n r r.l) :
    Calls Try.prog 20 #[.pointer (some ⟨p, 0, none⟩), .int .i64 k, .int .i64 x] w fun e w' =>
      e = .returned (.tuple #[.int .i64 (layM m r k x).2.1, .bool (layM m r k x).2.2.1, .int .i64 (layM m r k x).2.2.2]) ∧ Gr B w'.heap.size w' p b m n (layM m r k x).1 r.l ∧ Kept (fun g => B ≤ g ∧ g < T) w w' := by
  obtain ⟨⟨f, h1, d, hb⟩, h2, h3, h4, h5⟩ := h
  refine (RingI.lay_calls w p f m _ k x h1 hm).mono ?_
  rintro e w' ⟨he, hw, hk⟩
  have hs := hk.size
  refine ⟨he, ⟨⟨_, hw, ?_, ?_⟩, h2.kept hk hb, h3, by omega, Nat.le_refl _⟩, hk.mono (fun g _ hg => d g hg)⟩
  · intro g hg
    rcases hg with hg | hg
    · have := d g hg; omega
    · have := d p (RingI_mem h1).1; omega
  · rintro (hg | hg)
    · exact hb hg
    · omega

theorem gr_new {w w1 w2 : World} {m : Nat} (h1 : RingI.Ring w1 w.heap.size (fun g => g = w.heap.size) m ⟨[], 0, false⟩) (z1 : w1.heap.size = w.heap.size + 1) (K1 : Kept (fun _ => False) w1 w2) :
    Gr w.heap.size (w2.heap.size + 1) (w2.alloc (.map #[] 0)) w.heap.size w2.heap.size m 0 ⟨[], 0, false⟩ [] := by
  have := K1.size
  refine ⟨⟨_, (h1.kept K1 (fun _ _ h => h)).kept ((Kept.refl (fun _ => False) w2).alloc _) (fun _ _ h => h), fun g hg => ?_, fun hg => ?_⟩, MapL.made w2, by omega, by omega, by rw [size_alloc]; omega⟩
  · omega
  · omega

def Fits (l : List (Int × Int)) : Prop := ∀ y ∈ l, (Lit.int .i64 y.1).wf = true ∧ (Lit.int .i64 y.2).wf = true
theorem Fits.ins {l : List (Int × Int)} {k v : Int} (h : Fits l) (hk : (Lit.int .i64 k).wf = true) (hv : (Lit.int .i64 v).wf = true) : Fits (insAt l k v) := fun y hy => by
  rcases insAt_cases hy with h1 | h1
  · exact h y h1
  · subst h1; exact ⟨hk, hv⟩
theorem Fits.tail {y : Int × Int} {t : List (Int × Int)} (h : Fits (y :: t)) : Fits t := fun z hz => h z (List.mem_cons_of_mem _ hz)

/-- What holds at the head of each round. -/
def GrR (B : Nat) (w : World) (p b m n : Nat) (r : RingM Int) : Prop := Gr B w.heap.size w p b m n r r.l ∧ Over r ∧ Fits r.l

/-- The number that the next one must be greater than. -/
def LastIs (l : List (Int × Int)) (floor : Int) (j : Nat) (lv : Int) : Prop := (j = 0 ∧ lv = floor) ∨ (0 < j ∧ ∃ y, l[j - 1]? = some y ∧ lv = y.1)
theorem LastIs.next {l : List (Int × Int)} {floor : Int} {j : Nat} {y : Int × Int} (hy : l[j]? = some y) : LastIs l floor (j + 1) y.1 := .inr ⟨by omega, y, by rw [Nat.add_sub_cancel]; exact hy, rfl⟩
theorem LastIs.lt {l : List (Int × Int)} {floor lv : Int} {j : Nat} {y : Int × Int} (h : LastIs l floor j lv) (hs : Srt l) (hy : l[j]? = some y) (ho : 0 < j ∨ floor < y.1) : lv < y.1 := by
  rcases h with ⟨h0, hl⟩ | ⟨h0, z, hz, hl⟩
  · rcases ho with h1 | h1
    · omega
    · omega
  · obtain ⟨p1, e1⟩ := List.getElem?_eq_some_iff.1 hz
    obtain ⟨p2, e2⟩ := List.getElem?_eq_some_iff.1 hy
    have := List.pairwise_iff_getElem.1 hs (j - 1) j p1 p2 (by omega)
    rw [e1, e2] at this
    omega

def IfG (g : Bool) (P : Prop) : Prop := g = true → P
theorem dI_inj {a b : Int} (h : dI a = dI b) : a = b := by injection h with h; injection h

set_option maxRecDepth 100000 in
set_option maxHeartbeats 8000000 in
theorem greatest_walk (n : Int) (a : Option Addr) (cap : Nat) (l : List Act) (w : World) (hr : ReadsB w a l) (hm : l.length ≤ maxLen) :
    Calls Try.prog 5 #[.int .i64 n, .slice a l.length cap] w fun e w' => e = .returned (.bool true) ∧ Below w.heap.size w w' := by
  have hmm := @run_makeMap Try.prog
  unfold maxLen at hm
  have HR := Lib.hid hr
  clear hr
  have hmb := mostN_bd n
  go_enter Try.func5, Try.ntmps5
  go_wp2_with fail
  refine (most_calls n _).mono ?_
  rintro e w1 ⟨rfl, rfl⟩
  generalize hmm : mostN n = m at *
  have HM := Lib.hid hmm
  clear hmm
  have hmi : ((m : Int)).toNat = m := by omega
  go_wp2_with fail
  refine (RingI.new_good _ m (by omega) (by omega)).mono ?_
  rintro e w1 ⟨rfl, hw0, hk0, hz0⟩
  rw [hmi] at hw0
  have HL0 := Lib.hid (hk0.below (B := w.heap.size) (Nat.le_refl _) (fun _ h => h.elim))
  have HW0 := Lib.hid hw0
  have HZ0 := Lib.hid hz0
  clear hw0 hk0 hz0
  go_wp2_with fail
  refine (alive_calls _).mono ?_
  rintro e w3 ⟨rfl, K1⟩
  have HL := Lib.hid (HL0.out.trans (K1.below (B := w.heap.size) HL0.out.size (fun _ h => h.elim)))
  have HK1 := Lib.hid K1
  clear K1
  by_cases h500 : (200 : Int) < l.length
  ·
    go_wp2_with fail
    refine (alive_calls _).mono ?_
    rintro e w2 ⟨rfl, K2⟩
    have HL2 := Lib.hid (HL.out.trans (K2.below (B := w.heap.size) HL.out.size (fun _ h => h.elim)))
    clear K2
    go_wp2_with fail
    go_ret
    exact ⟨rfl, HL2.out⟩
  · go_upto_region 5 with (fail)
    have HW := Lib.hid (gr_new HW0.out HZ0.out HK1.out)
    have HL1 := Lib.hid (HL.out.alloc (by have := HL.out.size; omega) (.map #[] 0))
    have HBB : Hid (w.heap.size ≤ w3.heap.size) := Lib.hid HL.out.size
    clear HW0 HZ0 HK1 HL HL0
    go_wp2_with fail
    go_loopg [48] (l.length) (fun gk i wr => ∃ (k : Nat) (r : RingM Int), k ≤ l.length ∧ l.length ≤ k + gk ∧ i = .int .i64 k ∧ GrR w.heap.size wr w.heap.size w3.heap.size m k r ∧ Below w.heap.size w wr)
    case atStart => exact ⟨0, ⟨[], 0, false⟩, Nat.zero_le _, by omega, rfl, ⟨HW.out.up, (fun h => by cases h), (fun y h => by cases h)⟩, HL1.out⟩
    case round =>
      obtain ⟨k, r, hk, hgk, rfl, ⟨hw, hov, hft⟩, hl⟩ := hrel
      obtain ⟨GK, hGK⟩ : ∃ GK, GK = gk := ⟨_, rfl⟩
      subst hGK
      have HW1 := Lib.hid hw
      have HL2 := Lib.hid hl
      have HOV := Lib.hid hov
      have HFT := Lib.hid hft
      clear hw hl HW HL1 hov hft
      by_cases hlt : k < l.length
      · obtain ⟨bb, off, rfl, hbb, hcell⟩ := HR.out (by omega)
        obtain ⟨y, hy⟩ : ∃ y, l[k]? = some y := ⟨_, List.getElem?_eq_getElem hlt⟩
        obtain ⟨q0, q1, q2, q3⟩ := hcell k y hy
        have c0 := (HL2.out.cell (p := ⟨bb, off + k * 3, none⟩) hbb).trans q0
        have c1 := (HL2.out.cell (p := ⟨bb, off + k * 3 + 1, none⟩) hbb).trans q1
        have c2 := (HL2.out.cell (p := ⟨bb, off + k * 3 + 2, none⟩) hbb).trans q2
        have HKW : Hid ((Lit.int .i64 y.key).wf = true) := Lib.hid q3
        have HVW : Hid ((Lit.int .i64 (k : Int)).wf = true) := Lib.hid (by simp [Lit.wf, IntKind.min, IntKind.max, IntKind.signed, IntKind.bits]; omega)
        clear hcell hy q0 q1 q2 q3
        obtain ⟨kd, key, x⟩ := y
        dsimp only at c0 c1 c2 HKW
        go_upto_region 8 with (fail)
        refine at_world (fun W => Blk W wr.heap.size [.int .i64 kd, .int .i64 key, .string x] 53 ∧ Gr w.heap.size wr.heap.size W w.heap.size w3.heap.size m k r r.l ∧ Below w.heap.size w W) ⟨Blk.new wr _ _, HW1.out.kept ((Kept.refl _ _).alloc _), HL2.out.alloc (by have := HL2.out.size; omega) _⟩ ?_
        rintro W ⟨hb, hu, hl⟩
        have HB := Lib.hid hb
        have HU := Lib.hid hu
        have HL := Lib.hid hl
        have hwz : w.heap.size ≤ wr.heap.size := HL2.out.size
        have HKEY : Hid (keyOf Try.prog 2 (.int .i64 key) = some (kI key)) := Lib.hid (keyOf_int_mk Try.underlying2 HKW.out)
        clear hb hu hl c0 c1 c2 HW1 HL2
        go_wp2_with fail
        refine (RingI.len_calls _ _ _ _ _ HU.out.one).mono ?_
        rintro e w4 ⟨rfl, rfl⟩
        have a1 := HB.out.cell (i := 1) rfl
        have hrl := HU.out.one.len
        go_wp2_with fail
        refine (lay_gr _ _ _ _ _ _ _ r key k hmb.2 HU.out).mono ?_
        rintro e w4 ⟨rfl, hw4, hk4⟩
        have a1 := (hk4.blk HB.out (fun h => by omega)).cell (i := 1) rfl
        have HW4 := Lib.hid hw4
        have HL4 := Lib.hid (HL.out.trans (hk4.below HL.out.size (fun _ h => h.1)))
        have hcs := layM_cases m r key (k : Int) HU.out.one.srt HOV.out
        have HSR := Lib.hid HU.out.one.srt
        have hb4 : wr.heap.size < w4.heap.size := (hk4.blk HB.out (fun h => by omega)).lt
        have HB4 := Lib.hid (hk4.blk HB.out (fun h => by omega))
        clear hw4 hk4 HU HL HB
        generalize layM m r key (k : Int) = R at *
        obtain ⟨r', num, b, err⟩ := R
        have HCS := Lib.hid hcs
        clear hcs
        dsimp only at *
        go_upto_if 65 with (fail)
        go_cut [] from 49 to 150 (fun wx => ∃ r' : RingM Int, GrR w.heap.size wx w.heap.size w3.heap.size m (k + 1) r' ∧ Below w.heap.size w wx)
        case first =>
          rcases HCS.out with ⟨ht, hR⟩ | ⟨ht, hR⟩ | ⟨ht, hle, hR, ho⟩ | ⟨ht, y, t, hyt, hR, ho⟩
          · cases hR
            clear HCS
            go_wp2_with fail
            refine (has_calls _ _ _ _ key HW4.out.map HSR.out HKW.out).mono ?_
            rintro e w5 ⟨rfl, rfl⟩
            rw [ht]
            go_wp2_with fail
            refine (RingI.len_calls _ _ _ _ _ HW4.out.one).mono ?_
            rintro e w5 ⟨rfl, rfl⟩
            go_wp2_with fail
            go_meet
            exact ⟨r, ⟨HW4.out.more (Nat.le_succ _), HOV.out, HFT.out⟩, HL4.out⟩
          · cases hR
            clear HCS
            go_wp2_with fail
            refine (has_calls _ _ _ _ key HW4.out.map HSR.out HKW.out).mono ?_
            rintro e w5 ⟨rfl, rfl⟩
            rw [ht]
            go_wp2_with fail
            refine (RingI.len_calls _ _ _ _ _ HW4.out.one).mono ?_
            rintro e w5 ⟨rfl, rfl⟩
            go_wp2_with fail
            go_meet
            exact ⟨r, ⟨HW4.out.more (Nat.le_succ _), HOV.out, HFT.out⟩, HL4.out⟩
          · cases hR
            clear HCS
            obtain ⟨D, hown, hsm⟩ := HW4.out.map
            have HSM := Lib.hid (hsm.put (v := (k : Int)) HSR.out ht)
            have HFI := Lib.hid (HFT.out.ins HKW.out HVW.out)
            have HO := Lib.hid ho
            clear hsm ht hle ho
            go_wp2_with (first
              | (at_mapUpdate; refine wpList_mapUpdate_own _ rfl _ _ _ 51 rfl 2 3 lawK Try.underlying51 _ _ k D rfl hown (by unfold maxLen; omega) _ _ _ rfl rfl HKEY.out _ [] (plainElem_int Try.underlying3 HVW.out) ?_; intro w6 hown6 hgrow6; have HOWN := Lib.hid hown6; have HGR := Lib.hid (kept_grown hgrow6); clear hown6 hgrow6))
            go_meet
            exact ⟨_, ⟨(HW4.out.turn HGR.out ⟨_, HOWN.out, HSM.out⟩).up, HO.out, HFI.out⟩, HL4.out.trans (HGR.out.below HL4.out.size (fun _ h => by rw [h]; exact HBB.out))⟩
          · cases hR
            clear HCS
            obtain ⟨D, hown, hsm⟩ := HW4.out.map
            have hsp := hsm.put (v := (k : Int)) HSR.out ht
            have hsi := insAt_srt r.l key (k : Int) HSR.out ht
            have hfi := HFT.out.ins HKW.out HVW.out
            rw [hyt] at hsp hsi hfi
            have HSM := Lib.hid (hsp.del hsi)
            have HKY : Hid (keyOf Try.prog 2 (.int .i64 y.1) = some (kI y.1)) := Lib.hid (keyOf_int_mk Try.underlying2 (hfi y (List.mem_cons_self ..)).1)
            have HFI := Lib.hid hfi.tail
            have HO := Lib.hid ho
            clear hsm hsp hsi hfi ht hyt ho
            go_wp2_with (first
              | (at_mapUpdate; refine wpList_mapUpdate_own _ rfl _ _ _ 51 rfl 2 3 lawK Try.underlying51 _ _ k D rfl hown (by unfold maxLen; omega) _ _ _ rfl rfl HKEY.out _ [] (plainElem_int Try.underlying3 HVW.out) ?_; intro w6 hown6 hgrow6; have HGR := Lib.hid (kept_grown hgrow6); clear hgrow6)
              | (at_delete; refine wpList_delete_own _ rfl _ _ 51 2 rfl 3 lawK Try.underlying51 _ _ _ _ rfl hown6 _ _ rfl HKY.out ?_; intro w7 hown7 hturn7; have HOWN := Lib.hid hown7; have HTU := Lib.hid (kept_turned hturn7); clear hown7 hturn7))
            go_meet
            have HG2 := Lib.hid (HGR.out.trans HTU.out (fun _ h => .inl h))
            exact ⟨_, ⟨(HW4.out.turn HG2.out ⟨_, HOWN.out, HSM.out⟩).up, HO.out, HFI.out⟩, HL4.out.trans (HG2.out.below HL4.out.size (fun _ h => by rw [h]; exact HBB.out))⟩
        case rest =>
          obtain ⟨r', ⟨hw, hov, hft⟩, hl⟩ := hcut
          have HW5 := Lib.hid hw
          have HL5 := Lib.hid hl
          have HOV5 := Lib.hid hov
          have HFT5 := Lib.hid hft
          have hrm := hw.one.len
          have HSR5 := Lib.hid hw.one.srt
          obtain ⟨D, hown, hsm⟩ := hw.map
          have HSZ : Hid (size D = r'.l.length) := Lib.hid hsm.2.1
          clear hw hl hov hft hsm HW4 HL4 HB4 HOV HFT HSR HCS a1
          go_wp2_with fail
          refine (RingI.len_calls _ _ _ _ _ HW5.out.one).mono ?_
          rintro e w5 ⟨rfl, rfl⟩
          go_wp2_with (at_len; refine wpList_len_own _ rfl _ 51 rfl 2 3 Try.underlying51 _ _ _ D rfl hown ?_; rw [HSZ.out])
          refine (RingI.len_calls _ _ _ _ _ HW5.out.one).mono ?_
          rintro e w5 ⟨rfl, rfl⟩
          go_wp2_with fail
          refine (most_calls n _).mono ?_
          rintro e w5 ⟨rfl, rfl⟩
          rw [HM.out]
          obtain ⟨rl, rf, rg⟩ := r'
          dsimp only at *
          cases rg with
          | true =>
            go_wp2_with fail
            refine (RingI.floor_calls _ _ _ _ _ HW5.out.one).mono ?_
            rintro e w6 ⟨rfl, hq⟩
            have hk6 : Kept (fun _ => False) _ w6 := kept_drewN'' hq
            have HW6 := Lib.hid (HW5.out.kept hk6)
            have HL6 := Lib.hid (HL5.out.trans (hk6.below HL5.out.size (fun _ h => h.elim)))
            clear hq hk6 HW5 HL5 hown HSZ
            go_wp2_with fail
            refine (RingI.len_calls _ _ _ _ _ HW6.out.one).mono ?_
            rintro e w7 ⟨rfl, rfl⟩
            go_wp2_with fail
            go_loopg [16, 109] (rl.length) (fun gj s i wx => ∃ (j : Nat) (lv : Int), j ≤ rl.length ∧ rl.length ≤ j + gj ∧ i = .int .i64 j ∧ s = .int .i64 lv ∧ LastIs rl rf j lv ∧ Kept (fun _ => False) w6 wx)
            case atStart => exact ⟨0, _, Nat.zero_le _, by omega, rfl, rfl, .inl ⟨rfl, rfl⟩, Kept.refl _ _⟩
            case round =>
              obtain ⟨j, lv, hj, hgj, rfl, rfl, hla, hkx⟩ := hrel
              have HLA := Lib.hid hla
              have HKX := Lib.hid hkx
              have HW7 := Lib.hid (HW6.out.kept hkx)
              have HL7 := Lib.hid (HL6.out.trans (hkx.below HL6.out.size (fun _ h => h.elim)))
              clear hla hkx
              by_cases hjl : j < rl.length
              · obtain ⟨y, hy⟩ : ∃ y, rl[j]? = some y := ⟨_, List.getElem?_eq_getElem hjl⟩
                have HY := Lib.hid hy
                have hmem := List.mem_of_getElem? hy
                have HOY : Hid (IfG true (rf < y.1)) := Lib.hid (fun hg => HOV5.out hg y hmem)
                have HKY : Hid (keyOf Try.prog 2 (.int .i64 y.1) = some (kI y.1)) := Lib.hid (keyOf_int_mk Try.underlying2 (HFT5.out y hmem).1)
                have HME := Lib.hid hmem
                clear hy hmem
                go_wp2_with fail
                refine (RingI.at_in _ _ _ _ _ HW7.out.one j y HY.out).mono ?_
                rintro e w8 ⟨rfl, hq⟩
                have hk8 : Kept (fun _ => False) _ w8 := kept_drewN'' hq
                have HK8 := Lib.hid (HKX.out.trans hk8 (fun _ h => h.elim))
                obtain ⟨D, hown, hsm⟩ := (HW7.out.kept hk8).map
                have HD := Lib.hid (hsm.2.2.1 y HME.out)
                clear hq hk8 hsm
                by_cases hj0 : (0 : Int) < (j : Int)
                · have hlt : lv < y.1 := HLA.out.lt HSR5.out HY.out (.inl (by omega))
                  have hnl : ¬ y.1 ≤ lv := by omega
                  go_wp2_with (at_lookup; refine wpList_lookup_own_ok_int _ rfl _ _ 51 rfl 2 3 .i64 lawK Try.underlying51 Try.underlying3 (zeroV _) _ _ D rfl hown _ _ rfl HKY.out ?_; intro c hat hwc; obtain rfl := dI_inj (HD.out.2.symm.trans hat); clear hat; rw [HD.out.1])
                  go_roundg (gk - 1)
                  case measure => omega
                  case rel => exact ⟨j + 1, _, by omega, by omega, by go_num, rfl, LastIs.next HY.out, HK8.out⟩
                · have hlt : true = true → lv < y.1 := fun hg => HLA.out.lt HSR5.out HY.out (.inr (HOY.out hg))
                  have hnl : true = true → ¬ y.1 ≤ lv := fun hg => by have := hlt hg; omega
                  clear hlt
                  first | have hnl := hnl rfl | clear hnl
                  go_wp2_with (at_lookup; refine wpList_lookup_own_ok_int _ rfl _ _ 51 rfl 2 3 .i64 lawK Try.underlying51 Try.underlying3 (zeroV _) _ _ D rfl hown _ _ rfl HKY.out ?_; intro c hat hwc; obtain rfl := dI_inj (HD.out.2.symm.trans hat); clear hat; rw [HD.out.1])
                  go_roundg (gk - 1)
                  case measure => omega
                  case rel => exact ⟨j + 1, _, by omega, by omega, by go_num, rfl, LastIs.next HY.out, HK8.out⟩
              · go_wp2_with fail
                go_roundg (GK - 1)
                case measure => omega
                case rel => exact ⟨k + 1, _, by omega, by omega, by go_num, ⟨HW7.out.up, HOV5.out, HFT5.out⟩, HL7.out⟩
          | false =>
            go_wp2_with fail
            refine (RingI.floor_calls _ _ _ _ _ HW5.out.one).mono ?_
            rintro e w6 ⟨rfl, hq⟩
            have hk6 : Kept (fun _ => False) _ w6 := kept_drewN'' hq
            have HW6 := Lib.hid (HW5.out.kept hk6)
            have HL6 := Lib.hid (HL5.out.trans (hk6.below HL5.out.size (fun _ h => h.elim)))
            clear hq hk6 HW5 HL5 hown HSZ
            go_wp2_with fail
            refine (RingI.len_calls _ _ _ _ _ HW6.out.one).mono ?_
            rintro e w7 ⟨rfl, rfl⟩
            go_wp2_with fail
            go_loopg [16, 109] (rl.length) (fun gj s i wx => ∃ (j : Nat) (lv : Int), j ≤ rl.length ∧ rl.length ≤ j + gj ∧ i = .int .i64 j ∧ s = .int .i64 lv ∧ LastIs rl rf j lv ∧ Kept (fun _ => False) w6 wx)
            case atStart => exact ⟨0, _, Nat.zero_le _, by omega, rfl, rfl, .inl ⟨rfl, rfl⟩, Kept.refl _ _⟩
            case round =>
              obtain ⟨j, lv, hj, hgj, rfl, rfl, hla, hkx⟩ := hrel
              have HLA := Lib.hid hla
              have HKX := Lib.hid hkx
              have HW7 := Lib.hid (HW6.out.kept hkx)
              have HL7 := Lib.hid (HL6.out.trans (hkx.below HL6.out.size (fun _ h => h.elim)))
              clear hla hkx
              by_cases hjl : j < rl.length
              · obtain ⟨y, hy⟩ : ∃ y, rl[j]? = some y := ⟨_, List.getElem?_eq_getElem hjl⟩
                have HY := Lib.hid hy
                have hmem := List.mem_of_getElem? hy
                have HOY : Hid (IfG false (rf < y.1)) := Lib.hid (fun hg => HOV5.out hg y hmem)
                have HKY : Hid (keyOf Try.prog 2 (.int .i64 y.1) = some (kI y.1)) := Lib.hid (keyOf_int_mk Try.underlying2 (HFT5.out y hmem).1)
                have HME := Lib.hid hmem
                clear hy hmem
                go_wp2_with fail
                refine (RingI.at_in _ _ _ _ _ HW7.out.one j y HY.out).mono ?_
                rintro e w8 ⟨rfl, hq⟩
                have hk8 : Kept (fun _ => False) _ w8 := kept_drewN'' hq
                have HK8 := Lib.hid (HKX.out.trans hk8 (fun _ h => h.elim))
                obtain ⟨D, hown, hsm⟩ := (HW7.out.kept hk8).map
                have HD := Lib.hid (hsm.2.2.1 y HME.out)
                clear hq hk8 hsm
                by_cases hj0 : (0 : Int) < (j : Int)
                · have hlt : lv < y.1 := HLA.out.lt HSR5.out HY.out (.inl (by omega))
                  have hnl : ¬ y.1 ≤ lv := by omega
                  go_wp2_with (at_lookup; refine wpList_lookup_own_ok_int _ rfl _ _ 51 rfl 2 3 .i64 lawK Try.underlying51 Try.underlying3 (zeroV _) _ _ D rfl hown _ _ rfl HKY.out ?_; intro c hat hwc; obtain rfl := dI_inj (HD.out.2.symm.trans hat); clear hat; rw [HD.out.1])
                  go_roundg (gk - 1)
                  case measure => omega
                  case rel => exact ⟨j + 1, _, by omega, by omega, by go_num, rfl, LastIs.next HY.out, HK8.out⟩
                · have hlt : false = true → lv < y.1 := fun hg => HLA.out.lt HSR5.out HY.out (.inr (HOY.out hg))
                  have hnl : false = true → ¬ y.1 ≤ lv := fun hg => by have := hlt hg; omega
                  clear hlt
                  first | have hnl := hnl rfl | clear hnl
                  go_wp2_with (at_lookup; refine wpList_lookup_own_ok_int _ rfl _ _ 51 rfl 2 3 .i64 lawK Try.underlying51 Try.underlying3 (zeroV _) _ _ D rfl hown _ _ rfl HKY.out ?_; intro c hat hwc; obtain rfl := dI_inj (HD.out.2.symm.trans hat); clear hat; rw [HD.out.1])
                  go_roundg (gk - 1)
                  case measure => omega
                  case rel => exact ⟨j + 1, _, by omega, by omega, by go_num, rfl, LastIs.next HY.out, HK8.out⟩
              · go_wp2_with fail
                go_roundg (GK - 1)
                case measure => omega
                case rel => exact ⟨k + 1, _, by omega, by omega, by go_num, ⟨HW7.out.up, HOV5.out, HFT5.out⟩, HL7.out⟩
      · go_wp2_with fail
        go_ret
        exact ⟨rfl, HL2.out⟩
end Go.Proofs.Ytolgapcckbcmbaa
