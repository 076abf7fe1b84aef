/- Lay of a ring at afterimage/api.Snap. -/
import Derived.Test.YtekdkckgmleofaaGreatXf15
import Derived.Test.YtekdkckgmleofaaGreatXf14
import Derived.Deep.Cut
import Derived.Deep.RegionHeld3
set_option linter.unusedVariables false
set_option linter.unusedSimpArgs false
namespace Go.Proofs.YtekdkckgmleofaaGreat.RingN
open Go.RowKit


def LayPost (w : World) (p : Nat) (fp : Nat → Prop) (most : Nat) (R : RingM SnapS × Int × Bool × Int) (e : Ending) (w' : World) : Prop :=
  e = .returned (.tuple #[.int .i64 R.2.1, .bool R.2.2.1, .int .i64 R.2.2.2]) ∧ Ring w' p (fun g => fp g ∨ (w.heap.size ≤ g ∧ g < w'.heap.size)) most R.1 ∧ Kept fp w w'

theorem lay_still {w w' : World} {p : Nat} {fp : Nat → Prop} {most : Nat} {r : RingM SnapS} {c : Int} (h : Ring w p fp most r) (k : Kept (fun _ => False) w w') : LayPost w p fp most (r, 0, false, c) (.returned (.tuple #[.int .i64 0, .bool false, .int .i64 c])) w' :=
  ⟨rfl, (h.kept k (fun _ _ h => h)).mono (fun _ _ h => .inl h), k.mono (fun _ _ h => h.elim)⟩

/-- The ring, in parts: what its slot of things holds, and who owns that memory. -/
def Mid (w : World) (p : Nat) (fp : Nat → Prop) (most : Nat) (L : List (Int × SnapS)) (floor : Int) (gone : Bool) (a : Option Addr) (cap : Nat) (W : World) : Prop :=
  ∃ o, Blk W p [.slice a L.length cap, .int .i64 most, .int .i64 floor, .bool gone] 159 ∧ Sl W (.slice a L.length cap) 168 4 L.length (cellsL enc L) o ∧ (∀ g, o = some g → (fp g ∨ (w.heap.size ≤ g ∧ g < W.heap.size)) ∧ g ≠ p) ∧ Kept fp w W

theorem layM_pass {most : Nat} {r : RingM SnapS} {k : Int} {x : SnapS} (ht : there r.l k = false) (hg : r.gone = true → ¬ k ≤ r.floor) (hq : plc r.l k = 0 → r.l.length < most) :
    (r.l.length + 1 ≤ most → layM most r k x = (⟨insAt r.l k x, r.floor, r.gone⟩, 0, false, 0)) ∧ (¬ r.l.length + 1 ≤ most → ∀ y t, insAt r.l k x = y :: t → layM most r k x = (⟨t, y.1, true⟩, y.1, true, 0)) := by
  have h1 : ((r.gone && decide (k ≤ r.floor)) || (decide (plc r.l k = 0) && decide (r.l.length = most))) = false := by
    cases hgg : r.gone with
    | false =>
      by_cases h0 : plc r.l k = 0
      · have := hq h0
        have h2 : ¬ r.l.length = most := by omega
        simp [h2]
      · simp [h0]
    | true =>
      have h3 := hg hgg
      by_cases h0 : plc r.l k = 0
      · have := hq h0
        have h2 : ¬ r.l.length = most := by omega
        simp [h2, h3]
      · simp [h0, h3]
  constructor
  · intro hl
    unfold layM
    rw [if_neg (by rw [ht]; simp), if_neg (by rw [h1]; simp), if_pos hl]
  · intro hl y t hyt
    unfold layM
    rw [if_neg (by rw [ht]; simp), if_neg (by rw [h1]; simp), if_neg hl, hyt]

theorem Mid.drewN {w : World} {p : Nat} {fp : Nat → Prop} {most : Nat} {L : List (Int × SnapS)} {floor : Int} {gone : Bool} {a : Option Addr} {cap : Nat} {W : World} (h : Mid w p fp most L floor gone a cap W) (n : Nat) : Mid w p fp most L floor gone a cap (W.drewN n) := by
  obtain ⟨o, hB, hS, hO, hK⟩ := h
  exact ⟨o, hB.drewN n, hS.drewN n, hO, hK.drewN n⟩


theorem lay_there (w : World) (p : Nat) (fp : Nat → Prop) (most : Nat) (r : RingM SnapS) (k : Int) (x : SnapS) (h : Ring w p fp most r) (hm : most ≤ 64) (ht : there r.l k = true) :
    Calls Tryz.prog 44 #[.pointer (some ⟨p, 0, none⟩), .int .i64 k, sv x] w (LayPost w p fp most (r, 0, false, 12)) := by
  have HP := Lib.hid (fun W (hK : Kept (fun _ => False) w W) => place_calls W p fp most r k (h.kept hK (fun _ _ h => h)) hm)
  have HR := Lib.hid h
  rw [ht] at HP
  clear ht h
  generalize plc r.l k = q at *
  go_enter Tryz.func44, Tryz.ntmps44
  go_wp2_with fail
  have HKX := Lib.hid ((Kept.refl (fun _ => False) w).alloc (.cells #[.int .i64 x.tick, .int .i64 x.time, .slice x.a x.len x.cap] 42))
  refine (HP.out _ HKX.out).mono ?_
  rintro e w1 ⟨rfl, hk⟩
  have HX := Lib.hid (hk.blk (Blk.new w [.int .i64 x.tick, .int .i64 x.time, .slice x.a x.len x.cap] 42) (fun h => h))
  have HK := Lib.hid (HKX.out.trans hk (fun _ h => h.elim))
  clear hk HKX
  go_wp2_with fail
  go_ret3
  exact lay_still HR.out HK.out

set_option maxHeartbeats 2000000 in
theorem lay_low (w : World) (p : Nat) (fp : Nat → Prop) (most : Nat) (r : RingM SnapS) (k : Int) (x : SnapS) (h : Ring w p fp most r) (hm : most ≤ 64) (ht : there r.l k = false) (hg : r.gone = true) (hf : k ≤ r.floor) :
    Calls Tryz.prog 44 #[.pointer (some ⟨p, 0, none⟩), .int .i64 k, sv x] w (LayPost w p fp most (r, 0, false, 13)) := by
  have HP := Lib.hid (fun W (hK : Kept (fun _ => False) w W) => place_calls W p fp most r k (h.kept hK (fun _ _ h => h)) hm)
  have HR := Lib.hid h
  rw [ht] at HP
  clear ht
  obtain ⟨v, o, hb, h1, hp, d1, hs, hl⟩ := h
  obtain ⟨a, cap, rfl, hcap, hcm⟩ := h1.form
  unfold maxLen at hcm
  have c0 := hb.cell (i := 0) rfl
  have c1 := hb.cell (i := 1) rfl
  have c2 := hb.cell (i := 2) rfl
  have c3 := hb.cell (i := 3) rfl
  have HB := Lib.hid hb
  have H1 := Lib.hid h1
  have HS := Lib.hid hs
  have D1 := Lib.hid d1
  clear hb h1 hs d1
  rw [hg] at c3
  clear hl hcap
  generalize plc r.l k = q at *
  go_enter Tryz.func44, Tryz.ntmps44
  go_wp2_with fail
  have HKX := Lib.hid ((Kept.refl (fun _ => False) w).alloc (.cells #[.int .i64 x.tick, .int .i64 x.time, .slice x.a x.len x.cap] 42))
  refine (HP.out _ HKX.out).mono ?_
  rintro e w1 ⟨rfl, hk⟩
  have HX := Lib.hid (hk.blk (Blk.new w [.int .i64 x.tick, .int .i64 x.time, .slice x.a x.len x.cap] 42) (fun h => h))
  have HK := Lib.hid (HKX.out.trans hk (fun _ h => h.elim))
  clear hk HKX
  have c2' := HK.out.cell c2 (fun h => h)
  have c3' := HK.out.cell c3 (fun h => h)
  go_wp2_with fail
  go_ret3
  exact lay_still HR.out HK.out

set_option maxHeartbeats 2000000 in
theorem lay_full (w : World) (p : Nat) (fp : Nat → Prop) (most : Nat) (r : RingM SnapS) (k : Int) (x : SnapS) (h : Ring w p fp most r) (hm : most ≤ 64) (ht : there r.l k = false) (hg : r.gone = true → ¬ k ≤ r.floor) (hq : plc r.l k = 0) (hf : r.l.length = most) :
    Calls Tryz.prog 44 #[.pointer (some ⟨p, 0, none⟩), .int .i64 k, sv x] w (LayPost w p fp most (r, 0, false, 13)) := by
  have HP := Lib.hid (fun W (hK : Kept (fun _ => False) w W) => place_calls W p fp most r k (h.kept hK (fun _ _ h => h)) hm)
  have HR := Lib.hid h
  rw [ht] at HP
  clear ht
  rw [hq] at HP
  obtain ⟨v, o, hb, h1, hp, d1, hs, hl⟩ := h
  obtain ⟨a, cap, rfl, hcap, hcm⟩ := h1.form
  unfold maxLen at hcm
  have c0 := hb.cell (i := 0) rfl
  have c1 := hb.cell (i := 1) rfl
  have c2 := hb.cell (i := 2) rfl
  have c3 := hb.cell (i := 3) rfl
  have HB := Lib.hid hb
  have H1 := Lib.hid h1
  have HS := Lib.hid hs
  have D1 := Lib.hid d1
  clear hb h1 hs d1
  clear hl hcap
  cases hgg : r.gone with
  | false =>
    rw [hgg] at c3
    go_enter Tryz.func44, Tryz.ntmps44
    go_wp2_with fail
    have HKX := Lib.hid ((Kept.refl (fun _ => False) w).alloc (.cells #[.int .i64 x.tick, .int .i64 x.time, .slice x.a x.len x.cap] 42))
    refine (HP.out _ HKX.out).mono ?_
    rintro e w1 ⟨rfl, hk⟩
    have HX := Lib.hid (hk.blk (Blk.new w [.int .i64 x.tick, .int .i64 x.time, .slice x.a x.len x.cap] 42) (fun h => h))
    have HK := Lib.hid (HKX.out.trans hk (fun _ h => h.elim))
    clear hk HKX
    have c0' := HK.out.cell c0 (fun h => h)
    have c1' := HK.out.cell c1 (fun h => h)
    have c2' := HK.out.cell c2 (fun h => h)
    have c3' := HK.out.cell c3 (fun h => h)
    go_wp2_with fail
    go_quiet (fail)
    go_wp2_with fail
    go_ret3
    exact lay_still HR.out (HK.out.drewN _)
  | true =>
    rw [hgg] at c3
    have hfl : ¬ k ≤ r.floor := hg hgg
    go_enter Tryz.func44, Tryz.ntmps44
    go_wp2_with fail
    have HKX := Lib.hid ((Kept.refl (fun _ => False) w).alloc (.cells #[.int .i64 x.tick, .int .i64 x.time, .slice x.a x.len x.cap] 42))
    refine (HP.out _ HKX.out).mono ?_
    rintro e w1 ⟨rfl, hk⟩
    have HX := Lib.hid (hk.blk (Blk.new w [.int .i64 x.tick, .int .i64 x.time, .slice x.a x.len x.cap] 42) (fun h => h))
    have HK := Lib.hid (HKX.out.trans hk (fun _ h => h.elim))
    clear hk HKX
    have c0' := HK.out.cell c0 (fun h => h)
    have c1' := HK.out.cell c1 (fun h => h)
    have c2' := HK.out.cell c2 (fun h => h)
    have c3' := HK.out.cell c3 (fun h => h)
    go_wp2_with fail
    go_quiet (fail)
    go_wp2_with fail
    go_ret3
    exact lay_still HR.out (HK.out.drewN _)

theorem mid_store {w W W2 : World} {p : Nat} {fp : Nat → Prop} {most : Nat} {L : List (Int × SnapS)} {floor : Int} {gone : Bool} {a : Option Addr} {cap : Nat} {o2 o3 : Option Nat} {u : Value} {ob : Obj} (hp : fp p)
    (hB : Blk W p [u, .int .i64 most, .int .i64 floor, .bool gone] 159) (hO : ∀ g, o2 = some g → (fp g ∨ (w.heap.size ≤ g ∧ g < W.heap.size)) ∧ g ≠ p) (hK : Kept fp w W) (hK3 : Kept (fun k => o2 = some k) (W.alloc ob) W2)
    (hS : Sl W2 (.slice a L.length cap) 168 4 L.length (cellsL enc L) o3) (hO3 : o3 = o2 ∨ ∃ q, o3 = some q ∧ (W.alloc ob).heap.size ≤ q) :
    Mid w p fp most L floor gone a cap (W2.setCell ⟨p, 0, none⟩ (.slice a L.length cap)) := by
  have hpl := hB.lt
  have z1 := hK.size
  have z2 := hK3.size
  rw [size_alloc] at z2 hO3
  have hO' : ∀ g, o3 = some g → (fp g ∨ (w.heap.size ≤ g ∧ g < W2.heap.size)) ∧ g ≠ p := by
    intro g hg
    rcases hO3 with e | ⟨q, e, hq⟩
    · have := hO g (by rw [← e]; exact hg)
      exact ⟨this.1.imp id (fun h => ⟨h.1, by omega⟩), this.2⟩
    · have e1 : q = g := by rw [e] at hg; exact Option.some.inj hg
      subst e1
      exact ⟨.inr ⟨by omega, hS.lt hg⟩, by omega⟩
  refine ⟨o3, (hK3.blk (hB.alloc _) (fun h => (hO p h).2 rfl)).set 0 _, hS.setCell (fun g hg => (hO' g hg).2) _, ?_, ((hK.alloc _).trans hK3 (fun i hi => ?_)).setCell (.inl hp) _⟩
  · intro g hg
    rw [size_setCell]
    exact hO' g hg
  · rcases (hO i hi).1 with h | h
    · exact .inl h
    · exact .inr h.1

theorem mid_ring {w W : World} {p : Nat} {fp : Nat → Prop} {most : Nat} {L : List (Int × SnapS)} {floor : Int} {gone : Bool} {a : Option Addr} {cap : Nat} {num : Int} {b : Bool} {err : Int} {R : RingM SnapS × Int × Bool × Int} (hR : R = (⟨L, floor, gone⟩, num, b, err)) (hp : fp p) (h : Mid w p fp most L floor gone a cap W) (hs : Srt L) (hl : L.length ≤ most) :
    LayPost w p fp most R (.returned (.tuple #[.int .i64 num, .bool b, .int .i64 err])) W := by
  obtain ⟨o, hB, hS, hO, hK⟩ := h
  subst hR
  exact ⟨rfl, ⟨_, o, hB, hS, .inl hp, hO, hs, hl⟩, hK⟩

theorem mid_gone {w W W3 : World} {p : Nat} {fp : Nat → Prop} {most : Nat} {t : List (Int × SnapS)} {floor : Int} {gone : Bool} {u v : Value} {o : Option Nat} {y : Int × SnapS} {R : RingM SnapS × Int × Bool × Int} (hR : R = (⟨t, y.1, true⟩, y.1, true, 0)) (hp : fp p)
    (hB : Blk W p [u, .int .i64 most, .int .i64 floor, .bool gone] 159) (hO : ∀ g, o = some g → (fp g ∨ (w.heap.size ≤ g ∧ g < W.heap.size)) ∧ g ≠ p) (hK : Kept fp w W)
    (hS : Sl W3 v 168 4 t.length (cellsL enc t) o) (hK3 : Kept (fun k => o = some k) ((W.setCell ⟨p, 2, none⟩ (.int .i64 y.1)).setCell ⟨p, 3, none⟩ (.bool true)) W3) (hs : Srt t) (hl : t.length ≤ most) :
    LayPost w p fp most R (.returned (.tuple #[.int .i64 y.1, .bool true, .int .i64 0])) (W3.setCell ⟨p, 0, none⟩ v) := by
  have z2 := hK3.size
  rw [size_setCell, size_setCell] at z2
  subst hR
  refine ⟨rfl, ⟨v, o, (hK3.blk ((hB.set 2 _).set 3 _) (fun h => (hO p h).2 rfl)).set 0 _, hS.setCell (fun g hg => (hO g hg).2) _, .inl hp, ?_, hs, hl⟩, (((hK.setCell (.inl hp) _).setCell (.inl hp) _).trans hK3 (fun i hi => ?_)).setCell (.inl hp) _⟩
  · intro g hg
    rw [size_setCell]
    exact ⟨(hO g hg).1.imp id (fun h => ⟨h.1, by omega⟩), (hO g hg).2⟩
  · rcases (hO i hi).1 with h | h
    · exact .inl h
    · exact .inr h.1

set_option maxHeartbeats 2000000 in
theorem lay_pass (w : World) (p : Nat) (fp : Nat → Prop) (most : Nat) (r : RingM SnapS) (k : Int) (x : SnapS) (h : Ring w p fp most r) (hm : most ≤ 64) (ht : there r.l k = false) (hg : r.gone = true → ¬ k ≤ r.floor) (hq : plc r.l k = 0 → r.l.length < most) :
    Calls Tryz.prog 44 #[.pointer (some ⟨p, 0, none⟩), .int .i64 k, sv x] w (LayPost w p fp most (layM most r k x)) := by
  have HLP := layM_pass (x := x) ht hg hq
  have HR1 := Lib.hid HLP.1
  have HR2 := Lib.hid HLP.2
  clear HLP
  have HLS : Hid (Srt (insAt r.l k x)) := Lib.hid (insAt_srt _ _ _ h.srt ht)
  have HP := Lib.hid (fun W (hK : Kept (fun _ => False) w W) => place_calls W p fp most r k (h.kept hK (fun _ _ h => h)) hm)
  have HR := Lib.hid h
  rw [ht] at HP
  clear ht
  obtain ⟨v, o, hb, h1, hp, d1, hs, hl⟩ := h
  obtain ⟨a, cap, rfl, hcap, hcm⟩ := h1.form
  unfold maxLen at hcm
  have c0 := hb.cell (i := 0) rfl
  have c1 := hb.cell (i := 1) rfl
  have c2 := hb.cell (i := 2) rfl
  have c3 := hb.cell (i := 3) rfl
  have HB := Lib.hid hb
  have H1 := Lib.hid h1
  have HS := Lib.hid hs
  have D1 := Lib.hid d1
  clear hb h1 hs d1
  have hpl := plc_le r.l k
  generalize hqq : plc r.l k = q at *
  have HQ := Lib.hid hqq
  clear hqq
  cases hgg : r.gone with
  | false =>
    rw [hgg] at c3
    rw [hgg] at HR1
    have HB0 := HB
    rw [hgg] at HB0
    by_cases hq0 : q = 0
    · have hlt := hq hq0
      have hne : ¬ r.l.length = most := by omega
      subst hq0
      clear hq hl
      go_enter Tryz.func44, Tryz.ntmps44
      go_wp2_with fail
      have HKX := Lib.hid ((Kept.refl (fun _ => False) w).alloc (.cells #[.int .i64 x.tick, .int .i64 x.time, .slice x.a x.len x.cap] 42))
      refine (HP.out _ HKX.out).mono ?_
      rintro e w1 ⟨rfl, hk⟩
      have HX := Lib.hid (hk.blk (Blk.new w [.int .i64 x.tick, .int .i64 x.time, .slice x.a x.len x.cap] 42) (fun h => h))
      have HK := Lib.hid (HKX.out.trans hk (fun _ h => h.elim))
      clear hk HKX
      have c0' := HK.out.cell c0 (fun h => h)
      have c1' := HK.out.cell c1 (fun h => h)
      have c2' := HK.out.cell c2 (fun h => h)
      have c3' := HK.out.cell c3 (fun h => h)
      go_wp2_with fail
      go_quiet (fail)
      go_upto_region 9 with (fail)
      refine at_world (fun W => Blk W p [.slice a r.l.length cap, .int .i64 most, .int .i64 r.floor, .bool false] 159 ∧ Sl W (.slice a r.l.length cap) 168 4 r.l.length (cellsL enc r.l) o ∧ Kept fp w W ∧ Blk W w.heap.size [.int .i64 x.tick, .int .i64 x.time, .slice x.a x.len x.cap] 42) ?_ ?_
      · exact ⟨((HK.out.blk HB0.out (fun h => h)).drewN _), ((H1.out.kept HK.out (fun _ _ h => h)).drewN _), (HK.out.drewN _).mono (fun _ _ h => h.elim), HX.out.drewN _⟩
      · rintro W ⟨B, S, K0, BX⟩
        have hsz := K0.size
        have O : ∀ g, o = some g → (fp g ∨ (w.heap.size ≤ g ∧ g < W.heap.size)) ∧ g ≠ p := fun g hg => ⟨.inl (D1.out g hg).1, (D1.out g hg).2⟩
        have HOX : Hid (o ≠ some w.heap.size) := Lib.hid (fun e => by have := H1.out.lt e; omega)
        have hpp : p < w.heap.size := HB.out.lt
        have hxp : w.heap.size ≠ p := by omega
        have hxp2 : p ≠ w.heap.size := by omega
        clear c0 c1 c2 c3 c0' c1' c2' c3' HP HB H1 D1
        have b0 := B.cell (i := 0) rfl
        have b1 := B.cell (i := 1) rfl
        have b2 := B.cell (i := 2) rfl
        have b3 := B.cell (i := 3) rfl
        have x0 := BX.cell (i := 0) rfl
        have x1 := BX.cell (i := 1) rfl
        have x2 := BX.cell (i := 2) rfl
        have HB := Lib.hid B
        have HBX := Lib.hid BX
        have HS1 := Lib.hid S
        have HO := Lib.hid O
        have HK0 := Lib.hid K0
        have HN : Hid (o ≠ some W.heap.size) := Lib.hid (fun e => by have := S.lt e; omega)
        have hpW : p ≠ W.heap.size := by omega
        have hxl := BX.lt
        have hxW : w.heap.size ≠ W.heap.size := by omega
        clear B S O BX
        have HCALL := Lib.hid (insert_calls _ _ r.l o 0 (k, x) W.heap.size ((HS1.out.alloc (.cells (enc (k, x)).toArray 168)).drewN 1) (by omega) hpl 168 ((Blk.new W (enc (k, x)) 168).drewN 1) HN.out)
        have HGC : Hid (∀ (W2 : World), Kept (fun k => o = some k) ((W.alloc (.cells (enc (k, x)).toArray 168)).drewN 1) W2 → W2.cell? ⟨p, 0, none⟩ = some (.slice a r.l.length cap) ∧ W2.cell? ⟨w.heap.size, 0, none⟩ = some (.int .i64 x.tick) ∧ W2.cell? ⟨w.heap.size, 1, none⟩ = some (.int .i64 x.time) ∧ W2.cell? ⟨w.heap.size, 2, none⟩ = some (.slice x.a x.len x.cap)) :=
          Lib.hid (fun W2 h3 => by
            have B2 := h3.blk ((HB.out.alloc _).drewN 1) (fun h => (HO.out p h).2 rfl)
            have X2 := h3.blk ((HBX.out.alloc _).drewN 1) HOX.out
            exact ⟨B2.cell (i := 0) rfl, X2.cell (i := 0) rfl, X2.cell (i := 1) rfl, X2.cell (i := 2) rfl⟩)
        have ba0 := (HB.out.alloc (.cells #[.int .i64 k, .int .i64 x.tick, .int .i64 x.time, .slice x.a x.len x.cap] 168)).cell (i := 0) rfl
        have HGF : Hid (∀ (W2 : World), Kept (fun k => o = some k) ((W.alloc (.cells (enc (k, x)).toArray 168)).drewN 1) W2 → W2.frozen? ⟨p, 0, none⟩ = false) :=
          Lib.hid (fun W2 h3 => (h3.blk ((HB.out.alloc _).drewN 1) (fun h => (HO.out p h).2 rfl)).free 0)
        go_region_with
          ((go_at_call 75; refine (HCALL.out).mono ?_; rintro e W2 ⟨v', o3, rfl, hS3, hO3, hK3⟩; have HI : Hid (r.l.take 0 ++ (k, x) :: r.l.drop 0 = insAt r.l k x) := Lib.hid (by unfold insAt; rw [HQ.out]); have hL := ins_len hpl (k, x); generalize r.l.take 0 ++ (k, x) :: r.l.drop 0 = L at *; have HL := Lib.hid hL; have hL0 : 0 < L.length := (by omega); have hL1 : L.length ≤ 65 := (by omega); clear hL; obtain ⟨a3, cap3, rfl, hcap3, hcm3⟩ := hS3.form; unfold maxLen at hcm3; have g0 := HGF.out _ hK3; obtain ⟨d0, d1, d2, d3⟩ := HGC.out _ hK3; have HS3 := Lib.hid hS3; have HO3 := Lib.hid hO3; have HK3 := Lib.hid hK3; clear hS3 hO3 hK3))
        all_goals
          go_upto_region 10 with (fail)
          refine at_world (fun W => Mid w p fp most L r.floor false a3 cap3 W) (mid_store hp HB.out HO.out HK0.out (((Kept.refl (fun k => o = some k) _).drewN 1).trans HK3.out (fun _ h => .inl h)) HS3.out HO3.out) ?_
          clear b0 b1 b2 b3 x0 x1 x2
          clear g0 d0 d1 d2 d3 ba0 HB HO HK0 HK3 HS3 HO3 HN HS1 hsz HCALL HGC HGF HBX HOX
          try clear f0
          rintro W4 M4
          have HM4 := Lib.hid M4
          obtain ⟨o4, B4, S4, O4, K4⟩ := M4
          have b0 := B4.cell (i := 0) rfl
          have b1 := B4.cell (i := 1) rfl
          clear B4 S4 O4 K4
          by_cases hle : L.length ≤ most
          · have hle2 : r.l.length + 1 ≤ most := by rw [← HL.out]; exact hle
            have HLE := Lib.hid hle2
            clear hle2
            have hcnd : ((L.length : Int) ≤ (most : Int)) := by omega
            go_wp2_with fail
            go_quiet (fail)
            go_wp2_with fail
            go_ret3
            exact mid_ring (by rw [HR1.out HLE.out, HI.out]) hp (HM4.out.drewN _) (by rw [HI.out]; exact HLS.out) hle
          · have hle2 : ¬ (r.l.length + 1 ≤ most) := by rw [← HL.out]; exact hle
            have HLE := Lib.hid hle2
            clear hle2
            have hcnd : ¬ ((L.length : Int) ≤ (most : Int)) := by omega
            go_wp2_with fail
            go_quiet (fail)
            go_upto_region 12 with (fail)
            refine at_world (fun W => Mid w p fp most L r.floor false a3 cap3 W) (HM4.out.drewN _) ?_
            clear b0 b1 HM4
            rintro W5 ⟨o5, B5, S5, O5, K5⟩
            obtain ⟨y, t, hyt⟩ : ∃ y t, L = y :: t := by
              cases L with
              | nil => simp at hL0
              | cons y t => exact ⟨y, t, rfl⟩
            obtain ⟨g5, off5, cap5, ho5, hv5, -, -, hcell, -⟩ := S5.some (by omega)
            cases hv5
            obtain ⟨e1, -, -, -⟩ := cells_at hcell (t := 0) (y := y) (by rw [hyt]; rfl)
            rw [Nat.zero_mul, Nat.add_zero] at e1
            clear hcell
            have b0 := B5.cell (i := 0) rfl
            have b1 := B5.cell (i := 1) rfl
            have b2 := B5.cell (i := 2) rfl
            have b3 := B5.cell (i := 3) rfl
            have f0 := B5.free 0
            have f2 := B5.free 2
            have f3 := B5.free 3
            have gp : g5 ≠ p := (O5 g5 ho5).2
            have htl : L.length = t.length + 1 := by rw [hyt]; rfl
            have HB := Lib.hid B5
            have HS1 := Lib.hid S5
            have HO := Lib.hid O5
            have HK0 := Lib.hid K5
            have HY := Lib.hid hyt
            clear B5 S5 O5 K5 hyt
            go_wp2_with fail
            have HS6 := Lib.hid ((HS1.out.setCell (a := ⟨p, 2, none⟩) (fun g hg => (HO.out g hg).2) (.int .i64 y.1)).setCell (a := ⟨p, 3, none⟩) (fun g hg => (HO.out g hg).2) (.bool true))
            rw [htl, HY.out] at HS6
            refine (delete_calls _ _ t o5 y HS6.out (by omega)).mono ?_
            rintro e W7 ⟨v7, rfl, hS7, hK7⟩
            obtain ⟨a7, cap7, rfl, -, -⟩ := hS7.form
            have hB7 := hK7.blk ((HB.out.set 2 (.int .i64 y.1)).set 3 (.bool true)) (fun h => (HO.out p h).2 rfl)
            have g0 := hB7.free 0
            have d0 := hB7.cell (i := 0) rfl
            have d2 := hB7.cell (i := 2) rfl
            have HS7 := Lib.hid hS7
            have HK7 := Lib.hid hK7
            clear hS7 hK7 hB7
            go_wp2_with fail
            go_ret3
            exact mid_gone (HR2.out HLE.out y t (by rw [← HI.out, HY.out])) hp HB.out HO.out HK0.out HS7.out HK7.out (by have h1 := HLS.out; rw [← HI.out, HY.out] at h1; exact (List.pairwise_cons.1 h1).2) (by have := HL.out; omega)
    · have hq1 : ¬ (q : Int) = 0 := by omega
      have hqp : 0 < q := by omega
      clear hq
      go_enter Tryz.func44, Tryz.ntmps44
      go_wp2_with fail
      have HKX := Lib.hid ((Kept.refl (fun _ => False) w).alloc (.cells #[.int .i64 x.tick, .int .i64 x.time, .slice x.a x.len x.cap] 42))
      refine (HP.out _ HKX.out).mono ?_
      rintro e w1 ⟨rfl, hk⟩
      have HX := Lib.hid (hk.blk (Blk.new w [.int .i64 x.tick, .int .i64 x.time, .slice x.a x.len x.cap] 42) (fun h => h))
      have HK := Lib.hid (HKX.out.trans hk (fun _ h => h.elim))
      clear hk HKX
      have c0' := HK.out.cell c0 (fun h => h)
      have c1' := HK.out.cell c1 (fun h => h)
      have c2' := HK.out.cell c2 (fun h => h)
      have c3' := HK.out.cell c3 (fun h => h)
      go_wp2_with fail
      go_quiet (fail)
      go_upto_region 9 with (fail)
      refine at_world (fun W => Blk W p [.slice a r.l.length cap, .int .i64 most, .int .i64 r.floor, .bool false] 159 ∧ Sl W (.slice a r.l.length cap) 168 4 r.l.length (cellsL enc r.l) o ∧ Kept fp w W ∧ Blk W w.heap.size [.int .i64 x.tick, .int .i64 x.time, .slice x.a x.len x.cap] 42) ?_ ?_
      · exact ⟨((HK.out.blk HB0.out (fun h => h)).drewN _), ((H1.out.kept HK.out (fun _ _ h => h)).drewN _), (HK.out.drewN _).mono (fun _ _ h => h.elim), HX.out.drewN _⟩
      · rintro W ⟨B, S, K0, BX⟩
        have hsz := K0.size
        have O : ∀ g, o = some g → (fp g ∨ (w.heap.size ≤ g ∧ g < W.heap.size)) ∧ g ≠ p := fun g hg => ⟨.inl (D1.out g hg).1, (D1.out g hg).2⟩
        have HOX : Hid (o ≠ some w.heap.size) := Lib.hid (fun e => by have := H1.out.lt e; omega)
        have hpp : p < w.heap.size := HB.out.lt
        have hxp : w.heap.size ≠ p := by omega
        have hxp2 : p ≠ w.heap.size := by omega
        clear c0 c1 c2 c3 c0' c1' c2' c3' HP HB H1 D1
        have b0 := B.cell (i := 0) rfl
        have b1 := B.cell (i := 1) rfl
        have b2 := B.cell (i := 2) rfl
        have b3 := B.cell (i := 3) rfl
        have x0 := BX.cell (i := 0) rfl
        have x1 := BX.cell (i := 1) rfl
        have x2 := BX.cell (i := 2) rfl
        have HB := Lib.hid B
        have HBX := Lib.hid BX
        have HS1 := Lib.hid S
        have HO := Lib.hid O
        have HK0 := Lib.hid K0
        have HN : Hid (o ≠ some W.heap.size) := Lib.hid (fun e => by have := S.lt e; omega)
        have hpW : p ≠ W.heap.size := by omega
        have hxl := BX.lt
        have hxW : w.heap.size ≠ W.heap.size := by omega
        clear B S O BX
        have HCALL := Lib.hid (insert_calls _ _ r.l o q (k, x) W.heap.size ((HS1.out.alloc (.cells (enc (k, x)).toArray 168)).drewN 1) (by omega) hpl 168 ((Blk.new W (enc (k, x)) 168).drewN 1) HN.out)
        have HGC : Hid (∀ (W2 : World), Kept (fun k => o = some k) ((W.alloc (.cells (enc (k, x)).toArray 168)).drewN 1) W2 → W2.cell? ⟨p, 0, none⟩ = some (.slice a r.l.length cap) ∧ W2.cell? ⟨w.heap.size, 0, none⟩ = some (.int .i64 x.tick) ∧ W2.cell? ⟨w.heap.size, 1, none⟩ = some (.int .i64 x.time) ∧ W2.cell? ⟨w.heap.size, 2, none⟩ = some (.slice x.a x.len x.cap)) :=
          Lib.hid (fun W2 h3 => by
            have B2 := h3.blk ((HB.out.alloc _).drewN 1) (fun h => (HO.out p h).2 rfl)
            have X2 := h3.blk ((HBX.out.alloc _).drewN 1) HOX.out
            exact ⟨B2.cell (i := 0) rfl, X2.cell (i := 0) rfl, X2.cell (i := 1) rfl, X2.cell (i := 2) rfl⟩)
        have ba0 := (HB.out.alloc (.cells #[.int .i64 k, .int .i64 x.tick, .int .i64 x.time, .slice x.a x.len x.cap] 168)).cell (i := 0) rfl
        have HGF : Hid (∀ (W2 : World), Kept (fun k => o = some k) ((W.alloc (.cells (enc (k, x)).toArray 168)).drewN 1) W2 → W2.frozen? ⟨p, 0, none⟩ = false) :=
          Lib.hid (fun W2 h3 => (h3.blk ((HB.out.alloc _).drewN 1) (fun h => (HO.out p h).2 rfl)).free 0)
        go_region_with
          ((go_at_call 75; refine (HCALL.out).mono ?_; rintro e W2 ⟨v', o3, rfl, hS3, hO3, hK3⟩; have HI : Hid (r.l.take q ++ (k, x) :: r.l.drop q = insAt r.l k x) := Lib.hid (by unfold insAt; rw [HQ.out]); have hL := ins_len hpl (k, x); generalize r.l.take q ++ (k, x) :: r.l.drop q = L at *; have HL := Lib.hid hL; have hL0 : 0 < L.length := (by omega); have hL1 : L.length ≤ 65 := (by omega); clear hL; obtain ⟨a3, cap3, rfl, hcap3, hcm3⟩ := hS3.form; unfold maxLen at hcm3; have g0 := HGF.out _ hK3; obtain ⟨d0, d1, d2, d3⟩ := HGC.out _ hK3; have HS3 := Lib.hid hS3; have HO3 := Lib.hid hO3; have HK3 := Lib.hid hK3; clear hS3 hO3 hK3))
        all_goals
          go_upto_region 10 with (fail)
          refine at_world (fun W => Mid w p fp most L r.floor false a3 cap3 W) (mid_store hp HB.out HO.out HK0.out (((Kept.refl (fun k => o = some k) _).drewN 1).trans HK3.out (fun _ h => .inl h)) HS3.out HO3.out) ?_
          clear b0 b1 b2 b3 x0 x1 x2
          clear g0 d0 d1 d2 d3 ba0 HB HO HK0 HK3 HS3 HO3 HN HS1 hsz HCALL HGC HGF HBX HOX
          try clear f0
          rintro W4 M4
          have HM4 := Lib.hid M4
          obtain ⟨o4, B4, S4, O4, K4⟩ := M4
          have b0 := B4.cell (i := 0) rfl
          have b1 := B4.cell (i := 1) rfl
          clear B4 S4 O4 K4
          by_cases hle : L.length ≤ most
          · have hle2 : r.l.length + 1 ≤ most := by rw [← HL.out]; exact hle
            have HLE := Lib.hid hle2
            clear hle2
            have hcnd : ((L.length : Int) ≤ (most : Int)) := by omega
            go_wp2_with fail
            go_quiet (fail)
            go_wp2_with fail
            go_ret3
            exact mid_ring (by rw [HR1.out HLE.out, HI.out]) hp (HM4.out.drewN _) (by rw [HI.out]; exact HLS.out) hle
          · have hle2 : ¬ (r.l.length + 1 ≤ most) := by rw [← HL.out]; exact hle
            have HLE := Lib.hid hle2
            clear hle2
            have hcnd : ¬ ((L.length : Int) ≤ (most : Int)) := by omega
            go_wp2_with fail
            go_quiet (fail)
            go_upto_region 12 with (fail)
            refine at_world (fun W => Mid w p fp most L r.floor false a3 cap3 W) (HM4.out.drewN _) ?_
            clear b0 b1 HM4
            rintro W5 ⟨o5, B5, S5, O5, K5⟩
            obtain ⟨y, t, hyt⟩ : ∃ y t, L = y :: t := by
              cases L with
              | nil => simp at hL0
              | cons y t => exact ⟨y, t, rfl⟩
            obtain ⟨g5, off5, cap5, ho5, hv5, -, -, hcell, -⟩ := S5.some (by omega)
            cases hv5
            obtain ⟨e1, -, -, -⟩ := cells_at hcell (t := 0) (y := y) (by rw [hyt]; rfl)
            rw [Nat.zero_mul, Nat.add_zero] at e1
            clear hcell
            have b0 := B5.cell (i := 0) rfl
            have b1 := B5.cell (i := 1) rfl
            have b2 := B5.cell (i := 2) rfl
            have b3 := B5.cell (i := 3) rfl
            have f0 := B5.free 0
            have f2 := B5.free 2
            have f3 := B5.free 3
            have gp : g5 ≠ p := (O5 g5 ho5).2
            have htl : L.length = t.length + 1 := by rw [hyt]; rfl
            have HB := Lib.hid B5
            have HS1 := Lib.hid S5
            have HO := Lib.hid O5
            have HK0 := Lib.hid K5
            have HY := Lib.hid hyt
            clear B5 S5 O5 K5 hyt
            go_wp2_with fail
            have HS6 := Lib.hid ((HS1.out.setCell (a := ⟨p, 2, none⟩) (fun g hg => (HO.out g hg).2) (.int .i64 y.1)).setCell (a := ⟨p, 3, none⟩) (fun g hg => (HO.out g hg).2) (.bool true))
            rw [htl, HY.out] at HS6
            refine (delete_calls _ _ t o5 y HS6.out (by omega)).mono ?_
            rintro e W7 ⟨v7, rfl, hS7, hK7⟩
            obtain ⟨a7, cap7, rfl, -, -⟩ := hS7.form
            have hB7 := hK7.blk ((HB.out.set 2 (.int .i64 y.1)).set 3 (.bool true)) (fun h => (HO.out p h).2 rfl)
            have g0 := hB7.free 0
            have d0 := hB7.cell (i := 0) rfl
            have d2 := hB7.cell (i := 2) rfl
            have HS7 := Lib.hid hS7
            have HK7 := Lib.hid hK7
            clear hS7 hK7 hB7
            go_wp2_with fail
            go_ret3
            exact mid_gone (HR2.out HLE.out y t (by rw [← HI.out, HY.out])) hp HB.out HO.out HK0.out HS7.out HK7.out (by have h1 := HLS.out; rw [← HI.out, HY.out] at h1; exact (List.pairwise_cons.1 h1).2) (by have := HL.out; omega)
  | true =>
    rw [hgg] at c3
    rw [hgg] at HR1
    have HB0 := HB
    rw [hgg] at HB0
    have hfl : ¬ k ≤ r.floor := hg hgg
    by_cases hq0 : q = 0
    · have hlt := hq hq0
      have hne : ¬ r.l.length = most := by omega
      subst hq0
      clear hq hl
      go_enter Tryz.func44, Tryz.ntmps44
      go_wp2_with fail
      have HKX := Lib.hid ((Kept.refl (fun _ => False) w).alloc (.cells #[.int .i64 x.tick, .int .i64 x.time, .slice x.a x.len x.cap] 42))
      refine (HP.out _ HKX.out).mono ?_
      rintro e w1 ⟨rfl, hk⟩
      have HX := Lib.hid (hk.blk (Blk.new w [.int .i64 x.tick, .int .i64 x.time, .slice x.a x.len x.cap] 42) (fun h => h))
      have HK := Lib.hid (HKX.out.trans hk (fun _ h => h.elim))
      clear hk HKX
      have c0' := HK.out.cell c0 (fun h => h)
      have c1' := HK.out.cell c1 (fun h => h)
      have c2' := HK.out.cell c2 (fun h => h)
      have c3' := HK.out.cell c3 (fun h => h)
      go_wp2_with fail
      go_quiet (fail)
      go_upto_region 9 with (fail)
      refine at_world (fun W => Blk W p [.slice a r.l.length cap, .int .i64 most, .int .i64 r.floor, .bool true] 159 ∧ Sl W (.slice a r.l.length cap) 168 4 r.l.length (cellsL enc r.l) o ∧ Kept fp w W ∧ Blk W w.heap.size [.int .i64 x.tick, .int .i64 x.time, .slice x.a x.len x.cap] 42) ?_ ?_
      · exact ⟨((HK.out.blk HB0.out (fun h => h)).drewN _), ((H1.out.kept HK.out (fun _ _ h => h)).drewN _), (HK.out.drewN _).mono (fun _ _ h => h.elim), HX.out.drewN _⟩
      · rintro W ⟨B, S, K0, BX⟩
        have hsz := K0.size
        have O : ∀ g, o = some g → (fp g ∨ (w.heap.size ≤ g ∧ g < W.heap.size)) ∧ g ≠ p := fun g hg => ⟨.inl (D1.out g hg).1, (D1.out g hg).2⟩
        have HOX : Hid (o ≠ some w.heap.size) := Lib.hid (fun e => by have := H1.out.lt e; omega)
        have hpp : p < w.heap.size := HB.out.lt
        have hxp : w.heap.size ≠ p := by omega
        have hxp2 : p ≠ w.heap.size := by omega
        clear c0 c1 c2 c3 c0' c1' c2' c3' HP HB H1 D1
        have b0 := B.cell (i := 0) rfl
        have b1 := B.cell (i := 1) rfl
        have b2 := B.cell (i := 2) rfl
        have b3 := B.cell (i := 3) rfl
        have x0 := BX.cell (i := 0) rfl
        have x1 := BX.cell (i := 1) rfl
        have x2 := BX.cell (i := 2) rfl
        have HB := Lib.hid B
        have HBX := Lib.hid BX
        have HS1 := Lib.hid S
        have HO := Lib.hid O
        have HK0 := Lib.hid K0
        have HN : Hid (o ≠ some W.heap.size) := Lib.hid (fun e => by have := S.lt e; omega)
        have hpW : p ≠ W.heap.size := by omega
        have hxl := BX.lt
        have hxW : w.heap.size ≠ W.heap.size := by omega
        clear B S O BX
        have HCALL := Lib.hid (insert_calls _ _ r.l o 0 (k, x) W.heap.size ((HS1.out.alloc (.cells (enc (k, x)).toArray 168)).drewN 1) (by omega) hpl 168 ((Blk.new W (enc (k, x)) 168).drewN 1) HN.out)
        have HGC : Hid (∀ (W2 : World), Kept (fun k => o = some k) ((W.alloc (.cells (enc (k, x)).toArray 168)).drewN 1) W2 → W2.cell? ⟨p, 0, none⟩ = some (.slice a r.l.length cap) ∧ W2.cell? ⟨w.heap.size, 0, none⟩ = some (.int .i64 x.tick) ∧ W2.cell? ⟨w.heap.size, 1, none⟩ = some (.int .i64 x.time) ∧ W2.cell? ⟨w.heap.size, 2, none⟩ = some (.slice x.a x.len x.cap)) :=
          Lib.hid (fun W2 h3 => by
            have B2 := h3.blk ((HB.out.alloc _).drewN 1) (fun h => (HO.out p h).2 rfl)
            have X2 := h3.blk ((HBX.out.alloc _).drewN 1) HOX.out
            exact ⟨B2.cell (i := 0) rfl, X2.cell (i := 0) rfl, X2.cell (i := 1) rfl, X2.cell (i := 2) rfl⟩)
        have ba0 := (HB.out.alloc (.cells #[.int .i64 k, .int .i64 x.tick, .int .i64 x.time, .slice x.a x.len x.cap] 168)).cell (i := 0) rfl
        have HGF : Hid (∀ (W2 : World), Kept (fun k => o = some k) ((W.alloc (.cells (enc (k, x)).toArray 168)).drewN 1) W2 → W2.frozen? ⟨p, 0, none⟩ = false) :=
          Lib.hid (fun W2 h3 => (h3.blk ((HB.out.alloc _).drewN 1) (fun h => (HO.out p h).2 rfl)).free 0)
        go_region_with
          ((go_at_call 75; refine (HCALL.out).mono ?_; rintro e W2 ⟨v', o3, rfl, hS3, hO3, hK3⟩; have HI : Hid (r.l.take 0 ++ (k, x) :: r.l.drop 0 = insAt r.l k x) := Lib.hid (by unfold insAt; rw [HQ.out]); have hL := ins_len hpl (k, x); generalize r.l.take 0 ++ (k, x) :: r.l.drop 0 = L at *; have HL := Lib.hid hL; have hL0 : 0 < L.length := (by omega); have hL1 : L.length ≤ 65 := (by omega); clear hL; obtain ⟨a3, cap3, rfl, hcap3, hcm3⟩ := hS3.form; unfold maxLen at hcm3; have g0 := HGF.out _ hK3; obtain ⟨d0, d1, d2, d3⟩ := HGC.out _ hK3; have HS3 := Lib.hid hS3; have HO3 := Lib.hid hO3; have HK3 := Lib.hid hK3; clear hS3 hO3 hK3))
        all_goals
          go_upto_region 10 with (fail)
          refine at_world (fun W => Mid w p fp most L r.floor true a3 cap3 W) (mid_store hp HB.out HO.out HK0.out (((Kept.refl (fun k => o = some k) _).drewN 1).trans HK3.out (fun _ h => .inl h)) HS3.out HO3.out) ?_
          clear b0 b1 b2 b3 x0 x1 x2
          clear g0 d0 d1 d2 d3 ba0 HB HO HK0 HK3 HS3 HO3 HN HS1 hsz HCALL HGC HGF HBX HOX
          try clear f0
          rintro W4 M4
          have HM4 := Lib.hid M4
          obtain ⟨o4, B4, S4, O4, K4⟩ := M4
          have b0 := B4.cell (i := 0) rfl
          have b1 := B4.cell (i := 1) rfl
          clear B4 S4 O4 K4
          by_cases hle : L.length ≤ most
          · have hle2 : r.l.length + 1 ≤ most := by rw [← HL.out]; exact hle
            have HLE := Lib.hid hle2
            clear hle2
            have hcnd : ((L.length : Int) ≤ (most : Int)) := by omega
            go_wp2_with fail
            go_quiet (fail)
            go_wp2_with fail
            go_ret3
            exact mid_ring (by rw [HR1.out HLE.out, HI.out]) hp (HM4.out.drewN _) (by rw [HI.out]; exact HLS.out) hle
          · have hle2 : ¬ (r.l.length + 1 ≤ most) := by rw [← HL.out]; exact hle
            have HLE := Lib.hid hle2
            clear hle2
            have hcnd : ¬ ((L.length : Int) ≤ (most : Int)) := by omega
            go_wp2_with fail
            go_quiet (fail)
            go_upto_region 12 with (fail)
            refine at_world (fun W => Mid w p fp most L r.floor true a3 cap3 W) (HM4.out.drewN _) ?_
            clear b0 b1 HM4
            rintro W5 ⟨o5, B5, S5, O5, K5⟩
            obtain ⟨y, t, hyt⟩ : ∃ y t, L = y :: t := by
              cases L with
              | nil => simp at hL0
              | cons y t => exact ⟨y, t, rfl⟩
            obtain ⟨g5, off5, cap5, ho5, hv5, -, -, hcell, -⟩ := S5.some (by omega)
            cases hv5
            obtain ⟨e1, -, -, -⟩ := cells_at hcell (t := 0) (y := y) (by rw [hyt]; rfl)
            rw [Nat.zero_mul, Nat.add_zero] at e1
            clear hcell
            have b0 := B5.cell (i := 0) rfl
            have b1 := B5.cell (i := 1) rfl
            have b2 := B5.cell (i := 2) rfl
            have b3 := B5.cell (i := 3) rfl
            have f0 := B5.free 0
            have f2 := B5.free 2
            have f3 := B5.free 3
            have gp : g5 ≠ p := (O5 g5 ho5).2
            have htl : L.length = t.length + 1 := by rw [hyt]; rfl
            have HB := Lib.hid B5
            have HS1 := Lib.hid S5
            have HO := Lib.hid O5
            have HK0 := Lib.hid K5
            have HY := Lib.hid hyt
            clear B5 S5 O5 K5 hyt
            go_wp2_with fail
            have HS6 := Lib.hid ((HS1.out.setCell (a := ⟨p, 2, none⟩) (fun g hg => (HO.out g hg).2) (.int .i64 y.1)).setCell (a := ⟨p, 3, none⟩) (fun g hg => (HO.out g hg).2) (.bool true))
            rw [htl, HY.out] at HS6
            refine (delete_calls _ _ t o5 y HS6.out (by omega)).mono ?_
            rintro e W7 ⟨v7, rfl, hS7, hK7⟩
            obtain ⟨a7, cap7, rfl, -, -⟩ := hS7.form
            have hB7 := hK7.blk ((HB.out.set 2 (.int .i64 y.1)).set 3 (.bool true)) (fun h => (HO.out p h).2 rfl)
            have g0 := hB7.free 0
            have d0 := hB7.cell (i := 0) rfl
            have d2 := hB7.cell (i := 2) rfl
            have HS7 := Lib.hid hS7
            have HK7 := Lib.hid hK7
            clear hS7 hK7 hB7
            go_wp2_with fail
            go_ret3
            exact mid_gone (HR2.out HLE.out y t (by rw [← HI.out, HY.out])) hp HB.out HO.out HK0.out HS7.out HK7.out (by have h1 := HLS.out; rw [← HI.out, HY.out] at h1; exact (List.pairwise_cons.1 h1).2) (by have := HL.out; omega)
    · have hq1 : ¬ (q : Int) = 0 := by omega
      have hqp : 0 < q := by omega
      clear hq
      go_enter Tryz.func44, Tryz.ntmps44
      go_wp2_with fail
      have HKX := Lib.hid ((Kept.refl (fun _ => False) w).alloc (.cells #[.int .i64 x.tick, .int .i64 x.time, .slice x.a x.len x.cap] 42))
      refine (HP.out _ HKX.out).mono ?_
      rintro e w1 ⟨rfl, hk⟩
      have HX := Lib.hid (hk.blk (Blk.new w [.int .i64 x.tick, .int .i64 x.time, .slice x.a x.len x.cap] 42) (fun h => h))
      have HK := Lib.hid (HKX.out.trans hk (fun _ h => h.elim))
      clear hk HKX
      have c0' := HK.out.cell c0 (fun h => h)
      have c1' := HK.out.cell c1 (fun h => h)
      have c2' := HK.out.cell c2 (fun h => h)
      have c3' := HK.out.cell c3 (fun h => h)
      go_wp2_with fail
      go_quiet (fail)
      go_upto_region 9 with (fail)
      refine at_world (fun W => Blk W p [.slice a r.l.length cap, .int .i64 most, .int .i64 r.floor, .bool true] 159 ∧ Sl W (.slice a r.l.length cap) 168 4 r.l.length (cellsL enc r.l) o ∧ Kept fp w W ∧ Blk W w.heap.size [.int .i64 x.tick, .int .i64 x.time, .slice x.a x.len x.cap] 42) ?_ ?_
      · exact ⟨((HK.out.blk HB0.out (fun h => h)).drewN _), ((H1.out.kept HK.out (fun _ _ h => h)).drewN _), (HK.out.drewN _).mono (fun _ _ h => h.elim), HX.out.drewN _⟩
      · rintro W ⟨B, S, K0, BX⟩
        have hsz := K0.size
        have O : ∀ g, o = some g → (fp g ∨ (w.heap.size ≤ g ∧ g < W.heap.size)) ∧ g ≠ p := fun g hg => ⟨.inl (D1.out g hg).1, (D1.out g hg).2⟩
        have HOX : Hid (o ≠ some w.heap.size) := Lib.hid (fun e => by have := H1.out.lt e; omega)
        have hpp : p < w.heap.size := HB.out.lt
        have hxp : w.heap.size ≠ p := by omega
        have hxp2 : p ≠ w.heap.size := by omega
        clear c0 c1 c2 c3 c0' c1' c2' c3' HP HB H1 D1
        have b0 := B.cell (i := 0) rfl
        have b1 := B.cell (i := 1) rfl
        have b2 := B.cell (i := 2) rfl
        have b3 := B.cell (i := 3) rfl
        have x0 := BX.cell (i := 0) rfl
        have x1 := BX.cell (i := 1) rfl
        have x2 := BX.cell (i := 2) rfl
        have HB := Lib.hid B
        have HBX := Lib.hid BX
        have HS1 := Lib.hid S
        have HO := Lib.hid O
        have HK0 := Lib.hid K0
        have HN : Hid (o ≠ some W.heap.size) := Lib.hid (fun e => by have := S.lt e; omega)
        have hpW : p ≠ W.heap.size := by omega
        have hxl := BX.lt
        have hxW : w.heap.size ≠ W.heap.size := by omega
        clear B S O BX
        have HCALL := Lib.hid (insert_calls _ _ r.l o q (k, x) W.heap.size ((HS1.out.alloc (.cells (enc (k, x)).toArray 168)).drewN 1) (by omega) hpl 168 ((Blk.new W (enc (k, x)) 168).drewN 1) HN.out)
        have HGC : Hid (∀ (W2 : World), Kept (fun k => o = some k) ((W.alloc (.cells (enc (k, x)).toArray 168)).drewN 1) W2 → W2.cell? ⟨p, 0, none⟩ = some (.slice a r.l.length cap) ∧ W2.cell? ⟨w.heap.size, 0, none⟩ = some (.int .i64 x.tick) ∧ W2.cell? ⟨w.heap.size, 1, none⟩ = some (.int .i64 x.time) ∧ W2.cell? ⟨w.heap.size, 2, none⟩ = some (.slice x.a x.len x.cap)) :=
          Lib.hid (fun W2 h3 => by
            have B2 := h3.blk ((HB.out.alloc _).drewN 1) (fun h => (HO.out p h).2 rfl)
            have X2 := h3.blk ((HBX.out.alloc _).drewN 1) HOX.out
            exact ⟨B2.cell (i := 0) rfl, X2.cell (i := 0) rfl, X2.cell (i := 1) rfl, X2.cell (i := 2) rfl⟩)
        have ba0 := (HB.out.alloc (.cells #[.int .i64 k, .int .i64 x.tick, .int .i64 x.time, .slice x.a x.len x.cap] 168)).cell (i := 0) rfl
        have HGF : Hid (∀ (W2 : World), Kept (fun k => o = some k) ((W.alloc (.cells (enc (k, x)).toArray 168)).drewN 1) W2 → W2.frozen? ⟨p, 0, none⟩ = false) :=
          Lib.hid (fun W2 h3 => (h3.blk ((HB.out.alloc _).drewN 1) (fun h => (HO.out p h).2 rfl)).free 0)
        go_region_with
          ((go_at_call 75; refine (HCALL.out).mono ?_; rintro e W2 ⟨v', o3, rfl, hS3, hO3, hK3⟩; have HI : Hid (r.l.take q ++ (k, x) :: r.l.drop q = insAt r.l k x) := Lib.hid (by unfold insAt; rw [HQ.out]); have hL := ins_len hpl (k, x); generalize r.l.take q ++ (k, x) :: r.l.drop q = L at *; have HL := Lib.hid hL; have hL0 : 0 < L.length := (by omega); have hL1 : L.length ≤ 65 := (by omega); clear hL; obtain ⟨a3, cap3, rfl, hcap3, hcm3⟩ := hS3.form; unfold maxLen at hcm3; have g0 := HGF.out _ hK3; obtain ⟨d0, d1, d2, d3⟩ := HGC.out _ hK3; have HS3 := Lib.hid hS3; have HO3 := Lib.hid hO3; have HK3 := Lib.hid hK3; clear hS3 hO3 hK3))
        all_goals
          go_upto_region 10 with (fail)
          refine at_world (fun W => Mid w p fp most L r.floor true a3 cap3 W) (mid_store hp HB.out HO.out HK0.out (((Kept.refl (fun k => o = some k) _).drewN 1).trans HK3.out (fun _ h => .inl h)) HS3.out HO3.out) ?_
          clear b0 b1 b2 b3 x0 x1 x2
          clear g0 d0 d1 d2 d3 ba0 HB HO HK0 HK3 HS3 HO3 HN HS1 hsz HCALL HGC HGF HBX HOX
          try clear f0
          rintro W4 M4
          have HM4 := Lib.hid M4
          obtain ⟨o4, B4, S4, O4, K4⟩ := M4
          have b0 := B4.cell (i := 0) rfl
          have b1 := B4.cell (i := 1) rfl
          clear B4 S4 O4 K4
          by_cases hle : L.length ≤ most
          · have hle2 : r.l.length + 1 ≤ most := by rw [← HL.out]; exact hle
            have HLE := Lib.hid hle2
            clear hle2
            have hcnd : ((L.length : Int) ≤ (most : Int)) := by omega
            go_wp2_with fail
            go_quiet (fail)
            go_wp2_with fail
            go_ret3
            exact mid_ring (by rw [HR1.out HLE.out, HI.out]) hp (HM4.out.drewN _) (by rw [HI.out]; exact HLS.out) hle
          · have hle2 : ¬ (r.l.length + 1 ≤ most) := by rw [← HL.out]; exact hle
            have HLE := Lib.hid hle2
            clear hle2
            have hcnd : ¬ ((L.length : Int) ≤ (most : Int)) := by omega
            go_wp2_with fail
            go_quiet (fail)
            go_upto_region 12 with (fail)
            refine at_world (fun W => Mid w p fp most L r.floor true a3 cap3 W) (HM4.out.drewN _) ?_
            clear b0 b1 HM4
            rintro W5 ⟨o5, B5, S5, O5, K5⟩
            obtain ⟨y, t, hyt⟩ : ∃ y t, L = y :: t := by
              cases L with
              | nil => simp at hL0
              | cons y t => exact ⟨y, t, rfl⟩
            obtain ⟨g5, off5, cap5, ho5, hv5, -, -, hcell, -⟩ := S5.some (by omega)
            cases hv5
            obtain ⟨e1, -, -, -⟩ := cells_at hcell (t := 0) (y := y) (by rw [hyt]; rfl)
            rw [Nat.zero_mul, Nat.add_zero] at e1
            clear hcell
            have b0 := B5.cell (i := 0) rfl
            have b1 := B5.cell (i := 1) rfl
            have b2 := B5.cell (i := 2) rfl
            have b3 := B5.cell (i := 3) rfl
            have f0 := B5.free 0
            have f2 := B5.free 2
            have f3 := B5.free 3
            have gp : g5 ≠ p := (O5 g5 ho5).2
            have htl : L.length = t.length + 1 := by rw [hyt]; rfl
            have HB := Lib.hid B5
            have HS1 := Lib.hid S5
            have HO := Lib.hid O5
            have HK0 := Lib.hid K5
            have HY := Lib.hid hyt
            clear B5 S5 O5 K5 hyt
            go_wp2_with fail
            have HS6 := Lib.hid ((HS1.out.setCell (a := ⟨p, 2, none⟩) (fun g hg => (HO.out g hg).2) (.int .i64 y.1)).setCell (a := ⟨p, 3, none⟩) (fun g hg => (HO.out g hg).2) (.bool true))
            rw [htl, HY.out] at HS6
            refine (delete_calls _ _ t o5 y HS6.out (by omega)).mono ?_
            rintro e W7 ⟨v7, rfl, hS7, hK7⟩
            obtain ⟨a7, cap7, rfl, -, -⟩ := hS7.form
            have hB7 := hK7.blk ((HB.out.set 2 (.int .i64 y.1)).set 3 (.bool true)) (fun h => (HO.out p h).2 rfl)
            have g0 := hB7.free 0
            have d0 := hB7.cell (i := 0) rfl
            have d2 := hB7.cell (i := 2) rfl
            have HS7 := Lib.hid hS7
            have HK7 := Lib.hid hK7
            clear hS7 hK7 hB7
            go_wp2_with fail
            go_ret3
            exact mid_gone (HR2.out HLE.out y t (by rw [← HI.out, HY.out])) hp HB.out HO.out HK0.out HS7.out HK7.out (by have h1 := HLS.out; rw [← HI.out, HY.out] at h1; exact (List.pairwise_cons.1 h1).2) (by have := HL.out; omega)

/-- Lay of a ring. -/
theorem lay_calls (w : World) (p : Nat) (fp : Nat → Prop) (most : Nat) (r : RingM SnapS) (k : Int) (x : SnapS) (h : Ring w p fp most r) (hm : most ≤ 64) :
    Calls Tryz.prog 44 #[.pointer (some ⟨p, 0, none⟩), .int .i64 k, sv x] w (LayPost w p fp most (layM most r k x)) := by
  cases ht : there r.l k with
  | true =>
    have e : layM most r k x = (r, 0, false, 12) := by unfold layM; rw [if_pos ht]
    rw [e]; exact lay_there w p fp most r k x h hm ht
  | false =>
    by_cases h1 : (r.gone && decide (k ≤ r.floor)) = true
    · have e : layM most r k x = (r, 0, false, 13) := by unfold layM; rw [if_neg (by rw [ht]; simp), if_pos (by rw [h1]; simp)]
      rw [e]
      rw [Bool.and_eq_true, decide_eq_true_eq] at h1
      exact lay_low w p fp most r k x h hm ht h1.1 h1.2
    · have hg : r.gone = true → ¬ k ≤ r.floor := fun hg hk => h1 (by rw [hg]; simpa using hk)
      by_cases h2 : plc r.l k = 0 ∧ r.l.length = most
      · have e : layM most r k x = (r, 0, false, 13) := by unfold layM; rw [if_neg (by rw [ht]; simp), if_pos (by simp [h2.1, h2.2])]
        rw [e]
        exact lay_full w p fp most r k x h hm ht hg h2.1 h2.2
      · exact lay_pass w p fp most r k x h hm ht hg (fun h0 => by have := h.len; have : ¬ r.l.length = most := fun h3 => h2 ⟨h0, h3⟩; omega)

/-- The same in a world that has grown: all new memory lies above B. -/
theorem layB (w : World) (p B : Nat) (fp : Nat → Prop) (most : Nat) (r : RingM SnapS) (k : Int) (x : SnapS) (hm : most ≤ 64) (hB : B ≤ w.heap.size) (hfp : ∀ g, fp g → B ≤ g) (h : Ring w p fp most r) :
    Calls Tryz.prog 44 #[.pointer (some ⟨p, 0, none⟩), .int .i64 k, sv x] w
      fun e w' => e = .returned (.tuple #[.int .i64 (layM most r k x).2.1, .bool (layM most r k x).2.2.1, .int .i64 (layM most r k x).2.2.2]) ∧ Ring w' p (fun g => B ≤ g) most (layM most r k x).1 ∧ Below B w w' :=
  (lay_calls w p fp most r k x h hm).mono fun e w' ⟨h1, h2, h3⟩ => ⟨h1, h2.mono (fun g _ hg => by rcases hg with h | h; exact hfp g h; omega), h3.below hB hfp⟩
end Go.Proofs.YtekdkckgmleofaaGreat.RingN
