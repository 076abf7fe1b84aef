/- The document's ring (afterimageref11): Lay where a thing is put. -/
import Derived.Test.YtolgapcckbcmbaaRingRefL
import Derived.Deep.CutRange
namespace Go.Proofs.Ytolgapcckbcmbaa.Ref
open Go.RowKit
open RingS (enc enc_len enc_one cells_at layM_pass infoE ins_len)

theorem infoR : (Try.prog.info? 70).map (fun i => (i.zero, i.size, i.bytes)) = some (some (.agg #[.int .i64 0, .string ByteArray.empty]), 2, 24) := by kernel_rfl


/-- A row that the call itself has made. -/
def New (w W : World) (v : Value) (n : Nat) (xs : List Value) : Prop := ∃ g, w.heap.size ≤ g ∧ g < W.heap.size ∧ Sl W v 70 2 n xs (some g)

theorem put_one {w W w1 : World} {p most : Nat} {floor : Int} {gone : Bool} {V v1 : Value} {n j : Nat} {xs ys : List Value} {o o1 : Option Nat} {ob : Obj} (B : Blk W p [V, .int .i64 most, .int .i64 floor, .bool gone] 66) (S : Sl W V 70 2 n xs o) (K : Kept (fun _ => False) w W)
    (S1 : Sl w1 v1 70 2 (0 + j) ([] ++ ys) o1) (O1 : o1 = some W.heap.size ∨ o1 = some (W.alloc ob).heap.size) (K1 : Kept (fun k => some W.heap.size = some k) (W.alloc ob) w1) :
    Blk w1 p [V, .int .i64 most, .int .i64 floor, .bool gone] 66 ∧ Sl w1 V 70 2 n xs o ∧ New w w1 v1 j ys ∧ Kept (fun _ => False) w w1 := by
  have hz := K.size
  refine ⟨K1.blk (B.alloc ob) (fun e => ?_), (S.alloc ob).kept K1 (fun g hg e => ?_), ?_, ((K.alloc ob).trans K1 (fun i hi => .inr ?_))⟩
  · have := Option.some.inj e; have := B.lt; omega
  · have := Option.some.inj e; have := S.lt hg; omega
  · rw [Nat.zero_add, List.nil_append] at S1
    rcases O1 with e | e
    · subst e
      exact ⟨_, hz, S1.lt rfl, S1⟩
    · subst e
      exact ⟨_, by rw [size_alloc]; omega, S1.lt rfl, S1⟩
  · have := Option.some.inj hi; omega

theorem src_new (W : World) (y : Int × ByteArray) : Src (W.alloc (.cells #[.int .i64 y.1, .string y.2] 70)) (.slice (some ⟨W.heap.size, 0, none⟩) 1 1) 1 (enc y) :=
  .inr ⟨_, 1, rfl, fun j u hu => by rw [Addr.add_lit, Nat.zero_add]; exact (Blk.new W (enc y) 70).cell hu⟩

theorem rest_src {Z w2 : World} {a : Option Addr} {cap j n' g1 : Nat} {l : List (Int × ByteArray)} {o : Option Nat} {ob : Obj} (S : Sl Z (.slice a l.length cap) 70 2 l.length (cellsL enc l) o)
    (hk : Kept (fun k => some g1 = some k) ((Z.drewN n').alloc ob) w2) (hne : o ≠ some g1) (hj : j ≤ l.length) : Src w2 (.slice (if cap = j then a else a.map (·.add (j * 2))) (l.length - j) (cap - j)) (l.length - j) (cellsL enc (l.drop j)) := by
  have := (((S.drewN n').alloc ob).kept hk (fun g hg e => hne (by rw [hg, e]))).drop hj
  rw [cellsL_drop enc_len] at this
  exact this.src

theorem own_ne {o2 : Option Nat} {g1 p : Nat} {W : World} (h : o2 = some g1 ∨ o2 = some W.heap.size) (h1 : ¬ some g1 = some p) (hp : p < W.heap.size) : ¬ o2 = some p := by
  rcases h with e | e
  · rw [e]; exact h1
  · rw [e]; intro e2; have := Option.some.inj e2; omega

theorem put_two {w Z w2 w3 : World} {p most n g1 N M : Nat} {floor : Int} {gone : Bool} {V v3 : Value} {xs ys : List Value} {o2 o3 : Option Nat} {ob : Obj} (B : Blk Z p [V, .int .i64 most, .int .i64 floor, .bool gone] 66) (K : Kept (fun _ => False) w Z)
    (hg1 : w.heap.size ≤ g1) (hp : p < w.heap.size) (O2 : o2 = some g1 ∨ o2 = some ((Z.drewN n).alloc ob).heap.size) (K2 : Kept (fun k => some g1 = some k) ((Z.drewN n).alloc ob) w2)
    (S3 : Sl w3 v3 70 2 N xs o3) (O3 : o3 = o2 ∨ o3 = some w2.heap.size) (K3 : Kept (fun k => o2 = some k) w2 w3) (hN : N = M) (hx : xs = ys) :
    Blk w3 p [V, .int .i64 most, .int .i64 floor, .bool gone] 66 ∧ New w w3 v3 M ys ∧ Kept (fun _ => False) w w3 := by
  subst hN
  subst hx
  have z1 := K.size
  have z2 := K2.size
  rw [size_alloc] at z2 O2
  have z3 : (Z.drewN n).heap.size = Z.heap.size := rfl
  rw [z3] at z2 O2
  have hO2 : ∀ g, o2 = some g → w.heap.size ≤ g := fun g hg => by
    rcases O2 with e | e
    · rw [hg] at e; have := Option.some.inj e; omega
    · rw [hg] at e; have := Option.some.inj e; omega
  refine ⟨K3.blk (K2.blk ((B.drewN n).alloc ob) (fun e => ?_)) (fun e => ?_), ?_, (((K.drewN n).alloc ob).trans K2 (fun i hi => .inr ?_)).trans K3 (fun i hi => .inr (hO2 i hi))⟩
  · have := Option.some.inj e; omega
  · have := hO2 _ e; omega
  · rcases O3 with e | e
    · rcases O2 with e2 | e2
      · exact ⟨g1, hg1, S3.lt (by rw [e, e2]), by rw [← e2, ← e]; exact S3⟩
      · exact ⟨Z.heap.size + 1, by omega, S3.lt (by rw [e, e2]), by rw [← e2, ← e]; exact S3⟩
    · exact ⟨_, by omega, S3.lt e, by rw [← e]; exact S3⟩
  · have := Option.some.inj hi; omega

theorem fin_room {w Y : World} {p most g9 : Nat} {fp : Nat → Prop} {floor : Int} {gone : Bool} {V v : Value} {L : List (Int × ByteArray)} {R : RingM ByteArray × Int × Bool × Int} (hR : R = (⟨L, floor, gone⟩, 0, false, 0)) (hp : fp p)
    (B : Blk Y p [V, .int .i64 most, .int .i64 floor, .bool gone] 66) (S : Sl Y v 70 2 L.length (cellsL enc L) (some g9)) (h9 : w.heap.size ≤ g9) (hpw : p < w.heap.size) (K : Kept (fun _ => False) w Y) (hs : Srt L) (hl : L.length ≤ most) :
    LayPost w p fp most R (.returned (.tuple #[.int .i64 0, .bool false, .int .i64 0])) (Y.setCell ⟨p, 0, none⟩ v) := by
  subst hR
  have hne : g9 ≠ p := by omega
  refine ⟨rfl, ⟨v, some g9, B.set 0 _, S.setCell (fun g hg => by cases hg; exact hne) _, .inl hp, fun g hg => ?_, hs, hl⟩, (K.mono (fun _ _ h => h.elim)).setCell (.inl hp) _⟩
  cases hg
  exact ⟨.inr ⟨h9, by rw [size_setCell]; exact S.lt rfl⟩, hne⟩

theorem fin_gone {w Y : World} {p most g9 off9 cap9 : Nat} {fp : Nat → Prop} {floor : Int} {gone : Bool} {V : Value} {L t : List (Int × ByteArray)} {y : Int × ByteArray} {R : RingM ByteArray × Int × Bool × Int} (hR : R = (⟨t, y.1, true⟩, y.1, true, 0)) (hp : fp p)
    (B : Blk Y p [V, .int .i64 most, .int .i64 floor, .bool gone] 66) (S : Sl Y (.slice (some ⟨g9, off9, none⟩) L.length cap9) 70 2 L.length (cellsL enc L) (some g9)) (hL : L = y :: t) (hnc : ¬ cap9 = 1) (h9 : w.heap.size ≤ g9) (hpw : p < w.heap.size) (K : Kept (fun _ => False) w Y) (hs : Srt L) (hl : t.length ≤ most) :
    LayPost w p fp most R (.returned (.tuple #[.int .i64 y.1, .bool true, .int .i64 0])) (((Y.setCell ⟨p, 2, none⟩ (.int .i64 y.1)).setCell ⟨p, 3, none⟩ (.bool true)).setCell ⟨p, 0, none⟩ (.slice (some ⟨g9, off9 + 2, none⟩) (L.length - 1) (cap9 - 1))) := by
  subst hR
  subst hL
  have hne : g9 ≠ p := by omega
  have hn : ∀ g, some g9 = some g → g ≠ p := fun g hg => by cases hg; exact hne
  have S1 := S.drop (k := 1) (by rw [List.length_cons]; omega)
  rw [if_neg hnc, Option.map_some, Addr.add_lit, cellsL_drop enc_len, List.length_cons, Nat.add_sub_cancel, List.drop_one, List.tail_cons, Nat.one_mul] at S1
  rw [List.length_cons, Nat.add_sub_cancel]
  refine ⟨rfl, ⟨_, some g9, ((B.set 2 _).set 3 _).set 0 _, ((S1.setCell hn _).setCell hn _).setCell hn _, .inl hp, fun g hg => ?_, (List.pairwise_cons.1 hs).2, hl⟩, (((K.mono (fun _ _ h => h.elim)).setCell (.inl hp) _).setCell (.inl hp) _).setCell (.inl hp) _⟩
  cases hg
  exact ⟨.inr ⟨h9, by rw [size_setCell, size_setCell, size_setCell]; exact S.lt rfl⟩, hne⟩


set_option maxHeartbeats 20000000 in
set_option maxRecDepth 100000 in
theorem lay_put (w : World) (p : Nat) (fp : Nat → Prop) (most : Nat) (r : RingM ByteArray) (k : Int) (x : ByteArray) (h : Ref w p fp most r) (hm : most ≤ 64) (ht : there r.l k = false) (hg : r.gone = true → ¬ k ≤ r.floor) (hq : plc r.l k = 0 → r.l.length < most) :
    Calls Try.prog 27 #[.pointer (some ⟨p, 0, none⟩), .int .i64 k, .string x] w (LayPost w p fp most (layM most r k x)) := by
  have HLP := layM_pass (x := x) ht hg hq
  have HR1 := Lib.hid HLP.1
  have HR2 := Lib.hid HLP.2
  clear HLP
  have HLS : Hid (Srt (insAt r.l k x)) := Lib.hid (insAt_srt _ _ _ h.srt ht)
  have hpl := plc_le r.l k
  have HLT : Hid (∀ (t : Nat) (y : Int × ByteArray), t < plc r.l k → r.l[t]? = some y → y.1 < k) := Lib.hid (fun t y h1 h2 => plc_lt r.l k t y h1 h2)
  have HGT : Hid (∀ y : Int × ByteArray, r.l[plc r.l k]? = some y → k < y.1) := Lib.hid (fun y hy => miss_gt h.srt ht hy)
  clear ht
  generalize hqq : plc r.l k = q at *
  have HQ := Lib.hid hqq
  have HG := Lib.hid hg
  have HQ0 := Lib.hid hq
  clear hqq hg hq
  obtain ⟨v, o, hb, h1, hp, d1, hs, hl⟩ := h
  obtain ⟨a, cap, rfl, hcap, hcm⟩ := h1.form
  unfold maxLen at hcm
  have c0 := hb.cell (i := 0) rfl
  have c1 := hb.cell (i := 1) rfl
  have c2 := hb.cell (i := 2) rfl
  have c3 := hb.cell (i := 3) rfl
  have HB := Lib.hid hb
  have H1 := Lib.hid h1
  have HS := Lib.hid hs
  have D1 := Lib.hid d1
  clear hb h1 hs d1
  go_enter Try.func27, Try.ntmps27
  go_wp2_with fail
  go_loopw [9] (fun i wr => ∃ j : Nat, j ≤ q ∧ i = .int .i64 j ∧ w = wr) (fun i _ => q - (intOf i).toNat)
  case atStart => exact ⟨0, Nat.zero_le _, rfl, rfl⟩
  case round =>
    obtain ⟨j, hj, rfl, rfl⟩ := hrel
    by_cases hjq : j < q
    · obtain ⟨y, hy⟩ : ∃ y, r.l[j]? = some y := ⟨_, List.getElem?_eq_getElem (by omega)⟩
      have hlt : y.1 < k := HLT.out j y hjq hy
      obtain ⟨g, off, cap', ho, hv, -, -, hcell, -⟩ := H1.out.some (by omega)
      cases hv
      obtain ⟨e1, e2⟩ := cells_at hcell hy
      clear hcell hy
      have hjl : j < r.l.length := by omega
      go_wp2_with fail
      exact ⟨⟨j + 1, by omega, by go_num, trivial⟩, by simp [intOf]; omega⟩
    · obtain rfl : j = q := by omega
      clear hj hjq
      by_cases hqn : j < r.l.length
      · obtain ⟨y, hy⟩ : ∃ y, r.l[j]? = some y := ⟨_, List.getElem?_eq_getElem hqn⟩
        have hgt := HGT.out y hy
        obtain ⟨g, off, cap', ho, hv, -, -, hcell, -⟩ := H1.out.some (by omega)
        cases hv
        obtain ⟨e1, e2⟩ := cells_at hcell hy
        have hne : ¬ y.1 = k := by omega
        have hnl : ¬ y.1 < k := by omega
        clear hcell hy
        go_upto_region 6 with (fail)
        clear hgt hne hnl e1 e2
        go_cut [78] from 11 (fun s wr => s = .bool false ∧ ∃ n, wr = w.drewN n)
        case first =>
          cases hgg : r.gone with
          | false =>
            rw [hgg] at c3
            by_cases hj0 : j = 0
            · have hlt := HQ0.out hj0
              have hne2 : ¬ r.l.length = most := by omega
              subst hj0
              go_quiet (fail)
              go_wp2_with fail
              have hbe : ((r.l.length : Int) == (most : Int)) = false := by simp; omega
              go_meet
              exact ⟨by rw [hbe], _, rfl⟩
            · have hj1 : ¬ (j : Int) = 0 := by omega
              go_quiet (fail)
              go_wp2_with fail
              go_meet
              exact ⟨rfl, _, rfl⟩
          | true =>
            rw [hgg] at c3
            have hfl : ¬ k ≤ r.floor := by have := HG.out hgg; omega
            by_cases hj0 : j = 0
            · have hlt := HQ0.out hj0
              have hne2 : ¬ r.l.length = most := by omega
              subst hj0
              go_quiet (fail)
              go_wp2_with fail
              have hbe : ((r.l.length : Int) == (most : Int)) = false := by simp; omega
              go_meet
              exact ⟨by rw [hbe], _, rfl⟩
            · have hj1 : ¬ (j : Int) = 0 := by omega
              go_quiet (fail)
              go_wp2_with fail
              go_meet
              exact ⟨rfl, _, rfl⟩
        case rest =>
          obtain ⟨rfl, nr, rfl⟩ := hcut
          go_upto_region 8 with (fail)
          have hpw := HB.out.lt
          have HOL : Hid (∀ g, o = some g → g < w.heap.size) := Lib.hid (fun g hg => H1.out.lt hg)
          refine at_world (fun W => Blk W p [.slice (some ⟨g, off, none⟩) r.l.length cap, .int .i64 most, .int .i64 r.floor, .bool r.gone] 66 ∧ Sl W (.slice (some ⟨g, off, none⟩) r.l.length cap) 70 2 r.l.length (cellsL enc r.l) o ∧ Kept (fun _ => False) w W) ⟨HB.out.drewN _, H1.out.drewN _, (Kept.refl _ _).drewN _⟩ ?_
          rintro W ⟨B, S, K0⟩
          clear c0 c1 c2 c3 HB H1
          have b0 := B.cell (i := 0) rfl
          have bn : W.heap.size ≠ p := by have := B.lt; omega
          have b0a := (B.alloc (.cells #[] 70)).cell (i := 0) rfl
          have HE : Hid (Sl (W.alloc (.cells #[] 70)) (.slice (some ⟨W.heap.size, 0, none⟩) 0 0) 70 2 0 [] (some W.heap.size)) := Lib.hid (Sl.made W [] 70 2 0 rfl (Nat.zero_le _))
          have hjc : j ≤ cap := by omega
          have hj0 : (0 : Int) ≤ (j : Int) := by omega
          have hjci : (j : Int) ≤ (cap : Int) := by omega
          obtain ⟨i0, hi, hz0, hz1, hz2⟩ := info_parts infoR
          have HI := Lib.hid hi
          have HZ0 := Lib.hid hz0
          have HZ1 := Lib.hid hz1
          have HZ2 := Lib.hid hz2
          clear hi hz0 hz1 hz2
          have HS0 : Hid (Src (W.alloc (.cells #[] 70)) (.slice (some ⟨g, off, none⟩) j cap) j (cellsL enc (r.l.take j))) := Lib.hid (by
            have := (S.take (k := j) hpl).alloc (.cells #[] 70)
            rw [cellsL_take enc_len] at this
            exact this.src)
          have HTL : Hid ((cellsL enc (r.l.take j)).length = j * 2) := Lib.hid (by rw [cellsL_len enc_len, List.length_take, Nat.min_eq_left hpl])
          have N1 : Hid (0 + j ≤ maxLen) := Lib.hid (by unfold maxLen; omega)
          have N2 : Hid ((0 + j) * 24 ≤ 140737488355328) := Lib.hid (by omega)
          have HB := Lib.hid B
          have HSl := Lib.hid S
          have HK0 := Lib.hid K0
          clear B S K0
          go_upto_region 9 with (at_builtin; refine wpList_append_sl _ rfl _ _ 64 rfl 70 i0 (.agg #[.int .i64 0, .string ByteArray.empty]) 2 24 Try.underlying64 HI.out HZ0.out HZ1.out HZ2.out rfl _ 0 [] (some W.heap.size) (by exact rfl) HE.out _ j (cellsL enc (r.l.take j)) (by exact rfl) HS0.out HTL.out (enc_one _) N1.out N2.out ?_; intro v1 w1 o1 hS1 hO1 hK1; have HS1 := Lib.hid hS1; have HO1 := Lib.hid hO1; have HK1 := Lib.hid hK1; clear hS1 hO1 hK1)
          refine at_world (fun W1 => Blk W1 p [.slice (some ⟨g, off, none⟩) r.l.length cap, .int .i64 most, .int .i64 r.floor, .bool r.gone] 66 ∧ Sl W1 (.slice (some ⟨g, off, none⟩) r.l.length cap) 70 2 r.l.length (cellsL enc r.l) o ∧ New w W1 v1 j (cellsL enc (r.l.take j)) ∧ Kept (fun _ => False) w W1) (put_one HB.out HSl.out HK0.out HS1.out HO1.out HK1.out) ?_
          clear b0 bn b0a HE HS0 HTL N1 N2 HB HSl HK0 HS1 HO1 HK1
          rintro Z ⟨B, S, N0, K0⟩
          have b0 := B.cell (i := 0) rfl
          have bn : Z.heap.size ≠ p := by have := B.lt; omega
          obtain ⟨g1, hg1, hg1w, hSv⟩ := N0
          have hg1p : Hid (¬ some g1 = some p) := Lib.hid (fun e => by have := Option.some.inj e; omega)
          have HV1 : Hid (∀ n ob, Sl ((Z.drewN n).alloc ob) v1 70 2 j (cellsL enc (r.l.take j)) (some g1)) := Lib.hid (fun n ob => (hSv.drewN n).alloc ob)
          have HSR : Hid (∀ n, Src ((Z.drewN n).alloc (.cells #[.int .i64 k, .string x] 70)) (.slice (some ⟨Z.heap.size, 0, none⟩) 1 1) 1 (enc (k, x))) := Lib.hid (fun n => src_new (Z.drewN n) (k, x))
          have N1 : Hid (j + 1 ≤ maxLen) := Lib.hid (by unfold maxLen; omega)
          have N2 : Hid ((j + 1) * 24 ≤ 140737488355328) := Lib.hid (by omega)
          have N3 : Hid (j + 1 + (r.l.length - j) ≤ maxLen) := Lib.hid (by unfold maxLen; omega)
          have N4 : Hid ((j + 1 + (r.l.length - j)) * 24 ≤ 140737488355328) := Lib.hid (by omega)
          have HX : Hid (∀ u ∈ enc (k, x), u.oneCell' = true) := Lib.hid (by intro u hu; exact enc_one [(k, x)] u (by simpa [cellsL] using hu))
          have HSZ := Lib.hid S
          have HND : Hid ((cellsL enc (r.l.drop j)) = cellsL enc (r.l.drop j)) := Lib.hid (by first | rfl | (rw [List.drop_eq_nil_of_le (by omega)]; rfl))
          have HDL : Hid (((cellsL enc (r.l.drop j))).length = (r.l.length - j) * 2) := Lib.hid (by rw [HND.out, cellsL_len enc_len, List.length_drop]; try omega)
          have HXD : Hid (∀ u ∈ ((cellsL enc (r.l.drop j)) : List Value), u.oneCell' = true) := Lib.hid (by rw [HND.out]; exact enc_one _)
          have HB := Lib.hid B
          have HK0 := Lib.hid K0
          have HON : Hid (o ≠ some g1) := Lib.hid (fun e => by have := HOL.out _ e; omega)
          have HPZ : Hid (∀ n ob, p < ((Z.drewN n).alloc ob).heap.size) := Lib.hid (fun n ob => by rw [size_alloc]; have : p < (Z.drewN n).heap.size := B.lt; omega)
          clear B S K0 hSv
          go_region_held3 (fun w' => w'.cell? ⟨p, 0, none⟩ = some (.slice (some ⟨g, off, none⟩) r.l.length cap)) (first | go_keep | exact hK3.cell ‹_› (own_ne hO2 hg1p.out (HPZ.out _ _)) | exact hK2.cell ‹_› hg1p.out)
            ((first
              | (refine step_append_sl _ (by rfl) _ _ _ (by rfl) 70 i0 (.agg #[.int .i64 0, .string ByteArray.empty]) 2 24 Try.underlying64 HI.out HZ0.out HZ1.out HZ2.out rfl v1 j (cellsL enc (r.l.take j)) (some g1) (by rfl) (HV1.out _ _) _ 1 (enc (k, x)) (by rfl) (HSR.out _) rfl HX.out N1.out N2.out ?_; intro v2 w2 o2 hS2 hO2 hK2)
              | (refine step_append_sl _ (by rfl) _ _ _ (by rfl) 70 i0 (.agg #[.int .i64 0, .string ByteArray.empty]) 2 24 Try.underlying64 HI.out HZ0.out HZ1.out HZ2.out rfl v2 (j + 1) (cellsL enc (r.l.take j) ++ enc (k, x)) o2 (by rfl) hS2 (.slice (if cap = j then (some ⟨g, off, none⟩ : Option Addr) else some ⟨g, off + j * 2, none⟩) (r.l.length - j) (cap - j)) (r.l.length - j) (cellsL enc (r.l.drop j)) (by first | rfl | (simp only [Act.eval, Array.getD_eq_getD_getElem?, List.getElem?_toArray, List.getElem?_cons_succ, List.getElem?_cons_zero, Option.getD_some]; rfl)) (by have h9 := rest_src HSZ.out hK2 HON.out hpl; rw [Option.map_some, Addr.add_lit] at h9; exact h9) HDL.out HXD.out N3.out N4.out ?_; intro v3 w3 o3 hS3 hO3 hK3)))
          have HIN : Hid (insAt r.l k x = r.l.take j ++ (k, x) :: r.l.drop j) := Lib.hid (by unfold insAt; rw [HQ.out])
          have hL := insAt_len r.l k x
          have HXS : Hid (cellsL enc (r.l.take j) ++ enc (k, x) ++ (cellsL enc (r.l.drop j)) = cellsL enc (insAt r.l k x)) := Lib.hid (by rw [HIN.out, HND.out, cellsL_append, cellsL_cons, List.append_assoc])
          have hNN : j + 1 + (r.l.length - j) = (insAt r.l k x).length := by omega
          have HNN := Lib.hid hNN
          clear hNN
          generalize insAt r.l k x = L at *
          have hL0 : 0 < L.length := by omega
          have HLL := Lib.hid hL
          have HS3 := Lib.hid hS3
          have HO2 := Lib.hid hO2
          have HO3 := Lib.hid hO3
          have HK2 := Lib.hid hK2
          have HK3 := Lib.hid hK3
          clear hL hS3 hO3 hK3 hO2 hK2 hS2
          go_upto_region 10 with (fail)
          refine at_world (fun W1 => Blk W1 p [.slice (some ⟨g, off, none⟩) r.l.length cap, .int .i64 most, .int .i64 r.floor, .bool r.gone] 66 ∧ New w W1 v3 L.length (cellsL enc L) ∧ Kept (fun _ => False) w W1) (put_two HB.out HK0.out hg1 hpw HO2.out HK2.out HS3.out HO3.out HK3.out HNN.out HXS.out) ?_
          rintro Y ⟨B, ⟨g9, hg9, hg9l, S9⟩, K9⟩
          obtain ⟨g9', off9, cap9, ho9, hv9, hc9, hm9, hcell9, -⟩ := S9.some hL0
          cases ho9
          subst hv9
          unfold maxLen at hm9
          have hp9 : g9 ≠ p := by omega
          have b0 := B.cell (i := 0) rfl
          have b1 := B.cell (i := 1) rfl
          have b2 := B.cell (i := 2) rfl
          have b3 := B.cell (i := 3) rfl
          have HB := Lib.hid B
          have HS9 := Lib.hid S9
          have HK9 := Lib.hid K9
          have HC9 := Lib.hid hcell9
          clear B S9 K9 hcell9
          have f0 := HB.out.free 0
          by_cases hle : L.length ≤ most
          · have hle2 : r.l.length + 1 ≤ most := by rw [← HLL.out]; exact hle
            have HLE := Lib.hid hle2
            clear hle2
            go_wp2_with fail
            go_ret3
            exact fin_room (HR1.out HLE.out) hp HB.out HS9.out hg9 hpw HK9.out HLS.out hle
          · have hle2 : ¬ (r.l.length + 1 ≤ most) := by rw [← HLL.out]; exact hle
            have HLE := Lib.hid hle2
            clear hle2
            obtain ⟨y, t, hyt⟩ : ∃ y t, L = y :: t := by
              cases L with
              | nil => simp at hL0
              | cons y t => exact ⟨y, t, rfl⟩
            obtain ⟨e1, -⟩ := cells_at HC9.out (t := 0) (y := y) (by rw [hyt]; rfl)
            rw [Nat.zero_mul, Nat.add_zero] at e1
            have HY := Lib.hid hyt
            clear hyt
            have f2 := HB.out.free 2
            have f3 := HB.out.free 3
            have hj1 : 0 < j := Nat.pos_of_ne_zero (fun e => by have := HQ0.out e; have := HLE.out; omega)
            have hnc : ¬ cap9 = 1 := by have := HLL.out; omega
            have hc1 : (1 : Int) ≤ (cap9 : Int) := by omega
            have hl1 : (1 : Int) ≤ (L.length : Int) := by omega
            go_wp2_with fail
            go_ret3
            exact fin_gone (HR2.out HLE.out y t HY.out) hp HB.out (HS9.out) HY.out hnc hg9 hpw HK9.out HLS.out (by have := HLL.out; rw [HY.out, List.length_cons] at this; omega)
      · go_upto_region 6 with (fail)
        go_cut [78] from 11 (fun s wr => s = .bool false ∧ ∃ n, wr = w.drewN n)
        case first =>
          cases hgg : r.gone with
          | false =>
            rw [hgg] at c3
            by_cases hj0 : j = 0
            · have hlt := HQ0.out hj0
              have hne2 : ¬ r.l.length = most := by omega
              subst hj0
              go_quiet (fail)
              go_wp2_with fail
              have hbe : ((r.l.length : Int) == (most : Int)) = false := by simp; omega
              go_meet
              exact ⟨by rw [hbe], _, rfl⟩
            · have hj1 : ¬ (j : Int) = 0 := by omega
              go_quiet (fail)
              go_wp2_with fail
              go_meet
              exact ⟨rfl, _, rfl⟩
          | true =>
            rw [hgg] at c3
            have hfl : ¬ k ≤ r.floor := by have := HG.out hgg; omega
            by_cases hj0 : j = 0
            · have hlt := HQ0.out hj0
              have hne2 : ¬ r.l.length = most := by omega
              subst hj0
              go_quiet (fail)
              go_wp2_with fail
              have hbe : ((r.l.length : Int) == (most : Int)) = false := by simp; omega
              go_meet
              exact ⟨by rw [hbe], _, rfl⟩
            · have hj1 : ¬ (j : Int) = 0 := by omega
              go_quiet (fail)
              go_wp2_with fail
              go_meet
              exact ⟨rfl, _, rfl⟩
        case rest =>
          obtain ⟨rfl, nr, rfl⟩ := hcut
          go_upto_region 8 with (fail)
          by_cases hcj : cap = j
          · subst hcj
            have hpw := HB.out.lt
            have HOL : Hid (∀ g, o = some g → g < w.heap.size) := Lib.hid (fun g hg => H1.out.lt hg)
            refine at_world (fun W => Blk W p [.slice a r.l.length cap, .int .i64 most, .int .i64 r.floor, .bool r.gone] 66 ∧ Sl W (.slice a r.l.length cap) 70 2 r.l.length (cellsL enc r.l) o ∧ Kept (fun _ => False) w W) ⟨HB.out.drewN _, H1.out.drewN _, (Kept.refl _ _).drewN _⟩ ?_
            rintro W ⟨B, S, K0⟩
            clear c0 c1 c2 c3 HB H1
            have b0 := B.cell (i := 0) rfl
            have bn : W.heap.size ≠ p := by have := B.lt; omega
            have b0a := (B.alloc (.cells #[] 70)).cell (i := 0) rfl
            have HE : Hid (Sl (W.alloc (.cells #[] 70)) (.slice (some ⟨W.heap.size, 0, none⟩) 0 0) 70 2 0 [] (some W.heap.size)) := Lib.hid (Sl.made W [] 70 2 0 rfl (Nat.zero_le _))
            have hjc : cap ≤ cap := by omega
            have hj0 : (0 : Int) ≤ (cap : Int) := by omega
            have hjci : (cap : Int) ≤ (cap : Int) := by omega
            obtain ⟨i0, hi, hz0, hz1, hz2⟩ := info_parts infoR
            have HI := Lib.hid hi
            have HZ0 := Lib.hid hz0
            have HZ1 := Lib.hid hz1
            have HZ2 := Lib.hid hz2
            clear hi hz0 hz1 hz2
            have HS0 : Hid (Src (W.alloc (.cells #[] 70)) (.slice a cap cap) cap (cellsL enc (r.l.take cap))) := Lib.hid (by
              have := (S.take (k := cap) hpl).alloc (.cells #[] 70)
              rw [cellsL_take enc_len] at this
              exact this.src)
            have HTL : Hid ((cellsL enc (r.l.take cap)).length = cap * 2) := Lib.hid (by rw [cellsL_len enc_len, List.length_take, Nat.min_eq_left hpl])
            have N1 : Hid (0 + cap ≤ maxLen) := Lib.hid (by unfold maxLen; omega)
            have N2 : Hid ((0 + cap) * 24 ≤ 140737488355328) := Lib.hid (by omega)
            have HB := Lib.hid B
            have HSl := Lib.hid S
            have HK0 := Lib.hid K0
            clear B S K0
            go_upto_region 9 with (at_builtin; refine wpList_append_sl _ rfl _ _ 64 rfl 70 i0 (.agg #[.int .i64 0, .string ByteArray.empty]) 2 24 Try.underlying64 HI.out HZ0.out HZ1.out HZ2.out rfl _ 0 [] (some W.heap.size) (by exact rfl) HE.out _ cap (cellsL enc (r.l.take cap)) (by exact rfl) HS0.out HTL.out (enc_one _) N1.out N2.out ?_; intro v1 w1 o1 hS1 hO1 hK1; have HS1 := Lib.hid hS1; have HO1 := Lib.hid hO1; have HK1 := Lib.hid hK1; clear hS1 hO1 hK1)
            refine at_world (fun W1 => Blk W1 p [.slice a r.l.length cap, .int .i64 most, .int .i64 r.floor, .bool r.gone] 66 ∧ Sl W1 (.slice a r.l.length cap) 70 2 r.l.length (cellsL enc r.l) o ∧ New w W1 v1 cap (cellsL enc (r.l.take cap)) ∧ Kept (fun _ => False) w W1) (put_one HB.out HSl.out HK0.out HS1.out HO1.out HK1.out) ?_
            clear b0 bn b0a HE HS0 HTL N1 N2 HB HSl HK0 HS1 HO1 HK1
            rintro Z ⟨B, S, N0, K0⟩
            have b0 := B.cell (i := 0) rfl
            have bn : Z.heap.size ≠ p := by have := B.lt; omega
            obtain ⟨g1, hg1, hg1w, hSv⟩ := N0
            have hg1p : Hid (¬ some g1 = some p) := Lib.hid (fun e => by have := Option.some.inj e; omega)
            have HV1 : Hid (∀ n ob, Sl ((Z.drewN n).alloc ob) v1 70 2 cap (cellsL enc (r.l.take cap)) (some g1)) := Lib.hid (fun n ob => (hSv.drewN n).alloc ob)
            have HSR : Hid (∀ n, Src ((Z.drewN n).alloc (.cells #[.int .i64 k, .string x] 70)) (.slice (some ⟨Z.heap.size, 0, none⟩) 1 1) 1 (enc (k, x))) := Lib.hid (fun n => src_new (Z.drewN n) (k, x))
            have N1 : Hid (cap + 1 ≤ maxLen) := Lib.hid (by unfold maxLen; omega)
            have N2 : Hid ((cap + 1) * 24 ≤ 140737488355328) := Lib.hid (by omega)
            have N3 : Hid (cap + 1 + 0 ≤ maxLen) := Lib.hid (by unfold maxLen; omega)
            have N4 : Hid ((cap + 1 + 0) * 24 ≤ 140737488355328) := Lib.hid (by omega)
            have HX : Hid (∀ u ∈ enc (k, x), u.oneCell' = true) := Lib.hid (by intro u hu; exact enc_one [(k, x)] u (by simpa [cellsL] using hu))
            have HSZ := Lib.hid S
            have HND : Hid (([] : List Value) = cellsL enc (r.l.drop cap)) := Lib.hid (by first | rfl | (rw [List.drop_eq_nil_of_le (by omega)]; rfl))
            have HDL : Hid ((([] : List Value)).length = 0 * 2) := Lib.hid (by rw [HND.out, cellsL_len enc_len, List.length_drop]; try omega)
            have HXD : Hid (∀ u ∈ (([] : List Value) : List Value), u.oneCell' = true) := Lib.hid (by rw [HND.out]; exact enc_one _)
            have HB := Lib.hid B
            have HK0 := Lib.hid K0
            have HON : Hid (o ≠ some g1) := Lib.hid (fun e => by have := HOL.out _ e; omega)
            have HPZ : Hid (∀ n ob, p < ((Z.drewN n).alloc ob).heap.size) := Lib.hid (fun n ob => by rw [size_alloc]; have : p < (Z.drewN n).heap.size := B.lt; omega)
            clear B S K0 hSv
            go_region_held3 (fun w' => w'.cell? ⟨p, 0, none⟩ = some (.slice a r.l.length cap)) (first | go_keep | exact hK3.cell ‹_› (own_ne hO2 hg1p.out (HPZ.out _ _)) | exact hK2.cell ‹_› hg1p.out)
              ((first
                | (refine step_append_sl _ (by rfl) _ _ _ (by rfl) 70 i0 (.agg #[.int .i64 0, .string ByteArray.empty]) 2 24 Try.underlying64 HI.out HZ0.out HZ1.out HZ2.out rfl v1 cap (cellsL enc (r.l.take cap)) (some g1) (by rfl) (HV1.out _ _) _ 1 (enc (k, x)) (by rfl) (HSR.out _) rfl HX.out N1.out N2.out ?_; intro v2 w2 o2 hS2 hO2 hK2)
                | (refine step_append_sl _ (by rfl) _ _ _ (by rfl) 70 i0 (.agg #[.int .i64 0, .string ByteArray.empty]) 2 24 Try.underlying64 HI.out HZ0.out HZ1.out HZ2.out rfl v2 (cap + 1) (cellsL enc (r.l.take cap) ++ enc (k, x)) o2 (by rfl) hS2 (.slice a 0 0) 0 ([] : List Value) (by first | rfl | (simp only [Act.eval, Array.getD_eq_getD_getElem?, List.getElem?_toArray, List.getElem?_cons_succ, List.getElem?_cons_zero, Option.getD_some]; rfl)) (by have h9 := rest_src HSZ.out hK2 HON.out hpl; rw [if_pos rfl, Nat.sub_self, Nat.sub_eq_zero_of_le (by omega), List.drop_eq_nil_of_le (by omega)] at h9; exact h9) HDL.out HXD.out N3.out N4.out ?_; intro v3 w3 o3 hS3 hO3 hK3)))
            have HIN : Hid (insAt r.l k x = r.l.take cap ++ (k, x) :: r.l.drop cap) := Lib.hid (by unfold insAt; rw [HQ.out])
            have hL := insAt_len r.l k x
            have HXS : Hid (cellsL enc (r.l.take cap) ++ enc (k, x) ++ ([] : List Value) = cellsL enc (insAt r.l k x)) := Lib.hid (by rw [HIN.out, HND.out, cellsL_append, cellsL_cons, List.append_assoc])
            have hNN : cap + 1 + 0 = (insAt r.l k x).length := by omega
            have HNN := Lib.hid hNN
            clear hNN
            generalize insAt r.l k x = L at *
            have hL0 : 0 < L.length := by omega
            have HLL := Lib.hid hL
            have HS3 := Lib.hid hS3
            have HO2 := Lib.hid hO2
            have HO3 := Lib.hid hO3
            have HK2 := Lib.hid hK2
            have HK3 := Lib.hid hK3
            clear hL hS3 hO3 hK3 hO2 hK2 hS2
            go_upto_region 10 with (fail)
            refine at_world (fun W1 => Blk W1 p [.slice a r.l.length cap, .int .i64 most, .int .i64 r.floor, .bool r.gone] 66 ∧ New w W1 v3 L.length (cellsL enc L) ∧ Kept (fun _ => False) w W1) (put_two HB.out HK0.out hg1 hpw HO2.out HK2.out HS3.out HO3.out HK3.out HNN.out HXS.out) ?_
            rintro Y ⟨B, ⟨g9, hg9, hg9l, S9⟩, K9⟩
            obtain ⟨g9', off9, cap9, ho9, hv9, hc9, hm9, hcell9, -⟩ := S9.some hL0
            cases ho9
            subst hv9
            unfold maxLen at hm9
            have hp9 : g9 ≠ p := by omega
            have b0 := B.cell (i := 0) rfl
            have b1 := B.cell (i := 1) rfl
            have b2 := B.cell (i := 2) rfl
            have b3 := B.cell (i := 3) rfl
            have HB := Lib.hid B
            have HS9 := Lib.hid S9
            have HK9 := Lib.hid K9
            have HC9 := Lib.hid hcell9
            clear B S9 K9 hcell9
            have f0 := HB.out.free 0
            by_cases hle : L.length ≤ most
            · have hle2 : r.l.length + 1 ≤ most := by rw [← HLL.out]; exact hle
              have HLE := Lib.hid hle2
              clear hle2
              go_wp2_with fail
              go_ret3
              exact fin_room (HR1.out HLE.out) hp HB.out HS9.out hg9 hpw HK9.out HLS.out hle
            · have hle2 : ¬ (r.l.length + 1 ≤ most) := by rw [← HLL.out]; exact hle
              have HLE := Lib.hid hle2
              clear hle2
              obtain ⟨y, t, hyt⟩ : ∃ y t, L = y :: t := by
                cases L with
                | nil => simp at hL0
                | cons y t => exact ⟨y, t, rfl⟩
              obtain ⟨e1, -⟩ := cells_at HC9.out (t := 0) (y := y) (by rw [hyt]; rfl)
              rw [Nat.zero_mul, Nat.add_zero] at e1
              have HY := Lib.hid hyt
              clear hyt
              have f2 := HB.out.free 2
              have f3 := HB.out.free 3
              have hj1 : 0 < cap := Nat.pos_of_ne_zero (fun e => by have := HQ0.out e; have := HLE.out; omega)
              have hnc : ¬ cap9 = 1 := by have := HLL.out; omega
              have hc1 : (1 : Int) ≤ (cap9 : Int) := by omega
              have hl1 : (1 : Int) ≤ (L.length : Int) := by omega
              go_wp2_with fail
              go_ret3
              exact fin_gone (HR2.out HLE.out y t HY.out) hp HB.out (HS9.out) HY.out hnc hg9 hpw HK9.out HLS.out (by have := HLL.out; rw [HY.out, List.length_cons] at this; omega)
          · obtain ⟨g, off, rfl⟩ : ∃ g off, a = some ⟨g, off, none⟩ := by
              rcases H1.out.2 with ⟨hv, h0, -⟩ | ⟨g, off, cap', cur, ho, hv, -⟩
              · injection hv with _ h1 h2; omega
              · cases hv; exact ⟨g, off, rfl⟩
            have hpw := HB.out.lt
            have HOL : Hid (∀ g, o = some g → g < w.heap.size) := Lib.hid (fun g hg => H1.out.lt hg)
            refine at_world (fun W => Blk W p [.slice (some ⟨g, off, none⟩) r.l.length cap, .int .i64 most, .int .i64 r.floor, .bool r.gone] 66 ∧ Sl W (.slice (some ⟨g, off, none⟩) r.l.length cap) 70 2 r.l.length (cellsL enc r.l) o ∧ Kept (fun _ => False) w W) ⟨HB.out.drewN _, H1.out.drewN _, (Kept.refl _ _).drewN _⟩ ?_
            rintro W ⟨B, S, K0⟩
            clear c0 c1 c2 c3 HB H1
            have b0 := B.cell (i := 0) rfl
            have bn : W.heap.size ≠ p := by have := B.lt; omega
            have b0a := (B.alloc (.cells #[] 70)).cell (i := 0) rfl
            have HE : Hid (Sl (W.alloc (.cells #[] 70)) (.slice (some ⟨W.heap.size, 0, none⟩) 0 0) 70 2 0 [] (some W.heap.size)) := Lib.hid (Sl.made W [] 70 2 0 rfl (Nat.zero_le _))
            have hjc : j ≤ cap := by omega
            have hj0 : (0 : Int) ≤ (j : Int) := by omega
            have hjci : (j : Int) ≤ (cap : Int) := by omega
            obtain ⟨i0, hi, hz0, hz1, hz2⟩ := info_parts infoR
            have HI := Lib.hid hi
            have HZ0 := Lib.hid hz0
            have HZ1 := Lib.hid hz1
            have HZ2 := Lib.hid hz2
            clear hi hz0 hz1 hz2
            have HS0 : Hid (Src (W.alloc (.cells #[] 70)) (.slice (some ⟨g, off, none⟩) j cap) j (cellsL enc (r.l.take j))) := Lib.hid (by
              have := (S.take (k := j) hpl).alloc (.cells #[] 70)
              rw [cellsL_take enc_len] at this
              exact this.src)
            have HTL : Hid ((cellsL enc (r.l.take j)).length = j * 2) := Lib.hid (by rw [cellsL_len enc_len, List.length_take, Nat.min_eq_left hpl])
            have N1 : Hid (0 + j ≤ maxLen) := Lib.hid (by unfold maxLen; omega)
            have N2 : Hid ((0 + j) * 24 ≤ 140737488355328) := Lib.hid (by omega)
            have HB := Lib.hid B
            have HSl := Lib.hid S
            have HK0 := Lib.hid K0
            clear B S K0
            go_upto_region 9 with (at_builtin; refine wpList_append_sl _ rfl _ _ 64 rfl 70 i0 (.agg #[.int .i64 0, .string ByteArray.empty]) 2 24 Try.underlying64 HI.out HZ0.out HZ1.out HZ2.out rfl _ 0 [] (some W.heap.size) (by exact rfl) HE.out _ j (cellsL enc (r.l.take j)) (by exact rfl) HS0.out HTL.out (enc_one _) N1.out N2.out ?_; intro v1 w1 o1 hS1 hO1 hK1; have HS1 := Lib.hid hS1; have HO1 := Lib.hid hO1; have HK1 := Lib.hid hK1; clear hS1 hO1 hK1)
            refine at_world (fun W1 => Blk W1 p [.slice (some ⟨g, off, none⟩) r.l.length cap, .int .i64 most, .int .i64 r.floor, .bool r.gone] 66 ∧ Sl W1 (.slice (some ⟨g, off, none⟩) r.l.length cap) 70 2 r.l.length (cellsL enc r.l) o ∧ New w W1 v1 j (cellsL enc (r.l.take j)) ∧ Kept (fun _ => False) w W1) (put_one HB.out HSl.out HK0.out HS1.out HO1.out HK1.out) ?_
            clear b0 bn b0a HE HS0 HTL N1 N2 HB HSl HK0 HS1 HO1 HK1
            rintro Z ⟨B, S, N0, K0⟩
            have b0 := B.cell (i := 0) rfl
            have bn : Z.heap.size ≠ p := by have := B.lt; omega
            obtain ⟨g1, hg1, hg1w, hSv⟩ := N0
            have hg1p : Hid (¬ some g1 = some p) := Lib.hid (fun e => by have := Option.some.inj e; omega)
            have HV1 : Hid (∀ n ob, Sl ((Z.drewN n).alloc ob) v1 70 2 j (cellsL enc (r.l.take j)) (some g1)) := Lib.hid (fun n ob => (hSv.drewN n).alloc ob)
            have HSR : Hid (∀ n, Src ((Z.drewN n).alloc (.cells #[.int .i64 k, .string x] 70)) (.slice (some ⟨Z.heap.size, 0, none⟩) 1 1) 1 (enc (k, x))) := Lib.hid (fun n => src_new (Z.drewN n) (k, x))
            have N1 : Hid (j + 1 ≤ maxLen) := Lib.hid (by unfold maxLen; omega)
            have N2 : Hid ((j + 1) * 24 ≤ 140737488355328) := Lib.hid (by omega)
            have N3 : Hid (j + 1 + (r.l.length - j) ≤ maxLen) := Lib.hid (by unfold maxLen; omega)
            have N4 : Hid ((j + 1 + (r.l.length - j)) * 24 ≤ 140737488355328) := Lib.hid (by omega)
            have HX : Hid (∀ u ∈ enc (k, x), u.oneCell' = true) := Lib.hid (by intro u hu; exact enc_one [(k, x)] u (by simpa [cellsL] using hu))
            have HSZ := Lib.hid S
            have HND : Hid ((cellsL enc (r.l.drop j)) = cellsL enc (r.l.drop j)) := Lib.hid (by first | rfl | (rw [List.drop_eq_nil_of_le (by omega)]; rfl))
            have HDL : Hid (((cellsL enc (r.l.drop j))).length = (r.l.length - j) * 2) := Lib.hid (by rw [HND.out, cellsL_len enc_len, List.length_drop]; try omega)
            have HXD : Hid (∀ u ∈ ((cellsL enc (r.l.drop j)) : List Value), u.oneCell' = true) := Lib.hid (by rw [HND.out]; exact enc_one _)
            have HB := Lib.hid B
            have HK0 := Lib.hid K0
            have HON : Hid (o ≠ some g1) := Lib.hid (fun e => by have := HOL.out _ e; omega)
            have HPZ : Hid (∀ n ob, p < ((Z.drewN n).alloc ob).heap.size) := Lib.hid (fun n ob => by rw [size_alloc]; have : p < (Z.drewN n).heap.size := B.lt; omega)
            clear B S K0 hSv
            go_region_held3 (fun w' => w'.cell? ⟨p, 0, none⟩ = some (.slice (some ⟨g, off, none⟩) r.l.length cap)) (first | go_keep | exact hK3.cell ‹_› (own_ne hO2 hg1p.out (HPZ.out _ _)) | exact hK2.cell ‹_› hg1p.out)
              ((first
                | (refine step_append_sl _ (by rfl) _ _ _ (by rfl) 70 i0 (.agg #[.int .i64 0, .string ByteArray.empty]) 2 24 Try.underlying64 HI.out HZ0.out HZ1.out HZ2.out rfl v1 j (cellsL enc (r.l.take j)) (some g1) (by rfl) (HV1.out _ _) _ 1 (enc (k, x)) (by rfl) (HSR.out _) rfl HX.out N1.out N2.out ?_; intro v2 w2 o2 hS2 hO2 hK2)
                | (refine step_append_sl _ (by rfl) _ _ _ (by rfl) 70 i0 (.agg #[.int .i64 0, .string ByteArray.empty]) 2 24 Try.underlying64 HI.out HZ0.out HZ1.out HZ2.out rfl v2 (j + 1) (cellsL enc (r.l.take j) ++ enc (k, x)) o2 (by rfl) hS2 (.slice (some ⟨g, off + j * 2, none⟩) (r.l.length - j) (cap - j)) (r.l.length - j) (cellsL enc (r.l.drop j)) (by first | rfl | (simp only [Act.eval, Array.getD_eq_getD_getElem?, List.getElem?_toArray, List.getElem?_cons_succ, List.getElem?_cons_zero, Option.getD_some]; rfl)) (by have h9 := rest_src HSZ.out hK2 HON.out hpl; rw [if_neg hcj, Option.map_some, Addr.add_lit] at h9; exact h9) HDL.out HXD.out N3.out N4.out ?_; intro v3 w3 o3 hS3 hO3 hK3)))
            have HIN : Hid (insAt r.l k x = r.l.take j ++ (k, x) :: r.l.drop j) := Lib.hid (by unfold insAt; rw [HQ.out])
            have hL := insAt_len r.l k x
            have HXS : Hid (cellsL enc (r.l.take j) ++ enc (k, x) ++ (cellsL enc (r.l.drop j)) = cellsL enc (insAt r.l k x)) := Lib.hid (by rw [HIN.out, HND.out, cellsL_append, cellsL_cons, List.append_assoc])
            have hNN : j + 1 + (r.l.length - j) = (insAt r.l k x).length := by omega
            have HNN := Lib.hid hNN
            clear hNN
            generalize insAt r.l k x = L at *
            have hL0 : 0 < L.length := by omega
            have HLL := Lib.hid hL
            have HS3 := Lib.hid hS3
            have HO2 := Lib.hid hO2
            have HO3 := Lib.hid hO3
            have HK2 := Lib.hid hK2
            have HK3 := Lib.hid hK3
            clear hL hS3 hO3 hK3 hO2 hK2 hS2
            go_upto_region 10 with (fail)
            refine at_world (fun W1 => Blk W1 p [.slice (some ⟨g, off, none⟩) r.l.length cap, .int .i64 most, .int .i64 r.floor, .bool r.gone] 66 ∧ New w W1 v3 L.length (cellsL enc L) ∧ Kept (fun _ => False) w W1) (put_two HB.out HK0.out hg1 hpw HO2.out HK2.out HS3.out HO3.out HK3.out HNN.out HXS.out) ?_
            rintro Y ⟨B, ⟨g9, hg9, hg9l, S9⟩, K9⟩
            obtain ⟨g9', off9, cap9, ho9, hv9, hc9, hm9, hcell9, -⟩ := S9.some hL0
            cases ho9
            subst hv9
            unfold maxLen at hm9
            have hp9 : g9 ≠ p := by omega
            have b0 := B.cell (i := 0) rfl
            have b1 := B.cell (i := 1) rfl
            have b2 := B.cell (i := 2) rfl
            have b3 := B.cell (i := 3) rfl
            have HB := Lib.hid B
            have HS9 := Lib.hid S9
            have HK9 := Lib.hid K9
            have HC9 := Lib.hid hcell9
            clear B S9 K9 hcell9
            have f0 := HB.out.free 0
            by_cases hle : L.length ≤ most
            · have hle2 : r.l.length + 1 ≤ most := by rw [← HLL.out]; exact hle
              have HLE := Lib.hid hle2
              clear hle2
              go_wp2_with fail
              go_ret3
              exact fin_room (HR1.out HLE.out) hp HB.out HS9.out hg9 hpw HK9.out HLS.out hle
            · have hle2 : ¬ (r.l.length + 1 ≤ most) := by rw [← HLL.out]; exact hle
              have HLE := Lib.hid hle2
              clear hle2
              obtain ⟨y, t, hyt⟩ : ∃ y t, L = y :: t := by
                cases L with
                | nil => simp at hL0
                | cons y t => exact ⟨y, t, rfl⟩
              obtain ⟨e1, -⟩ := cells_at HC9.out (t := 0) (y := y) (by rw [hyt]; rfl)
              rw [Nat.zero_mul, Nat.add_zero] at e1
              have HY := Lib.hid hyt
              clear hyt
              have f2 := HB.out.free 2
              have f3 := HB.out.free 3
              have hj1 : 0 < j := Nat.pos_of_ne_zero (fun e => by have := HQ0.out e; have := HLE.out; omega)
              have hnc : ¬ cap9 = 1 := by have := HLL.out; omega
              have hc1 : (1 : Int) ≤ (cap9 : Int) := by omega
              have hl1 : (1 : Int) ≤ (L.length : Int) := by omega
              go_wp2_with fail
              go_ret3
              exact fin_gone (HR2.out HLE.out y t HY.out) hp HB.out (HS9.out) HY.out hnc hg9 hpw HK9.out HLS.out (by have := HLL.out; rw [HY.out, List.length_cons] at this; omega)

/-- Lay of the document's ring. -/
theorem lay_calls (w : World) (p : Nat) (fp : Nat → Prop) (most : Nat) (r : RingM ByteArray) (k : Int) (x : ByteArray) (h : Ref w p fp most r) (hm : most ≤ 64) :
    Calls Try.prog 27 #[.pointer (some ⟨p, 0, none⟩), .int .i64 k, .string x] w (LayPost w p fp most (layM most r k x)) := by
  cases ht : there r.l k with
  | true =>
    have e : layM most r k x = (r, 0, false, 12) := by unfold layM; rw [if_pos ht]
    rw [e]; exact lay_there w p fp most r k x h hm ht
  | false =>
    by_cases h1 : (r.gone && decide (k ≤ r.floor)) = true
    · have e : layM most r k x = (r, 0, false, 13) := by unfold layM; rw [if_neg (by rw [ht]; simp), if_pos (by rw [h1]; simp)]
      rw [e]
      rw [Bool.and_eq_true, decide_eq_true_eq] at h1
      exact lay_low w p fp most r k x h hm ht h1.1 h1.2
    · have hg : r.gone = true → ¬ k ≤ r.floor := fun hg hk => h1 (by rw [hg]; simpa using hk)
      by_cases h2 : plc r.l k = 0 ∧ r.l.length = most
      · have e : layM most r k x = (r, 0, false, 13) := by unfold layM; rw [if_neg (by rw [ht]; simp), if_pos (by simp [h2.1, h2.2])]
        rw [e]
        exact lay_full w p fp most r k x h hm ht hg h2.1 h2.2
      · exact lay_put w p fp most r k x h hm ht hg (fun h0 => by have := h.len; have : ¬ r.l.length = most := fun h3 => h2 ⟨h0, h3⟩; omega)
end Go.Proofs.Ytolgapcckbcmbaa.Ref
