/- slices.Insert of one thing at string. -/
import Derived.Test.YtolgapcckbcmbaaRinS
import Derived.Laws.Externs
import Derived.Lib.Overlaps
namespace Go.Proofs.Ytolgapcckbcmbaa.RingS
open Go.RowKit

def InsPost (w : World) (l' : List (Int × ByteArray)) (own : Option Nat) (e : Ending) (w' : World) : Prop :=
  ∃ v' own', e = .returned v' ∧ Sl w' v' 82 2 l'.length (cellsL enc l') own' ∧ (own' = own ∨ ∃ q, own' = some q ∧ w.heap.size ≤ q) ∧ Kept (fun k => own = some k) w w'

theorem sizeE : ∀ w : World, (Go.sizeOf 82).run Try.prog w = .ok 2 w := fun w => by kernel_rfl

theorem ins_len {l : List (Int × ByteArray)} {i : Nat} (hi : i ≤ l.length) (y : Int × ByteArray) : (l.take i ++ y :: l.drop i).length = l.length + 1 := by simp; omega

theorem take_app {α : Type} {a b : List α} {n : Nat} (h : a.length = n) : (a ++ b).take n = a := by subst h; simp
theorem drop_app {α : Type} {a b : List α} {n : Nat} (h : a.length = n) : (a ++ b).drop n = b := by subst h; simp

theorem ins_gen {α : Type} (C E Z D : List α) {a b t : Nat} (hC : C.length = a) (hE : a + E.length = b) (ht : a + Z.length ≤ t) (hb : b ≤ a + Z.length) :
    ((C ++ Z).take a ++ E ++ (C ++ Z).drop b).take b ++ D ++ ((C ++ Z).take a ++ E ++ (C ++ Z).drop b).drop t = C ++ E ++ D := by
  rw [take_app hC, take_app (by rw [List.length_append]; omega)]
  rw [List.drop_eq_nil_of_le (i := t) (by simp only [List.length_append, List.length_drop]; omega), List.append_nil]

theorem ins_cells (l : List (Int × ByteArray)) (y : Int × ByteArray) (i : Nat) (hi : i ≤ l.length) (Z : List Value) (hZ : Z.length = (l.length + 1 - i) * 2) :
    ((((cellsL enc l).take (i * 2) ++ Z).take (i * 2) ++ (enc y).take (min 1 (l.length + 1 - i) * 2) ++ ((cellsL enc l).take (i * 2) ++ Z).drop ((i + min 1 (l.length + 1 - i)) * 2)).take ((i + 1) * 2) ++
      (cellsL enc (l.drop i)).take (min (l.length - i) (l.length - i) * 2) ++
      (((cellsL enc l).take (i * 2) ++ Z).take (i * 2) ++ (enc y).take (min 1 (l.length + 1 - i) * 2) ++ ((cellsL enc l).take (i * 2) ++ Z).drop ((i + min 1 (l.length + 1 - i)) * 2)).drop ((i + 1 + min (l.length - i) (l.length - i)) * 2)) = cellsL enc (l.take i ++ y :: l.drop i) := by
  have hL := cellsL_len enc_len l
  have e0 : ((cellsL enc l).take (i * 2)).length = i * 2 := by rw [List.length_take, hL]; omega
  have hD : (cellsL enc (l.drop i)).length = (l.length - i) * 2 := by rw [cellsL_len enc_len, List.length_drop]
  rw [show min 1 (l.length + 1 - i) = 1 from by omega, show min (l.length - i) (l.length - i) = l.length - i from by omega, show (enc y).take (1 * 2) = enc y from rfl, List.take_of_length_le (Nat.le_of_eq hD), cellsL_append, cellsL_cons, ← cellsL_take enc_len]
  exact (ins_gen _ (enc y) Z (cellsL enc (l.drop i)) e0 (by rw [enc_len]; omega) (by omega) (by omega)).trans (List.append_assoc ..)

def INS : FuncId := 32


set_option maxHeartbeats 1000000 in
set_option maxRecDepth 100000 in
theorem insert_end (w : World) (v0 : Value) (l : List (Int × ByteArray)) (own : Option Nat) (y : Int × ByteArray) (gv : Nat) (h : Sl w v0 82 2 l.length (cellsL enc l) own) (hl : l.length ≤ 200)
    (hv : Src w (.slice (some ⟨gv, 0, none⟩) 1 1) 1 (enc y)) :
    Calls Try.prog 32 #[v0, .int .i64 l.length, .slice (some ⟨gv, 0, none⟩) 1 1] w (InsPost w (l ++ [y]) own) := by
  obtain ⟨i0, hi, hz0, hz1, hz2⟩ := info_parts infoE
  have HI := Lib.hid hi
  have HZ0 := Lib.hid hz0
  have HZ1 := Lib.hid hz1
  have HZ2 := Lib.hid hz2
  clear hi hz0 hz1 hz2
  have HV := Lib.hid hv
  have H := Lib.hid h
  have HX : Hid (∀ u ∈ enc y, u.oneCell' = true) := Lib.hid (by intro u hu; have := enc_one [y] u (by simpa [cellsL] using hu); exact this)
  clear h hv
  obtain ⟨a, cap, rfl, hc, hm⟩ := H.out.form
  unfold maxLen at hm
  have N1 : Hid (l.length + 1 ≤ maxLen) := Lib.hid (by unfold maxLen; omega)
  have N2 : Hid ((l.length + 1) * 24 ≤ 140737488355328) := Lib.hid (by omega)
  go_enter Try.func32, Try.ntmps32
  go_wp2_with (at_builtin; refine wpList_append_sl _ rfl _ _ 72 rfl 82 i0 (.agg #[.int .i64 0, Value.string ByteArray.empty]) 2 24 Try.underlying72 HI.out HZ0.out HZ1.out HZ2.out rfl _ _ _ own rfl H.out _ 1 (enc y) rfl HV.out rfl HX.out N1.out N2.out ?_; intro v' w' own' hS' ho' hK'; have SA := Lib.hid hS'; have OA := Lib.hid ho'; have KA := Lib.hid hK'; clear hS' ho' hK')
  all_goals
    go_ret
    refine ⟨_, _, rfl, ?_, OA.out.imp id (fun h => ⟨_, h, Nat.le_refl _⟩), KA.out⟩
    rw [List.length_append, List.length_cons, List.length_nil, cellsL_append, cellsL_cons]
    simpa [cellsL] using SA.out

set_option maxHeartbeats 2000000 in
set_option maxRecDepth 100000 in
theorem insert_new (w : World) (v0 : Value) (l : List (Int × ByteArray)) (own : Option Nat) (i : Nat) (y : Int × ByteArray) (gv : Nat) (a : Option Addr) (cap : Nat) (hv0 : v0 = .slice a l.length cap) (h : Sl w v0 82 2 l.length (cellsL enc l) own) (hl : l.length ≤ 200)
    (hi : i < l.length) (hcap : cap < l.length + 1) (hv : Src w (.slice (some ⟨gv, 0, none⟩) 1 1) 1 (enc y)) :
    Calls Try.prog 32 #[v0, .int .i64 i, .slice (some ⟨gv, 0, none⟩) 1 1] w (InsPost w (l.take i ++ y :: l.drop i) own) := by
  obtain ⟨i0, hi, hz0, hz1, hz2⟩ := info_parts infoE
  have HI := Lib.hid hi
  have HZ0 := Lib.hid hz0
  have HZ1 := Lib.hid hz1
  have HZ2 := Lib.hid hz2
  clear hi hz0 hz1 hz2
  have HV := Lib.hid hv
  have H := Lib.hid h
  have HX : Hid (∀ u ∈ enc y, u.oneCell' = true) := Lib.hid (by intro u hu; have := enc_one [y] u (by simpa [cellsL] using hu); exact this)
  clear h hv
  obtain ⟨g, off, cap', ho, hv1, hc, hm, -, -⟩ := H.out.some (by omega)
  rw [hv0] at hv1
  cases hv1
  subst hv0
  unfold maxLen at hm
  have em : (l.length : Int) + 1 - (i : Int) = ((l.length + 1 - i : Nat) : Int) := by omega
  have hne : ((i : Int) == (l.length : Int)) = false := by simp; omega
  have hmz : 0 < l.length + 1 - i := by omega
  have HT := Lib.hid (H.out.take (k := i) (by omega))
  have HD := Lib.hid (H.out.drop (k := i) (by omega))
  have nci : ¬ cap = i := by omega
  have HSR : Hid (Src w (.slice (some ⟨g, off + i * 2, none⟩) (l.length - i) (cap - i)) (l.length - i) (cellsL enc (l.drop i))) := Lib.hid (by
    have := HD.out.src
    rw [if_neg nci, Option.map_some, Addr.add_lit, cellsL_drop enc_len] at this
    exact this)
  have e9 : i + (l.length + 1 - i) = l.length + 1 := by omega
  have E9 := Lib.hid e9
  have N1 : Hid (i + (l.length + 1 - i) ≤ maxLen) := Lib.hid (by rw [e9]; unfold maxLen; omega)
  have N2 : Hid ((i + (l.length + 1 - i)) * 24 ≤ 140737488355328) := Lib.hid (by rw [e9]; omega)
  have N3 : Hid (cap < i + (l.length + 1 - i)) := Lib.hid (by omega)
  clear e9
  go_enter Try.func32, Try.ntmps32
  go_wp2_with (at_builtin; refine wpList_append_zeros _ rfl _ _ 72 3 rfl 82 i0 (.agg #[.int .i64 0, Value.string ByteArray.empty]) .i64 .i64 2 24 Try.underlying72 Try.underlying3 HI.out HZ0.out HZ1.out HZ2.out rfl (by omega) _ _ _ _ own rfl HT.out (l.length + 1 - i) rfl hmz N3.out N1.out N2.out ?_; intro v' w' hS' hK'; have SA0 := Lib.hid hS'; have KA := Lib.hid hK'; clear hS' hK')
  have hS' := SA0.out
  rw [E9.out] at hS'
  obtain ⟨g2, off2, cap2, ho2, rfl, hc2, hm2, -, -⟩ := hS'.some (by omega)
  unfold maxLen at hm2
  have SA := Lib.hid hS'
  have n2a : ¬ cap2 = i := by omega
  have n2b : ¬ cap2 = i + 1 := by omega
  have HV2 := Lib.hid (HV.out.kept KA.out)
  clear hS' SA0
  go_simp
  go_wp2_with (refine wpList_copy_sl (dp := some ⟨g2, off2 + i * 2, none⟩) (dLen := l.length + 1 - i) (dCap := cap2 - i) (x := .slice (some ⟨gv, 0, none⟩) 1 1) _ rfl _ _ 72 72 rfl 82 i0 Try.underlying72 HI.out 2 HZ1.out (by exact rfl) (by exact rfl) 1 (enc y) HV2.out rfl (fun u hu => HX.out u (List.mem_of_mem_take hu)) _ (l.length + 1) _ _ _ SA.out i (by omega) (fun _ => ⟨g2, off2, rfl, rfl⟩) ?_; intro w2 hS2 hK2; have SB := Lib.hid hS2; have KB := Lib.hid hK2; clear hS2 hK2)
  go_simp
  refine region_mix (fun w' => ∃ n, w' = w2.drewN n) [] [0, 1, 2, 3, 4, 5, 6, 7] [8] (by kernel_rfl) (by kernel_rfl) (fun _ _ d _ _ h => by cases d <;> exact h) ⟨1, rfl⟩ ?_
  simp only [pick, List.filterMap_cons, List.filterMap_nil, List.getElem?_toArray, List.getElem?_cons_zero, List.getElem?_cons_succ, floatPut, Act.put, Act.eval, List.setIfInBounds_toArray, List.set_cons_zero, List.set_cons_succ, Array.getD_eq_getD_getElem?, Option.getD_some]
  repeat (change wpQuiet _ _ _ _ (List.cons _ _) _; go_big_quiet_step (fail))
  refine wpQuiet_nil ?_
  rintro _ ⟨nr, rfl⟩
  have KB' := Lib.hid (KA.out.trans KB.out (G := fun k => some w.heap.size = some k) (fun k hk => .inr (Nat.le_of_eq (Option.some.inj hk))))
  have glt : g < w.heap.size := H.out.lt ho
  have gne : Hid (¬ some w.heap.size = some g) := Lib.hid (fun e => by have := Option.some.inj e; omega)
  have HS := Lib.hid ((HSR.out.keptF KA.out (fun h => h)).keptF KB.out gne.out)
  have SC := Lib.hid (SB.out.drewN nr)
  have HS' : Hid (Src (w2.drewN nr) (.slice (some ⟨g, off + i * 2, none⟩) (l.length - i) (cap - i)) (l.length - i) (cellsL enc (l.drop i))) := Lib.hid HS.out
  have HL := cellsL_len enc_len (l.drop i)
  rw [List.length_drop] at HL
  have HL' := Lib.hid HL
  clear HL HS HD KA KB glt
  refine wpList_copy_sl (dp := some ⟨g2, off2 + (i + 1) * 2, none⟩) (dLen := l.length - i) (dCap := cap2 - (i + 1)) (x := .slice (some ⟨g, off + i * 2, none⟩) (l.length - i) (cap - i)) _ rfl _ _ 72 72 rfl 82 i0 Try.underlying72 HI.out 2 HZ1.out (by exact rfl) (by exact rfl) (l.length - i) (cellsL enc (l.drop i)) HS'.out HL'.out (fun u hu => enc_one _ u (List.mem_of_mem_take hu)) _ (l.length + 1) _ _ _ SC.out (i + 1) (by omega) (fun _ => ⟨g2, off2, rfl, rfl⟩) ?_
  intro w3 hS3 hK3; have SD := Lib.hid hS3; have KD := Lib.hid hK3; clear hS3 hK3
  go_wp2_with fail
  go_ret
  refine ⟨_, _, rfl, ?_, .inr ⟨_, rfl, Nat.le_refl _⟩, ((KB'.out.drewN nr).trans KD.out (G := fun k => some w.heap.size = some k) (fun k hk => .inr (Nat.le_of_eq (Option.some.inj hk)))).mono (fun _ _ h => h.elim)⟩
  rw [ins_len (Nat.le_of_lt hi)]
  have := SD.out
  rw [ins_cells l y i (Nat.le_of_lt hi) _ (by rw [size_zeroCells']; rfl)] at this
  exact this

theorem ins_gen2 {α : Type} (A E : List α) {a b c t : Nat} (hab : a ≤ b) (hb : b ≤ A.length) (ht : A.length ≤ t) :
    (A.take b ++ (A.drop a).take c ++ A.drop t).take a ++ E ++ (A.take b ++ (A.drop a).take c ++ A.drop t).drop b = A.take a ++ E ++ (A.drop a).take c := by
  rw [List.drop_eq_nil_of_le ht, List.append_nil, drop_app (by rw [List.length_take]; omega), List.take_append_of_le_length (by rw [List.length_take]; omega), List.take_take, Nat.min_eq_left hab]

theorem ins_cells2 (l : List (Int × ByteArray)) (y : Int × ByteArray) (i : Nat) (hi : i ≤ l.length) (J : List Value) (hJ : J.length = (l.length + 1 - l.length) * 2) :
    (((cellsL enc l ++ J).take ((i + 1) * 2) ++ ((cellsL enc l ++ J).drop (i * 2)).take (min (l.length + 1 - i) (l.length - i) * 2) ++ (cellsL enc l ++ J).drop ((i + 1 + min (l.length + 1 - i) (l.length - i)) * 2)).take (i * 2) ++
      (enc y).take (min 1 (l.length + 1 - i) * 2) ++
      ((cellsL enc l ++ J).take ((i + 1) * 2) ++ ((cellsL enc l ++ J).drop (i * 2)).take (min (l.length + 1 - i) (l.length - i) * 2) ++ (cellsL enc l ++ J).drop ((i + 1 + min (l.length + 1 - i) (l.length - i)) * 2)).drop ((i + min 1 (l.length + 1 - i)) * 2)) = cellsL enc (l.take i ++ y :: l.drop i) := by
  have hL := cellsL_len enc_len l
  have hA : (cellsL enc l ++ J).length = (l.length + 1) * 2 := by rw [List.length_append, hL, hJ]; omega
  have hD : (cellsL enc (l.drop i)).length = (l.length - i) * 2 := by rw [cellsL_len enc_len, List.length_drop]
  rw [show min 1 (l.length + 1 - i) = 1 from by omega, show min (l.length + 1 - i) (l.length - i) = l.length - i from by omega, show (enc y).take (1 * 2) = enc y from rfl, ins_gen2 _ _ (by omega) (by omega) (by omega),
    List.take_append_of_le_length (by rw [hL]; omega), List.drop_append_of_le_length (by rw [hL]; omega), cellsL_drop enc_len, take_app hD, cellsL_append, cellsL_cons, cellsL_take enc_len, List.append_assoc]

theorem overlaps_no (w : World) (gv g off n cap : Nat) (xs : List Value) (y : Int × ByteArray) (t : TypeId) (hb : Blk w gv (enc y) t) (h : Sl w (.slice (some ⟨g, off, none⟩) n cap) 82 2 n xs (some g)) (hc : 0 < cap) (hne : gv ≠ g) (o la ca lb cb : Nat) :
    (callFunc 42 #[.slice (some ⟨gv, 0, none⟩) la ca, .slice (some ⟨g, o, none⟩) lb cb]).run Try.prog w = .ok (.value (.bool false)) w := by
  rcases h.2 with ⟨hv, -, -⟩ | ⟨g', off', cap', cur, ho, hv, hbb, h1, h2, h3, h4⟩
  · cases hv
  · cases hv
    cases ho
    rw [run_callFunc_extern Try.func42 (by kernel_rfl) (by kernel_rfl) (by kernel_rfl) (e := Extern.SlicesOverlaps.overlaps #[72, 72] #[4]) (by kernel_rfl),
      Lib.run_overlaps_apart w _ _ _ Try.underlying72 2 sizeE ⟨gv, 0, none⟩ ⟨g, o, none⟩ la ca lb cb hne t 82 2 cur.size
        (by unfold World.shape?; rw [hb]; rfl) (by unfold World.shape?; rw [hbb]) (by omega) (by unfold World.frozen?; rw [hb]; rfl) (by unfold World.frozen?; rw [hb]; rfl)]
    rfl

set_option maxHeartbeats 2000000 in
set_option maxRecDepth 100000 in
theorem insert_in (w : World) (v0 : Value) (l : List (Int × ByteArray)) (own : Option Nat) (i : Nat) (y : Int × ByteArray) (gv : Nat) (a : Option Addr) (cap : Nat) (hv0 : v0 = .slice a l.length cap) (h : Sl w v0 82 2 l.length (cellsL enc l) own) (hl : l.length ≤ 200)
    (hi : i < l.length) (hcap : l.length + 1 ≤ cap) (hv : Src w (.slice (some ⟨gv, 0, none⟩) 1 1) 1 (enc y)) (t : TypeId) (hvb : Blk w gv (enc y) t) (hvo : own ≠ some gv) :
    Calls Try.prog 32 #[v0, .int .i64 i, .slice (some ⟨gv, 0, none⟩) 1 1] w (InsPost w (l.take i ++ y :: l.drop i) own) := by
  obtain ⟨i0, hi, hz0, hz1, hz2⟩ := info_parts infoE
  have HI := Lib.hid hi
  have HZ0 := Lib.hid hz0
  have HZ1 := Lib.hid hz1
  have HZ2 := Lib.hid hz2
  clear hi hz0 hz1 hz2
  have HV := Lib.hid hv
  have H := Lib.hid h
  have HX : Hid (∀ u ∈ enc y, u.oneCell' = true) := Lib.hid (by intro u hu; have := enc_one [y] u (by simpa [cellsL] using hu); exact this)
  clear h hv
  obtain ⟨g, off, cap', ho, hv1, hc, hm, -, -⟩ := H.out.some (by omega)
  rw [hv0] at hv1
  cases hv1
  subst hv0
  subst ho
  unfold maxLen at hm
  have hne : ((i : Int) == (l.length : Int)) = false := by simp; omega
  have n1 : ¬ cap = i := by omega
  have n2 : ¬ cap = i + 1 := by omega
  have gne : gv ≠ g := fun e => hvo (by rw [e])
  have GNE : Hid (¬ (some g = some gv)) := Lib.hid (fun e => gne (Option.some.inj e).symm)
  obtain ⟨J, hJ, hE⟩ := H.out.extend (k := l.length + 1) (by omega) hcap
  have HJ := Lib.hid hJ
  have HE := Lib.hid hE
  have HSR : Hid (Src w (.slice (some ⟨g, off + i * 2, none⟩) (l.length + 1 - i) (cap - i)) (l.length + 1 - i) ((cellsL enc l ++ J).drop (i * 2))) := Lib.hid (by
    have := (hE.drop (k := i) (by omega)).src
    rw [if_neg n1, Option.map_some, Addr.add_lit] at this
    exact this)
  have hL := cellsL_len enc_len l
  have H1C : Hid (∀ u ∈ ((cellsL enc l ++ J).drop (i * 2)).take (min (l.length + 1 - i) (l.length - i) * 2), u.oneCell' = true) := Lib.hid (by
    rw [List.drop_append_of_le_length (by rw [hL]; omega), List.take_append_of_le_length (by rw [List.length_drop, hL]; omega), cellsL_drop enc_len]
    exact fun u hu => enc_one _ u (List.mem_of_mem_take hu))
  have HLD : Hid (((cellsL enc l ++ J).drop (i * 2)).length = (l.length + 1 - i) * 2) := Lib.hid (by rw [List.length_drop, List.length_append, cellsL_len enc_len, hJ]; omega)
  have hov := fun lb cb => overlaps_no w gv g off l.length cap _ y t hvb H.out (by omega) gne (off + (i + 1) * 2) 1 1 lb cb
  clear hvb hvo gne hJ hE hL
  go_enter Try.func32, Try.ntmps32
  go_wp2_with fail
  refine region_mix (fun w' => ∃ n, w' = w.drewN n) [] [0, 1, 2, 3, 4, 5, 6, 7] [8] (by kernel_rfl) (by kernel_rfl) (fun _ _ d _ _ h => by cases d <;> exact h) ⟨1, rfl⟩ ?_
  simp only [pick, List.filterMap_cons, List.filterMap_nil, List.getElem?_toArray, List.getElem?_cons_zero, List.getElem?_cons_succ, floatPut, Act.put, Act.eval, List.setIfInBounds_toArray, List.set_cons_zero, List.set_cons_succ, Array.getD_eq_getD_getElem?, Option.getD_some]
  repeat (change wpQuiet _ _ _ _ (List.cons _ _) _; go_big_quiet_step (fail))
  refine wpQuiet_nil ?_
  rintro _ ⟨nr, rfl⟩
  have HEw := Lib.hid (HE.out.drewN nr)
  have HSw : Hid (Src (w.drewN nr) (.slice (some ⟨g, off + i * 2, none⟩) (l.length + 1 - i) (cap - i)) (l.length + 1 - i) ((cellsL enc l ++ J).drop (i * 2))) := Lib.hid HSR.out
  have HVw : Hid (Src (w.drewN nr) (.slice (some ⟨gv, 0, none⟩) 1 1) 1 (enc y)) := Lib.hid HV.out
  refine wpList_copy_sl (dp := some ⟨g, off + (i + 1) * 2, none⟩) (dLen := l.length - i) (dCap := cap - (i + 1)) (x := .slice (some ⟨g, off + i * 2, none⟩) (l.length + 1 - i) (cap - i)) _ rfl _ _ 72 72 rfl 82 i0 Try.underlying72 HI.out 2 HZ1.out (by exact rfl) (by exact rfl) (l.length + 1 - i) _ HSw.out HLD.out H1C.out _ (l.length + 1) _ _ _ HEw.out (i + 1) (by omega) (fun _ => ⟨g, off, rfl, rfl⟩) ?_
  intro w2 hS2 hK2
  have SB := Lib.hid hS2
  have KB := Lib.hid hK2
  have HV2 := Lib.hid (HVw.out.keptF KB.out GNE.out)
  clear hS2 hK2
  go_wp2_with (refine wpList_copy_sl (dp := some ⟨g, off + i * 2, none⟩) (dLen := l.length + 1 - i) (dCap := cap - i) (x := .slice (some ⟨gv, 0, none⟩) 1 1) _ rfl _ _ 72 72 rfl 82 i0 Try.underlying72 HI.out 2 HZ1.out (by exact rfl) (by exact rfl) 1 (enc y) HV2.out rfl (fun u hu => HX.out u (List.mem_of_mem_take hu)) _ (l.length + 1) _ _ _ SB.out i (by omega) (fun _ => ⟨g, off, rfl, rfl⟩) ?_; intro w3 hS3 hK3; have SD := Lib.hid hS3; have KD := Lib.hid hK3; clear hS3 hK3)
  go_ret
  refine ⟨_, _, rfl, ?_, .inl rfl, (((Kept.refl _ w).drewN nr).trans KB.out (fun _ h => .inl h)).trans KD.out (fun _ h => .inl h)⟩
  rw [ins_len (Nat.le_of_lt hi)]
  have := SD.out
  rw [ins_cells2 l y i (Nat.le_of_lt hi) J HJ.out] at this
  exact this

theorem src_of_blk {w : World} {gv : Nat} {y : Int × ByteArray} {t : TypeId} (hb : Blk w gv (enc y) t) : Src w (.slice (some ⟨gv, 0, none⟩) 1 1) 1 (enc y) := by
  refine .inr ⟨_, 1, rfl, fun j u hu => ?_⟩
  rw [Addr.add_lit, Nat.zero_add]
  unfold World.cell?
  rw [hb]
  simpa using hu

/-- slices.Insert of one thing. -/
theorem insert_calls (w : World) (v0 : Value) (l : List (Int × ByteArray)) (own : Option Nat) (i : Nat) (y : Int × ByteArray) (gv : Nat) (h : Sl w v0 82 2 l.length (cellsL enc l) own) (hl : l.length ≤ 200)
    (hi : i ≤ l.length) (t : TypeId) (hvb : Blk w gv (enc y) t) (hvo : own ≠ some gv) :
    Calls Try.prog 32 #[v0, .int .i64 i, .slice (some ⟨gv, 0, none⟩) 1 1] w (InsPost w (l.take i ++ y :: l.drop i) own) := by
  have hs := src_of_blk hvb
  obtain ⟨a, cap, hv, hc, hm⟩ := h.form
  rcases Nat.lt_or_ge i l.length with h1 | h1
  · rcases Nat.lt_or_ge cap (l.length + 1) with h2 | h2
    · exact insert_new w v0 l own i y gv a cap hv h hl h1 h2 hs
    · exact insert_in w v0 l own i y gv a cap hv h hl h1 h2 hs t hvb hvo
  · have e : i = l.length := by omega
    subst e
    rw [List.take_length, List.drop_length]
    exact insert_end w v0 l own y gv h hl hs
end Go.Proofs.Ytolgapcckbcmbaa.RingS
