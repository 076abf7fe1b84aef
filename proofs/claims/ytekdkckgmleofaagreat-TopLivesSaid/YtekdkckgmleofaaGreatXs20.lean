/- Contracts of package gram's parser for a datagram that tells one new entity by none: records. -/
import Derived.Test.YtekdkckgmleofaaGreatXs19
import Derived.Deep.RegionLaw
set_option linter.unusedVariables false
set_option linter.unusedSimpArgs false
namespace Go.Proofs.YtekdkckgmleofaaGreat
open Go.RowKit

theorem infoRec : (Tryz.prog.info? 175).map (fun i => (i.zero, i.size, i.bytes)) = some (some (.agg zrec.toArray), 9, 72) := by kernel_rfl
/-- A row of one thing. -/
def OneP (e : TypeId) (s : Nat) (xs : List Value) (v : Value) (lo : Nat) (w : World) : Prop := ∃ g, Sl w v e s 1 xs (some g) ∧ lo ≤ g
theorem OneP.kept {F : Nat → Prop} {e : TypeId} {s : Nat} {xs : List Value} {v : Value} {lo : Nat} {w w' : World} (h : OneP e s xs v lo w) (k : Kept F w w') (hF : ∀ g, lo ≤ g → ¬ F g) : OneP e s xs v lo w' := by
  obtain ⟨g, hS, hg⟩ := h
  exact ⟨g, hS.kept k (fun g' e => by cases e; exact hF g hg), hg⟩
def RecsPost (tick time : Int) (x : EntM) (q p g off cap : Nat) (bs : List Nat) (a lo : Nat) (w : World) (e : Ending) (w' : World) : Prop :=
  ∃ v, e = .returned (.tuple #[]) ∧ Rd w' p g off cap bs a ∧ Blk w' q (parC p tick time (-1) v) 213 ∧ OneP 175 9 (recC (putR x)) v lo w' ∧ Kept (fun i => i = p ∨ i = q) w w'
set_option maxRecDepth 100000 in
set_option maxHeartbeats 2000000 in
theorem records_calls (tick time : Int) (x : EntM) (hx : x.Ok) (w : World) (q p g off cap : Nat) (bs : List Nat) (a : Nat) (hq : Blk w q (parC p tick time (-1) (.slice none 0 0)) 213) (hqp : q ≠ p) (hqg : q ≠ g) (h : Rd w p g off cap bs a)
    (hg : g < w.heap.size) (ha : At bs a (putL 1 ++ recL x (-1))) :
    Calls Tryz.prog 112 #[.pointer (some ⟨q, 0, none⟩)] w (RecsPost tick time x q p g off cap bs (a + (putL 1 ++ recL x (-1)).length) w.heap.size w) := by
  have A0 := ha.left.put
  have A1 := ha.right
  rw [putL_len] at A1
  have i0 := hx.id0
  have H1 : Hid (∀ W, Rd W p g off cap bs a → Calls Tryz.prog 148 #[.pointer (some ⟨p, 0, none⟩), .int .u64 128] W fun e w' => e = .returned (.int .u64 1) ∧ Rd w' p g off cap bs (a + sizeM 1) ∧ Kept (· = p) W w') := Lib.hid (fun W h => uint_calls 1 128 W p g off cap bs a h (by omega) (by omega) A0)
  have H2 := Lib.hid (fun W (h : Rd W p g off cap bs (a + sizeM 1)) hg => readRec_calls x hx (-1) W p g off cap bs (a + sizeM 1) h hg (by omega) (by omega) A1)
  have HE : Hid (a + (putL 1 ++ recL x (-1)).length = a + sizeM 1 + (recL x (-1)).length) := Lib.hid (by
    rw [List.length_append, putL_len]; omega)
  rw [HE.out]
  unfold ReadRecPost at H2
  generalize a + sizeM 1 + (recL x (-1)).length = a2 at *
  generalize a + sizeM 1 = a1 at *
  have q0 := hq.cell (i := 0) rfl
  have HQ := Lib.hid hq
  have HH := Lib.hid h
  have hql := hq.lt
  clear h hq ha A0 A1 HE
  go_enter Tryz.func112, Tryz.ntmps112
  go_wp2_with fail
  refine (H1.out _ HH.out).mono ?_
  rintro e w1 ⟨rfl, hr1, hk1⟩
  have HB1 := Lib.hid (hk1.blk HQ.out hqp)
  have HR1 := Lib.hid hr1
  have HK1 := Lib.hid hk1
  have hg1 : g < w1.heap.size := Nat.lt_of_lt_of_le hg hk1.size
  clear hr1 hk1 q0
  go_wp2_with fail
  go_loopw [2, 10] (fun l i wr => ∃ (k : Nat) (z : Int), i = .int .u64 k ∧ l = .int .i64 z ∧ (k = 0 ∧ z = -1 ∧ wr = w1 ∨ k = 1 ∧ RecsPost tick time x q p g off cap bs a2 w.heap.size w (.returned (.tuple #[])) wr)) (fun _ i _ => (1 - intOf i).toNat)
  case atStart => exact ⟨0, -1, rfl, rfl, .inl ⟨rfl, rfl, rfl⟩⟩
  case round =>
    obtain ⟨k, z, rfl, rfl, hk⟩ := hrel
    rcases hk with ⟨rfl, rfl, rfl⟩ | ⟨rfl, hP⟩
    · have q0 := HB1.out.cell (i := 0) rfl
      go_wp2_with fail
      refine (H2.out _ HR1.out hg1).mono ?_
      rintro e w2 ⟨rfl, hr2, hk2⟩
      have B2 := hk2.blk HB1.out hqp
      have HR2 := Lib.hid hr2
      have HB2 := Lib.hid B2
      have HK2 := Lib.hid (HK1.out.trans hk2 (fun _ h => .inl h))
      clear hr2 hk2 B2 q0
      go_wp2_with fail
      have hz2 : q < w2.heap.size := HB2.out.lt
      refine at_world (fun W => Blk W q (parC p tick time (-1) (.slice none 0 0)) 213 ∧ Blk W w2.heap.size (recC (putR x)) 175 ∧ Rd W p g off cap bs a2 ∧ Kept (· = p) w W) ⟨HB2.out.alloc _, Blk.new w2 _ _, HR2.out.kept ((Kept.refl (fun _ => False) w2).alloc _) (fun h => h) (fun h => h), HK2.out.alloc _⟩ ?_
      rintro W ⟨BQ, BM, hR, hK⟩
      have HBQ := Lib.hid BQ
      have HBM := Lib.hid BM
      have HR := Lib.hid hR
      have HK := Lib.hid hK
      have q4 := BQ.cell (i := 4) rfl
      have hqW := BQ.lt
      have hmW := BM.lt
      have m0 := BM.cell (i := 0) rfl
      have m1 := BM.cell (i := 1) rfl
      have m2 := BM.cell (i := 2) rfl
      have m3 := BM.cell (i := 3) rfl
      have m4 := BM.cell (i := 4) rfl
      have m5 := BM.cell (i := 5) rfl
      have m6 := BM.cell (i := 6) rfl
      have m7 := BM.cell (i := 7) rfl
      have m8 := BM.cell (i := 8) rfl
      have nq : q ≠ W.heap.size := by omega
      have nm : w2.heap.size ≠ W.heap.size := by omega
      clear BQ BM hR hK
      obtain ⟨j0, hi, hz0, hz1, hz2⟩ := info_parts infoRec
      have HI := Lib.hid hi
      have HZ0 := Lib.hid hz0
      have HZ1 := Lib.hid hz1
      have HZ2 := Lib.hid hz2
      have HSR : Hid (∀ W : World, Src (W.alloc (.cells #[.int .i64 0, .int .i64 x.id, .int .i64 x.p0, .int .i64 x.p1, .int .i64 x.p2, .int .i64 x.v0, .int .i64 x.v1, .int .i64 x.v2, .int .u16 x.ang] 175)) (.slice (some ⟨W.heap.size, 0, none⟩) 1 1) 1 (recC (putR x))) := Lib.hid (fun W => (Sl.made W (recC (putR x)) 175 9 1 rfl (by decide)).src)
      have HO : Hid (∀ u ∈ recC (putR x), u.oneCell' = true) := Lib.hid (by simp [Value.oneCell'])
      have N1 : Hid (0 + 1 ≤ maxLen) := Lib.hid (by decide)
      have N2 : Hid ((0 + 1) * 72 ≤ 140737488355328) := Lib.hid (by decide)
      clear hi hz0 hz1 hz2
      go_region_law ((refine step_append_sl _ (by rfl) _ _ _ (by rfl) 175 j0 (.agg zrec.toArray) 9 72 Tryz.underlying76 HI.out HZ0.out HZ1.out HZ2.out rfl (.slice none 0 0) 0 [] none (by rfl) (Sl.nil _ _ _) _ 1 (recC (putR x)) (by rfl) (by exact HSR.out _) rfl HO.out N1.out N2.out ?_; intro v3 w3 o3 hS3 ho3 hk3; have hS3' := hS3; rw [show 0 + 1 = 1 from rfl] at hS3'; obtain ⟨a3, cap3, rfl, -, -⟩ := hS3'.form; have c4 := (hk3.blk (HBQ.out.drew.alloc _) (fun e => by cases e)).cell (i := 4) rfl; have f4 := (hk3.blk (HBQ.out.drew.alloc _) (fun e => by cases e)).free 4; have c1 := (hk3.blk (HBM.out.drew.alloc _) (fun e => by cases e)).cell (i := 1) rfl))
      all_goals
        have HP : Hid (RecsPost tick time x q p g off cap bs a2 w.heap.size w (.returned (.tuple #[])) (w3.setCell ⟨q, 4, none⟩ (.slice a3 (0 + 1) cap3))) := Lib.hid (by
          have kA := ((Kept.refl (fun k => none = some k) W).drew.alloc (.cells #[.int .i64 0, .int .i64 x.id, .int .i64 x.p0, .int .i64 x.p1, .int .i64 x.p2, .int .i64 x.v0, .int .i64 x.v1, .int .i64 x.v2, .int .u16 x.ang] 175)).trans hk3 (fun _ h => .inl h)
          have KS := (Kept.refl (· = q) w3).setCell (a := ⟨q, 4, none⟩) (.inl rfl) (.slice a3 (0 + 1) cap3)
          have zW := HK.out.size
          refine ⟨_, rfl, (HR.out.kept kA (fun h => by cases h) (fun h => by cases h)).kept KS (fun e => hqp e.symm) (fun e => hqg e.symm), (kA.blk HBQ.out (fun h => by cases h)).set 4 (.slice a3 (0 + 1) cap3), ?_, ((HK.out.mono (G := fun i => i = p ∨ i = q) (fun _ _ h => .inl h)).trans kA (fun _ h => by cases h)).trans KS (fun _ h => .inl (.inr h))⟩
          rcases ho3 with e | e
          · subst e
            rcases hS3.2 with ⟨hh, _⟩ | ⟨_, _, _, _, hh, _⟩
            · cases hh
            · cases hh
          · subst e
            refine ⟨_, hS3.setCell (fun g' e' => ?_) _, by simp; omega⟩
            have := Option.some.inj e'
            simp at this
            show g' ≠ q
            omega)
        clear hS3 hS3' ho3 hk3 c4 f4 c1 q4 m0 m1 m2 m3 m4 m5 m6 m7 m8
        go_wp2_with fail
        exact ⟨⟨1, _, by simp, rfl, .inr ⟨rfl, HP.out⟩⟩, by simp [intOf]⟩
    · have HP := Lib.hid hP
      clear hP
      go_wp2_with fail
      go_end0
      exact HP.out
end Go.Proofs.YtekdkckgmleofaaGreat
