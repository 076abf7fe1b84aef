/- Contracts of delta.byId, and record.Apply joined. -/
import Derived.Test.YtekdkckgmleofaaGreatXf26
import Derived.Test.YtekdkckgmleofaaGreatXf43
import Derived.Test.YtekdkckgmleofaaGreatXf27
set_option linter.unusedVariables false
set_option linter.unusedSimpArgs false
namespace Go.Proofs.YtekdkckgmleofaaGreat
open Go.RowKit Go.MapKept Go.ChangeMaps
theorem eapply_any (x : EntM) (hx : x.Ok) (r : RecM) (hr : RecIn r) (hc : RCk r 0) (hid : x.id = r.id) (hk : r.kind = 1 ∨ r.kind = 3) (w : World) :
    Calls Tryz.prog 118 #[entV x, recV r] w (EApPost x.id w) := by
  obtain ⟨k, xid, p0, p1, p2, s0, s1, s2, ang⟩ := r
  dsimp only at hk hid
  rcases hk with rfl | rfl
  · exact eapply1 x hx xid p0 p1 p2 s0 s1 s2 ang hr hc hid w
  · exact eapply3 x hx xid p0 p1 p2 s0 s1 s2 ang hr hc hid w
def ByPost (xs : List EntM) (w : World) (e : Ending) (w' : World) : Prop :=
  ∃ (b : Nat) (ys : List EntM), e = .returned (.map (some b)) ∧ MapE w' b ys ∧ (∀ y ∈ ys, y ∈ xs) ∧ ys.length ≤ xs.length ∧ w.heap.size ≤ b ∧ Kept (fun _ => False) w w'
theorem mapE_new (w : World) : MapE (w.alloc (.map #[] 0)) w.heap.size [] := ⟨#[], 0, heap_alloc_new w (.map #[] 0), stamped_empty 0, rfl⟩
set_option maxRecDepth 100000 in
set_option maxHeartbeats 2000000 in
theorem byId_calls (xs : List EntM) (w : World) (v : Value) (own : Option Nat) (hv : Sl w v 39 9 xs.length (cellsL entC xs) own) (hl : (xs.length : Int) ≤ 100000) :
    Calls Tryz.prog 117 #[v] w (ByPost xs w) := by
  obtain ⟨a, cap, rfl, -, hcm⟩ := hv.form
  have hmm := @run_makeMap Tryz.prog
  have HV := Lib.hid hv
  clear hv
  go_enter Tryz.func117, Tryz.ntmps117
  go_wp2_with fail
  go_loopw [9] (fun i wr => ∃ (k : Nat) (ys : List EntM), k ≤ xs.length ∧ i = .int .i64 k ∧ MapE wr w.heap.size ys ∧ (∀ y ∈ ys, y ∈ xs) ∧ ys.length ≤ k ∧ Kept (fun _ => False) w wr) (fun i _ => (xs.length - intOf i).toNat)
  case atStart => exact ⟨0, [], by omega, rfl, mapE_new w, by simp, by simp, (Kept.refl _ w).alloc _⟩
  case round =>
    obtain ⟨k, ys, hk, rfl, hM, hy, hyl, hK⟩ := hrel
    have HM := Lib.hid hM
    have HK := Lib.hid hK
    have HY := Lib.hid (And.intro hy hyl)
    have hml : w.heap.size < wr.heap.size := by obtain ⟨es, cl, h, -⟩ := hM; exact (Array.getElem?_eq_some_iff.1 h).1
    clear hM hK hy hyl
    by_cases hlt : k < xs.length
    · obtain ⟨x, hxk⟩ : ∃ x, xs[k]? = some x := ⟨_, List.getElem?_eq_getElem hlt⟩
      obtain ⟨g, off, cap', ho, hvv, -, -, hc, -⟩ := HV.out.some (by omega)
      cases hvv
      obtain ⟨c0, c1, c2, c3, c4, c5, c6, c7, c8⟩ := ent_at (w := wr) (fun j u hu => HK.out.cell (hc j u hu) (fun h => h)) hxk
      have HX := Lib.hid (List.mem_of_getElem? hxk)
      clear hc hxk
      obtain ⟨W2, hup, hUP⟩ := update_any (HM.out.kept ((Kept.refl (fun _ => False) wr).alloc (.cells #[.int .i64 x.id, .int .i64 x.p0, .int .i64 x.p1, .int .i64 x.p2, .int .i64 x.v0, .int .i64 x.v1, .int .i64 x.v2, .int .u16 x.ang, .int .u8 x.gen] 39)) (fun h => h)) x
      have HU := Lib.hid hup
      have HUP := Lib.hid hUP
      clear hup hUP
      go_wp2_with (at_mapUpdate; refine wpList_mapUpdate_run rfl _ _ _ _ rfl _ _ _ _ rfl rfl rfl HU.out ?_; intro d)
      obtain ⟨ys', hM', hK', hy', hl'⟩ := HUP.out
      refine ⟨⟨k + 1, ys', by omega, by simp, hM', fun y h => ?_, by have := HY.out.2; omega, (HK.out.alloc _).trans hK' (fun i hi => .inr (by omega))⟩, by simp [intOf]; omega⟩
      rcases hy' y h with h | h
      · exact HY.out.1 y h
      · rw [h]; exact HX.out
    · go_wp2_with fail
      go_ret
      exact ⟨w.heap.size, ys, rfl, HM.out, HY.out.1, by have := HY.out.2; omega, Nat.le_refl _, HK.out⟩
end Go.Proofs.YtekdkckgmleofaaGreat
