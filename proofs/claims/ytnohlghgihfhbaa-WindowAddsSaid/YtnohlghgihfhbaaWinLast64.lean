/- The contracts of (*Window[int64]).Last and slices.Clone. -/
import Derived.Test.YtnohlghgihfhbaaWinAdd64
import Derived.WalkSpells
namespace Go.Proofs.Ytnohlghgihfhbaa.Win64
open Go.RowKit

theorem last_nil (w : World) : Calls Try.prog 23 #[.pointer none] w fun e w' => e = .returned (.slice none 0 0) ∧ w' = w := by
  go_enter Try.func23, Try.ntmps23
  go_wp2
  go_ret
  exact ⟨rfl, rfl⟩

def ClonePost (w : World) (l : List Int) (e : Ending) (w' : World) : Prop :=
  ∃ g off cap, e = .returned (.slice (some ⟨g, off, none⟩) l.length cap) ∧ l.length ≤ cap ∧ cap ≤ maxLen ∧ (∀ j u, (l.map enc)[j]? = some u → w'.cell? ⟨g, off + j, none⟩ = some u) ∧ Kept (fun _ => False) w w'

set_option maxHeartbeats 1000000 in
theorem clone_calls (w : World) (v : Value) (l : List Int) (own : Option Nat) (h : Sl w v 2 1 l.length (l.map enc) own) (hl : 0 < l.length) (hl2 : l.length ≤ 1000) :
    Calls Try.prog 40 #[v] w (ClonePost w l) := by
  obtain ⟨g, off, cap, ho, rfl, hc, hm, hcell, hfr⟩ := h.some hl
  unfold maxLen at hm
  have H := Lib.hid h
  clear h hcell hfr
  obtain ⟨i0, hi, hz0, hz1, hz2⟩ := info_parts infoE
  have HI := Lib.hid hi
  have HZ0 := Lib.hid hz0
  have HZ1 := Lib.hid hz1
  have HZ2 := Lib.hid hz2
  clear hi hz0 hz1 hz2
  have N1 : Hid (0 + l.length ≤ maxLen) := Lib.hid (by unfold maxLen; omega)
  have N2 : Hid ((0 + l.length) * 8 ≤ 140737488355328) := Lib.hid (by omega)
  have HX : Hid (∀ u ∈ l.map enc, u.oneCell' = true) := Lib.hid (by intro u hu; obtain ⟨x, _, rfl⟩ := List.mem_map.1 hu; simp [enc, Value.oneCell'])
  have HLen : Hid ((l.map enc).length = l.length * 1) := Lib.hid (by simp)
  have heq : ∀ w : World, (binOp .eql 33 (.slice (some ⟨g, off, none⟩) l.length cap) (.slice none 0 0)).run Try.prog w = .ok (.bool false) w := fun w => Lib.run_eql_slice_nil w 33 2 _ _ _ _ _ Try.underlying33
  go_enter Try.func40, Try.ntmps40
  go_wp2_with (at_builtin; refine wpList_append_sl _ rfl _ _ 33 rfl 2 i0 (Value.int .i64 0) 1 8 Try.underlying33 HI.out HZ0.out HZ1.out HZ2.out rfl _ 0 [] (some w.heap.size) rfl (Sl.made w [] 2 1 0 rfl (Nat.zero_le _)) _ l.length (l.map enc) rfl (H.out.alloc _).src HLen.out HX.out N1.out N2.out ?_; intro v' w' own' hS' ho' hK'; have SA := Lib.hid hS'; have KA := Lib.hid hK'; clear hS' ho' hK')
  go_ret
  have SA' := SA.out
  rw [List.nil_append, Nat.zero_add] at SA'
  obtain ⟨g', off', cap', ho', rfl, hc', hm', hcell', -⟩ := SA'.some hl
  exact ⟨g', off', cap', rfl, hc', hm', hcell', (((Kept.refl (fun _ => False) w).alloc (.cells [].toArray 2)).trans KA.out (fun i hi => .inr (by have := Option.some.inj hi; omega)))⟩

set_option maxHeartbeats 1000000 in
theorem last_calls (w : World) (p : Nat) (fp : Nat → Prop) (most : Nat) (last : List Int) (h : Win w p fp most last) (hl : 0 < last.length) (hl2 : last.length ≤ 1000) :
    Calls Try.prog 23 #[.pointer (some ⟨p, 0, none⟩)] w (ClonePost w last) := by
  obtain ⟨v1, v2, v3, o1, o2, o3, hb, h1, h2, h3, hp, d1, d2, d3⟩ := h
  have hc := hb.cell (i := 1) rfl
  have H1 := Lib.hid h1
  clear hb h1 h2 h3 d1 d2 d3
  go_enter Try.func23, Try.ntmps23
  go_wp2_with fail
  refine (clone_calls _ _ last _ H1.out hl hl2).mono ?_
  rintro e w' ⟨g, off, cap, rfl, hc1, hc2, hcell, hk⟩
  have HC := Lib.hid hcell
  have HK := Lib.hid hk
  clear hcell hk
  go_wp2_with fail
  go_ret
  exact ⟨g, off, cap, rfl, hc1, hc2, HC.out, HK.out⟩

end Go.Proofs.Ytnohlghgihfhbaa.Win64
