/- Contracts of package jitter's functions: Step, New, Now, Add. -/
import Derived.Test.YtekdkckgmleofaaGreatXf01
import Derived.Test.YtekdkckgmleofaaGreatRows
set_option linter.unusedVariables false
set_option linter.unusedSimpArgs false
namespace Go.Proofs.YtekdkckgmleofaaGreat
open Go.RowKit

/-- One step, on numbers. -/
def stepJ (a b : Int) : Int := max 0 a + (max 0 b - max 0 a) / 16

theorem stepJ_nonneg (a b : Int) : 0 ≤ stepJ a b := by unfold stepJ; omega
theorem stepJ_le (a b : Int) (ha : a ≤ 9223372036854775807) (hb : b ≤ 9223372036854775807) : stepJ a b ≤ 9223372036854775807 := by unfold stepJ; omega

set_option maxHeartbeats 400000 in
theorem jstep_calls (a b : Int) (w : World) (ha : -9223372036854775808 ≤ a) (ha' : a ≤ 9223372036854775807) (hb : -9223372036854775808 ≤ b) (hb' : b ≤ 9223372036854775807) :
    Calls Tryz.prog 83 #[.int .i64 a, .int .i64 b] w fun e w' => e = .returned (.int .i64 (stepJ a b)) ∧ w' = w := by
  go_enter Tryz.func83, Tryz.ntmps83
  go_wp2
  all_goals go_ret
  all_goals exact ⟨ret_int (by unfold stepJ; omega), rfl⟩

theorem jnew_calls (w : World) :
    Calls Tryz.prog 41 #[] w fun e w' => e = .returned (.pointer (some ⟨w.heap.size, 0, none⟩)) ∧ w' = w.alloc (.cells #[.int .i64 0, .int .i64 0] 156) := by
  go_enter Tryz.func41, Tryz.ntmps41
  go_wp2
  go_ret
  exact ⟨rfl, rfl⟩

theorem now_nil (w : World) :
    Calls Tryz.prog 51 #[.pointer none] w fun e w' => e = .returned (.int .i64 0) ∧ w' = w := by
  go_enter Tryz.func51, Tryz.ntmps51
  go_wp2
  go_ret
  exact ⟨rfl, rfl⟩

theorem now_calls (w : World) (b : Nat) (n c : Int) (hb : Blk w b [.int .i64 n, .int .i64 c] 156) :
    Calls Tryz.prog 51 #[.pointer (some ⟨b, 0, none⟩)] w fun e w' => e = .returned (.int .i64 n) ∧ w' = w := by
  have h0 := hb.cell (i := 0) rfl
  clear hb
  go_enter Tryz.func51, Tryz.ntmps51
  go_wp2
  go_ret
  exact ⟨rfl, rfl⟩

/-- The deferred closure: one more was added. -/
theorem inc_deferred (w : World) (c b : Nat) (n : Int) (hn0 : 0 ≤ n) (hn : n < 9223372036854775807)
    (hc : w.cell? ⟨c, 0, none⟩ = some (.pointer (some ⟨b, 0, none⟩))) (h : w.cell? ⟨b, 1, none⟩ = some (.int .i64 n)) (hf : w.frozen? ⟨b, 1, none⟩ = false) (u : FrameMode) :
    CallsD Tryz.prog 82 #[.pointer (some ⟨c, 0, none⟩)] u w fun e u' w' => u' = u ∧ (e = .returned (.tuple #[]) ∧ w' = w.setCell ⟨b, 1, none⟩ (.int .i64 (n + 1))) := by
  go_enter_d Tryz.func82, Tryz.ntmps82
  go_wp2
  go_end0
  exact ⟨rfl, rfl⟩

theorem add_nil (w : World) (x : Int) :
    Calls Tryz.prog 49 #[.pointer none, .int .i64 x] w fun e w' => e = .returned (.int .i64 1) ∧ Kept (fun _ => False) w w' := by
  go_enter_defers Tryz.func49, Tryz.ntmps49
  go_wp2
  exact ⟨_, results_tmp rfl _ _ _, rfl, (Kept.refl _ _).alloc _⟩

set_option maxHeartbeats 400000 in
set_option maxRecDepth 100000 in
theorem add_calls (w : World) (b : Nat) (n c x : Int) (hx : -9223372036854775808 ≤ x) (hx' : x ≤ 9223372036854775807) (hn0 : 0 ≤ n) (hn : n ≤ 9223372036854775807) (hc0 : 0 ≤ c) (hc : c < 9223372036854775807)
    (hb : Blk w b [.int .i64 n, .int .i64 c] 156) :
    Calls Tryz.prog 49 #[.pointer (some ⟨b, 0, none⟩), .int .i64 x] w fun e w' => e = .returned (.int .i64 0) ∧
      Blk w' b [.int .i64 (stepJ n x), .int .i64 (c + 1)] 156 ∧ Kept (· = b) w w' := by
  have h0 := hb.cell (i := 0) rfl
  have h1 := hb.cell (i := 1) rfl
  have f0 := hb.free 0
  have f1 := hb.free 1
  have hlt := hb.lt
  have HB := Lib.hid hb
  clear hb
  have hmf : ∀ (fn : Fn) (first cap : Array Value) (w : World), (Instr.makeFunc fn first cap).run Tryz.prog w = .ok (.func fn first cap) w := fun _ _ _ _ => rfl
  go_enter_defers Tryz.func49, Tryz.ntmps49
  go_wp2
  refine region_tail 9 (by kernel_rfl) (by kernel_rfl) ?_
  simp only [List.take_succ_cons, List.take_zero, List.drop_succ_cons, List.drop_zero]
  repeat still_step
  still_call (jstep_calls n x _ (by omega) (by omega) hx hx')
  repeat still_step
  refine wpStill_nil ?_
  go_wp2
  have B1 : Blk ((w.setCell ⟨b, 0, none⟩ (.int .i64 (stepJ n x))).alloc (.cells [.pointer (some ⟨b, 0, none⟩)].toArray 109)).drew b [.int .i64 (stepJ n x), .int .i64 c] 156 := (HB.out.set 0 _).alloc _
  have K1 : Kept (· = b) w ((w.setCell ⟨b, 0, none⟩ (.int .i64 (stepJ n x))).alloc (.cells [.pointer (some ⟨b, 0, none⟩)].toArray 109)).drew :=
    (((Kept.refl (· = b) w).setCell (a := ⟨b, 0, none⟩) (.inl rfl) _).alloc _).drew
  refine leaves_cons (f := 82) (args := #[.pointer (some ⟨w.heap.size, 0, none⟩)]) (by simp) (by simp [go_sem]) ?_
  refine (inc_deferred _ w.heap.size b c hc0 hc ?_ (B1.cell (i := 1) rfl) (B1.free 1) .returning).mono ?_
  · exact (Blk.new_at (size_setCell _ _ _).symm [.pointer (some ⟨b, 0, none⟩)] 109).drew.cell (i := 0) rfl
  · rintro e u' w'' ⟨rfl, rfl, rfl⟩
    exact ⟨_, results_tmp rfl _ _ _, rfl, B1.set 1 _, K1.setCell (a := ⟨b, 1, none⟩) (.inl rfl) _⟩

end Go.Proofs.YtekdkckgmleofaaGreat
