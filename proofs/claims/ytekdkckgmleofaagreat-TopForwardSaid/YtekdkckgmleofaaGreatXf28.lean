/- Contracts of package window's functions at int64: New, drop, push, Add, first, Least, Greatest, Len. -/
import Derived.Test.YtekdkckgmleofaaGreatXf01
import Derived.Test.YtekdkckgmleofaaGreatXf05
import Derived.Test.YtekdkckgmleofaaGreatRows
set_option linter.unusedVariables false
set_option linter.unusedSimpArgs false
namespace Go.Proofs.YtekdkckgmleofaaGreat.Win64
open Go.RowKit

def enc (x : Int) : Value := Value.int .i64 x
def lt (a b : Int) : Bool := decide (a < b)


theorem infoE : (Tryz.prog.info? 2).map (fun i => (i.zero, i.size, i.bytes)) = some (some (Value.int .i64 0), 1, 8) := by kernel_rfl

set_option maxHeartbeats 400000 in
theorem drop_calls (w : World) (v : Value) (y : Int) (l : List Int) (x : Int) (own : Option Nat) (h : Sl w v 2 1 (l.length + 1) ((y :: l).map enc) own) :
    ∃ v', Sl w v' 2 1 (if y = x then l else y :: l).length ((if y = x then l else y :: l).map enc) own ∧
      ∀ n, Calls Tryz.prog 77 #[v, Value.int .i64 x] (w.drewN n) fun e w' => e = .returned v' ∧ w' = w.drewN n := by
  obtain ⟨g, off, cap, ho, rfl, hc, hm, hcell, hfr⟩ := h.some (by omega)
  have h0 : w.cell? ⟨g, off, none⟩ = some (Value.int .i64 y) := hcell 0 _ rfl
  unfold maxLen at hm
  have H := Lib.hid h
  have hc' : 1 ≤ cap := by omega
  have hl1 : l.length + 1 - 1 = l.length := rfl
  by_cases hyx : y = x
  · have hb : (y == x) = true := by simp [hyx]
    by_cases hcap : cap = 1
    · have hl0 : l.length = 0 := by omega
      obtain rfl : l = [] := List.eq_nil_of_length_eq_zero hl0
      subst hcap
      refine ⟨.slice (some ⟨g, off, none⟩) 0 0, ?_, fun n => ?_⟩
      · rw [if_pos hyx]
        have := H.out.drop (k := 1) (by omega)
        simpa using this
      · clear h hcell hfr hyx
        go_enter Tryz.func77, Tryz.ntmps77
        go_wp2
        go_ret
        exact ⟨rfl, rfl⟩
    · refine ⟨.slice (some ⟨g, off + 1, none⟩) l.length (cap - 1), ?_, fun n => ?_⟩
      · rw [if_pos hyx]
        have := H.out.drop (k := 1) (by omega)
        rw [if_neg hcap] at this
        simpa [Addr.add_lit] using this
      · clear h hcell hfr hyx
        go_enter Tryz.func77, Tryz.ntmps77
        go_wp2
        go_ret
        exact ⟨rfl, rfl⟩
  · have hb : (y == x) = false := by simp [hyx]
    refine ⟨.slice (some ⟨g, off, none⟩) (l.length + 1) cap, ?_, fun n => ?_⟩
    · rw [if_neg hyx]
      exact H.out
    · clear h hcell hfr hyx
      go_enter Tryz.func77, Tryz.ntmps77
      go_wp2
      go_ret
      exact ⟨rfl, rfl⟩

/-- What push leaves. -/
def PushPost (w : World) (l' : List Int) (own : Option Nat) (e : Ending) (w' : World) : Prop :=
  ∃ v' own', e = .returned v' ∧ Sl w' v' 2 1 l'.length (l'.map enc) own' ∧ (own' = own ∨ ∃ k, own' = some k ∧ w.heap.size ≤ k) ∧ Kept (fun k => own = some k) w w'

theorem snoc_of_take {l : List Int} {k : Nat} (h : k < l.length) : l.take (k + 1) = l.take k ++ [l[k]] := List.take_succ_eq_append_getElem h

theorem push_end {w w' : World} {o : Obj} {v' : Value} {own own' : Option Nat} {l : List Int} {x : Int} {nd : Int → Bool} {k : Nat} (hk : k ≤ l.length) (hp : popL nd l = l.take k)
    (hs : Sl w' v' 2 1 (k + 1) ((l.map enc).take (k * 1) ++ [Value.int .i64 x]) own') (ho : own' = own ∨ own' = some (w.alloc o).heap.size) (hk' : Kept (fun k => own = some k) (w.alloc o) w') :
    PushPost w (popL nd l ++ [x]) own (.returned v') w' := by
  refine ⟨v', own', rfl, ?_, ?_, ?_⟩
  · have e1 : (popL nd l ++ [x]).length = k + 1 := by rw [hp]; simp; omega
    have e2 : (popL nd l ++ [x]).map enc = (l.map enc).take (k * 1) ++ [Value.int .i64 x] := by rw [hp]; simp [List.map_take, enc]
    rw [e1, e2]; exact hs
  · rcases ho with ho | ho
    · exact .inl ho
    · exact .inr ⟨_, ho, by simp⟩
  · exact ((Kept.refl (fun k => own = some k) w).alloc o).trans hk' (fun _ h => .inl h)

set_option maxHeartbeats 1000000 in
theorem push_calls (w : World) (v : Value) (l : List Int) (x : Int) (own : Option Nat) (h : Sl w v 2 1 l.length (l.map enc) own) (hlen : l.length ≤ 1000) (F : FuncId) (nd : Int → Bool)
    (hE : ∀ (vs : Array Value) (w : World), (callFunc F vs).run Tryz.prog w = .ok (.enter F vs) w)
    (hF : ∀ (y : Int) (w : World), Calls Tryz.prog F #[Value.int .i64 y, Value.int .i64 x] w fun e w' => e = .returned (.bool (nd y)) ∧ w' = w) :
    Calls Tryz.prog 78 #[v, Value.int .i64 x, .func (.func F) #[] #[]] w (PushPost w (popL nd l ++ [x]) own) := by
  obtain ⟨a, cap, rfl, hc, hm⟩ := h.form
  unfold maxLen at hm
  have H := Lib.hid h
  have HF := Lib.hid hF
  clear h hF
  obtain ⟨i0, hi, hz0, hz1, hz2⟩ := info_parts infoE
  have HI := Lib.hid hi
  have HZ0 := Lib.hid hz0
  have HZ1 := Lib.hid hz1
  have HZ2 := Lib.hid hz2
  clear hi hz0 hz1 hz2
  go_enter Tryz.func78, Tryz.ntmps78
  go_wp2_with fail
  go_loopw [0] (fun s wr => ∃ k : Nat, k ≤ l.length ∧ s = .slice a k cap ∧ popL nd (l.take k) = popL nd l ∧ w = wr) (fun s _ => match s with | .slice _ k _ => k | _ => 0)
  case atStart => exact ⟨l.length, Nat.le_refl _, rfl, by rw [List.take_length], rfl⟩
  case round =>
    obtain ⟨k, hk, rfl, hp, rfl⟩ := hrel
    have HP := Lib.hid hp
    clear hp
    have HS := Lib.hid (H.out.take hk)
    have HX : Hid (∀ u ∈ [Value.int .i64 x], u.oneCell' = true) := Lib.hid (by simp [Value.oneCell'])
    have H1 : Hid (k + 1 ≤ maxLen) := Lib.hid (by unfold maxLen; omega)
    have H2 : Hid ((k + 1) * 8 ≤ 140737488355328) := Lib.hid (by omega)
    cases k with
    | zero =>
      go_wp2_with (at_builtin; refine wpList_append_sl _ rfl _ _ 147 rfl 2 i0 (Value.int .i64 0) 1 8 Tryz.underlying147 HI.out HZ0.out HZ1.out HZ2.out rfl _ 0 _ own rfl (HS.out.alloc _) _ 1 [Value.int .i64 x] rfl (Src.one _ _ _) rfl HX.out H1.out H2.out ?_; intro v' w' own' hS' ho' hK'; have HS' := Lib.hid hS'; have HO' := Lib.hid ho'; have HK' := Lib.hid hK'; clear hS' ho' hK')
      go_ret
      exact push_end hk (HP.out.symm) HS'.out HO'.out HK'.out
    | succ k =>
      have HT := Lib.hid (H.out.take hk)
      obtain ⟨g, off, cap', ho, hv, -, -, hcell, -⟩ := HT.out.some (by omega)
      cases hv
      have h0 : w.cell? ⟨g, off + k, none⟩ = some (Value.int .i64 l[k]) := hcell k _ (by simp; exact ⟨_, List.getElem?_eq_getElem (by omega), rfl⟩)
      clear hcell
      have hy := Lib.hid (HF.out l[k])
      have hsn := popL_snoc nd (l.take k) l[k]
      rw [← snoc_of_take (by omega)] at hsn
      cases hnd : nd l[k] with
      | true =>
        rw [hnd, if_pos rfl] at hsn
        have HQ := Lib.hid (hsn.symm.trans HP.out)
        clear hsn
        go_wp2_with fail
        refine (hy.out _).mono ?_
        rintro e w1 ⟨rfl, rfl⟩
        go_wp2_with fail
        exact ⟨⟨k, by omega, rfl, HQ.out, trivial⟩, by simp⟩
      | false =>
        rw [hnd, if_neg (by simp)] at hsn
        have HQ := Lib.hid (HP.out.symm.trans hsn)
        clear hsn
        go_wp2_with fail
        refine (hy.out _).mono ?_
        rintro e w1 ⟨rfl, rfl⟩
        go_wp2_with (at_builtin; refine wpList_append_sl _ rfl _ _ 147 rfl 2 i0 (Value.int .i64 0) 1 8 Tryz.underlying147 HI.out HZ0.out HZ1.out HZ2.out rfl _ (k + 1) _ own rfl (HS.out.alloc _) _ 1 [Value.int .i64 x] rfl (Src.one _ _ _) rfl HX.out H1.out H2.out ?_; intro v' w' own' hS' ho' hK'; have HS' := Lib.hid hS'; have HO' := Lib.hid ho'; have HK' := Lib.hid hK'; clear hS' ho' hK')
        go_ret
        exact push_end hk HQ.out HS'.out HO'.out HK'.out

theorem enter1 (vs : Array Value) (w : World) : (callFunc 79 vs).run Tryz.prog w = .ok (.enter 79 vs) w :=
  enters Tryz.func79 (by kernel_rfl) (by kernel_rfl) vs w
theorem enter2 (vs : Array Value) (w : World) : (callFunc 80 vs).run Tryz.prog w = .ok (.enter 80 vs) w :=
  enters Tryz.func80 (by kernel_rfl) (by kernel_rfl) vs w

theorem nd1_calls (x y : Int) (w : World) : Calls Tryz.prog 79 #[Value.int .i64 y, Value.int .i64 x] w fun e w' => e = .returned (.bool (lt x y)) ∧ w' = w := by
  cases h : lt x y <;> (unfold lt at h; go_enter Tryz.func79, Tryz.ntmps79; go_wp2; go_ret; exact ⟨ret_bool (by simp at h ⊢ <;> omega), rfl⟩)
theorem nd2_calls (x y : Int) (w : World) : Calls Tryz.prog 80 #[Value.int .i64 y, Value.int .i64 x] w fun e w' => e = .returned (.bool (lt y x)) ∧ w' = w := by
  unfold lt
  go_enter Tryz.func80, Tryz.ntmps80
  go_wp2
  go_ret
  exact ⟨rfl, rfl⟩
end Go.Proofs.YtekdkckgmleofaaGreat.Win64
