/- A map that holds just the things of a row by rising numbers. -/
import Derived.Test.YtolgapcckbcmbaaRingGrP
import Derived.Test.YtolgapcckbcmbaaBase
import Derived.Test.YtolgapcckbcmbaaProg
import Derived.Maps.OwnSet
import Derived.WalkKit
namespace Go.Proofs.Ytolgapcckbcmbaa
open Go.RowKit Go.Maps

abbrev kI (x : Int) : Lit := .int .i64 x
abbrev dI (x : Int) : DataW Unit := .lit (.int .i64 x)
theorem kI_ne {a b : Int} (h : a ≠ b) : kI a ≠ kI b := fun e => by injection e; contradiction
theorem lawK : Keyed Try.prog 2 := int_keyed Try.underlying2
theorem zeroV (w : World) : (zeroValue 3).run Try.prog w = .ok (.int .i64 0) w := by kernel_rfl
theorem kI_key (x : Int) : WideAt.IsKeyLit (kI x) := by simp [WideAt.IsKeyLit]

/-- D holds just l. -/
def Same (D : DataW Unit) (l : List (Int × Int)) : Prop := Tidy D ∧ size D = l.length ∧ (∀ y ∈ l, has D (kI y.1) = true ∧ D.atKey (kI y.1) (dI 0) = dI y.2) ∧ ∀ x, (∀ y ∈ l, y.1 ≠ x) → has D (kI x) = false
theorem Same.nil : Same (.map []) [] := ⟨tidy_empty, rfl, (fun y h => by cases h), fun _ _ => rfl⟩
theorem Same.put {D : DataW Unit} {l : List (Int × Int)} {k v : Int} (h : Same D l) (hs : Srt l) (ht : there l k = false) : Same (D.put (kI k) (dI v)) (insAt l k v) := by
  obtain ⟨h1, h2, h3, h4⟩ := h
  have hn := there_false hs ht
  refine ⟨h1.put (kI_key k) _, ?_, fun y hy => ?_, fun x hx => ?_⟩
  · rw [size_put h1, if_neg (by rw [h4 k hn]; simp), h2, insAt_len]
  · rcases insAt_cases hy with h | h
    · have := kI_ne (hn y h)
      rw [has_put_other this, atKey_put_other this]
      exact h3 y h
    · subst h
      exact ⟨has_put_same h1.isMap (kI_key _) _, atKey_put_same h1.isMap (kI_key _) _ _⟩
  · have hk : x ≠ k := fun e => hx _ insAt_in e.symm
    rw [has_put_other (kI_ne hk)]
    exact h4 x (fun y hy => hx y (insAt_old hy))
theorem Same.del {D : DataW Unit} {y : Int × Int} {t : List (Int × Int)} (h : Same D (y :: t)) (hs : Srt (y :: t)) : Same (D.del (kI y.1)) t := by
  obtain ⟨h1, h2, h3, h4⟩ := h
  have hlt := (List.pairwise_cons.1 hs).1
  refine ⟨h1.del _, ?_, fun z hz => ?_, fun x hx => ?_⟩
  · have := size_del (k := kI y.1) h1
    rw [(h3 y (List.mem_cons_self ..)).1, if_pos rfl, h2, List.length_cons] at this
    omega
  · have := hlt z hz
    have hne := kI_ne (a := z.1) (b := y.1) (by omega)
    rw [has_del_other hne, atKey_del_other hne]
    exact h3 z (List.mem_cons_of_mem _ hz)
  · by_cases e : x = y.1
    · subst e; exact has_del_same
    · rw [has_del_other (kI_ne e)]
      refine h4 x (fun z hz => ?_)
      rcases List.mem_cons.1 hz with h | h
      · subst h; exact fun e2 => e e2.symm
      · exact hx z h
theorem Same.has_iff {D : DataW Unit} {l : List (Int × Int)} {k : Int} (h : Same D l) (hs : Srt l) : has D (kI k) = there l k := by
  obtain ⟨h1, h2, h3, h4⟩ := h
  cases ht : there l k with
  | true =>
    obtain ⟨x, hx⟩ := (there_iff l k hs).1 ht
    exact (h3 _ hx).1
  | false => exact h4 k (there_false hs ht)

/-- The map in block b holds just l; at most n entries were there. -/
def MapL (w : World) (b n : Nat) (l : List (Int × Int)) : Prop := ∃ D : DataW Unit, w.ownsMap Try.prog 2 (plainElem Try.prog 3) b n D ∧ Same D l
theorem MapL.kept {F : Nat → Prop} {w w' : World} {b n : Nat} {l : List (Int × Int)} (h : MapL w b n l) (k : Kept F w w') (hF : ¬ F b) : MapL w' b n l := by
  obtain ⟨D, ⟨es, clock, hb, r⟩, hs⟩ := h
  exact ⟨D, ⟨es, clock, by rw [k.block b (Array.getElem?_eq_some_iff.1 hb).1 hF]; exact hb, r⟩, hs⟩
theorem MapL.lt {w : World} {b n : Nat} {l : List (Int × Int)} (h : MapL w b n l) : b < w.heap.size := by
  obtain ⟨D, hD, hs⟩ := h
  exact hD.lt
theorem MapL.made (w : World) : MapL (w.alloc (.map #[] 0)) w.heap.size 0 [] := ⟨_, World.ownsMap_made _ _ _ _, Same.nil⟩
theorem MapL.mono {w : World} {b n n' : Nat} {l : List (Int × Int)} (h : MapL w b n l) (hn : n ≤ n') : MapL w b n' l := by
  obtain ⟨D, hD, hs⟩ := h
  exact ⟨D, hD.mono hn, hs⟩
theorem kept_grown {w w' : World} {b : Nat} (h : w.grownBy w' (some b)) : Kept (fun k => k = b) w w' := by
  obtain ⟨h1, h2, h3, h4, h5⟩ := h
  exact ⟨h1, h2, h3, h4, fun k hk hn => h5 k hk (fun e => hn (Option.some.inj e))⟩
theorem kept_turned {w w' : World} {b : Nat} (h : w.mapTurned w' b) : Kept (fun k => k = b) w w' := kept_grown h.grown

theorem has_calls (w : World) (b n : Nat) (l : List (Int × Int)) (k : Int) (h : MapL w b n l) (hs : Srt l) (hw : (Lit.int .i64 k).wf = true) :
    Calls Try.prog 23 #[.map (some b), .int .i64 k] w fun e w' => e = .returned (.bool (there l k)) ∧ w = w' := by
  obtain ⟨D, hown, hsm⟩ := h
  have hh := hsm.has_iff (k := k) hs
  have hkey := keyOf_int_mk Try.underlying2 hw
  have HH := Lib.hid hh
  clear hh hsm hs
  generalize there l k = tb at *
  go_enter Try.func23, Try.ntmps23
  go_wp2_with (first
    | (at_lookup; refine wpList_lookup_own_ok_int _ rfl _ _ 51 rfl 2 3 .i64 lawK Try.underlying51 Try.underlying3 (zeroV _) b n D rfl hown _ _ rfl hkey ?_; intro c hat hwc; rw [HH.out]))
  go_ret
  exact ⟨rfl, rfl⟩
end Go.Proofs.Ytolgapcckbcmbaa
