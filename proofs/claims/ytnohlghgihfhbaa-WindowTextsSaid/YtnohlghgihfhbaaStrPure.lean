/- Plain words on texts: their order is total. No program in sight. -/
import Derived.Test.YtnohlghgihfhbaaWinPure
import Derived.WalkKit
import Derived.Laws.StructEq
import Derived.Laws.Strings
import Derived.WideShapes
namespace Go.Proofs.Ytnohlghgihfhbaa

theorem bl_irrefl : ∀ (x : List UInt8), Op.bytesLess x x = false
  | [] => rfl
  | a :: x => by simp [Op.bytesLess, bl_irrefl x]
theorem bl_trans : ∀ (x y z : List UInt8), Op.bytesLess x y = true → Op.bytesLess y z = true → Op.bytesLess x z = true
  | _, [], _, h, _ => by simp [Op.bytesLess] at h
  | _, _ :: _, [], _, h => by simp [Op.bytesLess] at h
  | [], _ :: _, _ :: _, _, _ => rfl
  | a :: x, b :: y, c :: z, h1, h2 => by
    simp only [Op.bytesLess, Bool.or_eq_true, Bool.and_eq_true, decide_eq_true_eq, beq_iff_eq] at *
    rcases h1 with h1 | ⟨rfl, h1⟩ <;> rcases h2 with h2 | ⟨rfl, h2⟩
    · exact .inl (UInt8.lt_trans h1 h2)
    · exact .inl h1
    · exact .inl h2
    · exact .inr ⟨rfl, bl_trans x y z h1 h2⟩
theorem bl_tri : ∀ (x y : List UInt8), Op.bytesLess x y = false → Op.bytesLess y x = false → x = y
  | [], [], _, _ => rfl
  | [], _ :: _, h, _ => by simp [Op.bytesLess] at h
  | _ :: _, [], _, h => by simp [Op.bytesLess] at h
  | a :: x, b :: y, h1, h2 => by
    simp only [Op.bytesLess, Bool.or_eq_false_iff, Bool.and_eq_false_iff, decide_eq_false_iff_not, beq_eq_false_iff_ne] at h1 h2
    have hab : a = b := UInt8.le_antisymm (UInt8.not_lt.1 h2.1) (UInt8.not_lt.1 h1.1)
    subst hab
    rw [bl_tri x y (h1.2.resolve_left (fun h => h rfl)) (h2.2.resolve_left (fun h => h rfl))]

def ltS (a b : ByteArray) : Bool := Op.bytesLess a.toList b.toList
theorem toList_inj {a b : ByteArray} (h : a.toList = b.toList) : a = b := by
  rw [ByteArray.toList_eq, ByteArray.toList_eq] at h
  exact WideShapes.bytes_inj h
theorem totS : Tot ltS :=
  ⟨fun _ => bl_irrefl _, fun _ _ _ => bl_trans _ _ _, fun _ _ h1 h2 => toList_inj (bl_tri _ _ h1 h2)⟩
theorem gtS (y x : ByteArray) : (!(Op.bytesLess y.toList x.toList || y.toList == x.toList)) = ltS x y := by
  cases h : ltS x y with
  | true =>
    have h1 := totS.asymm h
    unfold ltS at h1
    have h2 : (y.toList == x.toList) = false := by
      rw [beq_eq_false_iff_ne]
      intro he
      have := toList_inj he
      subst this
      rw [totS.irrefl] at h; cases h
    rw [h1, h2]; rfl
  | false =>
    cases h1 : Op.bytesLess y.toList x.toList with
    | true => rfl
    | false =>
      have : y = x := totS.tri _ _ h1 h
      subst this
      simp
theorem eqS_true {y x : ByteArray} (h : y = x) : (y.toList == x.toList) = true := by rw [h]; simp
theorem eqS_false {y x : ByteArray} (h : ¬ y = x) : (y.toList == x.toList) = false := by
  rw [beq_eq_false_iff_ne]; exact fun he => h (toList_inj he)

end Go.Proofs.Ytnohlghgihfhbaa
