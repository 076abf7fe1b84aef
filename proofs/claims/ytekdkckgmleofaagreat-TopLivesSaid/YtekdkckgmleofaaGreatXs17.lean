/- Joined texts. -/
import Derived.Test.YtekdkckgmleofaaGreatXs16
set_option linter.unusedVariables false
set_option linter.unusedSimpArgs false
/- Contract of vec.each with one function. -/
namespace Go.Proofs.YtekdkckgmleofaaGreat
open Go.RowKit
namespace EachMul
def eachC (c : Nat → Int) : Nat → List Value
  | 0 => [.int .i64 0, .int .i64 0, .int .i64 0]
  | 1 => [.int .i64 (c 0), .int .i64 0, .int .i64 0]
  | 2 => [.int .i64 (c 0), .int .i64 (c 1), .int .i64 0]
  | _ => [.int .i64 (c 0), .int .i64 (c 1), .int .i64 (c 2)]
abbrev v3 (c : Nat → Int) : Value := vecV (c 0) (c 1) (c 2)
abbrev c3 (c : Nat → Int) : List Value := [.int .i64 (c 0), .int .i64 (c 1), .int .i64 (c 2)]
theorem c3_at (c : Nat → Int) (k : Nat) (hk : k < 3) : (c3 c)[k]? = some (.int .i64 (c k)) := by
  rcases (by omega : k = 0 ∨ k = 1 ∨ k = 2) with rfl | rfl | rfl <;> rfl
theorem eachC_set (c : Nat → Int) (k : Nat) (hk : k < 3) : (eachC c k).set k (.int .i64 (c k)) = eachC c (k + 1) := by
  rcases (by omega : k = 0 ∨ k = 1 ∨ k = 2) with rfl | rfl | rfl <;> rfl
theorem eachC_at (c : Nat → Int) (k : Nat) (hk : k < 3) : (eachC c k)[k]? = some (.int .i64 0) := by
  rcases (by omega : k = 0 ∨ k = 1 ∨ k = 2) with rfl | rfl | rfl <;> rfl
structure EachI (w : World) (a b : Nat → Int) (cs : List Value) (wr : World) : Prop where
  a : Blk wr w.heap.size (c3 a) 36
  b : Blk wr (w.heap.size + 1) (c3 b) 36
  out : Blk wr (w.heap.size + 1 + 1) [.int .i64 0, .int .i64 0, .int .i64 0] 36
  arr : Blk wr (w.heap.size + 1 + 1 + 1) cs 36
  kept : Kept (fun _ => False) w wr
theorem EachI.step {w wr : World} {a b : Nat → Int} {cs : List Value} (h : EachI w a b cs wr) (n k : Nat) (v : Value) :
    EachI w a b (cs.set k v) ((wr.drewN n).setCell ⟨w.heap.size + 1 + 1 + 1, k, none⟩ v) :=
  ⟨(h.a.drewN n).set_ne (by simp; omega) v, (h.b.drewN n).set_ne (by simp) v, (h.out.drewN n).set_ne (by simp) v, (h.arr.drewN n).set k v, (h.kept.drewN n).setCell (.inr (by show w.heap.size ≤ w.heap.size + 1 + 1 + 1; omega)) _⟩
set_option maxRecDepth 100000 in
set_option maxHeartbeats 2000000 in
theorem each_calls (a b c : Nat → Int)  (w : World)
    (hF : ∀ W j, j < 3 → Kept (fun _ => False) w W → Calls Tryz.prog 106 #[.int .i64 (a j), .int .i64 (b j)] W fun e w' => e = .returned (.int .i64 (c j)) ∧ ∃ n, w' = W.drewN n) :
    Calls Tryz.prog 176 #[v3 a, v3 b, .func (.func 106) #[] #[]] w fun e w' => e = .returned (v3 c) ∧ Kept (fun _ => False) w w' := by
  have HI : Hid (EachI w a b (eachC c 0) ((((w.alloc (.cells #[.int .i64 (a 0), .int .i64 (a 1), .int .i64 (a 2)] 36)).alloc (.cells #[.int .i64 (b 0), .int .i64 (b 1), .int .i64 (b 2)] 36)).alloc (.cells #[.int .i64 0, .int .i64 0, .int .i64 0] 36)).alloc (.cells #[.int .i64 0, .int .i64 0, .int .i64 0] 36))) := Lib.hid
    ⟨(((Blk.new w (c3 a) _).alloc _).alloc _).alloc _, ((Blk.new_at (by simp) (c3 b) _).alloc _).alloc _, (Blk.new_at (by simp) _ _).alloc _, Blk.new_at (by simp) _ _, ((((Kept.refl (fun _ => False) w).alloc _).alloc _).alloc _).alloc _⟩
  have HF := Lib.hid hF
  clear hF
  go_enter Tryz.func176, Tryz.ntmps176
  go_wp2_with fail
  go_loopw [9] (fun i wr => ∃ k : Nat, k ≤ 3 ∧ i = .int .i64 k ∧ EachI w a b (eachC c k) wr) (fun i _ => (3 - intOf i).toNat)
  case atStart => exact ⟨0, by omega, rfl, HI.out⟩
  case round =>
    obtain ⟨k, hk, rfl, hI⟩ := hrel
    by_cases hk3 : k < 3
    · have a0 := hI.a.cell (c3_at a k hk3)
      have b0 := hI.b.cell (c3_at b k hk3)
      have d0 := hI.arr.cell (eachC_at c k hk3)
      have e0 := hI.arr.free k
      have HJ := Lib.hid hI
      have HR := Lib.hid (fun n => HF.out (wr.drewN n) k hk3 (hI.kept.drewN n))
      have HS := Lib.hid (fun n => eachC_set c k hk3 ▸ hI.step n k (.int .i64 (c k)))
      clear hI
      go_wp2_with fail
      go_region_held3 (fun w' => w'.cell? ⟨w.heap.size, k, none⟩ = some (.int .i64 (a k)) ∧ w'.cell? ⟨w.heap.size + 1, k, none⟩ = some (.int .i64 (b k)))
        (first | (go_keep; done) | exact ⟨a0, b0⟩ | exact ⟨(HS.out _).a.cell (c3_at a k hk3), (HS.out _).b.cell (c3_at b k hk3)⟩)
        ((go_at_call 106; refine (HR.out 1).mono ?_; rintro e w2 ⟨rfl, n2, rfl⟩))
      all_goals go_wp2_with fail
      all_goals exact ⟨⟨k + 1, by omega, by simp, HS.out _⟩, by simp [intOf]; omega⟩
    · have e3 : k = 3 := by omega
      subst e3
      have HJ := Lib.hid hI
      have a0 := hI.arr.cell (i := 0) rfl
      have a1 := hI.arr.cell (i := 1) rfl
      have a2 := hI.arr.cell (i := 2) rfl
      have o0 := hI.out.cell (i := 0) rfl
      have o1 := hI.out.cell (i := 1) rfl
      have o2 := hI.out.cell (i := 2) rfl
      have f0 := hI.out.free 0
      have f1 := hI.out.free 1
      have f2 := hI.out.free 2
      clear hI
      go_wp2_with fail
      have hf := ((HJ.out.out.set 0 (.int .i64 (c 0))).set 1 (.int .i64 (c 1))).set 2 (.int .i64 (c 2))
      have r0 := hf.cell (i := 0) rfl
      have r1 := hf.cell (i := 1) rfl
      have r2 := hf.cell (i := 2) rfl
      have kk := ((((Kept.refl (· = w.heap.size + 1 + 1) wr).setCell (a := ⟨w.heap.size + 1 + 1, 0, none⟩) (.inl rfl) (.int .i64 (c 0))).setCell (a := ⟨w.heap.size + 1 + 1, 1, none⟩) (.inl rfl) (.int .i64 (c 1))).setCell (a := ⟨w.heap.size + 1 + 1, 2, none⟩) (.inl rfl) (.int .i64 (c 2)))
      refine bodyPost_ret (v := v3 c) (by simp [results, Tryz.f176, Tryz.results176, go_sem, r0, r1, r2]) rfl ⟨rfl, HJ.out.kept.trans kk (fun i hi => .inr (by omega))⟩
end EachMul
end Go.Proofs.YtekdkckgmleofaaGreat

/- Contracts of package record's functions along the way of kind Put: number. -/
namespace Go.Proofs.YtekdkckgmleofaaGreat
open Go.RowKit

/-- A row of bytes, grown: the same block, or a new one. -/
def AppPost (l : List Nat) (own : Option Nat) (w : World) (e : Ending) (w' : World) : Prop :=
  ∃ v' own', e = .returned v' ∧ Sl w' v' 5 1 l.length (u8s l) own' ∧ (own' = own ∨ ∃ q, own' = some q ∧ w.heap.size ≤ q) ∧ Kept (fun k => own = some k) w w'
def numL (n : Int) : List Nat := putL (zigM n).toNat
theorem numL_len (n : Int) : (numL n).length = zsz n := putL_len _
theorem u8s_app (a b : List Nat) : u8s (a ++ b) = u8s a ++ u8s b := by simp [u8s]

set_option maxRecDepth 100000 in
set_option maxHeartbeats 2000000 in
theorem number_calls (n : Int) (l : List Nat) (w : World) (v : Value) (own : Option Nat) (h : Sl w v 5 1 l.length (u8s l) own) (hl : l.length ≤ 10000) (h1 : -9223372036854775808 ≤ n) (h2 : n ≤ 9223372036854775807) :
    Calls Tryz.prog 194 #[v, .int .i64 n] w (AppPost (l ++ numL n) own w) := by
  have hz := zigM_bd n h1 h2
  have HZ := Lib.hid (fun W => zig_calls n W h1 h2)
  have HP := Lib.hid (fun W => put_calls (zigM n).toNat W (by omega))
  obtain ⟨s1, s2, -, -⟩ := sizeM_bd (zigM n).toNat (by omega)
  have hs10 : (numL n).length ≤ 10 := by rw [numL_len]; exact s2
  have e1 : (((zigM n).toNat : Nat) : Int) = zigM n := by omega
  rw [e1] at HP
  unfold PutPost at HP
  rw [show putL (zigM n).toNat = numL n from rfl, show sizeM (zigM n).toNat = (numL n).length from (numL_len n).symm] at HP
  obtain ⟨i0, hi, hz0, hz1, hz2⟩ := info_parts info8
  have HI := Lib.hid hi
  have HZ0 := Lib.hid hz0
  have HZ1 := Lib.hid hz1
  have HZ2 := Lib.hid hz2
  have H := Lib.hid h
  have hlt : ∀ g, own = some g → g < w.heap.size := fun g hg => h.lt hg
  have HLT := Lib.hid hlt
  have N1 : Hid (l.length + (numL n).length ≤ maxLen) := Lib.hid (by unfold maxLen; omega)
  have N2 : Hid ((l.length + (numL n).length) * 1 ≤ 140737488355328) := Lib.hid (by omega)
  have HO := Lib.hid (oneCell_u8s (numL n))
  have HLL := Lib.hid (u8s_len (numL n))
  generalize zigM n = z at *
  generalize numL n = t at *
  clear hz hi hz0 hz1 hz2 h hlt e1
  go_enter Tryz.func194, Tryz.ntmps194
  go_wp2_with fail
  refine (HZ.out _).mono ?_
  rintro e w1 ⟨rfl, rfl⟩
  go_wp2_with fail
  refine (HP.out _).mono ?_
  rintro e w2 ⟨v2, g2, rfl, hS2, hg2, hk2⟩
  obtain ⟨a2, cap2, rfl, -, -⟩ := hS2.form
  have HS2 := Lib.hid hS2.src
  have HK2 := Lib.hid hk2
  clear hS2 hk2
  go_wp2_with (at_builtin; refine wpList_append_sl _ rfl _ _ 23 rfl 5 i0 (.int .u8 0) 1 1 Tryz.underlying23 HI.out HZ0.out HZ1.out HZ2.out rfl _ l.length (u8s l) own rfl (H.out.kept HK2.out (fun _ _ h => h)) _ t.length (u8s t) rfl HS2.out (by rw [HLL.out, Nat.mul_one]) HO.out N1.out N2.out ?_; intro v3 w3 own3 hS3 ho3 hK3; have SA := Lib.hid hS3; have OA := Lib.hid ho3; have KA := Lib.hid hK3; clear hS3 ho3 hK3)
  go_ret
  have z2 := HK2.out.size
  refine ⟨_, own3, rfl, by rw [List.length_append, u8s_app]; exact SA.out, ?_, (HK2.out.mono (fun _ _ h => h.elim)).trans KA.out (fun _ h => .inl h)⟩
  rcases OA.out with e | e
  · exact .inl e
  · exact .inr ⟨_, e, z2⟩
end Go.Proofs.YtekdkckgmleofaaGreat

/- Contracts of package record's functions along the way of kind Put: numbers, writeAll. -/
namespace Go.Proofs.YtekdkckgmleofaaGreat
open Go.RowKit

/-- A record. -/
structure RecM where
  kind : Int
  id : Int
  p0 : Int
  p1 : Int
  p2 : Int
  v0 : Int
  v1 : Int
  v2 : Int
  ang : Nat
abbrev RecM.ns (r : RecM) : List Int := [r.p0, r.p1, r.p2, r.v0, r.v1, r.v2]
structure RecM.Ok (r : RecM) : Prop where
  ns : ∀ n ∈ r.ns, -9223372036854775808 ≤ n ∧ n ≤ 9223372036854775807
  ang : r.ang ≤ 65535
abbrev recC (r : RecM) : List Value := [.int .i64 r.kind, .int .i64 r.id, .int .i64 r.p0, .int .i64 r.p1, .int .i64 r.p2, .int .i64 r.v0, .int .i64 r.v1, .int .i64 r.v2, .int .u16 r.ang]
abbrev recV (r : RecM) : Value := .agg (recC r).toArray
abbrev ptrsV (q : Nat) : Value := .agg #[.pointer (some ⟨q, 2, none⟩), .pointer (some ⟨q, 3, none⟩), .pointer (some ⟨q, 4, none⟩), .pointer (some ⟨q, 5, none⟩), .pointer (some ⟨q, 6, none⟩), .pointer (some ⟨q, 7, none⟩)]
set_option maxRecDepth 100000 in
theorem numbers_calls (q : Nat) (w : World) :
    Calls Tryz.prog 126 #[.pointer (some ⟨q, 0, none⟩)] w fun e w' => e = .returned (ptrsV q) ∧ Kept (fun _ => False) w w' := by
  go_enter Tryz.func126, Tryz.ntmps126
  go_wp2_with fail
  refine region_tail 25 (by kernel_rfl) (by kernel_rfl) ?_
  simp only [List.take_succ_cons, List.take_zero, List.drop_succ_cons, List.drop_zero]
  repeat still_step
  refine wpStill_nil ?_
  go_wp2
  refine bodyPost_ret (v := ptrsV q) (by simp [results, Tryz.f126, Tryz.results126, go_sem]) rfl ⟨rfl, ((Kept.refl (fun _ => False) w).alloc _).drew⟩
theorem idxP (q k : Nat) (h : k < 6) (w : World) : (Instr.index 231 (ptrsV q) (.int .i64 k)).run Tryz.prog w = .ok (.pointer (some ⟨q, 2 + k, none⟩)) w := by
  rcases (by omega : k = 0 ∨ k = 1 ∨ k = 2 ∨ k = 3 ∨ k = 4 ∨ k = 5) with rfl | rfl | rfl | rfl | rfl | rfl <;> kernel_rfl
def allL (ns : List Int) : List Nat := ns.flatMap numL
theorem allL_step (ns : List Int) (k : Nat) (n : Int) (h : ns[k]? = some n) : allL (ns.take (k + 1)) = allL (ns.take k) ++ numL n := by
  unfold allL
  rw [List.take_add_one, h, List.flatMap_append]
  simp
theorem allL_len (ns : List Int) (h : ∀ n ∈ ns, -9223372036854775808 ≤ n ∧ n ≤ 9223372036854775807) : (allL ns).length ≤ 10 * ns.length := by
  induction ns with
  | nil => simp [allL]
  | cons n t ih =>
    have h1 := ih (fun m hm => h m (List.mem_cons_of_mem _ hm))
    have h2 := h n (List.mem_cons_self)
    have hz := zigM_bd n h2.1 h2.2
    obtain ⟨-, s2, -, -⟩ := sizeM_bd (zigM n).toNat (by omega)
    have h3 : (numL n).length ≤ 10 := by rw [numL_len]; exact s2
    have h4 : allL (n :: t) = numL n ++ allL t := by simp [allL]
    rw [h4, List.length_append, List.length_cons]
    omega
/-- The bytes of a record of kind Put behind its head. -/
def wholeL (r : RecM) : List Nat := allL r.ns ++ putL r.ang
structure WrI (l : List Nat) (own : Option Nat) (q : Nat) (w : World) (r : RecM) (k : Nat) (v : Value) (wr : World) (own2 : Option Nat) : Prop where
  sl : Sl wr v 5 1 (l ++ allL (r.ns.take k)).length (u8s (l ++ allL (r.ns.take k))) own2
  ow : own2 = own ∨ ∃ g, own2 = some g ∧ w.heap.size ≤ g
  rec_ : Blk wr q (recC r) 175
  kept : Kept (fun i => own = some i) w wr
set_option maxRecDepth 100000 in
set_option maxHeartbeats 2000000 in
theorem writeAll_calls (r : RecM) (hr : r.Ok) (q : Nat) (l : List Nat) (w : World) (v : Value) (own : Option Nat) (h : Sl w v 5 1 l.length (u8s l) own) (hl : l.length ≤ 5000) (hq : Blk w q (recC r) 175) (hne : own ≠ some q) :
    Calls Tryz.prog 170 #[v, .pointer (some ⟨q, 0, none⟩)] w (AppPost (l ++ wholeL r) own w) := by
  have HN := Lib.hid (numbers_calls q w)
  have hqs := hq.lt
  have HI0 : Hid (∀ W, Kept (fun _ => False) w W → WrI l own q w r 0 v W own) := Lib.hid (fun W hk => ⟨by
    rw [show l ++ allL (r.ns.take 0) = l from by simp [allL]]; exact h.kept hk (fun _ _ h => h), .inl rfl, hk.blk hq (fun h => h), hk.mono (fun _ _ h => h.elim)⟩)
  have HR := Lib.hid hr
  have HIX := idxP q
  clear h hq hr
  go_enter Tryz.func170, Tryz.ntmps170
  go_wp2_with fail
  refine (HN.out).mono ?_
  rintro e w1 ⟨rfl, hk1⟩
  have HI1 := Lib.hid (HI0.out _ hk1)
  clear HN HI0 hk1
  go_wp2_with fail
  go_loopw [0, 9] (fun u i wr => ∃ (k : Nat) (o : Option Nat) (x : Value), k ≤ 6 ∧ i = .int .i64 k ∧ u = x ∧ WrI l own q w r k x wr o) (fun _ i _ => (6 - intOf i).toNat)
  case atStart => exact ⟨0, own, _, by omega, rfl, rfl, HI1.out⟩
  case round =>
    obtain ⟨k, o, x, hk, rfl, hx, hI⟩ := hrel
    have hx2 := hx.symm
    clear hx
    subst hx2
    by_cases hlt : k < 6
    · have hix := idxP q k hlt
      obtain ⟨n, hn⟩ : ∃ n, r.ns[k]? = some n := ⟨_, List.getElem?_eq_getElem (by simpa using hlt)⟩
      have hb := HR.out.ns n (List.mem_of_getElem? hn)
      have hcell := hI.rec_.cell (i := 2 + k) (v := .int .i64 n) (by
        rcases (by omega : k = 0 ∨ k = 1 ∨ k = 2 ∨ k = 3 ∨ k = 4 ∨ k = 5) with rfl | rfl | rfl | rfl | rfl | rfl <;> (simp at hn; subst hn; rfl))
      have hlen := allL_len (r.ns.take k) (fun m hm => HR.out.ns m (List.mem_of_mem_take hm))
      rw [List.length_take] at hlen
      have HC := Lib.hid (number_calls n (l ++ allL (r.ns.take k)) wr _ o hI.sl (by rw [List.length_append]; omega) hb.1 hb.2)
      rw [List.append_assoc, ← allL_step _ _ _ hn] at HC
      have HJ := Lib.hid hI
      clear hI hlen hn hb
      go_wp2_with fail
      refine (HC.out).mono ?_
      rintro e w3 ⟨v3, o3, rfl, hS3, ho3, hK3⟩
      have HW : Hid (WrI l own q w r (k + 1) v3 w3 o3) := Lib.hid (by
        have z1 := HJ.out.kept.size
        have hoq : ∀ i, o = some i → own = some i ∨ w.heap.size ≤ i := by
          intro i hi
          rcases HJ.out.ow with e | ⟨g, e, hg⟩
          · exact .inl (by rw [← e]; exact hi)
          · rw [e] at hi; cases hi; exact .inr hg
        refine ⟨hS3, ?_, hK3.blk HJ.out.rec_ (fun e => ?_), HJ.out.kept.trans hK3 hoq⟩
        · rcases ho3 with e | ⟨g, e, hg⟩
          · rw [e]; exact HJ.out.ow
          · exact .inr ⟨g, e, by omega⟩
        · rcases hoq q e with h | h
          · exact hne h
          · omega)
      clear hS3 ho3 hK3
      go_wp2_with fail
      exact ⟨⟨k + 1, o3, _, by omega, by simp, rfl, HW.out⟩, by simp [intOf]; omega⟩
    · obtain rfl : k = 6 := by omega
      have hang : r.ang < 18446744073709551616 := by have := HR.out.ang; omega
      have hcell := hI.rec_.cell (i := 8) (v := .int .u16 r.ang) rfl
      have HP := Lib.hid (put_calls r.ang wr hang)
      have hlen := allL_len r.ns HR.out.ns
      have hs2 := (sizeM_bd r.ang hang).2.1
      rw [show r.ns.length = 6 from rfl] at hlen
      unfold PutPost at HP
      rw [show sizeM r.ang = (putL r.ang).length from (putL_len _).symm] at HP hs2
      obtain ⟨i0, hi, hz0, hz1, hz2⟩ := info_parts info8
      have HI := Lib.hid hi
      have HZ0 := Lib.hid hz0
      have HZ1 := Lib.hid hz1
      have HZ2 := Lib.hid hz2
      have HJ := Lib.hid hI
      have N1 : Hid ((l ++ allL r.ns).length + (putL r.ang).length ≤ maxLen) := Lib.hid (by unfold maxLen; rw [List.length_append]; omega)
      have N2 : Hid (((l ++ allL r.ns).length + (putL r.ang).length) * 1 ≤ 140737488355328) := Lib.hid (by rw [List.length_append]; omega)
      have HO := Lib.hid (oneCell_u8s (putL r.ang))
      have HLL := Lib.hid (u8s_len (putL r.ang))
      have HWH : Hid (l ++ wholeL r = (l ++ allL r.ns) ++ putL r.ang) := Lib.hid (by unfold wholeL; rw [List.append_assoc])
      have HS : Hid (Sl wr x 5 1 (l ++ allL r.ns).length (u8s (l ++ allL r.ns)) o) := Lib.hid hI.sl
      have hm1 : (65536 : Int) > r.ang := by have := HR.out.ang; omega
      generalize putL r.ang = t at *
      generalize l ++ allL r.ns = L at *
      obtain ⟨a0, cap0, hx, -, -⟩ := HS.out.form
      subst hx
      clear hI hlen hz0 hz1 hz2 hi
      go_wp2_with fail
      refine (HP.out).mono ?_
      rintro e w2 ⟨v2, g2, rfl, hS2, hg2, hk2⟩
      obtain ⟨a2, cap2, rfl, -, -⟩ := hS2.form
      have HS2 := Lib.hid hS2.src
      have HK2 := Lib.hid hk2
      clear hS2 hk2
      go_wp2_with (at_builtin; refine wpList_append_sl _ rfl _ _ 23 rfl 5 i0 (.int .u8 0) 1 1 Tryz.underlying23 HI.out HZ0.out HZ1.out HZ2.out rfl _ L.length (u8s L) o rfl (HS.out.kept HK2.out (fun _ _ h => h)) _ t.length (u8s t) rfl HS2.out (by rw [HLL.out, Nat.mul_one]) HO.out N1.out N2.out ?_; intro v3 w3 own3 hS3 ho3 hK3; have SA := Lib.hid hS3; have OA := Lib.hid ho3; have KA := Lib.hid hK3; clear hS3 ho3 hK3)
      go_ret
      have z1 := HJ.out.kept.size
      have z2 := HK2.out.size
      have hoq : ∀ i, o = some i → own = some i ∨ w.heap.size ≤ i := by
        intro i hi
        rcases HJ.out.ow with e | ⟨g, e, hg⟩
        · exact .inl (by rw [← e]; exact hi)
        · rw [e] at hi; cases hi; exact .inr hg
      refine ⟨_, own3, rfl, by rw [HWH.out, List.length_append, u8s_app]; exact SA.out, ?_, HJ.out.kept.trans ((HK2.out.mono (fun _ _ h => h.elim)).trans KA.out (fun _ h => .inl h)) hoq⟩
      rcases OA.out with e | e
      · rw [e]; exact HJ.out.ow
      · exact .inr ⟨_, e, by omega⟩
end Go.Proofs.YtekdkckgmleofaaGreat
