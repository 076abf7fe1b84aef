/- Joined texts. -/
import Derived.Test.YtekdkckgmleofaaGreatXf20
import Derived.Test.YtekdkckgmleofaaGreatXf18
import Derived.Test.YtekdkckgmleofaaGreatXf21
set_option linter.unusedVariables false
set_option linter.unusedSimpArgs false
/- Contracts of package gram's parser at any bytes: must, signs, when, base. -/
namespace Go.Proofs.YtekdkckgmleofaaGreat
open Go.RowKit
def TmPost (t : Int) (w : World) (e : Ending) (w' : World) : Prop := ∃ b : Bool, e = .returned (.bool b) ∧ (b = true → -2305843009213693952 ≤ t ∧ t ≤ 2305843009213693952) ∧ w = w'
theorem timely_any (t : Int) (w : World) :
    Calls Tryz.prog 130 #[.int .i64 t] w (TmPost t w) := by
  by_cases h1 : -2305843009213693952 ≤ t
  · by_cases h2 : t ≤ 2305843009213693952
    · go_enter Tryz.func130, Tryz.ntmps130
      go_wp2
      go_ret
      exact ⟨true, rfl, fun _ => ⟨h1, h2⟩, rfl⟩
    · go_enter Tryz.func130, Tryz.ntmps130
      go_wp2
      go_ret
      exact ⟨false, rfl, fun e => (by cases e), rfl⟩
  · go_enter Tryz.func130, Tryz.ntmps130
    go_wp2
    go_ret
    exact ⟨false, rfl, fun e => (by cases e), rfl⟩
/-- What a parser has read so far. -/
structure HdG (tick time base : Int) : Prop where
  t0 : 0 ≤ tick
  t1 : tick ≤ 4294967295
  s : I64 time
  b0 : -1 ≤ base
  b1 : base ≤ tick
def MustPost (w : World) (p g off cap : Nat) (bs : List Nat) (e : Ending) (w' : World) : Prop := ∃ (a' : Nat) (er' : Int), e = .returned (.tuple #[]) ∧ RdG w' p g off cap bs a' er' ∧ Kept (· = p) w w'
theorem gmust_calls (c : Nat) (w : World) (q p g off cap : Nat) (bs : List Nat) (a : Nat) (er : Int) (tick time base : Int) (rs : Value) (hq : Blk w q (parC p tick time base rs) 213) (hqp : q ≠ p) (h : RdG w p g off cap bs a er) :
    Calls Tryz.prog 147 #[.pointer (some ⟨q, 0, none⟩), .int .u8 c] w (MustPost w p g off cap bs) := by
  have HB := Lib.hid (gbyte_calls w p g off cap bs a er h)
  have HF := Lib.hid (fun W a er (h : RdG W p g off cap bs a er) => gfail_calls W p g off cap bs a er 7 h (by omega) (by omega))
  have q0 := hq.cell (i := 0) rfl
  have HQ := Lib.hid hq
  clear h hq
  go_enter Tryz.func147, Tryz.ntmps147
  go_wp2_with fail
  refine (HB.out).mono ?_
  rintro e w1 ⟨x, a1, er1, rfl, hx, hr, hs, hk⟩
  have q1 := (hk.blk HQ.out hqp).cell (i := 0) rfl
  have HR := Lib.hid hr
  have HK := Lib.hid hk
  clear hr hk hs hx
  cases hc : ((x : Int) != c) with
  | false =>
    go_wp2_with fail
    go_end0
    exact ⟨a1, er1, rfl, HR.out, HK.out⟩
  | true =>
    go_wp2_with fail
    refine (HF.out _ _ _ HR.out).mono ?_
    rintro e w2 ⟨er2, rfl, hr2, -, -, hk2⟩
    have HR2 := Lib.hid hr2
    have HK2 := Lib.hid hk2
    clear hr2 hk2
    go_wp2_with fail
    go_end0
    exact ⟨a1, er2, rfl, HR2.out, HK.out.trans HK2.out (fun _ h => .inl h)⟩
theorem gsigns_calls (w : World) (q p g off cap : Nat) (bs : List Nat) (a : Nat) (er : Int) (tick time base : Int) (rs : Value) (hq : Blk w q (parC p tick time base rs) 213) (hqp : q ≠ p) (h : RdG w p g off cap bs a er) :
    Calls Tryz.prog 109 #[.pointer (some ⟨q, 0, none⟩)] w (MustPost w p g off cap bs) := by
  have H1 := Lib.hid (gmust_calls 71 w q p g off cap bs a er tick time base rs hq hqp h)
  have H2 := Lib.hid (fun W hq a er h => gmust_calls 1 W q p g off cap bs a er tick time base rs hq hqp h)
  have HQ := Lib.hid hq
  clear h hq
  go_enter Tryz.func109, Tryz.ntmps109
  go_wp2_with fail
  refine (H1.out).mono ?_
  rintro e w1 ⟨a1, er1, rfl, hr, hk⟩
  have HR := Lib.hid hr
  have HK := Lib.hid hk
  clear hr hk
  go_wp2_with fail
  refine (H2.out _ (HK.out.blk HQ.out hqp) _ _ HR.out).mono ?_
  rintro e w2 ⟨a2, er2, rfl, hr, hk⟩
  have HR2 := Lib.hid hr
  have HK2 := Lib.hid hk
  clear hr hk
  go_wp2_with fail
  go_end0
  exact ⟨a2, er2, rfl, HR2.out, HK.out.trans HK2.out (fun _ h => .inl h)⟩
def StepPost (q p g off cap : Nat) (bs : List Nat) (rs : Value) (w : World) (e : Ending) (w' : World) : Prop :=
  ∃ (a' : Nat) (er' : Int) (tick time base : Int), e = .returned (.tuple #[]) ∧ RdG w' p g off cap bs a' er' ∧ Blk w' q (parC p tick time base rs) 213 ∧ HdG tick time base ∧ Kept (fun i => i = p ∨ i = q) w w'
set_option maxRecDepth 100000 in
theorem gwhen_calls (w : World) (q p g off cap : Nat) (bs : List Nat) (a : Nat) (er : Int) (rs : Value) (hq : Blk w q (parC p 0 0 0 rs) 213) (hqp : q ≠ p) (hqg : q ≠ g) (h : RdG w p g off cap bs a er) :
    Calls Tryz.prog 110 #[.pointer (some ⟨q, 0, none⟩)] w (StepPost q p g off cap bs rs w) := by
  have H1 := Lib.hid (guint_calls 4294967295 w p g off cap bs a er h)
  have H2 := Lib.hid (fun W a er (h : RdG W p g off cap bs a er) => gint_calls W p g off cap bs a er h)
  have HF := Lib.hid (fun W a er (h : RdG W p g off cap bs a er) => gfail_calls W p g off cap bs a er 3 h (by omega) (by omega))
  have HT := Lib.hid (fun t W => timely_any t W)
  have q0 := hq.cell (i := 0) rfl
  have HQ := Lib.hid hq
  clear h hq
  go_enter Tryz.func110, Tryz.ntmps110
  go_wp2_with fail
  refine (H1.out).mono ?_
  rintro e w1 ⟨x, a1, er1, rfl, hx, hr, -, hk⟩
  have hx2 : (x : Int) ≤ 4294967295 := by omega
  have w1t : IntKind.i64.wrap (x : Int) = x := IntWalk.i64_in _ (by omega)
  have hx3 : (0 : Int) ≤ x := by omega
  generalize (x : Int) = tick at *
  clear hx
  have B1 := hk.blk HQ.out hqp
  have c0 := B1.cell (i := 0) rfl
  have c1 := B1.cell (i := 1) rfl
  have f1 := B1.free 1
  have KS := (Kept.refl (· = q) w1).setCell (a := ⟨q, 1, none⟩) (.inl rfl) (.int .i64 tick)
  have HR := Lib.hid (hr.kept KS (fun e => hqp e.symm) (fun e => hqg e.symm))
  have HB := Lib.hid (B1.set 1 (.int .i64 tick))
  have HK := Lib.hid ((hk.mono (G := fun i => i = p ∨ i = q) (fun _ _ h => .inl h)).trans KS (fun _ h => .inl (.inr h)))
  clear hr hk KS B1
  go_wp2_with fail
  refine (H2.out _ _ _ HR.out).mono ?_
  rintro e w2 ⟨time, a2, er2, rfl, hti, hr, -, hk⟩
  have B1 := hk.blk HB.out hqp
  have d0 := B1.cell (i := 0) rfl
  have d2 := B1.cell (i := 2) rfl
  have e2 := B1.free 2
  have KS := (Kept.refl (· = q) w2).setCell (a := ⟨q, 2, none⟩) (.inl rfl) (.int .i64 time)
  have HR2 := Lib.hid (hr.kept KS (fun e => hqp e.symm) (fun e => hqg e.symm))
  have HB2 := Lib.hid (B1.set 2 (.int .i64 time))
  have HK2 := Lib.hid ((HK.out.trans hk (fun _ h => .inl (.inl h))).trans KS (fun _ h => .inl (.inr h)))
  have HH : Hid (HdG tick time 0) := Lib.hid ⟨hx3, hx2, hti, by omega, hx3⟩
  have g0 := HB2.out.cell (i := 0) rfl
  clear hr hk KS B1 HR HB HK hti
  go_wp2_with fail
  refine (HT.out _ _).mono ?_
  rintro e w3 ⟨b, rfl, -, rfl⟩
  cases b with
  | true =>
    go_wp2_with fail
    go_end0
    exact ⟨a2, er2, _, _, _, rfl, HR2.out, HB2.out, HH.out, HK2.out⟩
  | false =>
    go_wp2_with fail
    refine (HF.out _ _ _ HR2.out).mono ?_
    rintro e w4 ⟨er4, rfl, hr4, -, -, hk4⟩
    have HR4 := Lib.hid hr4
    have HK4 := Lib.hid hk4
    clear hr4 hk4
    go_wp2_with fail
    go_end0
    exact ⟨a2, er4, _, _, _, rfl, HR4.out, HK4.out.blk HB2.out hqp, HH.out, HK2.out.trans HK4.out (fun _ h => .inl (.inl h))⟩
set_option maxRecDepth 100000 in
theorem gbase_calls (tick time base : Int) (hs : HdG tick time base) (w : World) (q p g off cap : Nat) (bs : List Nat) (a : Nat) (er : Int) (rs : Value) (hq : Blk w q (parC p tick time base rs) 213) (hqp : q ≠ p) (hqg : q ≠ g) (h : RdG w p g off cap bs a er) :
    Calls Tryz.prog 111 #[.pointer (some ⟨q, 0, none⟩)] w (StepPost q p g off cap bs rs w) := by
  obtain ⟨t0, t1, s, b0, b1⟩ := hs
  have H1 : Hid (∀ W a er, RdG W p g off cap bs a er → Calls Tryz.prog 148 #[.pointer (some ⟨p, 0, none⟩), .int .u64 tick] W (TkPost .u64 tick.toNat W p g off cap bs a er)) := Lib.hid (fun W a er h => by
    have := guint_calls tick.toNat W p g off cap bs a er h
    rw [show ((tick.toNat : Nat) : Int) = tick by omega] at this
    exact this)
  have q0 := hq.cell (i := 0) rfl
  have q1 := hq.cell (i := 1) rfl
  have q3 := hq.cell (i := 3) rfl
  have f3 := hq.free 3
  have HQ := Lib.hid hq
  have HH := Lib.hid h
  have HS := Lib.hid s
  clear h hq s
  have u1t : IntKind.u64.wrap tick = tick := IntWalk.u64_in _ (by omega)
  go_enter Tryz.func111, Tryz.ntmps111
  go_wp2_with fail
  have KS := (Kept.refl (· = q) w).setCell (a := ⟨q, 3, none⟩) (.inl rfl) (.int .i64 (-1))
  refine at_world (fun W => Blk W q (parC p tick time (-1) rs) 213 ∧ RdG W p g off cap bs a er ∧ Kept (· = q) w W) ⟨HQ.out.set 3 (.int .i64 (-1)), HH.out.kept KS (fun e => hqp e.symm) (fun e => hqg e.symm), KS⟩ ?_
  clear KS q0 q1 q3 f3
  rintro W ⟨B, hR, hK⟩
  have q0 := B.cell (i := 0) rfl
  have q1 := B.cell (i := 1) rfl
  have HB := Lib.hid B
  have HR := Lib.hid hR
  have HK := Lib.hid hK
  clear B hR hK
  go_region_held3 (fun w' => w'.cell? ⟨q, 0, none⟩ = some (.pointer (some ⟨p, 0, none⟩)) ∧ w'.cell? ⟨q, 1, none⟩ = some (.int .i64 tick))
    (first | (go_keep; done) | exact ⟨(hk2.blk HB.out.drew hqp).cell (i := 0) rfl, (hk2.blk HB.out.drew hqp).cell (i := 1) rfl⟩)
    ((go_at_call 148; refine (H1.out _ _ _ HR.out.drew).mono ?_; rintro e w2 ⟨x, a2, er2, rfl, hx, hr2, hs2, hk2⟩))
  all_goals
    have hx2 : (x : Int) ≤ tick := by omega
    have hx3 : (0 : Int) ≤ x := by omega
    have wxt : IntKind.i64.wrap (x : Int) = x := IntWalk.i64_in _ (by omega)
    generalize (x : Int) = back at *
    have HR2 := Lib.hid hr2
    have B2 := hk2.blk HB.out.drew hqp
    have HB2 := Lib.hid B2
    have HK2 := Lib.hid ((HK.out.drew.mono (G := fun i => i = p ∨ i = q) (fun _ _ h => .inr h)).trans hk2 (fun _ h => .inl (.inl h)))
    clear hr2 hk2 hs2 hx q0 q1
    by_cases hb : 0 < back
    · have c0 := B2.cell (i := 0) rfl
      have c1 := B2.cell (i := 1) rfl
      have c3 := B2.cell (i := 3) rfl
      have f3 := B2.free 3
      clear B2
      have wst : IntKind.i64.wrap (tick - back) = tick - back := IntWalk.i64_in _ (by omega)
      go_wp2_with fail
      go_end0
      have KS := (Kept.refl (· = q) w2).setCell (a := ⟨q, 3, none⟩) (.inl rfl) (.int .i64 (tick - back))
      exact ⟨a2, er2, _, _, _, rfl, HR2.out.kept KS (fun e => hqp e.symm) (fun e => hqg e.symm), HB2.out.set 3 (.int .i64 (tick - back)), ⟨t0, t1, HS.out, by omega, by omega⟩, HK2.out.trans KS (fun _ h => .inl (.inr h))⟩
    · clear B2
      go_wp2_with fail
      go_end0
      exact ⟨a2, er2, _, _, _, rfl, HR2.out, HB2.out, ⟨t0, t1, HS.out, by omega, by omega⟩, HK2.out⟩
end Go.Proofs.YtekdkckgmleofaaGreat

/- Contracts of package gram's parser at any bytes: records. -/
namespace Go.Proofs.YtekdkckgmleofaaGreat
open Go.RowKit
abbrev rsC (rs : List RecM) : List Value := rs.flatMap recC
theorem rsC_len (rs : List RecM) : (rsC rs).length = rs.length * 9 := by
  unfold rsC
  induction rs with
  | nil => rfl
  | cons r t ih =>
    rw [List.flatMap_cons, List.length_append, ih, List.length_cons]
    simp only [List.length_cons, List.length_nil]
    omega
theorem rsC_app (rs : List RecM) (r : RecM) : rsC (rs ++ [r]) = rsC rs ++ recC r := by
  unfold rsC
  rw [List.flatMap_append]
  simp
theorem rsC_one (rs : List RecM) : ∀ u ∈ rsC rs, u.oneCell' = true := by
  intro u hu
  unfold rsC at hu
  obtain ⟨r, -, h⟩ := List.mem_flatMap.1 hu
  simp only [recC, List.mem_cons, List.not_mem_nil, or_false] at h
  rcases h with rfl | rfl | rfl | rfl | rfl | rfl | rfl | rfl | rfl <;> rfl
structure RcsI (q p g off cap : Nat) (bs : List Nat) (tick time base : Int) (w : World) (k : Nat) (z : Int) (rs : List RecM) (v : Value) (own : Option Nat) (a : Nat) (er : Int) (wr : World) : Prop where
  rd : RdG wr p g off cap bs a er
  par : Blk wr q (parC p tick time base v) 213
  sl : Sl wr v 175 9 rs.length (rsC rs) own
  ow : own = none ∨ ∃ g, own = some g ∧ w.heap.size ≤ g
  ok : ∀ r ∈ rs, RecIn r
  len : rs.length ≤ k
  z0 : -1 ≤ z
  z1 : z ≤ 65535
  kept : Kept (fun i => i = p ∨ i = q) w wr
def RcsPost (q p g off cap : Nat) (bs : List Nat) (tick time base : Int) (w : World) (e : Ending) (w' : World) : Prop :=
  ∃ (z : Int) (rs : List RecM) (v : Value) (own : Option Nat) (a : Nat) (er : Int), e = .returned (.tuple #[]) ∧ RcsI q p g off cap bs tick time base w 128 z rs v own a er w'
theorem RcsI.up {q p g off cap k k' : Nat} {bs : List Nat} {tick time base z : Int} {w wr : World} {rs : List RecM} {v : Value} {own : Option Nat} {a : Nat} {er : Int} (h : RcsI q p g off cap bs tick time base w k z rs v own a er wr) (hk : k ≤ k') : RcsI q p g off cap bs tick time base w k' z rs v own a er wr :=
  { h with len := by have := h.len; omega }
/-- The world turns, but neither the parser nor the row. -/
theorem RcsI.to {q p g off cap k : Nat} {bs : List Nat} {tick time base z : Int} {w wr w2 : World} {rs : List RecM} {v : Value} {own : Option Nat} {a a2 : Nat} {er er2 : Int} (h : RcsI q p g off cap bs tick time base w k z rs v own a er wr) (hr : RdG w2 p g off cap bs a2 er2) (hk : Kept (· = p) wr w2) (hqp : q ≠ p) (hp : p < w.heap.size) : RcsI q p g off cap bs tick time base w k z rs v own a2 er2 w2 :=
  { h with rd := hr, par := hk.blk h.par hqp, sl := h.sl.kept hk (fun g' e e2 => by
      rcases h.ow with h0 | ⟨g1, h1, h2⟩
      · rw [h0] at e; cases e
      · rw [h1] at e
        have := Option.some.inj e
        omega), kept := h.kept.trans hk (fun _ h => .inl (.inl h)) }
theorem RcsI.push {q p g off cap k : Nat} {bs : List Nat} {tick time base z : Int} {w W w3 : World} {rs : List RecM} {v v3 : Value} {own o3 : Option Nat} {a : Nat} {er : Int} (h : RcsI q p g off cap bs tick time base w k z rs v own a er W) (r : RecM) (hr : RecIn r) (h0 : -1 ≤ r.id) (h1 : r.id ≤ 65535) (hqp : q ≠ p) (hqg : q ≠ g) (hp : p < w.heap.size) (hq : q < w.heap.size) (hg : g < w.heap.size)
    (hS : Sl w3 v3 175 9 (rs.length + 1) (rsC rs ++ recC r) o3) (ho : o3 = own ∨ ∃ g, o3 = some g ∧ w.heap.size ≤ g) (hK : Kept (fun i => own = some i) W w3) :
    RcsI q p g off cap bs tick time base w (k + 1) r.id (rs ++ [r]) v3 o3 a er (w3.setCell ⟨q, 4, none⟩ v3) := by
  have hown : ∀ i, own = some i → w.heap.size ≤ i := by
    intro i e
    rcases h.ow with h0 | ⟨g1, h1, h2⟩
    · rw [h0] at e; cases e
    · rw [h1] at e
      have := Option.some.inj e
      omega
  have hown3 : o3 = none ∨ ∃ g, o3 = some g ∧ w.heap.size ≤ g := by
    rcases ho with e | e
    · rw [e]; exact h.ow
    · exact .inr e
  have KS := (Kept.refl (· = q) w3).setCell (a := ⟨q, 4, none⟩) (.inl rfl) v3
  refine ⟨(h.rd.kept hK (fun e => ?_) (fun e => ?_)).kept KS (fun e => hqp e.symm) (fun e => hqg e.symm), (hK.blk h.par (fun e => ?_)).set 4 v3, ?_, hown3, ?_, ?_, h0, h1, (h.kept.trans hK (fun i e => .inr (hown i e))).trans KS (fun _ h => .inl (.inr h))⟩
  · have := hown _ e; omega
  · have := hown _ e; omega
  · have := hown _ e; omega
  · rw [rsC_app, List.length_append]
    exact hS.kept KS (fun g' e e2 => by
      rcases hown3 with h0 | ⟨g1, h1, h2⟩
      · rw [h0] at e; cases e
      · rw [h1] at e
        have := Option.some.inj e
        omega)
  · intro r' hr'
    rcases List.mem_append.1 hr' with h' | h'
    · exact h.ok r' h'
    · rw [List.mem_singleton.1 h']; exact hr
  · rw [List.length_append]; have := h.len; simp; omega
set_option maxRecDepth 100000 in
set_option maxHeartbeats 4000000 in
theorem grecords_calls (tick time base : Int) (w : World) (q p g off cap : Nat) (bs : List Nat) (a : Nat) (er : Int) (hq : Blk w q (parC p tick time base (.slice none 0 0)) 213) (hqp : q ≠ p) (hqg : q ≠ g) (h : RdG w p g off cap bs a er) :
    Calls Tryz.prog 112 #[.pointer (some ⟨q, 0, none⟩)] w (RcsPost q p g off cap bs tick time base w) := by
  have H1 := Lib.hid (guint_calls 128 w p g off cap bs a er h)
  have H2 := Lib.hid (fun z W a er (h0 : -1 ≤ z) (h1 : z ≤ 65535) (h : RdG W p g off cap bs a er) => greadRec_calls z W p g off cap bs a er h h0 h1)
  have hpl := h.blk.lt
  have hql := hq.lt
  have hgl := h.gl
  have q0 := hq.cell (i := 0) rfl
  have HI0 : Hid (RcsI q p g off cap bs tick time base w 0 (-1) [] (.slice none 0 0) none a er w) := Lib.hid ⟨h, hq, Sl.nil _ _ _, .inl rfl, by simp, by simp, by omega, by omega, Kept.refl _ _⟩
  clear h hq
  go_enter Tryz.func112, Tryz.ntmps112
  go_wp2_with fail
  refine (H1.out).mono ?_
  rintro e w1 ⟨n, a1, er1, rfl, hn, hr1, -, hk1⟩
  have HI1 := Lib.hid (HI0.out.to hr1 hk1 hqp hpl)
  have hn2 : (n : Int) ≤ 128 := by omega
  clear hr1 hk1 q0 hn HI0
  go_wp2_with fail
  go_loopw [2, 10] (fun l i wr => ∃ (k : Nat) (z : Int) (rs : List RecM) (v : Value) (own : Option Nat) (a : Nat) (er : Int), i = .int .u64 k ∧ l = .int .i64 z ∧ k ≤ n ∧ RcsI q p g off cap bs tick time base w k z rs v own a er wr) (fun _ i _ => ((n : Int) - intOf i).toNat)
  case atStart => exact ⟨0, -1, _, _, _, _, _, rfl, rfl, by omega, HI1.out⟩
  case round =>
    obtain ⟨k, z, rs, v, own, a2, er2, rfl, rfl, hkn, hI⟩ := hrel
    have HI := Lib.hid hI
    have q0 := hI.par.cell (i := 0) rfl
    have hz0 := hI.z0
    have hz1 := hI.z1
    clear hI
    by_cases hlt : (k : Int) < n
    · go_wp2_with fail
      refine (H2.out _ _ _ _ hz0 hz1 HI.out.rd).mono ?_
      rintro e w2 ⟨r, erR, a3, er3, rfl, hr3, hok, he0, he1, hez, hk3⟩
      have HJ := Lib.hid (HI.out.to hr3 hk3 hqp hpl)
      have HOK := Lib.hid hok
      have HEZ := Lib.hid hez
      clear hr3 hk3 q0 hok hez
      cases hne : (erR != 0) with
      | true =>
        go_wp2_with fail
        go_end0
        have hJ := HJ.out
        have ka := (Kept.refl (fun _ => False) w2).alloc (.cells #[.int .i64 r.kind, .int .i64 r.id, .int .i64 r.p0, .int .i64 r.p1, .int .i64 r.p2, .int .i64 r.v0, .int .i64 r.v1, .int .i64 r.v2, .int .u16 r.ang] 175)
        exact ⟨_, _, _, _, _, _, rfl, (hJ.to (hJ.rd.kept ka (fun h => h) (fun h => h)) (ka.mono (fun _ _ h => h.elim)) hqp hpl).up (by omega)⟩
      | false =>
        obtain rfl : erR = 0 := by simpa using hne
        have hid0 := (HEZ.out rfl).1
        have hid1 := (HEZ.out rfl).2.1
        have HRI : Hid (RecIn r) := Lib.hid ⟨HOK.out, by unfold I64; have := HEZ.out rfl; omega, by unfold I64; have := HEZ.out rfl; omega⟩
        clear hne he0 he1
        go_wp2_with fail
        refine at_world (fun W => RcsI q p g off cap bs tick time base w k z rs v own a3 er3 W ∧ Blk W w2.heap.size (recC r) 175) ⟨(by
          have hJ := HJ.out
          have ka := (Kept.refl (fun _ => False) w2).alloc (.cells #[.int .i64 r.kind, .int .i64 r.id, .int .i64 r.p0, .int .i64 r.p1, .int .i64 r.p2, .int .i64 r.v0, .int .i64 r.v1, .int .i64 r.v2, .int .u16 r.ang] 175)
          exact hJ.to (hJ.rd.kept ka (fun h => h) (fun h => h)) (ka.mono (fun _ _ h => h.elim)) hqp hpl), Blk.new w2 _ _⟩ ?_
        rintro W ⟨hJ2, BM⟩
        have hw2 := HJ.out.kept.size
        have HJ2 := Lib.hid hJ2
        have HBM := Lib.hid BM
        have HBQ := Lib.hid hJ2.par
        have HSL := Lib.hid hJ2.sl
        have HNQ : Hid (own ≠ some q) := Lib.hid (fun e => by
          rcases hJ2.ow with h0 | ⟨g1, h1, h2⟩
          · rw [h0] at e; cases e
          · rw [h1] at e
            have := Option.some.inj e
            omega)
        have HNM : Hid (own ≠ some w2.heap.size) := Lib.hid (fun e => by
          have := (HJ.out.sl.lt e)
          omega)
        obtain ⟨av, capv, rfl, -, -⟩ := hJ2.sl.form
        have q4 := hJ2.par.cell (i := 4) rfl
        have hqW := hJ2.par.lt
        have hmW := BM.lt
        have m0 := BM.cell (i := 0) rfl
        have m1 := BM.cell (i := 1) rfl
        have m2 := BM.cell (i := 2) rfl
        have m3 := BM.cell (i := 3) rfl
        have m4 := BM.cell (i := 4) rfl
        have m5 := BM.cell (i := 5) rfl
        have m6 := BM.cell (i := 6) rfl
        have m7 := BM.cell (i := 7) rfl
        have m8 := BM.cell (i := 8) rfl
        have nq : q ≠ W.heap.size := by omega
        have nm : w2.heap.size ≠ W.heap.size := by omega
        have hlen := hJ2.len
        clear BM hJ2
        obtain ⟨j0, hi, hz0', hz1', hz2'⟩ := info_parts infoRec
        have HIn := Lib.hid hi
        have HZ0 := Lib.hid hz0'
        have HZ1 := Lib.hid hz1'
        have HZ2 := Lib.hid hz2'
        have HSR : Hid (∀ W : World, Src (W.alloc (.cells #[.int .i64 r.kind, .int .i64 r.id, .int .i64 r.p0, .int .i64 r.p1, .int .i64 r.p2, .int .i64 r.v0, .int .i64 r.v1, .int .i64 r.v2, .int .u16 r.ang] 175)) (.slice (some ⟨W.heap.size, 0, none⟩) 1 1) 1 (recC r)) := Lib.hid (fun W => (Sl.made W (recC r) 175 9 1 rfl (by decide)).src)
        have HO : Hid (∀ u ∈ recC r, u.oneCell' = true) := Lib.hid (by simp [Value.oneCell'])
        have N1 : Hid (rs.length + 1 ≤ maxLen) := Lib.hid (by unfold maxLen; omega)
        have N2 : Hid ((rs.length + 1) * 72 ≤ 140737488355328) := Lib.hid (by omega)
        clear hi hz0' hz1' hz2'
        go_region_law ((refine step_append_sl _ (by rfl) _ _ _ (by rfl) 175 j0 (.agg zrec.toArray) 9 72 Tryz.underlying76 HIn.out HZ0.out HZ1.out HZ2.out rfl _ rs.length (rsC rs) own (by rfl) (by first | exact HSL.out.alloc _ | exact HSL.out.drew.alloc _) _ 1 (recC r) (by rfl) (by exact HSR.out _) rfl HO.out N1.out N2.out ?_; intro v3 w3 o3 hS3 ho3 hk3; have hS3' := hS3; obtain ⟨a3', cap3, rfl, -, -⟩ := hS3'.form; have c4 := (hk3.blk (HBQ.out.drew.alloc _) HNQ.out).cell (i := 4) rfl; have f4 := (hk3.blk (HBQ.out.drew.alloc _) HNQ.out).free 4; have c1 := (hk3.blk (HBM.out.drew.alloc _) HNM.out).cell (i := 1) rfl))
        all_goals
          have HP : Hid (RcsI q p g off cap bs tick time base w (k + 1) r.id (rs ++ [r]) (.slice a3' (rs.length + 1) cap3) o3 a3 er3 (w3.setCell ⟨q, 4, none⟩ (.slice a3' (rs.length + 1) cap3))) := Lib.hid (by
            have kA := ((Kept.refl (fun k => own = some k) W).drew.alloc (.cells #[.int .i64 r.kind, .int .i64 r.id, .int .i64 r.p0, .int .i64 r.p1, .int .i64 r.p2, .int .i64 r.v0, .int .i64 r.v1, .int .i64 r.v2, .int .u16 r.ang] 175)).trans hk3 (fun _ h => .inl h)
            have zW := HJ2.out.kept.size
            refine HJ2.out.push r HRI.out (by omega) hid1 hqp hqg hpl hql hgl hS3 ?_ kA
            rcases ho3 with e | e
            · exact .inl e
            · exact .inr ⟨_, e, by simp; omega⟩)
          clear hS3 hS3' ho3 hk3 c4 f4 c1 q4 m0 m1 m2 m3 m4 m5 m6 m7 m8
          go_wp2_with fail
          exact ⟨⟨k + 1, _, _, _, _, _, _, by simp, rfl, by omega, HP.out⟩, by simp [intOf]; omega⟩
    · go_wp2_with fail
      go_end0
      exact ⟨_, _, _, _, _, _, rfl, HI.out.up (by omega)⟩
end Go.Proofs.YtekdkckgmleofaaGreat
