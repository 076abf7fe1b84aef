/- Joined texts. -/
import Derived.Test.YtekdkckgmleofaaGreatXf19
import Derived.Test.YtekdkckgmleofaaGreatXf18
import Derived.DeepKeys
import Derived.Test.YtekdkckgmleofaaGreatXf01
set_option linter.unusedVariables false
set_option linter.unusedSimpArgs false
/- Contracts of package record's functions at any bytes: readAll, readSome. -/
namespace Go.Proofs.YtekdkckgmleofaaGreat
open Go.RowKit
def RdsPost (r : RecM) (p g off cap q : Nat) (bs : List Nat) (w : World) (e : Ending) (w' : World) : Prop :=
  ∃ (r' : RecM) (a' : Nat) (er' : Int), e = .returned (.tuple #[]) ∧ RdG w' p g off cap bs a' er' ∧ Blk w' q (recC r') 175 ∧ r'.Ok ∧ r'.kind = r.kind ∧ r'.id = r.id ∧ Kept (fun i => i = p ∨ i = q) w w'
theorem rec_ok {k i x y z u v t : Int} {ang : Nat} (h0 : I64 x) (h1 : I64 y) (h2 : I64 z) (h3 : I64 u) (h4 : I64 v) (h5 : I64 t) (ha : ang ≤ 65535) : RecM.Ok ⟨k, i, x, y, z, u, v, t, ang⟩ := by
  refine ⟨?_, ha⟩
  unfold I64 at *
  intro n hn
  simp only [RecM.ns, List.mem_cons, List.not_mem_nil, or_false] at hn
  rcases hn with rfl | rfl | rfl | rfl | rfl | rfl <;> omega
set_option maxRecDepth 100000 in
set_option maxHeartbeats 2000000 in
theorem greadAll_calls (r : RecM) (w : World) (p g off cap q : Nat) (bs : List Nat) (a : Nat) (er : Int) (h : RdG w p g off cap bs a er) (hq : Blk w q (recC r) 175) (hqp : q ≠ p) (hqg : q ≠ g) :
    Calls Tryz.prog 171 #[.pointer (some ⟨p, 0, none⟩), .pointer (some ⟨q, 0, none⟩)] w (RdsPost r p g off cap q bs w) := by
  have HV := Lib.hid (fun W a er (h : RdG W p g off cap bs a er) => gvec_calls W p g off cap bs a er h)
  have HU := Lib.hid (fun W a er (h : RdG W p g off cap bs a er) => guint_calls 65535 W p g off cap bs a er h)
  have HH := Lib.hid h
  have HQ := Lib.hid hq
  clear h hq
  go_enter Tryz.func171, Tryz.ntmps171
  go_wp2_with fail
  refine (HV.out _ _ _ HH.out).mono ?_
  rintro e w1 ⟨x, y, z, a1, er1, rfl, hx, hy, hz, hr1, -, hk1⟩
  have HR1 := Lib.hid hr1
  have HK1 := Lib.hid hk1
  have HQ1 := Lib.hid (hk1.blk HQ.out hqp)
  have HX := Lib.hid (And.intro hx (And.intro hy hz))
  clear hr1 hk1 hx hy hz
  go_wp2_with fail
  refine (HV.out _ _ _ HR1.out).mono ?_
  rintro e w2 ⟨u, v, t, a2, er2, rfl, hu, hv, ht, hr2, -, hk2⟩
  have q2 := hk2.blk HQ1.out hqp
  have c2 := q2.cell (i := 2) rfl
  have c3 := q2.cell (i := 3) rfl
  have c4 := q2.cell (i := 4) rfl
  have c5 := q2.cell (i := 5) rfl
  have c6 := q2.cell (i := 6) rfl
  have c7 := q2.cell (i := 7) rfl
  have f2 := q2.free 2
  have f3 := q2.free 3
  have f4 := q2.free 4
  have f5 := q2.free 5
  have f6 := q2.free 6
  have f7 := q2.free 7
  have HR2 := Lib.hid hr2
  have HK2 := Lib.hid hk2
  have HQ2 := Lib.hid q2
  have HU2 := Lib.hid (And.intro hu (And.intro hv ht))
  have c8 := q2.cell (i := 8) rfl
  have f8 := q2.free 8
  clear hr2 hk2 q2 hu hv ht
  go_wp2_with fail
  have KS := (((((((Kept.refl (· = q) w2).setCell (a := ⟨q, 2, none⟩) (.inl rfl) (.int .i64 x)).setCell (a := ⟨q, 3, none⟩) (.inl rfl) (.int .i64 y)).setCell (a := ⟨q, 4, none⟩) (.inl rfl) (.int .i64 z)).setCell (a := ⟨q, 5, none⟩) (.inl rfl) (.int .i64 u)).setCell (a := ⟨q, 6, none⟩) (.inl rfl) (.int .i64 v)).setCell (a := ⟨q, 7, none⟩) (.inl rfl) (.int .i64 t))
  have BS := ((((((HQ2.out.set 2 (.int .i64 x)).set 3 (.int .i64 y)).set 4 (.int .i64 z)).set 5 (.int .i64 u)).set 6 (.int .i64 v)).set 7 (.int .i64 t))
  refine (HU.out _ _ _ (HR2.out.kept KS (fun e => hqp e.symm) (fun e => hqg e.symm))).mono ?_
  rintro e w3 ⟨ang, a3, er3, rfl, hang, hr3, -, hk3⟩
  have q3 := hk3.blk BS hqp
  have d8 := q3.cell (i := 8) rfl
  have e8 := q3.free 8
  have HR3 := Lib.hid hr3
  have HQ3 := Lib.hid q3
  have HK3 := Lib.hid ((((HK1.out.mono (G := fun i => i = p ∨ i = q) (fun _ _ h => .inl h)).trans HK2.out (fun _ h => .inl (.inl h))).trans KS (fun _ h => .inl (.inr h))).trans hk3 (fun _ h => .inl (.inl h)))
  have hx0 : (0 : Int) ≤ ang := by omega
  have hx1 : (ang : Int) ≤ 65535 := by omega
  clear KS BS hr3 hk3 q3 c2 c3 c4 c5 c6 c7 c8 f2 f3 f4 f5 f6 f7 f8
  go_wp2_with fail
  go_end0
  refine ⟨⟨r.kind, r.id, x, y, z, u, v, t, ang⟩, a3, er3, rfl, HR3.out.kept ((Kept.refl (· = q) w3).setCell (a := ⟨q, 8, none⟩) (.inl rfl) _) (fun e => hqp e.symm) (fun e => hqg e.symm), ?_, rec_ok HX.out.1 HX.out.2.1 HX.out.2.2 HU2.out.1 HU2.out.2.1 HU2.out.2.2 hang, rfl, rfl, HK3.out.setCell (.inl (.inr rfl)) _⟩
  exact HQ3.out.set 8 (.int .u16 ang)
/-- A number of a record is set. -/
def setN (r : RecM) : Nat → Int → RecM
  | 0, n => { r with p0 := n }
  | 1, n => { r with p1 := n }
  | 2, n => { r with p2 := n }
  | 3, n => { r with v0 := n }
  | 4, n => { r with v1 := n }
  | _, n => { r with v2 := n }
def getN (r : RecM) : Nat → Int
  | 0 => r.p0
  | 1 => r.p1
  | 2 => r.p2
  | 3 => r.v0
  | 4 => r.v1
  | _ => r.v2
theorem six {k : Nat} (h : k < 6) : k = 0 ∨ k = 1 ∨ k = 2 ∨ k = 3 ∨ k = 4 ∨ k = 5 := by omega
theorem rec_cell (r : RecM) {k : Nat} (h : k < 6) : (recC r)[k + 2]? = some (.int .i64 (getN r k)) := by
  rcases six h with rfl | rfl | rfl | rfl | rfl | rfl <;> rfl
theorem rec_set (r : RecM) {k : Nat} (h : k < 6) (n : Int) : (recC r).set (k + 2) (.int .i64 n) = recC (setN r k n) := by
  rcases six h with rfl | rfl | rfl | rfl | rfl | rfl <;> rfl
theorem setN_ok {r : RecM} (h : r.Ok) {k : Nat} (hk : k < 6) {n : Int} (hn : I64 n) : (setN r k n).Ok ∧ (setN r k n).kind = r.kind ∧ (setN r k n).id = r.id := by
  have hns := h.ns
  simp only [RecM.ns, List.mem_cons, List.not_mem_nil, or_false, forall_eq_or_imp, forall_eq] at hns
  unfold I64 at hn
  refine ⟨⟨?_, ?_⟩, ?_, ?_⟩
  · rcases six hk with rfl | rfl | rfl | rfl | rfl | rfl <;> simp only [setN, RecM.ns, List.mem_cons, List.not_mem_nil, or_false, forall_eq_or_imp, forall_eq] <;> omega
  · rcases six hk with rfl | rfl | rfl | rfl | rfl | rfl <;> exact h.ang
  · rcases six hk with rfl | rfl | rfl | rfl | rfl | rfl <;> rfl
  · rcases six hk with rfl | rfl | rfl | rfl | rfl | rfl <;> rfl
theorem ptr_idx (q : Nat) {k : Nat} (h : k < 6) (W : World) : (Instr.index 231 (ptrsV q) (.int .i64 k)).run Tryz.prog W = .ok (.pointer (some ⟨q, k + 2, none⟩)) W := by
  rcases six h with rfl | rfl | rfl | rfl | rfl | rfl <;> kernel_rfl
structure RsI (r : RecM) (p g off cap q : Nat) (bs : List Nat) (a : Nat) (er : Int) (r' : RecM) (w wr : World) : Prop where
  rd : RdG wr p g off cap bs a er
  blk : Blk wr q (recC r') 175
  ok : r'.Ok
  kind : r'.kind = r.kind
  id : r'.id = r.id
  kept : Kept (fun i => i = p ∨ i = q) w wr
theorem RsI.put {r r' : RecM} {p g off cap q a a2 : Nat} {bs : List Nat} {er er2 : Int} {w wr w2 : World} (h : RsI r p g off cap q bs a er r' w wr) (h2 : RdG w2 p g off cap bs a2 er2) (hk : Kept (· = p) wr w2) (hqp : q ≠ p) : RsI r p g off cap q bs a2 er2 r' w w2 :=
  ⟨h2, hk.blk h.blk hqp, h.ok, h.kind, h.id, h.kept.trans hk (fun _ h => .inl (.inl h))⟩
set_option maxRecDepth 100000 in
set_option maxHeartbeats 4000000 in
theorem greadSome_calls (r : RecM) (hr : r.Ok) (w : World) (p g off cap q : Nat) (bs : List Nat) (a : Nat) (er : Int) (h : RdG w p g off cap bs a er) (hq : Blk w q (recC r) 175) (hqp : q ≠ p) (hqg : q ≠ g) :
    Calls Tryz.prog 173 #[.pointer (some ⟨p, 0, none⟩), .pointer (some ⟨q, 0, none⟩)] w (RdsPost r p g off cap q bs w) := by
  have HB := Lib.hid (fun W a er (h : RdG W p g off cap bs a er) => gbyte_calls W p g off cap bs a er h)
  have HF := Lib.hid (fun W a er (h : RdG W p g off cap bs a er) => gfail_calls W p g off cap bs a er 7 h (by omega) (by omega))
  have HN := Lib.hid (fun W => numbers_calls q W)
  have HI := Lib.hid (fun W a er (h : RdG W p g off cap bs a er) => gint_calls W p g off cap bs a er h)
  have HU := Lib.hid (fun W a er (h : RdG W p g off cap bs a er) => guint_calls 65535 W p g off cap bs a er h)
  have HH := Lib.hid h
  have HQ := Lib.hid hq
  have HR := Lib.hid hr
  clear h hq hr
  go_enter Tryz.func173, Tryz.ntmps173
  go_wp2_with fail
  refine (HB.out _ _ _ HH.out).mono ?_
  rintro e w1 ⟨m, a1, er1, rfl, hm, hr1, -, hk1⟩
  have HR1 := Lib.hid hr1
  have HK1 := Lib.hid hk1
  have HQ1 := Lib.hid (hk1.blk HQ.out hqp)
  clear hr1 hk1
  generalize (m : Int) = m at *
  cases hm0 : (m == 0) with
  | true =>
    go_wp2_with fail
    refine (HF.out _ _ _ HR1.out).mono ?_
    rintro e w2 ⟨er2, rfl, hr2, -, -, hk2⟩
    have HR2 := Lib.hid hr2
    have HK2 := Lib.hid ((HK1.out.mono (G := fun i => i = p ∨ i = q) (fun _ _ h => .inl h)).trans hk2 (fun _ h => .inl (.inl h)))
    have HQ2 := Lib.hid (hk2.blk HQ1.out hqp)
    clear hr2 hk2
    go_wp2_with fail
    first
      | (go_end0; exact ⟨r, a1, er2, rfl, HR2.out, HQ2.out, HR.out, rfl, rfl, HK2.out⟩)
      | exact bodyPost_ret (results_none rfl _ _ _) rfl ⟨r, a1, er2, rfl, HR2.out, HQ2.out, HR.out, rfl, rfl, HK2.out⟩
  | false =>
    by_cases hm1 : (127 : Int) < m
    · skip
      go_wp2_with fail
      refine (HF.out _ _ _ HR1.out).mono ?_
      rintro e w2 ⟨er2, rfl, hr2, -, -, hk2⟩
      have HR2 := Lib.hid hr2
      have HK2 := Lib.hid ((HK1.out.mono (G := fun i => i = p ∨ i = q) (fun _ _ h => .inl h)).trans hk2 (fun _ h => .inl (.inl h)))
      have HQ2 := Lib.hid (hk2.blk HQ1.out hqp)
      clear hr2 hk2
      go_wp2_with fail
      first
        | (go_end0; exact ⟨r, a1, er2, rfl, HR2.out, HQ2.out, HR.out, rfl, rfl, HK2.out⟩)
        | exact bodyPost_ret (results_none rfl _ _ _) rfl ⟨r, a1, er2, rfl, HR2.out, HQ2.out, HR.out, rfl, rfl, HK2.out⟩
    · have HIX := Lib.hid (fun k (h : k < 6) W => ptr_idx q (k := k) h W)
      go_wp2_with fail
      refine (HN.out _).mono ?_
      rintro e w2 ⟨rfl, hk2⟩
      have HS : Hid (RsI r p g off cap q bs a1 er1 r w w2) := Lib.hid ⟨HR1.out.kept hk2 (fun h => h) (fun h => h), hk2.blk HQ1.out (fun h => h), HR.out, rfl, rfl, (HK1.out.mono (G := fun i => i = p ∨ i = q) (fun _ _ h => .inl h)).trans hk2 (fun _ h => h.elim)⟩
      clear hk2
      go_wp2_with fail
      go_loopw [19] (fun i wr => ∃ (k b : Nat) (e : Int) (r' : RecM), i = .int .i64 k ∧ k ≤ 6 ∧ RsI r p g off cap q bs b e r' w wr) (fun i _ => (6 - intOf i).toNat)
      case atStart => exact ⟨0, a1, er1, r, rfl, by omega, HS.out⟩
      case round =>
        obtain ⟨k, b, e, r', rfl, hk, hI⟩ := hrel
        have HJ := Lib.hid hI
        clear hI
        by_cases hlt : (k : Int) < 6
        · have hk6 : k < 6 := by omega
          have hix := HIX.out k hk6
          cases hbit : (bits .and .u8 (m / 2 ^ k) 1 == 0) with
          | true =>
            go_wp2_with fail
            exact ⟨⟨k + 1, b, e, r', by simp, by omega, HJ.out⟩, by simp [intOf]; omega⟩
          | false =>
            go_wp2_with fail
            refine (HI.out _ _ _ HJ.out.rd).mono ?_
            rintro e3 w3 ⟨n, a3, er3, rfl, hn, hr3, -, hk3⟩
            have q3 := hk3.blk HJ.out.blk hqp
            have c3 := q3.cell (i := k + 2) (rec_cell r' hk6)
            have f3 := q3.free (k + 2)
            obtain ⟨o1, o2, o3⟩ := setN_ok HJ.out.ok hk6 hn
            have HS3 : Hid (RsI r p g off cap q bs a3 er3 (setN r' k n) w (w3.setCell ⟨q, k + 2, none⟩ (.int .i64 n))) := Lib.hid ⟨hr3.kept ((Kept.refl (· = q) w3).setCell (a := ⟨q, k + 2, none⟩) (.inl rfl) _) (fun e => hqp e.symm) (fun e => hqg e.symm), by rw [← rec_set r' hk6]; exact q3.set (k + 2) _, o1, o2.trans HJ.out.kind, o3.trans HJ.out.id, (HJ.out.kept.trans hk3 (fun _ h => .inl (.inl h))).setCell (.inl (.inr rfl)) _⟩
            have d3 : (w3.setCell ⟨q, k + 2, none⟩ (.int .i64 n)).cell? ⟨q, k + 2, none⟩ = some (.int .i64 n) := by
              have := HS3.out.blk.cell (i := k + 2) (rec_cell _ hk6)
              rw [this]
              rcases six hk6 with rfl | rfl | rfl | rfl | rfl | rfl <;> rfl
            clear hr3 hk3 q3 o1 o2 o3 hn
            cases hn0 : (n == 0) with
            | false =>
              go_wp2_with fail
              exact ⟨⟨k + 1, a3, er3, _, by simp, by omega, HS3.out⟩, by simp [intOf]; omega⟩
            | true =>
              go_wp2_with fail
              refine (HF.out _ _ _ HS3.out.rd).mono ?_
              rintro e4 w4 ⟨er4, rfl, hr4, -, -, hk4⟩
              have HS4 := Lib.hid (HS3.out.put hr4 hk4 hqp)
              clear hr4 hk4
              go_wp2_with fail
              exact ⟨⟨k + 1, a3, er4, _, by simp, by omega, HS4.out⟩, by simp [intOf]; omega⟩
        · cases hb6 : (bits .and .u8 m 64 != 0) with
          | false =>
            go_wp2_with fail
            go_end0
            exact ⟨r', b, e, rfl, HJ.out.rd, HJ.out.blk, HJ.out.ok, HJ.out.kind, HJ.out.id, HJ.out.kept⟩
          | true =>
            go_wp2_with fail
            refine (HU.out _ _ _ HJ.out.rd).mono ?_
            rintro e3 w3 ⟨ang, a3, er3, rfl, hang, hr3, -, hk3⟩
            have q3 := hk3.blk HJ.out.blk hqp
            have c8 := q3.cell (i := 8) rfl
            have f8 := q3.free 8
            have HS3 : Hid (RsI r p g off cap q bs a3 er3 { r' with ang := ang } w (w3.setCell ⟨q, 8, none⟩ (.int .u16 ang))) := Lib.hid ⟨hr3.kept ((Kept.refl (· = q) w3).setCell (a := ⟨q, 8, none⟩) (.inl rfl) _) (fun e => hqp e.symm) (fun e => hqg e.symm), q3.set 8 _, ⟨HJ.out.ok.ns, hang⟩, HJ.out.kind, HJ.out.id, (HJ.out.kept.trans hk3 (fun _ h => .inl (.inl h))).setCell (.inl (.inr rfl)) _⟩
            have d8 : (w3.setCell ⟨q, 8, none⟩ (.int .u16 ang)).cell? ⟨q, 8, none⟩ = some (.int .u16 ang) := HS3.out.blk.cell (i := 8) rfl
            have hx0 : (0 : Int) ≤ ang := by omega
            have hx1 : (ang : Int) ≤ 65535 := by omega
            clear hr3 hk3 q3 hang
            generalize (ang : Int) = an at *
            cases hn0 : (an == 0) with
            | false =>
              go_wp2_with fail
              go_end0
              exact ⟨_, a3, er3, rfl, HS3.out.rd, HS3.out.blk, HS3.out.ok, HS3.out.kind, HS3.out.id, HS3.out.kept⟩
            | true =>
              go_wp2_with fail
              refine (HF.out _ _ _ HS3.out.rd).mono ?_
              rintro e4 w4 ⟨er4, rfl, hr4, -, -, hk4⟩
              have HS4 := Lib.hid (HS3.out.put hr4 hk4 hqp)
              clear hr4 hk4
              go_wp2_with fail
              go_end0
              exact ⟨_, a3, er4, rfl, HS4.out.rd, HS4.out.blk, HS4.out.ok, HS4.out.kind, HS4.out.id, HS4.out.kept⟩
end Go.Proofs.YtekdkckgmleofaaGreat

/- Contracts of package record's functions for any record: Check. -/
namespace Go.Proofs.YtekdkckgmleofaaGreat
open Go.RowKit
theorem i64_wf {n : Int} (h : I64 n) : (Lit.int .i64 n).wf = true := by
  unfold I64 at h
  simp only [Lit.wf, Bool.and_eq_true, decide_eq_true_eq]
  have e1 : IntKind.i64.min = -9223372036854775808 := by decide +kernel
  have e2 : IntKind.i64.max = 9223372036854775807 := by decide +kernel
  omega
theorem u16_wf {n : Nat} (h : n ≤ 65535) : (Lit.int .u16 (n : Int)).wf = true := by
  simp only [Lit.wf, Bool.and_eq_true, decide_eq_true_eq]
  have e1 : IntKind.u16.min = 0 := by decide +kernel
  have e2 : IntKind.u16.max = 65535 := by decide +kernel
  omega
/-- What a record's numbers are. -/
structure RecIn (r : RecM) : Prop where
  ok : r.Ok
  k : I64 r.kind
  i : I64 r.id
theorem lits1 {P : Program} {d : Nat} {t : TypeId} {k : IntKind} {n : Int} (hu : P.underlying t = some (.int k)) (h : (Lit.int k n).wf = true) : P.keyLits (d + 1) t [.int k n] = some [.int k n] := by
  unfold Program.keyLits
  rw [hu]
  simp [h]
theorem lits3 {d : Nat} {a b c : Int} (ha : (Lit.int .i64 a).wf = true) (hb : (Lit.int .i64 b).wf = true) (hc : (Lit.int .i64 c).wf = true) : Tryz.prog.keyLits (d + 2) 36 [.int .i64 a, .int .i64 b, .int .i64 c] = some [.int .i64 a, .int .i64 b, .int .i64 c] := by
  have k3 : Tryz.prog.cellsOf 36 = 3 := by kernel_rfl
  have k1 : Tryz.prog.cellsOf 2 = 1 := by kernel_rfl
  have r3 : List.range 3 = [0, 1, 2] := rfl
  unfold Program.keyLits
  rw [Tryz.underlying36]
  simp only [k3, k1, r3, List.length_cons, List.length_nil, if_true, List.mapM_cons, List.mapM_nil, Nat.zero_mul, Nat.one_mul, List.drop_zero, List.drop_succ_cons, List.take_succ_cons, List.take_zero, Nat.reduceMul, lits1 Tryz.underlying2 ha, lits1 Tryz.underlying2 hb, lits1 Tryz.underlying2 hc]
  rfl
theorem rec_lits {r : RecM} (h : RecIn r) : ∃ L, Tryz.prog.keyLits 3 175 (recC r) = some L := by
  have hns := h.ok.ns
  simp only [RecM.ns, List.mem_cons, List.not_mem_nil, or_false, forall_eq_or_imp, forall_eq] at hns
  obtain ⟨n0, n1, n2, n3, n4, n5⟩ := hns
  have w0 := i64_wf (n := r.p0) n0
  have w1 := i64_wf (n := r.p1) n1
  have w2 := i64_wf (n := r.p2) n2
  have w3 := i64_wf (n := r.v0) n3
  have w4 := i64_wf (n := r.v1) n4
  have w5 := i64_wf (n := r.v2) n5
  have wk := i64_wf h.k
  have wi := i64_wf h.i
  have wa := u16_wf h.ok.ang
  have kc : Tryz.prog.cellsOf 175 = 9 := by kernel_rfl
  have ki : Tryz.prog.cellsOf 3 = 1 := by kernel_rfl
  have k3 : Tryz.prog.cellsOf 36 = 3 := by kernel_rfl
  have ka : Tryz.prog.cellsOf 37 = 1 := by kernel_rfl
  unfold Program.keyLits
  rw [Tryz.underlying175]
  simp only [kc, ki, k3, ka, List.length_cons, List.length_nil, List.mapM_cons, List.mapM_nil, List.drop_zero, List.drop_succ_cons, List.take_succ_cons, List.take_zero, lits1 Tryz.underlying3 wk, lits1 Tryz.underlying3 wi, lits3 w0 w1 w2, lits3 w3 w4 w5, lits1 Tryz.underlying37 wa]
  rw [if_pos ⟨trivial, by kernel_rfl⟩]
  exact ⟨_, rfl⟩
theorem req_any {r s : RecM} (hr : RecIn r) (hs : RecIn s) : ∃ b : Bool, ∀ W, Sem.run Tryz.prog (Op.equalIn 10000 175 (recV r) (recV s)) W = .ok b W := by
  obtain ⟨L, hL⟩ := rec_lits hr
  obtain ⟨M, hM⟩ := rec_lits hs
  have key := run_equalIn_deep (P := Tryz.prog) 9997 3 175 (by kernel_rfl)
  rcases Classical.em (L = M) with e | e
  · refine ⟨true, fun W => ?_⟩
    obtain ⟨b, hb, hiff⟩ := key W 3 3 (recV r) (recV s) L M (by kernel_rfl) (by kernel_rfl) hL hM
    rw [hiff.2 e] at hb
    exact hb
  · refine ⟨false, fun W => ?_⟩
    obtain ⟨b, hb, hiff⟩ := key W 3 3 (recV r) (recV s) L M (by kernel_rfl) (by kernel_rfl) hL hM
    cases b
    · exact hb
    · exact absurd (hiff.1 rfl) e
def RCk (r : RecM) (er : Int) : Prop := ∀ W, Calls Tryz.prog 133 #[recV r] W fun e w' => e = .returned (.int .i64 er) ∧ Kept (fun _ => False) W w'
def RckPost (r : RecM) (w : World) (e : Ending) (w' : World) : Prop := ∃ er : Int, e = .returned (.int .i64 er) ∧ 0 ≤ er ∧ er ≤ 17 ∧ (er = 0 → 0 ≤ r.kind ∧ r.kind ≤ 3 ∧ 0 ≤ r.id ∧ r.id ≤ 65535 ∧ RCk r 0) ∧ Kept (fun _ => False) w w'
set_option maxRecDepth 100000 in
set_option maxHeartbeats 8000000 in
theorem rcheck_fix (r : RecM) (h : RecIn r) : ∃ er : Int, 0 ≤ er ∧ er ≤ 17 ∧ (er = 0 → 0 ≤ r.kind ∧ r.kind ≤ 3 ∧ 0 ≤ r.id ∧ r.id ≤ 65535) ∧ RCk r er := by
  have hb : RecIn ⟨r.kind, r.id, 0, 0, 0, 0, 0, 0, 0⟩ := ⟨rec_ok (by unfold I64; omega) (by unfold I64; omega) (by unfold I64; omega) (by unfold I64; omega) (by unfold I64; omega) (by unfold I64; omega) (by omega), h.k, h.i⟩
  obtain ⟨b, hq⟩ := req_any h hb
  have hq2 : ∀ W, Sem.run Tryz.prog (Op.equalIn 10000 175 (.agg #[.int .i64 r.kind, .int .i64 r.id, .int .i64 r.p0, .int .i64 r.p1, .int .i64 r.p2, .int .i64 r.v0, .int .i64 r.v1, .int .i64 r.v2, .int .u16 r.ang]) (.agg #[.int .i64 r.kind, .int .i64 r.id, .int .i64 0, .int .i64 0, .int .i64 0, .int .i64 0, .int .i64 0, .int .i64 0, .int .u16 0])) W = .ok b W := hq
  clear hq hb
  have H := Lib.hid h
  clear h
  by_cases k0 : r.kind < 0
  · skip
    refine ⟨11, by omega, by omega, fun e => absurd e (by decide), fun w => ?_⟩
    have K2 := Lib.hid (((Kept.refl (fun _ => False) w).alloc (.cells (recC r).toArray 175)).alloc (.cells #[.int .i64 r.kind, .int .i64 r.id, .int .i64 0, .int .i64 0, .int .i64 0, .int .i64 0, .int .i64 0, .int .i64 0, .int .u16 0] 175))
    have B0 := (Blk.new w (recC r) 175).alloc (.cells #[.int .i64 r.kind, .int .i64 r.id, .int .i64 0, .int .i64 0, .int .i64 0, .int .i64 0, .int .i64 0, .int .i64 0, .int .u16 0] 175)
    have c0 := B0.cell (i := 0) rfl
    have c1 := B0.cell (i := 1) rfl
    have c2 := B0.cell (i := 2) rfl
    have c3 := B0.cell (i := 3) rfl
    have c4 := B0.cell (i := 4) rfl
    have c5 := B0.cell (i := 5) rfl
    have c6 := B0.cell (i := 6) rfl
    have c7 := B0.cell (i := 7) rfl
    have c8 := B0.cell (i := 8) rfl
    clear B0
    go_enter Tryz.func133, Tryz.ntmps133
    go_wp2_with fail
    go_ret
    exact ⟨rfl, K2.out⟩
  · by_cases k1 : 3 < r.kind
    · skip
      refine ⟨11, by omega, by omega, fun e => absurd e (by decide), fun w => ?_⟩
      have K2 := Lib.hid (((Kept.refl (fun _ => False) w).alloc (.cells (recC r).toArray 175)).alloc (.cells #[.int .i64 r.kind, .int .i64 r.id, .int .i64 0, .int .i64 0, .int .i64 0, .int .i64 0, .int .i64 0, .int .i64 0, .int .u16 0] 175))
      have B0 := (Blk.new w (recC r) 175).alloc (.cells #[.int .i64 r.kind, .int .i64 r.id, .int .i64 0, .int .i64 0, .int .i64 0, .int .i64 0, .int .i64 0, .int .i64 0, .int .u16 0] 175)
      have c0 := B0.cell (i := 0) rfl
      have c1 := B0.cell (i := 1) rfl
      have c2 := B0.cell (i := 2) rfl
      have c3 := B0.cell (i := 3) rfl
      have c4 := B0.cell (i := 4) rfl
      have c5 := B0.cell (i := 5) rfl
      have c6 := B0.cell (i := 6) rfl
      have c7 := B0.cell (i := 7) rfl
      have c8 := B0.cell (i := 8) rfl
      clear B0
      go_enter Tryz.func133, Tryz.ntmps133
      go_wp2_with fail
      go_ret
      exact ⟨rfl, K2.out⟩
    · by_cases i0 : r.id < 0
      · skip
        refine ⟨3, by omega, by omega, fun e => absurd e (by decide), fun w => ?_⟩
        have K2 := Lib.hid (((Kept.refl (fun _ => False) w).alloc (.cells (recC r).toArray 175)).alloc (.cells #[.int .i64 r.kind, .int .i64 r.id, .int .i64 0, .int .i64 0, .int .i64 0, .int .i64 0, .int .i64 0, .int .i64 0, .int .u16 0] 175))
        have B0 := (Blk.new w (recC r) 175).alloc (.cells #[.int .i64 r.kind, .int .i64 r.id, .int .i64 0, .int .i64 0, .int .i64 0, .int .i64 0, .int .i64 0, .int .i64 0, .int .u16 0] 175)
        have c0 := B0.cell (i := 0) rfl
        have c1 := B0.cell (i := 1) rfl
        have c2 := B0.cell (i := 2) rfl
        have c3 := B0.cell (i := 3) rfl
        have c4 := B0.cell (i := 4) rfl
        have c5 := B0.cell (i := 5) rfl
        have c6 := B0.cell (i := 6) rfl
        have c7 := B0.cell (i := 7) rfl
        have c8 := B0.cell (i := 8) rfl
        clear B0
        go_enter Tryz.func133, Tryz.ntmps133
        go_wp2_with fail
        go_ret
        exact ⟨rfl, K2.out⟩
      · by_cases i1 : 65535 < r.id
        · skip
          refine ⟨3, by omega, by omega, fun e => absurd e (by decide), fun w => ?_⟩
          have K2 := Lib.hid (((Kept.refl (fun _ => False) w).alloc (.cells (recC r).toArray 175)).alloc (.cells #[.int .i64 r.kind, .int .i64 r.id, .int .i64 0, .int .i64 0, .int .i64 0, .int .i64 0, .int .i64 0, .int .i64 0, .int .u16 0] 175))
          have B0 := (Blk.new w (recC r) 175).alloc (.cells #[.int .i64 r.kind, .int .i64 r.id, .int .i64 0, .int .i64 0, .int .i64 0, .int .i64 0, .int .i64 0, .int .i64 0, .int .u16 0] 175)
          have c0 := B0.cell (i := 0) rfl
          have c1 := B0.cell (i := 1) rfl
          have c2 := B0.cell (i := 2) rfl
          have c3 := B0.cell (i := 3) rfl
          have c4 := B0.cell (i := 4) rfl
          have c5 := B0.cell (i := 5) rfl
          have c6 := B0.cell (i := 6) rfl
          have c7 := B0.cell (i := 7) rfl
          have c8 := B0.cell (i := 8) rfl
          clear B0
          go_enter Tryz.func133, Tryz.ntmps133
          go_wp2_with fail
          go_ret
          exact ⟨rfl, K2.out⟩
        · have HG := Lib.hid (show 0 ≤ r.kind ∧ r.kind ≤ 3 ∧ 0 ≤ r.id ∧ r.id ≤ 65535 by omega)
          cases b with
          | true =>
            cases e1 : (r.kind == 1) with
            | true =>
              refine ⟨2, by omega, by omega, fun e => absurd e (by decide), fun w => ?_⟩
              have K2 := Lib.hid (((Kept.refl (fun _ => False) w).alloc (.cells (recC r).toArray 175)).alloc (.cells #[.int .i64 r.kind, .int .i64 r.id, .int .i64 0, .int .i64 0, .int .i64 0, .int .i64 0, .int .i64 0, .int .i64 0, .int .u16 0] 175))
              have B0 := (Blk.new w (recC r) 175).alloc (.cells #[.int .i64 r.kind, .int .i64 r.id, .int .i64 0, .int .i64 0, .int .i64 0, .int .i64 0, .int .i64 0, .int .i64 0, .int .u16 0] 175)
              have c0 := B0.cell (i := 0) rfl
              have c1 := B0.cell (i := 1) rfl
              have c2 := B0.cell (i := 2) rfl
              have c3 := B0.cell (i := 3) rfl
              have c4 := B0.cell (i := 4) rfl
              have c5 := B0.cell (i := 5) rfl
              have c6 := B0.cell (i := 6) rfl
              have c7 := B0.cell (i := 7) rfl
              have c8 := B0.cell (i := 8) rfl
              clear B0
              go_enter Tryz.func133, Tryz.ntmps133
              go_wp2_with fail
              go_ret
              exact ⟨rfl, K2.out⟩
            | false =>
              cases e2 : (r.kind == 2) with
              | true =>
                refine ⟨0, by omega, by omega, fun e => HG.out, fun w => ?_⟩
                have K2 := Lib.hid (((Kept.refl (fun _ => False) w).alloc (.cells (recC r).toArray 175)).alloc (.cells #[.int .i64 r.kind, .int .i64 r.id, .int .i64 0, .int .i64 0, .int .i64 0, .int .i64 0, .int .i64 0, .int .i64 0, .int .u16 0] 175))
                have B0 := (Blk.new w (recC r) 175).alloc (.cells #[.int .i64 r.kind, .int .i64 r.id, .int .i64 0, .int .i64 0, .int .i64 0, .int .i64 0, .int .i64 0, .int .i64 0, .int .u16 0] 175)
                have c0 := B0.cell (i := 0) rfl
                have c1 := B0.cell (i := 1) rfl
                have c2 := B0.cell (i := 2) rfl
                have c3 := B0.cell (i := 3) rfl
                have c4 := B0.cell (i := 4) rfl
                have c5 := B0.cell (i := 5) rfl
                have c6 := B0.cell (i := 6) rfl
                have c7 := B0.cell (i := 7) rfl
                have c8 := B0.cell (i := 8) rfl
                clear B0
                go_enter Tryz.func133, Tryz.ntmps133
                go_wp2_with fail
                go_ret
                exact ⟨rfl, K2.out⟩
              | false =>
                refine ⟨0, by omega, by omega, fun e => HG.out, fun w => ?_⟩
                have K2 := Lib.hid (((Kept.refl (fun _ => False) w).alloc (.cells (recC r).toArray 175)).alloc (.cells #[.int .i64 r.kind, .int .i64 r.id, .int .i64 0, .int .i64 0, .int .i64 0, .int .i64 0, .int .i64 0, .int .i64 0, .int .u16 0] 175))
                have B0 := (Blk.new w (recC r) 175).alloc (.cells #[.int .i64 r.kind, .int .i64 r.id, .int .i64 0, .int .i64 0, .int .i64 0, .int .i64 0, .int .i64 0, .int .i64 0, .int .u16 0] 175)
                have c0 := B0.cell (i := 0) rfl
                have c1 := B0.cell (i := 1) rfl
                have c2 := B0.cell (i := 2) rfl
                have c3 := B0.cell (i := 3) rfl
                have c4 := B0.cell (i := 4) rfl
                have c5 := B0.cell (i := 5) rfl
                have c6 := B0.cell (i := 6) rfl
                have c7 := B0.cell (i := 7) rfl
                have c8 := B0.cell (i := 8) rfl
                clear B0
                go_enter Tryz.func133, Tryz.ntmps133
                go_wp2_with fail
                go_ret
                exact ⟨rfl, K2.out⟩
          | false =>
            cases e1 : (r.kind == 1) with
            | true =>
              have e2 : (r.kind == 2) = false := by
                have : r.kind = 1 := by simpa using e1
                rw [this]
                rfl
              refine ⟨0, by omega, by omega, fun e => HG.out, fun w => ?_⟩
              have K2 := Lib.hid (((Kept.refl (fun _ => False) w).alloc (.cells (recC r).toArray 175)).alloc (.cells #[.int .i64 r.kind, .int .i64 r.id, .int .i64 0, .int .i64 0, .int .i64 0, .int .i64 0, .int .i64 0, .int .i64 0, .int .u16 0] 175))
              have B0 := (Blk.new w (recC r) 175).alloc (.cells #[.int .i64 r.kind, .int .i64 r.id, .int .i64 0, .int .i64 0, .int .i64 0, .int .i64 0, .int .i64 0, .int .i64 0, .int .u16 0] 175)
              have c0 := B0.cell (i := 0) rfl
              have c1 := B0.cell (i := 1) rfl
              have c2 := B0.cell (i := 2) rfl
              have c3 := B0.cell (i := 3) rfl
              have c4 := B0.cell (i := 4) rfl
              have c5 := B0.cell (i := 5) rfl
              have c6 := B0.cell (i := 6) rfl
              have c7 := B0.cell (i := 7) rfl
              have c8 := B0.cell (i := 8) rfl
              clear B0
              go_enter Tryz.func133, Tryz.ntmps133
              go_wp2_with fail
              go_ret
              exact ⟨rfl, K2.out⟩
            | false =>
              cases e2 : (r.kind == 2) with
              | true =>
                refine ⟨2, by omega, by omega, fun e => absurd e (by decide), fun w => ?_⟩
                have K2 := Lib.hid (((Kept.refl (fun _ => False) w).alloc (.cells (recC r).toArray 175)).alloc (.cells #[.int .i64 r.kind, .int .i64 r.id, .int .i64 0, .int .i64 0, .int .i64 0, .int .i64 0, .int .i64 0, .int .i64 0, .int .u16 0] 175))
                have B0 := (Blk.new w (recC r) 175).alloc (.cells #[.int .i64 r.kind, .int .i64 r.id, .int .i64 0, .int .i64 0, .int .i64 0, .int .i64 0, .int .i64 0, .int .i64 0, .int .u16 0] 175)
                have c0 := B0.cell (i := 0) rfl
                have c1 := B0.cell (i := 1) rfl
                have c2 := B0.cell (i := 2) rfl
                have c3 := B0.cell (i := 3) rfl
                have c4 := B0.cell (i := 4) rfl
                have c5 := B0.cell (i := 5) rfl
                have c6 := B0.cell (i := 6) rfl
                have c7 := B0.cell (i := 7) rfl
                have c8 := B0.cell (i := 8) rfl
                clear B0
                go_enter Tryz.func133, Tryz.ntmps133
                go_wp2_with fail
                go_ret
                exact ⟨rfl, K2.out⟩
              | false =>
                refine ⟨0, by omega, by omega, fun e => HG.out, fun w => ?_⟩
                have K2 := Lib.hid (((Kept.refl (fun _ => False) w).alloc (.cells (recC r).toArray 175)).alloc (.cells #[.int .i64 r.kind, .int .i64 r.id, .int .i64 0, .int .i64 0, .int .i64 0, .int .i64 0, .int .i64 0, .int .i64 0, .int .u16 0] 175))
                have B0 := (Blk.new w (recC r) 175).alloc (.cells #[.int .i64 r.kind, .int .i64 r.id, .int .i64 0, .int .i64 0, .int .i64 0, .int .i64 0, .int .i64 0, .int .i64 0, .int .u16 0] 175)
                have c0 := B0.cell (i := 0) rfl
                have c1 := B0.cell (i := 1) rfl
                have c2 := B0.cell (i := 2) rfl
                have c3 := B0.cell (i := 3) rfl
                have c4 := B0.cell (i := 4) rfl
                have c5 := B0.cell (i := 5) rfl
                have c6 := B0.cell (i := 6) rfl
                have c7 := B0.cell (i := 7) rfl
                have c8 := B0.cell (i := 8) rfl
                clear B0
                go_enter Tryz.func133, Tryz.ntmps133
                go_wp2_with fail
                go_ret
                exact ⟨rfl, K2.out⟩
theorem rcheck_any (r : RecM) (h : RecIn r) (w : World) : Calls Tryz.prog 133 #[recV r] w (RckPost r w) := by
  obtain ⟨er, h0, h1, hz, hc⟩ := rcheck_fix r h
  refine (hc w).mono ?_
  rintro e w' ⟨rfl, hk⟩
  refine ⟨er, rfl, h0, h1, fun e => ?_, hk⟩
  subst e
  obtain ⟨a, b, c, d⟩ := hz rfl
  exact ⟨a, b, c, d, hc⟩
end Go.Proofs.YtekdkckgmleofaaGreat

/- Contracts of package record's functions for any record: writeSome. -/
namespace Go.Proofs.YtekdkckgmleofaaGreat
open Go.RowKit
theorem or8_nat (a b : Int) : ∃ U : Nat, bits .or .u8 a b = (U : Int) ∧ (U : Int) < 256 := by
  have hb : IntKind.u8.wrap (bits .or .u8 a b) = bits .or .u8 a b := by
    unfold bits
    simp only [IntKind.wrap_u8]
    omega
  have h0 : 0 ≤ IntKind.u8.wrap (bits .or .u8 a b) ∧ IntKind.u8.wrap (bits .or .u8 a b) < 256 := by
    rw [IntKind.wrap_u8]
    omega
  rw [hb] at h0
  exact ⟨(bits .or .u8 a b).toNat, by omega, by omega⟩
def AppAny (l : List Nat) (own : Option Nat) (w : World) (e : Ending) (w' : World) : Prop :=
  ∃ (l' : List Nat) (v' : Value) (own' : Option Nat), e = .returned v' ∧ Sl w' v' 5 1 l'.length (u8s l') own' ∧ l'.length ≤ l.length + 100 ∧ (own' = own ∨ ∃ q, own' = some q ∧ w.heap.size ≤ q) ∧ Kept (fun k => own = some k) w w'
structure WsI (l : List Nat) (own : Option Nat) (q : Nat) (w : World) (r : RecM) (m : Nat) (L : List Nat) (v : Value) (wr : World) (o : Option Nat) : Prop where
  sl : Sl wr v 5 1 L.length (u8s L) o
  lt : l.length < L.length
  le : L.length ≤ l.length + 1 + m
  ow : o = own ∨ ∃ g, o = some g ∧ w.heap.size ≤ g
  rec_ : Blk wr q (recC r) 175
  kept : Kept (fun i => own = some i) w wr
theorem WsI.more {l : List Nat} {own : Option Nat} {q : Nat} {w : World} {r : RecM} {m m' : Nat} {L : List Nat} {v : Value} {wr : World} {o : Option Nat} (h : WsI l own q w r m L v wr o) (hm : m ≤ m') : WsI l own q w r m' L v wr o := { h with le := by have := h.le; omega }
theorem WsI.to {l : List Nat} {own : Option Nat} {q : Nat} {w : World} {r : RecM} {m m' : Nat} {L L' : List Nat} {v v' : Value} {wr w2 : World} {o o' : Option Nat} (h : WsI l own q w r m L v wr o) (hne : own ≠ some q) (hq : q < w.heap.size) (hS : Sl w2 v' 5 1 L'.length (u8s L') o') (hl : L.length ≤ L'.length) (hm : L'.length ≤ L.length + (m' - m)) (hmm : m ≤ m')
    (ho : o' = o ∨ ∃ g, o' = some g ∧ wr.heap.size ≤ g) (hK : Kept (fun i => o = some i) wr w2) : WsI l own q w r m' L' v' w2 o' := by
  have z1 := h.kept.size
  have hoq : ∀ i, o = some i → own = some i ∨ w.heap.size ≤ i := by
    intro i hi
    rcases h.ow with e | ⟨g, e, hg⟩
    · exact .inl (by rw [← e]; exact hi)
    · rw [e] at hi; cases hi; exact .inr hg
  have hlt := h.lt
  have hle := h.le
  refine ⟨hS, by omega, by omega, ?_, hK.blk h.rec_ (fun e => ?_), h.kept.trans hK hoq⟩
  · rcases ho with e | ⟨g, e, hg⟩
    · rw [e]; exact h.ow
    · exact .inr ⟨g, e, by omega⟩
  · rcases hoq q e with h | h
    · exact hne h
    · omega
theorem WsI.bit {l : List Nat} {own : Option Nat} {q : Nat} {w : World} {r : RecM} {m : Nat} {L : List Nat} {g off cap : Nat} {wr : World} {o : Option Nat} (h : WsI l own q w r m L (.slice (some ⟨g, off, none⟩) L.length cap) wr o) (hne : own ≠ some q) (hq : q < w.heap.size) (n U : Nat) :
    WsI l own q w r m (L.set l.length U) (.slice (some ⟨g, off, none⟩) (L.set l.length U).length cap) ((wr.drewN n).setCell ⟨g, off + l.length, none⟩ (.int .u8 U)) o := by
  have ho := (sl_at h.sl (by have := h.lt; omega)).2.2
  have h2 := sl_put (h.sl.drewN n) (j := l.length) (by have := h.lt; omega) (.int .u8 (U : Int))
  have e : (u8s L).set l.length (.int .u8 (U : Int)) = u8s (L.set l.length U) := by
    unfold u8s
    rw [List.map_set]
  rw [e] at h2
  have hl : (L.set l.length U).length = L.length := List.length_set
  refine h.to hne hq (by rw [hl]; exact h2) (by simp) (by simp) (Nat.le_refl _) (.inl rfl) ?_
  subst ho
  exact ((Kept.refl (fun i => some g = some i) wr).drewN n).setCell (a := ⟨g, off + l.length, none⟩) (.inl rfl) _
theorem WsI.drew {l : List Nat} {own : Option Nat} {q : Nat} {w : World} {r : RecM} {m : Nat} {L : List Nat} {v : Value} {wr : World} {o : Option Nat} (h : WsI l own q w r m L v wr o) : WsI l own q w r m L v wr.drew o :=
  ⟨h.sl.drew, h.lt, h.le, h.ow, h.rec_.drew, h.kept.drew⟩
set_option maxRecDepth 100000 in
set_option maxHeartbeats 8000000 in
theorem writeSome_any (r : RecM) (hr : r.Ok) (q : Nat) (l : List Nat) (w : World) (v : Value) (own : Option Nat) (h : Sl w v 5 1 l.length (u8s l) own) (hl : (l.length : Int) ≤ 1000) (hq : Blk w q (recC r) 175) (hne : own ≠ some q) :
    Calls Tryz.prog 172 #[v, .pointer (some ⟨q, 0, none⟩)] w (AppAny l own w) := by
  have HN := Lib.hid (fun W => numbers_calls q W)
  have hqs := hq.lt
  obtain ⟨i0, hi, hz0, hz1, hz2⟩ := info_parts info8
  have HI := Lib.hid hi
  have HZ0 := Lib.hid hz0
  have HZ1 := Lib.hid hz1
  have HZ2 := Lib.hid hz2
  obtain ⟨a0, cap0, rfl, -, -⟩ := h.form
  have HS := Lib.hid h
  have HQ := Lib.hid hq
  have HR := Lib.hid hr
  have HSR : Hid (∀ (W : World) (b : Nat), b = W.heap.size → Src (W.alloc (.cells #[.int .u8 0] 5)) (.slice (some ⟨b, 0, none⟩) 1 1) 1 [.int .u8 0]) := Lib.hid (fun W b e => by subst e; exact src_one W (.int .u8 0) 5)
  have HO : Hid (∀ u ∈ [Value.int .u8 0], u.oneCell' = true) := Lib.hid (by simp [Value.oneCell'])
  have N1 : Hid (l.length + 1 ≤ maxLen) := Lib.hid (by unfold maxLen; omega)
  have N2 : Hid ((l.length + 1) * 1 ≤ 140737488355328) := Lib.hid (by omega)
  have HWI : Hid (∀ v1 w1 o1, Sl w1 v1 5 1 (l.length + 1) (u8s l ++ [.int .u8 0]) o1 → (o1 = own ∨ o1 = some (w.alloc (.cells #[.int .u8 0] 5)).heap.size) → Kept (fun k => own = some k) (w.alloc (.cells #[.int .u8 0] 5)) w1 → WsI l own q w r 0 (l ++ [0]) v1 w1 o1) := Lib.hid (fun v1 w1 o1 hS ho hK => by
    have e : u8s l ++ [.int .u8 0] = u8s (l ++ [0]) := by simp [u8s]
    have e2 : l.length + 1 = (l ++ [0]).length := by simp
    refine ⟨by rw [← e, ← e2]; exact hS, by simp, by simp, ?_, hK.blk (HQ.out.alloc _) hne, ((Kept.refl (fun i => own = some i) w).alloc _).trans hK (fun i h => .inl h)⟩
    rcases ho with e | e
    · exact .inl e
    · exact .inr ⟨_, e, by simp⟩)
  clear h hq hr hi hz0 hz1 hz2
  go_enter Tryz.func172, Tryz.ntmps172
  go_wp2_with (at_builtin; refine wpList_append_sl _ rfl _ _ 23 rfl 5 i0 (.int .u8 0) 1 1 Tryz.underlying23 HI.out HZ0.out HZ1.out HZ2.out rfl _ l.length (u8s l) own rfl (HS.out.alloc _) _ 1 [.int .u8 0] rfl (by exact HSR.out _ _ rfl) rfl HO.out N1.out N2.out ?_; intro v1 w1 own1 hS1 ho1 hK1; have HW1 := Lib.hid (HWI.out v1 w1 own1 hS1 ho1 hK1); clear hS1 ho1 hK1)
  refine (HN.out _).mono ?_
  rintro e w2 ⟨rfl, hk2⟩
  have HW2 : Hid (WsI l own q w r 0 (l ++ [0]) v1 w2 own1) := Lib.hid { HW1.out with sl := HW1.out.sl.kept hk2 (fun _ _ h => h), rec_ := hk2.blk HW1.out.rec_ (fun h => h), kept := HW1.out.kept.trans hk2 (fun _ h => h.elim) }
  clear hk2
  go_wp2_with fail
  go_loopw [0, 15] (fun u i wr => ∃ (k : Nat) (o : Option Nat) (x : Value) (L : List Nat), k ≤ 6 ∧ i = .int .i64 k ∧ u = x ∧ WsI l own q w r (10 * k) L x wr o) (fun _ i _ => (6 - intOf i).toNat)
  case atStart => exact ⟨0, own1, _, _, by omega, rfl, rfl, HW2.out⟩
  case round =>
    obtain ⟨k, o, x, L, hk, rfl, hx, hI⟩ := hrel
    have hx2 := hx.symm
    clear hx
    subst hx2
    obtain ⟨g, off, cap, rfl, rfl, -, -, hcc, hff⟩ := hI.sl.some (by have := hI.lt; omega)
    have hlt1 := hI.lt
    have hle1 := hI.le
    have hxL : L[l.length]? = some L[l.length] := List.getElem?_eq_getElem hlt1
    have b0 := hcc l.length _ (u8s_get hxL)
    have bf := hff (off + l.length)
    generalize L[l.length] = bb at *
    have HJ := Lib.hid hI
    clear hI hcc hff hxL
    have hi0 : (0 : Int) ≤ (l.length : Int) := by omega
    have hi1 : (l.length : Int) < (L.length : Int) := by omega
    by_cases hlt : k < 6
    · have hix := ptr_idx q (k := k) hlt
      have hcell := HJ.out.rec_.cell (i := k + 2) (rec_cell r hlt)
      have hns : I64 (getN r k) := by
        have := HR.out.ns
        simp only [RecM.ns, List.mem_cons, List.not_mem_nil, or_false, forall_eq_or_imp, forall_eq] at this
        unfold I64
        rcases six hlt with rfl | rfl | rfl | rfl | rfl | rfl <;> simp only [getN] <;> omega
      have HNS := Lib.hid hns
      have hk6 : (k : Int) < 6 := by omega
      clear hns
      generalize hgn : getN r k = n at *
      have HGN := Lib.hid hgn
      clear hgn
      cases hn0 : (n != 0) with
      | false =>
        go_wp2_with fail
        exact ⟨⟨k + 1, _, _, L, by omega, by simp, rfl, HJ.out.more (by omega)⟩, by simp [intOf]; omega⟩
      | true =>
        obtain ⟨U, hU, hU2⟩ := or8_nat bb (2 ^ k % 256)
        have hnum : (numL n).length ≤ 10 := by
          have hz := zigM_bd n HNS.out.1 HNS.out.2
          rw [numL_len]
          exact (sizeM_bd (zigM n).toNat (by omega)).2.1
        have HB : Hid (WsI l own q w r (10 * k) (L.set l.length U) (.slice (some ⟨g, off, none⟩) L.length cap) ((wr.setCell ⟨g, off + l.length, none⟩ (.int .u8 (bits .or .u8 bb (2 ^ k % 256)))).drew) (some g)) := Lib.hid (by
          have h0 := (HJ.out.bit hne hqs 0 U).drew
          rw [hU]
          rwa [show (L.set l.length U).length = L.length from List.length_set] at h0)
        have HC : Hid (Calls Tryz.prog 194 #[.slice (some ⟨g, off, none⟩) L.length cap, .int .i64 n] ((wr.setCell ⟨g, off + l.length, none⟩ (.int .u8 (bits .or .u8 bb (2 ^ k % 256)))).drew) (AppPost (L.set l.length U ++ numL n) (some g) ((wr.setCell ⟨g, off + l.length, none⟩ (.int .u8 (bits .or .u8 bb (2 ^ k % 256)))).drew))) := Lib.hid (number_calls n (L.set l.length U) _ _ (some g) HB.out.sl (by rw [List.length_set]; omega) HNS.out.1 HNS.out.2)
        have hcell2 := HB.out.rec_.cell (i := k + 2) (rec_cell r hlt)
        rw [HGN.out] at hcell2
        have HNL : Hid ((numL n).length ≤ 10) := Lib.hid hnum
        clear hU hU2 hnum
        generalize hW : (wr.setCell ⟨g, off + l.length, none⟩ (.int .u8 (bits .or .u8 bb (2 ^ k % 256)))).drew = wz at *
        go_wp2_with fail
        go_region
        go_wp2_with fail
        refine (HC.out).mono ?_
        rintro e w3 ⟨v3, o3, rfl, hS3, ho3, hK3⟩
        have HW : Hid (WsI l own q w r (10 * (k + 1)) (L.set l.length U ++ numL n) v3 w3 o3) := Lib.hid (HB.out.to hne hqs hS3 (by simp) (by rw [List.length_append]; have := HNL.out; omega) (by omega) ho3 hK3)
        clear hS3 ho3 hK3
        go_wp2_with fail
        exact ⟨⟨k + 1, o3, _, _, by omega, by simp, rfl, HW.out⟩, by simp [intOf]; omega⟩
    · obtain rfl : k = 6 := by omega
      have hang : r.ang < 18446744073709551616 := by have := HR.out.ang; omega
      have hcell := HJ.out.rec_.cell (i := 8) (v := .int .u16 r.ang) rfl
      have HP : Hid (∀ W, Calls Tryz.prog 132 #[.int .u64 r.ang] W (PutPost r.ang W)) := Lib.hid (fun W => put_calls r.ang W hang)
      have hs2 := (sizeM_bd r.ang hang).2.1
      have HPL : Hid ((putL r.ang).length = sizeM r.ang) := Lib.hid (putL_len _)
      have HPL2 : Hid (sizeM r.ang ≤ 10) := Lib.hid hs2
      clear hs2
      cases hn0 : ((r.ang : Int) != 0) with
      | false =>
        go_wp2_with fail
        go_ret
        exact ⟨L, _, _, rfl, HJ.out.sl, by omega, HJ.out.ow, HJ.out.kept⟩
      | true =>
        obtain ⟨U, hU, hU2⟩ := or8_nat bb 64
        have HB : Hid (WsI l own q w r (10 * 6) (L.set l.length U) (.slice (some ⟨g, off, none⟩) L.length cap) (wr.setCell ⟨g, off + l.length, none⟩ (.int .u8 (bits .or .u8 bb 64))) (some g)) := Lib.hid (by
          have h0 := HJ.out.bit hne hqs 0 U
          rw [hU]
          rwa [show (L.set l.length U).length = L.length from List.length_set] at h0)
        have hcell2 := HB.out.rec_.cell (i := 8) (v := .int .u16 r.ang) rfl
        clear hU hU2
        generalize hW : wr.setCell ⟨g, off + l.length, none⟩ (.int .u8 (bits .or .u8 bb 64)) = wz at *
        go_wp2_with fail
        refine (HP.out _).mono ?_
        unfold PutPost
        rintro e w2 ⟨v2, g2, rfl, hS2, hg2, hk2⟩
        rw [← HPL.out] at hS2
        have hs3 : (putL r.ang).length ≤ 10 := by rw [HPL.out]; exact HPL2.out
        have HS3 := Lib.hid hs3
        have N1 : Hid (L.length + (putL r.ang).length ≤ maxLen) := Lib.hid (by unfold maxLen; omega)
        have N2 : Hid ((L.length + (putL r.ang).length) * 1 ≤ 140737488355328) := Lib.hid (by omega)
        have HO := Lib.hid (oneCell_u8s (putL r.ang))
        have HLL := Lib.hid (u8s_len (putL r.ang))
        obtain ⟨a2, cap2, rfl, -, -⟩ := hS2.form
        have HS2 := Lib.hid hS2.src
        have HK2 := Lib.hid hk2
        have HBS : Hid (Sl wz (.slice (some ⟨g, off, none⟩) L.length cap) 5 1 L.length (u8s (L.set l.length U)) (some g)) := Lib.hid (by have := HB.out.sl; rwa [show (L.set l.length U).length = L.length from List.length_set] at this)
        generalize hpt : putL r.ang = t at *
        clear hS2 hk2 hpt hs3
        go_wp2_with (at_builtin; refine wpList_append_sl _ rfl _ _ 23 rfl 5 i0 (.int .u8 0) 1 1 Tryz.underlying23 HI.out HZ0.out HZ1.out HZ2.out rfl _ L.length (u8s (L.set l.length U)) (some g) rfl (HBS.out.kept HK2.out (fun _ _ h => h)) _ t.length (u8s t) rfl HS2.out (by rw [HLL.out, Nat.mul_one]) HO.out N1.out N2.out ?_; intro v3 w3 own3 hS3 ho3 hK3; have SA := Lib.hid hS3; have OA := Lib.hid ho3; have KA := Lib.hid hK3; clear hS3 ho3 hK3)
        go_ret
        have z2 := HK2.out.size
        have HW : WsI l own q w r (10 * 7) (L.set l.length U ++ t) v3 w3 own3 := HB.out.to hne hqs (by rw [List.length_append, u8s_app, List.length_set]; exact SA.out) (by simp) (by have := HS3.out; rw [List.length_append, List.length_set]; omega) (by omega) (by
          rcases OA.out with e | e
          · exact .inl e
          · exact .inr ⟨_, e, z2⟩) ((HK2.out.mono (fun _ _ h => h.elim)).trans KA.out (fun _ h => .inl h))
        have hz := HW.le
        exact ⟨L.set l.length U ++ t, _, _, rfl, HW.sl, by omega, HW.ow, HW.kept⟩
end Go.Proofs.YtekdkckgmleofaaGreat

/- Contracts of package record's functions for any record: Write. -/
namespace Go.Proofs.YtekdkckgmleofaaGreat
open Go.RowKit
def WrAny (r : RecM) (last : Int) (w : World) (e : Ending) (w' : World) : Prop :=
  ∃ (v : Value) (er : Int), e = .returned (.tuple #[v, .int .i64 er]) ∧ 0 ≤ er ∧ er ≤ 17 ∧ Kept (fun _ => False) w w' ∧ (er = 0 → last < r.id ∧ r.id ≤ 65535 ∧ 0 ≤ r.kind ∧ r.kind ≤ 3 ∧ RCk r 0 ∧ ∃ (l : List Nat) (g : Nat), Sl w' v 5 1 l.length (u8s l) (some g) ∧ w.heap.size ≤ g ∧ l.length ≤ 200)
theorem none1_calls (w : World) (u v : Value) : Calls Tryz.prog 168 #[u, v] w fun e w' => e = .returned u ∧ w = w' := by
  go_enter Tryz.func168, Tryz.ntmps168
  go_wp2_with fail
  go_ret
  exact ⟨rfl, rfl⟩
theorem wholeL_len (r : RecM) (hr : r.Ok) : (wholeL r).length ≤ 70 := by
  have h1 := allL_len r.ns hr.ns
  have h2 := (sizeM_bd r.ang (by have := hr.ang; omega)).2.1
  unfold wholeL
  rw [List.length_append, putL_len]
  rw [show r.ns.length = 6 from rfl] at h1
  omega
theorem all_any (r : RecM) (hr : r.Ok) (q : Nat) (l : List Nat) (w : World) (v : Value) (own : Option Nat) (h : Sl w v 5 1 l.length (u8s l) own) (hl : (l.length : Int) ≤ 1000) (hq : Blk w q (recC r) 175) (hne : own ≠ some q) :
    Calls Tryz.prog 170 #[v, .pointer (some ⟨q, 0, none⟩)] w (AppAny l own w) := by
  refine (writeAll_calls r hr q l w v own h (by omega) hq hne).mono ?_
  rintro e w2 ⟨v2, o2, rfl, hS, ho, hK⟩
  have := wholeL_len r hr
  exact ⟨_, _, _, rfl, hS, by rw [List.length_append]; omega, ho, hK⟩
theorem none_any (r : RecM) (_ : r.Ok) (q : Nat) (l : List Nat) (w : World) (v : Value) (own : Option Nat) (h : Sl w v 5 1 l.length (u8s l) own) (_ : (l.length : Int) ≤ 1000) (_ : Blk w q (recC r) 175) (_ : own ≠ some q) :
    Calls Tryz.prog 168 #[v, .pointer (some ⟨q, 0, none⟩)] w (AppAny l own w) := by
  refine (none1_calls w v _).mono ?_
  rintro e w2 ⟨rfl, rfl⟩
  exact ⟨_, _, _, rfl, h, by omega, .inl rfl, Kept.refl _ _⟩
theorem kinds_ix0 (W : World) : (Instr.index 245 kindsV (.int .i64 0)).run Tryz.prog W = .ok (.agg #[fnV 170, fnV 171]) W := by
  kernel_rfl
theorem kinds_fd0 (W : World) : (Instr.field 244 (.agg #[fnV 170, fnV 171]) 0).run Tryz.prog W = .ok (fnV 170) W := by
  kernel_rfl
set_option maxRecDepth 100000 in
set_option maxHeartbeats 4000000 in
theorem wr0_calls (xid p0 p1 p2 s0 s1 s2 : Int) (ang : Nat) (last : Int) (w : World) (h : RecIn ⟨0, xid, p0, p1, p2, s0, s1, s2, ang⟩) :
    Calls Tryz.prog 89 #[recV ⟨0, xid, p0, p1, p2, s0, s1, s2, ang⟩, .int .i64 last] w (WrAny ⟨0, xid, p0, p1, p2, s0, s1, s2, ang⟩ last w) := by
  have HC := Lib.hid (fun W => rcheck_any ⟨0, xid, p0, p1, p2, s0, s1, s2, ang⟩ h W)
  have HKD := Lib.hid (fun W => kinds_calls W)
  have HP := Lib.hid (fun (x : Nat) (W : World) (hx : x < 18446744073709551616) => put_calls x W hx)
  have HWA := Lib.hid (fun (l : List Nat) (q : Nat) (W : World) (v : Value) (own : Option Nat) => all_any ⟨0, xid, p0, p1, p2, s0, s1, s2, ang⟩ h.ok q l W v own)
  obtain ⟨j0, hi, hz0, hz1, hz2⟩ := info_parts info8
  have HI := Lib.hid hi
  have HZ0 := Lib.hid hz0
  have HZ1 := Lib.hid hz1
  have HZ2 := Lib.hid hz2
  have HSR := Lib.hid (fun (W : World) => src_one W (.int .u8 0) 5)
  have HO : Hid (∀ u ∈ [Value.int .u8 0], u.oneCell' = true) := Lib.hid (by simp [Value.oneCell'])
  clear hi hz0 hz1 hz2 h
  go_enter Tryz.func89, Tryz.ntmps89
  go_wp2_with fail
  refine (HC.out _).mono ?_
  rintro e w1 ⟨er, rfl, he0, he1, hez, hk1⟩
  have B := hk1.blk (Blk.new w (recC ⟨0, xid, p0, p1, p2, s0, s1, s2, ang⟩) 175) (fun h => h)
  have K : Kept (fun _ => False) w w1 := ((Kept.refl (fun _ => False) w).alloc _).trans hk1 (fun _ h => h.elim)
  clear hk1
  have hbl := B.lt
  have b0 := B.cell (i := 0) rfl
  have b1 := B.cell (i := 1) rfl
  have HB := Lib.hid B
  have HK := Lib.hid K
  have HEZ := Lib.hid hez
  clear B K hez
  cases hne : (er != 0) with
  | true =>
    have HE : Hid (er ≠ 0) := Lib.hid (by simpa using hne)
    go_wp2_with fail
    go_ret2
    exact ⟨_, er, rfl, he0, he1, HK.out, fun e => absurd e HE.out⟩
  | false =>
    obtain rfl : er = 0 := by simpa using hne
    have hez := HEZ.out rfl
    dsimp only at hez
    have hez1 := hez.2.2.1
    have hez2 := hez.2.2.2.1
    have HCK := Lib.hid hez.2.2.2.2
    clear hez HEZ hne he0 he1
    by_cases h3 : last < -1
    · go_wp2_with fail
      go_ret2
      exact ⟨_, 3, rfl, by omega, by omega, HK.out, fun e => absurd e (by decide)⟩
    by_cases h4 : 65535 < last
    · go_wp2_with fail
      go_ret2
      exact ⟨_, 3, rfl, by omega, by omega, HK.out, fun e => absurd e (by decide)⟩
    by_cases h5 : xid ≤ last
    · go_wp2_with fail
      go_ret2
      exact ⟨_, 10, rfl, by omega, by omega, HK.out, fun e => absurd e (by decide)⟩
    have HGOOD : Hid (last < xid ∧ xid ≤ 65535) := Lib.hid (by omega)
    have hpb : (xid - last - 1).toNat < 18446744073709551616 := by omega
    have HP := Lib.hid (fun W => HP.out (xid - last - 1).toNat W hpb)
    have e1 : (((xid - last - 1).toNat : Nat) : Int) = xid - last - 1 := by omega
    have hs10 := (sizeM_bd (xid - last - 1).toNat hpb).2.1
    rw [e1] at HP
    unfold PutPost at HP
    rw [show sizeM (xid - last - 1).toNat = (putL (xid - last - 1).toNat).length from (putL_len _).symm] at HP hs10
    generalize putL (xid - last - 1).toNat = t at *
    have N1 : Hid (t.length + 1 ≤ maxLen) := Lib.hid (by unfold maxLen; omega)
    have N2 : Hid ((t.length + 1) * 1 ≤ 140737488355328) := Lib.hid (by omega)
    clear e1 hpb
    have q1 : IntKind.i64.wrap (xid - last) = xid - last := IntWalk.i64_in _ (by omega)
    have q2 : IntKind.i64.wrap (xid - last - 1) = xid - last - 1 := IntWalk.i64_in _ (by omega)
    have q3 : IntKind.u64.wrap (xid - last - 1) = xid - last - 1 := IntWalk.u64_in _ (by omega)
    have q4 : IntKind.u8.wrap 0 = 0 := by kernel_rfl
    go_wp2_with fail
    go_region_held3 (fun w' => w'.cell? ⟨w.heap.size, 0, none⟩ = some (.int .i64 0) ∧ w'.cell? ⟨w.heap.size, 1, none⟩ = some (.int .i64 xid))
      (first | (go_keep; done) | (refine ⟨hk2.cell ?_ (fun h => h), hk2.cell ?_ (fun h => h)⟩ <;> simp [*]) | (go_split_ands; exact ⟨hk3.cell (by assumption) (fun e => by have e2 : g2 = w.heap.size := Option.some.inj e; simp at hg2; omega), hk3.cell (by assumption) (fun e => by have e2 : g2 = w.heap.size := Option.some.inj e; simp at hg2; omega)⟩))
      ((first
        | (go_at_call 132; refine (HP.out _).mono ?_; rintro e w2 ⟨v2, g2, rfl, hS2, hg2, hk2⟩)
        | (refine step_append_sl _ (by rfl) _ _ _ (by rfl) 5 j0 (.int .u8 0) 1 1 Tryz.underlying23 HI.out HZ0.out HZ1.out HZ2.out rfl _ t.length (u8s t) (some g2) (by rfl) (by first | exact hS2 | exact hS2.alloc _ | exact hS2.drew.alloc _) _ 1 [.int .u8 0] (by rfl) (by first | exact HSR.out _ | exact (HSR.out _).kept hk2 | exact (HSR.out _).drew.kept hk2) rfl HO.out N1.out N2.out ?_; intro v3 w3 o3 hS3 ho3 hk3)))
    all_goals
      have HMI : Hid (∃ Wp, Kept (fun _ => False) w1 Wp ∧ Kept (fun k => some g2 = some k) Wp w3 ∧ (o3 = some g2 ∨ o3 = some Wp.heap.size)) := Lib.hid (by
        first
        | exact ⟨_, ((Kept.refl _ w1).drew.trans hk2 (fun _ h => .inl h)).alloc _, hk3, ho3⟩
        | exact ⟨_, ((Kept.refl _ w1).alloc _).drew.trans hk2 (fun _ h => .inl h), hk3, ho3⟩)
      have hg3 : w.heap.size < g2 := by
        have := hg2
        simp at this
        omega
      have HF : Hid (Blk w3 w.heap.size (recC ⟨0, xid, p0, p1, p2, s0, s1, s2, ang⟩) 175 ∧ Kept (fun _ => False) w w3 ∧ ∃ g, o3 = some g ∧ w.heap.size < g) := Lib.hid (by
        obtain ⟨Wp, k1, k3, ho⟩ := HMI.out
        have z1 := k1.size
        refine ⟨k3.blk (k1.blk HB.out (fun h => h)) (fun e => ?_), (HK.out.trans k1 (fun _ h => .inl h)).trans k3 (fun i hi => .inr ?_), ?_⟩
        · have e2 : g2 = w.heap.size := Option.some.inj e
          omega
        · have e2 : g2 = i := Option.some.inj hi
          omega
        · rcases ho with e | e
          · exact ⟨_, e, hg3⟩
          · exact ⟨_, e, by omega⟩)
      have HS3 : Hid (Sl w3 v3 5 1 (t ++ [0]).length (u8s (t ++ [0])) o3) := Lib.hid (by
        rw [List.length_append, u8s_app]; exact hS3)
      have HL5 : Hid (((t ++ [0]).length : Int) ≤ 11) := Lib.hid (by rw [List.length_append]; simp; omega)
      have c0 := HF.out.1.cell (i := 0) rfl
      obtain ⟨g3, ho3', hg3'⟩ := HF.out.2.2
      have HO3 := Lib.hid ho3'
      have HNE : Hid (o3 ≠ some w.heap.size) := Lib.hid (by rw [ho3']; intro e; have := Option.some.inj e; omega)
      have hix := kinds_ix0
      have hfd := kinds_fd0
      clear hS2 hg2 hk2 hS3 ho3 hk3 HMI hg3 b0 b1 hbl HB HK q1 q2 q3 q4 ho3'
      go_wp2_with fail
      go_region_held3 (fun w' => w'.cell? ⟨w.heap.size, 0, none⟩ = some (.int .i64 0))
        (first | (go_keep; done) | exact hk5.cell (by assumption) HNE.out | exact hk4.cell (by assumption) (fun h => h))
        ((first
          | (go_at_call 134; refine (HKD.out _).mono ?_; rintro e w4 ⟨rfl, hk4⟩)
          | (go_at_call 170; refine (HWA.out (t ++ [0]) w.heap.size _ v3 o3 (HS3.out.drew.kept hk4 (fun _ _ h => h)) (by have := HL5.out; omega) (hk4.blk HF.out.1.drew (fun h => h)) HNE.out).mono ?_; rintro e w5 ⟨l5, v5, o5, rfl, hS5, hl5, ho5, hk5⟩)))
      all_goals
        have HS5 := Lib.hid hS5
        have HO5 := Lib.hid ho5
        have HK5 := Lib.hid hk5
        have HK4 := Lib.hid hk4
        have HLL := Lib.hid hl5
        clear hS5 ho5 hk5 hk4 hl5 c0 hix hfd
        go_wp2_with fail
        go_ret2
        have z4 := HK4.out.size
        have z3 := HF.out.2.1.size
        have zz : w3.heap.size ≤ w4.heap.size := z4
        have zl := HL5.out
        have zl2 := HLL.out
        have KK := ((HF.out.2.1.drew.trans HK4.out (fun _ h => .inl h))).trans HK5.out (fun i hi => .inr (by rw [HO3.out] at hi; have := Option.some.inj hi; omega))
        refine ⟨v5, 0, rfl, by omega, by omega, KK, fun _ => ⟨HGOOD.out.1, HGOOD.out.2, by simp, by simp, HCK.out, l5, ?_⟩⟩
        rcases HO5.out with e | ⟨g, e, hg⟩
        · exact ⟨g3, by rw [← HO3.out, ← e]; exact HS5.out, by omega, by omega⟩
        · exact ⟨g, by rw [← e]; exact HS5.out, by omega, by omega⟩
theorem kinds_ix1 (W : World) : (Instr.index 245 kindsV (.int .i64 1)).run Tryz.prog W = .ok (.agg #[fnV 172, fnV 173]) W := by
  kernel_rfl
theorem kinds_fd1 (W : World) : (Instr.field 244 (.agg #[fnV 172, fnV 173]) 0).run Tryz.prog W = .ok (fnV 172) W := by
  kernel_rfl
set_option maxRecDepth 100000 in
set_option maxHeartbeats 4000000 in
theorem wr1_calls (xid p0 p1 p2 s0 s1 s2 : Int) (ang : Nat) (last : Int) (w : World) (h : RecIn ⟨1, xid, p0, p1, p2, s0, s1, s2, ang⟩) :
    Calls Tryz.prog 89 #[recV ⟨1, xid, p0, p1, p2, s0, s1, s2, ang⟩, .int .i64 last] w (WrAny ⟨1, xid, p0, p1, p2, s0, s1, s2, ang⟩ last w) := by
  have HC := Lib.hid (fun W => rcheck_any ⟨1, xid, p0, p1, p2, s0, s1, s2, ang⟩ h W)
  have HKD := Lib.hid (fun W => kinds_calls W)
  have HP := Lib.hid (fun (x : Nat) (W : World) (hx : x < 18446744073709551616) => put_calls x W hx)
  have HWA := Lib.hid (fun (l : List Nat) (q : Nat) (W : World) (v : Value) (own : Option Nat) => writeSome_any ⟨1, xid, p0, p1, p2, s0, s1, s2, ang⟩ h.ok q l W v own)
  obtain ⟨j0, hi, hz0, hz1, hz2⟩ := info_parts info8
  have HI := Lib.hid hi
  have HZ0 := Lib.hid hz0
  have HZ1 := Lib.hid hz1
  have HZ2 := Lib.hid hz2
  have HSR := Lib.hid (fun (W : World) => src_one W (.int .u8 1) 5)
  have HO : Hid (∀ u ∈ [Value.int .u8 1], u.oneCell' = true) := Lib.hid (by simp [Value.oneCell'])
  clear hi hz0 hz1 hz2 h
  go_enter Tryz.func89, Tryz.ntmps89
  go_wp2_with fail
  refine (HC.out _).mono ?_
  rintro e w1 ⟨er, rfl, he0, he1, hez, hk1⟩
  have B := hk1.blk (Blk.new w (recC ⟨1, xid, p0, p1, p2, s0, s1, s2, ang⟩) 175) (fun h => h)
  have K : Kept (fun _ => False) w w1 := ((Kept.refl (fun _ => False) w).alloc _).trans hk1 (fun _ h => h.elim)
  clear hk1
  have hbl := B.lt
  have b0 := B.cell (i := 0) rfl
  have b1 := B.cell (i := 1) rfl
  have HB := Lib.hid B
  have HK := Lib.hid K
  have HEZ := Lib.hid hez
  clear B K hez
  cases hne : (er != 0) with
  | true =>
    have HE : Hid (er ≠ 0) := Lib.hid (by simpa using hne)
    go_wp2_with fail
    go_ret2
    exact ⟨_, er, rfl, he0, he1, HK.out, fun e => absurd e HE.out⟩
  | false =>
    obtain rfl : er = 0 := by simpa using hne
    have hez := HEZ.out rfl
    dsimp only at hez
    have hez1 := hez.2.2.1
    have hez2 := hez.2.2.2.1
    have HCK := Lib.hid hez.2.2.2.2
    clear hez HEZ hne he0 he1
    by_cases h3 : last < -1
    · go_wp2_with fail
      go_ret2
      exact ⟨_, 3, rfl, by omega, by omega, HK.out, fun e => absurd e (by decide)⟩
    by_cases h4 : 65535 < last
    · go_wp2_with fail
      go_ret2
      exact ⟨_, 3, rfl, by omega, by omega, HK.out, fun e => absurd e (by decide)⟩
    by_cases h5 : xid ≤ last
    · go_wp2_with fail
      go_ret2
      exact ⟨_, 10, rfl, by omega, by omega, HK.out, fun e => absurd e (by decide)⟩
    have HGOOD : Hid (last < xid ∧ xid ≤ 65535) := Lib.hid (by omega)
    have hpb : (xid - last - 1).toNat < 18446744073709551616 := by omega
    have HP := Lib.hid (fun W => HP.out (xid - last - 1).toNat W hpb)
    have e1 : (((xid - last - 1).toNat : Nat) : Int) = xid - last - 1 := by omega
    have hs10 := (sizeM_bd (xid - last - 1).toNat hpb).2.1
    rw [e1] at HP
    unfold PutPost at HP
    rw [show sizeM (xid - last - 1).toNat = (putL (xid - last - 1).toNat).length from (putL_len _).symm] at HP hs10
    generalize putL (xid - last - 1).toNat = t at *
    have N1 : Hid (t.length + 1 ≤ maxLen) := Lib.hid (by unfold maxLen; omega)
    have N2 : Hid ((t.length + 1) * 1 ≤ 140737488355328) := Lib.hid (by omega)
    clear e1 hpb
    have q1 : IntKind.i64.wrap (xid - last) = xid - last := IntWalk.i64_in _ (by omega)
    have q2 : IntKind.i64.wrap (xid - last - 1) = xid - last - 1 := IntWalk.i64_in _ (by omega)
    have q3 : IntKind.u64.wrap (xid - last - 1) = xid - last - 1 := IntWalk.u64_in _ (by omega)
    have q4 : IntKind.u8.wrap 1 = 1 := by kernel_rfl
    go_wp2_with fail
    go_region_held3 (fun w' => w'.cell? ⟨w.heap.size, 0, none⟩ = some (.int .i64 1) ∧ w'.cell? ⟨w.heap.size, 1, none⟩ = some (.int .i64 xid))
      (first | (go_keep; done) | (refine ⟨hk2.cell ?_ (fun h => h), hk2.cell ?_ (fun h => h)⟩ <;> simp [*]) | (go_split_ands; exact ⟨hk3.cell (by assumption) (fun e => by have e2 : g2 = w.heap.size := Option.some.inj e; simp at hg2; omega), hk3.cell (by assumption) (fun e => by have e2 : g2 = w.heap.size := Option.some.inj e; simp at hg2; omega)⟩))
      ((first
        | (go_at_call 132; refine (HP.out _).mono ?_; rintro e w2 ⟨v2, g2, rfl, hS2, hg2, hk2⟩)
        | (refine step_append_sl _ (by rfl) _ _ _ (by rfl) 5 j0 (.int .u8 0) 1 1 Tryz.underlying23 HI.out HZ0.out HZ1.out HZ2.out rfl _ t.length (u8s t) (some g2) (by rfl) (by first | exact hS2 | exact hS2.alloc _ | exact hS2.drew.alloc _) _ 1 [.int .u8 1] (by rfl) (by first | exact HSR.out _ | exact (HSR.out _).kept hk2 | exact (HSR.out _).drew.kept hk2) rfl HO.out N1.out N2.out ?_; intro v3 w3 o3 hS3 ho3 hk3)))
    all_goals
      have HMI : Hid (∃ Wp, Kept (fun _ => False) w1 Wp ∧ Kept (fun k => some g2 = some k) Wp w3 ∧ (o3 = some g2 ∨ o3 = some Wp.heap.size)) := Lib.hid (by
        first
        | exact ⟨_, ((Kept.refl _ w1).drew.trans hk2 (fun _ h => .inl h)).alloc _, hk3, ho3⟩
        | exact ⟨_, ((Kept.refl _ w1).alloc _).drew.trans hk2 (fun _ h => .inl h), hk3, ho3⟩)
      have hg3 : w.heap.size < g2 := by
        have := hg2
        simp at this
        omega
      have HF : Hid (Blk w3 w.heap.size (recC ⟨1, xid, p0, p1, p2, s0, s1, s2, ang⟩) 175 ∧ Kept (fun _ => False) w w3 ∧ ∃ g, o3 = some g ∧ w.heap.size < g) := Lib.hid (by
        obtain ⟨Wp, k1, k3, ho⟩ := HMI.out
        have z1 := k1.size
        refine ⟨k3.blk (k1.blk HB.out (fun h => h)) (fun e => ?_), (HK.out.trans k1 (fun _ h => .inl h)).trans k3 (fun i hi => .inr ?_), ?_⟩
        · have e2 : g2 = w.heap.size := Option.some.inj e
          omega
        · have e2 : g2 = i := Option.some.inj hi
          omega
        · rcases ho with e | e
          · exact ⟨_, e, hg3⟩
          · exact ⟨_, e, by omega⟩)
      have HS3 : Hid (Sl w3 v3 5 1 (t ++ [1]).length (u8s (t ++ [1])) o3) := Lib.hid (by
        rw [List.length_append, u8s_app]; exact hS3)
      have HL5 : Hid (((t ++ [1]).length : Int) ≤ 11) := Lib.hid (by rw [List.length_append]; simp; omega)
      have c0 := HF.out.1.cell (i := 0) rfl
      obtain ⟨g3, ho3', hg3'⟩ := HF.out.2.2
      have HO3 := Lib.hid ho3'
      have HNE : Hid (o3 ≠ some w.heap.size) := Lib.hid (by rw [ho3']; intro e; have := Option.some.inj e; omega)
      have hix := kinds_ix1
      have hfd := kinds_fd1
      clear hS2 hg2 hk2 hS3 ho3 hk3 HMI hg3 b0 b1 hbl HB HK q1 q2 q3 q4 ho3'
      go_wp2_with fail
      go_region_held3 (fun w' => w'.cell? ⟨w.heap.size, 0, none⟩ = some (.int .i64 1))
        (first | (go_keep; done) | exact hk5.cell (by assumption) HNE.out | exact hk4.cell (by assumption) (fun h => h))
        ((first
          | (go_at_call 134; refine (HKD.out _).mono ?_; rintro e w4 ⟨rfl, hk4⟩)
          | (go_at_call 172; refine (HWA.out (t ++ [1]) w.heap.size _ v3 o3 (HS3.out.drew.kept hk4 (fun _ _ h => h)) (by have := HL5.out; omega) (hk4.blk HF.out.1.drew (fun h => h)) HNE.out).mono ?_; rintro e w5 ⟨l5, v5, o5, rfl, hS5, hl5, ho5, hk5⟩)))
      all_goals
        have HS5 := Lib.hid hS5
        have HO5 := Lib.hid ho5
        have HK5 := Lib.hid hk5
        have HK4 := Lib.hid hk4
        have HLL := Lib.hid hl5
        clear hS5 ho5 hk5 hk4 hl5 c0 hix hfd
        go_wp2_with fail
        go_ret2
        have z4 := HK4.out.size
        have z3 := HF.out.2.1.size
        have zz : w3.heap.size ≤ w4.heap.size := z4
        have zl := HL5.out
        have zl2 := HLL.out
        have KK := ((HF.out.2.1.drew.trans HK4.out (fun _ h => .inl h))).trans HK5.out (fun i hi => .inr (by rw [HO3.out] at hi; have := Option.some.inj hi; omega))
        refine ⟨v5, 0, rfl, by omega, by omega, KK, fun _ => ⟨HGOOD.out.1, HGOOD.out.2, by simp, by simp, HCK.out, l5, ?_⟩⟩
        rcases HO5.out with e | ⟨g, e, hg⟩
        · exact ⟨g3, by rw [← HO3.out, ← e]; exact HS5.out, by omega, by omega⟩
        · exact ⟨g, by rw [← e]; exact HS5.out, by omega, by omega⟩
theorem kinds_ix2 (W : World) : (Instr.index 245 kindsV (.int .i64 2)).run Tryz.prog W = .ok (.agg #[fnV 168, fnV 169]) W := by
  kernel_rfl
theorem kinds_fd2 (W : World) : (Instr.field 244 (.agg #[fnV 168, fnV 169]) 0).run Tryz.prog W = .ok (fnV 168) W := by
  kernel_rfl
set_option maxRecDepth 100000 in
set_option maxHeartbeats 4000000 in
theorem wr2_calls (xid p0 p1 p2 s0 s1 s2 : Int) (ang : Nat) (last : Int) (w : World) (h : RecIn ⟨2, xid, p0, p1, p2, s0, s1, s2, ang⟩) :
    Calls Tryz.prog 89 #[recV ⟨2, xid, p0, p1, p2, s0, s1, s2, ang⟩, .int .i64 last] w (WrAny ⟨2, xid, p0, p1, p2, s0, s1, s2, ang⟩ last w) := by
  have HC := Lib.hid (fun W => rcheck_any ⟨2, xid, p0, p1, p2, s0, s1, s2, ang⟩ h W)
  have HKD := Lib.hid (fun W => kinds_calls W)
  have HP := Lib.hid (fun (x : Nat) (W : World) (hx : x < 18446744073709551616) => put_calls x W hx)
  have HWA := Lib.hid (fun (l : List Nat) (q : Nat) (W : World) (v : Value) (own : Option Nat) => none_any ⟨2, xid, p0, p1, p2, s0, s1, s2, ang⟩ h.ok q l W v own)
  obtain ⟨j0, hi, hz0, hz1, hz2⟩ := info_parts info8
  have HI := Lib.hid hi
  have HZ0 := Lib.hid hz0
  have HZ1 := Lib.hid hz1
  have HZ2 := Lib.hid hz2
  have HSR := Lib.hid (fun (W : World) => src_one W (.int .u8 2) 5)
  have HO : Hid (∀ u ∈ [Value.int .u8 2], u.oneCell' = true) := Lib.hid (by simp [Value.oneCell'])
  clear hi hz0 hz1 hz2 h
  go_enter Tryz.func89, Tryz.ntmps89
  go_wp2_with fail
  refine (HC.out _).mono ?_
  rintro e w1 ⟨er, rfl, he0, he1, hez, hk1⟩
  have B := hk1.blk (Blk.new w (recC ⟨2, xid, p0, p1, p2, s0, s1, s2, ang⟩) 175) (fun h => h)
  have K : Kept (fun _ => False) w w1 := ((Kept.refl (fun _ => False) w).alloc _).trans hk1 (fun _ h => h.elim)
  clear hk1
  have hbl := B.lt
  have b0 := B.cell (i := 0) rfl
  have b1 := B.cell (i := 1) rfl
  have HB := Lib.hid B
  have HK := Lib.hid K
  have HEZ := Lib.hid hez
  clear B K hez
  cases hne : (er != 0) with
  | true =>
    have HE : Hid (er ≠ 0) := Lib.hid (by simpa using hne)
    go_wp2_with fail
    go_ret2
    exact ⟨_, er, rfl, he0, he1, HK.out, fun e => absurd e HE.out⟩
  | false =>
    obtain rfl : er = 0 := by simpa using hne
    have hez := HEZ.out rfl
    dsimp only at hez
    have hez1 := hez.2.2.1
    have hez2 := hez.2.2.2.1
    have HCK := Lib.hid hez.2.2.2.2
    clear hez HEZ hne he0 he1
    by_cases h3 : last < -1
    · go_wp2_with fail
      go_ret2
      exact ⟨_, 3, rfl, by omega, by omega, HK.out, fun e => absurd e (by decide)⟩
    by_cases h4 : 65535 < last
    · go_wp2_with fail
      go_ret2
      exact ⟨_, 3, rfl, by omega, by omega, HK.out, fun e => absurd e (by decide)⟩
    by_cases h5 : xid ≤ last
    · go_wp2_with fail
      go_ret2
      exact ⟨_, 10, rfl, by omega, by omega, HK.out, fun e => absurd e (by decide)⟩
    have HGOOD : Hid (last < xid ∧ xid ≤ 65535) := Lib.hid (by omega)
    have hpb : (xid - last - 1).toNat < 18446744073709551616 := by omega
    have HP := Lib.hid (fun W => HP.out (xid - last - 1).toNat W hpb)
    have e1 : (((xid - last - 1).toNat : Nat) : Int) = xid - last - 1 := by omega
    have hs10 := (sizeM_bd (xid - last - 1).toNat hpb).2.1
    rw [e1] at HP
    unfold PutPost at HP
    rw [show sizeM (xid - last - 1).toNat = (putL (xid - last - 1).toNat).length from (putL_len _).symm] at HP hs10
    generalize putL (xid - last - 1).toNat = t at *
    have N1 : Hid (t.length + 1 ≤ maxLen) := Lib.hid (by unfold maxLen; omega)
    have N2 : Hid ((t.length + 1) * 1 ≤ 140737488355328) := Lib.hid (by omega)
    clear e1 hpb
    have q1 : IntKind.i64.wrap (xid - last) = xid - last := IntWalk.i64_in _ (by omega)
    have q2 : IntKind.i64.wrap (xid - last - 1) = xid - last - 1 := IntWalk.i64_in _ (by omega)
    have q3 : IntKind.u64.wrap (xid - last - 1) = xid - last - 1 := IntWalk.u64_in _ (by omega)
    have q4 : IntKind.u8.wrap 2 = 2 := by kernel_rfl
    go_wp2_with fail
    go_region_held3 (fun w' => w'.cell? ⟨w.heap.size, 0, none⟩ = some (.int .i64 2) ∧ w'.cell? ⟨w.heap.size, 1, none⟩ = some (.int .i64 xid))
      (first | (go_keep; done) | (refine ⟨hk2.cell ?_ (fun h => h), hk2.cell ?_ (fun h => h)⟩ <;> simp [*]) | (go_split_ands; exact ⟨hk3.cell (by assumption) (fun e => by have e2 : g2 = w.heap.size := Option.some.inj e; simp at hg2; omega), hk3.cell (by assumption) (fun e => by have e2 : g2 = w.heap.size := Option.some.inj e; simp at hg2; omega)⟩))
      ((first
        | (go_at_call 132; refine (HP.out _).mono ?_; rintro e w2 ⟨v2, g2, rfl, hS2, hg2, hk2⟩)
        | (refine step_append_sl _ (by rfl) _ _ _ (by rfl) 5 j0 (.int .u8 0) 1 1 Tryz.underlying23 HI.out HZ0.out HZ1.out HZ2.out rfl _ t.length (u8s t) (some g2) (by rfl) (by first | exact hS2 | exact hS2.alloc _ | exact hS2.drew.alloc _) _ 1 [.int .u8 2] (by rfl) (by first | exact HSR.out _ | exact (HSR.out _).kept hk2 | exact (HSR.out _).drew.kept hk2) rfl HO.out N1.out N2.out ?_; intro v3 w3 o3 hS3 ho3 hk3)))
    all_goals
      have HMI : Hid (∃ Wp, Kept (fun _ => False) w1 Wp ∧ Kept (fun k => some g2 = some k) Wp w3 ∧ (o3 = some g2 ∨ o3 = some Wp.heap.size)) := Lib.hid (by
        first
        | exact ⟨_, ((Kept.refl _ w1).drew.trans hk2 (fun _ h => .inl h)).alloc _, hk3, ho3⟩
        | exact ⟨_, ((Kept.refl _ w1).alloc _).drew.trans hk2 (fun _ h => .inl h), hk3, ho3⟩)
      have hg3 : w.heap.size < g2 := by
        have := hg2
        simp at this
        omega
      have HF : Hid (Blk w3 w.heap.size (recC ⟨2, xid, p0, p1, p2, s0, s1, s2, ang⟩) 175 ∧ Kept (fun _ => False) w w3 ∧ ∃ g, o3 = some g ∧ w.heap.size < g) := Lib.hid (by
        obtain ⟨Wp, k1, k3, ho⟩ := HMI.out
        have z1 := k1.size
        refine ⟨k3.blk (k1.blk HB.out (fun h => h)) (fun e => ?_), (HK.out.trans k1 (fun _ h => .inl h)).trans k3 (fun i hi => .inr ?_), ?_⟩
        · have e2 : g2 = w.heap.size := Option.some.inj e
          omega
        · have e2 : g2 = i := Option.some.inj hi
          omega
        · rcases ho with e | e
          · exact ⟨_, e, hg3⟩
          · exact ⟨_, e, by omega⟩)
      have HS3 : Hid (Sl w3 v3 5 1 (t ++ [2]).length (u8s (t ++ [2])) o3) := Lib.hid (by
        rw [List.length_append, u8s_app]; exact hS3)
      have HL5 : Hid (((t ++ [2]).length : Int) ≤ 11) := Lib.hid (by rw [List.length_append]; simp; omega)
      have c0 := HF.out.1.cell (i := 0) rfl
      obtain ⟨g3, ho3', hg3'⟩ := HF.out.2.2
      have HO3 := Lib.hid ho3'
      have HNE : Hid (o3 ≠ some w.heap.size) := Lib.hid (by rw [ho3']; intro e; have := Option.some.inj e; omega)
      have hix := kinds_ix2
      have hfd := kinds_fd2
      clear hS2 hg2 hk2 hS3 ho3 hk3 HMI hg3 b0 b1 hbl HB HK q1 q2 q3 q4 ho3'
      go_wp2_with fail
      go_region_held3 (fun w' => w'.cell? ⟨w.heap.size, 0, none⟩ = some (.int .i64 2))
        (first | (go_keep; done) | exact hk5.cell (by assumption) HNE.out | exact hk4.cell (by assumption) (fun h => h))
        ((first
          | (go_at_call 134; refine (HKD.out _).mono ?_; rintro e w4 ⟨rfl, hk4⟩)
          | (go_at_call 168; refine (HWA.out (t ++ [2]) w.heap.size _ v3 o3 (HS3.out.drew.kept hk4 (fun _ _ h => h)) (by have := HL5.out; omega) (hk4.blk HF.out.1.drew (fun h => h)) HNE.out).mono ?_; rintro e w5 ⟨l5, v5, o5, rfl, hS5, hl5, ho5, hk5⟩)))
      all_goals
        have HS5 := Lib.hid hS5
        have HO5 := Lib.hid ho5
        have HK5 := Lib.hid hk5
        have HK4 := Lib.hid hk4
        have HLL := Lib.hid hl5
        clear hS5 ho5 hk5 hk4 hl5 c0 hix hfd
        go_wp2_with fail
        go_ret2
        have z4 := HK4.out.size
        have z3 := HF.out.2.1.size
        have zz : w3.heap.size ≤ w4.heap.size := z4
        have zl := HL5.out
        have zl2 := HLL.out
        have KK := ((HF.out.2.1.drew.trans HK4.out (fun _ h => .inl h))).trans HK5.out (fun i hi => .inr (by rw [HO3.out] at hi; have := Option.some.inj hi; omega))
        refine ⟨v5, 0, rfl, by omega, by omega, KK, fun _ => ⟨HGOOD.out.1, HGOOD.out.2, by simp, by simp, HCK.out, l5, ?_⟩⟩
        rcases HO5.out with e | ⟨g, e, hg⟩
        · exact ⟨g3, by rw [← HO3.out, ← e]; exact HS5.out, by omega, by omega⟩
        · exact ⟨g, by rw [← e]; exact HS5.out, by omega, by omega⟩
theorem kinds_ix3 (W : World) : (Instr.index 245 kindsV (.int .i64 3)).run Tryz.prog W = .ok (.agg #[fnV 170, fnV 171]) W := by
  kernel_rfl
theorem kinds_fd3 (W : World) : (Instr.field 244 (.agg #[fnV 170, fnV 171]) 0).run Tryz.prog W = .ok (fnV 170) W := by
  kernel_rfl
set_option maxRecDepth 100000 in
set_option maxHeartbeats 4000000 in
theorem wr3_calls (xid p0 p1 p2 s0 s1 s2 : Int) (ang : Nat) (last : Int) (w : World) (h : RecIn ⟨3, xid, p0, p1, p2, s0, s1, s2, ang⟩) :
    Calls Tryz.prog 89 #[recV ⟨3, xid, p0, p1, p2, s0, s1, s2, ang⟩, .int .i64 last] w (WrAny ⟨3, xid, p0, p1, p2, s0, s1, s2, ang⟩ last w) := by
  have HC := Lib.hid (fun W => rcheck_any ⟨3, xid, p0, p1, p2, s0, s1, s2, ang⟩ h W)
  have HKD := Lib.hid (fun W => kinds_calls W)
  have HP := Lib.hid (fun (x : Nat) (W : World) (hx : x < 18446744073709551616) => put_calls x W hx)
  have HWA := Lib.hid (fun (l : List Nat) (q : Nat) (W : World) (v : Value) (own : Option Nat) => all_any ⟨3, xid, p0, p1, p2, s0, s1, s2, ang⟩ h.ok q l W v own)
  obtain ⟨j0, hi, hz0, hz1, hz2⟩ := info_parts info8
  have HI := Lib.hid hi
  have HZ0 := Lib.hid hz0
  have HZ1 := Lib.hid hz1
  have HZ2 := Lib.hid hz2
  have HSR := Lib.hid (fun (W : World) => src_one W (.int .u8 3) 5)
  have HO : Hid (∀ u ∈ [Value.int .u8 3], u.oneCell' = true) := Lib.hid (by simp [Value.oneCell'])
  clear hi hz0 hz1 hz2 h
  go_enter Tryz.func89, Tryz.ntmps89
  go_wp2_with fail
  refine (HC.out _).mono ?_
  rintro e w1 ⟨er, rfl, he0, he1, hez, hk1⟩
  have B := hk1.blk (Blk.new w (recC ⟨3, xid, p0, p1, p2, s0, s1, s2, ang⟩) 175) (fun h => h)
  have K : Kept (fun _ => False) w w1 := ((Kept.refl (fun _ => False) w).alloc _).trans hk1 (fun _ h => h.elim)
  clear hk1
  have hbl := B.lt
  have b0 := B.cell (i := 0) rfl
  have b1 := B.cell (i := 1) rfl
  have HB := Lib.hid B
  have HK := Lib.hid K
  have HEZ := Lib.hid hez
  clear B K hez
  cases hne : (er != 0) with
  | true =>
    have HE : Hid (er ≠ 0) := Lib.hid (by simpa using hne)
    go_wp2_with fail
    go_ret2
    exact ⟨_, er, rfl, he0, he1, HK.out, fun e => absurd e HE.out⟩
  | false =>
    obtain rfl : er = 0 := by simpa using hne
    have hez := HEZ.out rfl
    dsimp only at hez
    have hez1 := hez.2.2.1
    have hez2 := hez.2.2.2.1
    have HCK := Lib.hid hez.2.2.2.2
    clear hez HEZ hne he0 he1
    by_cases h3 : last < -1
    · go_wp2_with fail
      go_ret2
      exact ⟨_, 3, rfl, by omega, by omega, HK.out, fun e => absurd e (by decide)⟩
    by_cases h4 : 65535 < last
    · go_wp2_with fail
      go_ret2
      exact ⟨_, 3, rfl, by omega, by omega, HK.out, fun e => absurd e (by decide)⟩
    by_cases h5 : xid ≤ last
    · go_wp2_with fail
      go_ret2
      exact ⟨_, 10, rfl, by omega, by omega, HK.out, fun e => absurd e (by decide)⟩
    have HGOOD : Hid (last < xid ∧ xid ≤ 65535) := Lib.hid (by omega)
    have hpb : (xid - last - 1).toNat < 18446744073709551616 := by omega
    have HP := Lib.hid (fun W => HP.out (xid - last - 1).toNat W hpb)
    have e1 : (((xid - last - 1).toNat : Nat) : Int) = xid - last - 1 := by omega
    have hs10 := (sizeM_bd (xid - last - 1).toNat hpb).2.1
    rw [e1] at HP
    unfold PutPost at HP
    rw [show sizeM (xid - last - 1).toNat = (putL (xid - last - 1).toNat).length from (putL_len _).symm] at HP hs10
    generalize putL (xid - last - 1).toNat = t at *
    have N1 : Hid (t.length + 1 ≤ maxLen) := Lib.hid (by unfold maxLen; omega)
    have N2 : Hid ((t.length + 1) * 1 ≤ 140737488355328) := Lib.hid (by omega)
    clear e1 hpb
    have q1 : IntKind.i64.wrap (xid - last) = xid - last := IntWalk.i64_in _ (by omega)
    have q2 : IntKind.i64.wrap (xid - last - 1) = xid - last - 1 := IntWalk.i64_in _ (by omega)
    have q3 : IntKind.u64.wrap (xid - last - 1) = xid - last - 1 := IntWalk.u64_in _ (by omega)
    have q4 : IntKind.u8.wrap 3 = 3 := by kernel_rfl
    go_wp2_with fail
    go_region_held3 (fun w' => w'.cell? ⟨w.heap.size, 0, none⟩ = some (.int .i64 3) ∧ w'.cell? ⟨w.heap.size, 1, none⟩ = some (.int .i64 xid))
      (first | (go_keep; done) | (refine ⟨hk2.cell ?_ (fun h => h), hk2.cell ?_ (fun h => h)⟩ <;> simp [*]) | (go_split_ands; exact ⟨hk3.cell (by assumption) (fun e => by have e2 : g2 = w.heap.size := Option.some.inj e; simp at hg2; omega), hk3.cell (by assumption) (fun e => by have e2 : g2 = w.heap.size := Option.some.inj e; simp at hg2; omega)⟩))
      ((first
        | (go_at_call 132; refine (HP.out _).mono ?_; rintro e w2 ⟨v2, g2, rfl, hS2, hg2, hk2⟩)
        | (refine step_append_sl _ (by rfl) _ _ _ (by rfl) 5 j0 (.int .u8 0) 1 1 Tryz.underlying23 HI.out HZ0.out HZ1.out HZ2.out rfl _ t.length (u8s t) (some g2) (by rfl) (by first | exact hS2 | exact hS2.alloc _ | exact hS2.drew.alloc _) _ 1 [.int .u8 3] (by rfl) (by first | exact HSR.out _ | exact (HSR.out _).kept hk2 | exact (HSR.out _).drew.kept hk2) rfl HO.out N1.out N2.out ?_; intro v3 w3 o3 hS3 ho3 hk3)))
    all_goals
      have HMI : Hid (∃ Wp, Kept (fun _ => False) w1 Wp ∧ Kept (fun k => some g2 = some k) Wp w3 ∧ (o3 = some g2 ∨ o3 = some Wp.heap.size)) := Lib.hid (by
        first
        | exact ⟨_, ((Kept.refl _ w1).drew.trans hk2 (fun _ h => .inl h)).alloc _, hk3, ho3⟩
        | exact ⟨_, ((Kept.refl _ w1).alloc _).drew.trans hk2 (fun _ h => .inl h), hk3, ho3⟩)
      have hg3 : w.heap.size < g2 := by
        have := hg2
        simp at this
        omega
      have HF : Hid (Blk w3 w.heap.size (recC ⟨3, xid, p0, p1, p2, s0, s1, s2, ang⟩) 175 ∧ Kept (fun _ => False) w w3 ∧ ∃ g, o3 = some g ∧ w.heap.size < g) := Lib.hid (by
        obtain ⟨Wp, k1, k3, ho⟩ := HMI.out
        have z1 := k1.size
        refine ⟨k3.blk (k1.blk HB.out (fun h => h)) (fun e => ?_), (HK.out.trans k1 (fun _ h => .inl h)).trans k3 (fun i hi => .inr ?_), ?_⟩
        · have e2 : g2 = w.heap.size := Option.some.inj e
          omega
        · have e2 : g2 = i := Option.some.inj hi
          omega
        · rcases ho with e | e
          · exact ⟨_, e, hg3⟩
          · exact ⟨_, e, by omega⟩)
      have HS3 : Hid (Sl w3 v3 5 1 (t ++ [3]).length (u8s (t ++ [3])) o3) := Lib.hid (by
        rw [List.length_append, u8s_app]; exact hS3)
      have HL5 : Hid (((t ++ [3]).length : Int) ≤ 11) := Lib.hid (by rw [List.length_append]; simp; omega)
      have c0 := HF.out.1.cell (i := 0) rfl
      obtain ⟨g3, ho3', hg3'⟩ := HF.out.2.2
      have HO3 := Lib.hid ho3'
      have HNE : Hid (o3 ≠ some w.heap.size) := Lib.hid (by rw [ho3']; intro e; have := Option.some.inj e; omega)
      have hix := kinds_ix3
      have hfd := kinds_fd3
      clear hS2 hg2 hk2 hS3 ho3 hk3 HMI hg3 b0 b1 hbl HB HK q1 q2 q3 q4 ho3'
      go_wp2_with fail
      go_region_held3 (fun w' => w'.cell? ⟨w.heap.size, 0, none⟩ = some (.int .i64 3))
        (first | (go_keep; done) | exact hk5.cell (by assumption) HNE.out | exact hk4.cell (by assumption) (fun h => h))
        ((first
          | (go_at_call 134; refine (HKD.out _).mono ?_; rintro e w4 ⟨rfl, hk4⟩)
          | (go_at_call 170; refine (HWA.out (t ++ [3]) w.heap.size _ v3 o3 (HS3.out.drew.kept hk4 (fun _ _ h => h)) (by have := HL5.out; omega) (hk4.blk HF.out.1.drew (fun h => h)) HNE.out).mono ?_; rintro e w5 ⟨l5, v5, o5, rfl, hS5, hl5, ho5, hk5⟩)))
      all_goals
        have HS5 := Lib.hid hS5
        have HO5 := Lib.hid ho5
        have HK5 := Lib.hid hk5
        have HK4 := Lib.hid hk4
        have HLL := Lib.hid hl5
        clear hS5 ho5 hk5 hk4 hl5 c0 hix hfd
        go_wp2_with fail
        go_ret2
        have z4 := HK4.out.size
        have z3 := HF.out.2.1.size
        have zz : w3.heap.size ≤ w4.heap.size := z4
        have zl := HL5.out
        have zl2 := HLL.out
        have KK := ((HF.out.2.1.drew.trans HK4.out (fun _ h => .inl h))).trans HK5.out (fun i hi => .inr (by rw [HO3.out] at hi; have := Option.some.inj hi; omega))
        refine ⟨v5, 0, rfl, by omega, by omega, KK, fun _ => ⟨HGOOD.out.1, HGOOD.out.2, by simp, by simp, HCK.out, l5, ?_⟩⟩
        rcases HO5.out with e | ⟨g, e, hg⟩
        · exact ⟨g3, by rw [← HO3.out, ← e]; exact HS5.out, by omega, by omega⟩
        · exact ⟨g, by rw [← e]; exact HS5.out, by omega, by omega⟩
set_option maxRecDepth 100000 in
set_option maxHeartbeats 4000000 in
theorem wrBad_calls (r : RecM) (last : Int) (w : World) (h : RecIn r) (hk : ¬ (0 ≤ r.kind ∧ r.kind ≤ 3)) :
    Calls Tryz.prog 89 #[recV r, .int .i64 last] w (WrAny r last w) := by
  have HC := Lib.hid (fun W => rcheck_any r h W)
  have HKB := Lib.hid hk
  clear h hk
  go_enter Tryz.func89, Tryz.ntmps89
  go_wp2_with fail
  refine (HC.out _).mono ?_
  rintro e w1 ⟨er, rfl, he0, he1, hez, hk1⟩
  have HK : Hid (Kept (fun _ => False) w w1) := Lib.hid (((Kept.refl (fun _ => False) w).alloc _).trans hk1 (fun _ h => h.elim))
  have HE : Hid (er ≠ 0) := Lib.hid (fun e => HKB.out ⟨(hez e).1, (hez e).2.1⟩)
  have hne : (er != 0) = true := by simpa using HE.out
  clear hk1 hez
  go_wp2_with fail
  go_ret2
  exact ⟨_, er, rfl, he0, he1, HK.out, fun e => absurd e HE.out⟩
theorem write_any (r : RecM) (last : Int) (w : World) (h : RecIn r) :
    Calls Tryz.prog 89 #[recV r, .int .i64 last] w (WrAny r last w) := by
  by_cases hk : 0 ≤ r.kind ∧ r.kind ≤ 3
  · obtain ⟨k, xid, p0, p1, p2, s0, s1, s2, ang⟩ := r
    dsimp only at hk
    rcases (by omega : k = 0 ∨ k = 1 ∨ k = 2 ∨ k = 3) with rfl | rfl | rfl | rfl
    · exact wr0_calls xid p0 p1 p2 s0 s1 s2 ang last w h
    · exact wr1_calls xid p0 p1 p2 s0 s1 s2 ang last w h
    · exact wr2_calls xid p0 p1 p2 s0 s1 s2 ang last w h
    · exact wr3_calls xid p0 p1 p2 s0 s1 s2 ang last w h
  · exact wrBad_calls r last w h hk
end Go.Proofs.YtekdkckgmleofaaGreat
