/- Joined texts. -/
import Derived.Test.YtekdkckgmleofaaGreatXf22
import Derived.Test.YtekdkckgmleofaaGreatXf24
import Derived.Test.YtekdkckgmleofaaGreatXf17
set_option linter.unusedVariables false
set_option linter.unusedSimpArgs false
/- Contract of gram.Read at any bytes. -/
namespace Go.Proofs.YtekdkckgmleofaaGreat
open Go.RowKit
theorem sl_addr {w : World} {v : Value} {e : TypeId} {s n : Nat} {xs : List Value} {g : Nat} (h : Sl w v e s n xs (some g)) : ∃ off cap, v = .slice (some ⟨g, off, none⟩) n cap ∧ n ≤ cap ∧ (∀ j u, xs[j]? = Option.some u → w.cell? ⟨g, off + j, none⟩ = Option.some u) := by
  rcases h.2 with ⟨_, _, h0⟩ | ⟨g', off, cap, cur, ho, hv, hb, h1, h2, h3, h4⟩
  · cases h0
  · cases ho
    refine ⟨off, cap, hv, h1, fun j u hu => ?_⟩
    rw [← h4] at hu
    have := take_drop_getElem? _ _ _ _ _ hu
    simpa [World.cell?, hb] using this
def NewRdG (bs : List Nat) (g : Nat) (w : World) (e : Ending) (w' : World) : Prop := ∃ p off cap, e = .returned (.pointer (some ⟨p, 0, none⟩)) ∧ RdG w' p g off cap bs 0 0 ∧ w.heap.size ≤ p ∧ Kept (fun _ => False) w w'
theorem gnew_calls (bs : List Nat) (w : World) (v : Value) (g : Nat) (h : Sl w v 5 1 bs.length (u8s bs) (some g)) (hl : bs.length ≤ 10000) (hb : ∀ c ∈ bs, c < 256) :
    Calls Tryz.prog 108 #[v] w (NewRdG bs g w) := by
  obtain ⟨off, cap, hv, hle, hcell⟩ := sl_addr h
  have hg := h.lt rfl
  subst hv
  have HR : Hid (RowAt w g off bs) := Lib.hid (fun i c hc => hcell i _ (u8s_get hc))
  have HB := Lib.hid hb
  clear h hcell hb
  go_enter Tryz.func108, Tryz.ntmps108
  go_wp2
  go_ret
  exact ⟨w.heap.size, off, cap, rfl, ⟨Blk.new w _ _, HR.out.kept ((Kept.refl (fun _ => False) w).alloc _) (fun h => h), HB.out, by omega, Nat.zero_le _, by omega, hle, by omega, by omega, by simp; omega⟩, Nat.le_refl _, (Kept.refl _ w).alloc _⟩
structure ParG (q p g off cap m : Nat) (bs : List Nat) (w wr : World) (a : Nat) (er : Int) (tick time base : Int) (v : Value) : Prop where
  rd : RdG wr p g off cap bs a er
  par : Blk wr q (parC p tick time base v) 213
  arr : Blk wr m (stepsC q) 1
  zer : Blk wr w.heap.size [.int .i64 0, .int .i64 0, .int .i64 0, .slice none 0 0] 78
  kept : Kept (fun _ => False) w wr
theorem ParG.step {q p g off cap m : Nat} {bs : List Nat} {w wr w' : World} {a a' : Nat} {er er' : Int} {tick time base tick' time' base' : Int} {v v' : Value} (h : ParG q p g off cap m bs w wr a er tick time base v) (hr : RdG w' p g off cap bs a' er') (hb : Blk w' q (parC p tick' time' base' v') 213)
    (k : Kept (fun i => i = p ∨ i = q) wr w') (hmp : m ≠ p) (hmq : m ≠ q) (hp : w.heap.size < p) (hq : w.heap.size < q) : ParG q p g off cap m bs w w' a' er' tick' time' base' v' :=
  ⟨hr, hb, k.blk h.arr (fun e => e.elim hmp hmq), k.blk h.zer (fun e => by rcases e with e | e <;> omega), h.kept.trans k (fun i hi => .inr (by omega))⟩
def GReadPost (w : World) (e : Ending) (w' : World) : Prop :=
  ∃ (tick time base : Int) (rs : List RecM) (v : Value) (own : Option Nat) (er : Int), e = .returned (.tuple #[gramV tick time base v, .int .i64 er]) ∧ 0 ≤ er ∧ er ≤ 17 ∧ HdG tick time base ∧ Sl w' v 175 9 rs.length (rsC rs) own ∧ (own = none ∨ ∃ g, own = some g ∧ w.heap.size ≤ g) ∧ (∀ r ∈ rs, RecIn r) ∧ rs.length ≤ 128 ∧ Kept (fun _ => False) w w'
theorem hdG0 : HdG 0 0 0 := ⟨by omega, by omega, by unfold I64; omega, by omega, by omega⟩
theorem gread_bad {w w' : World} (er : Int) (h0 : 0 ≤ er) (h1 : er ≤ 17) (k : Kept (fun _ => False) w w') : GReadPost w (.returned (.tuple #[gramV 0 0 0 (.slice none 0 0), .int .i64 er])) w' :=
  ⟨0, 0, 0, [], _, none, er, rfl, h0, h1, hdG0, Sl.nil _ _ _, .inl rfl, by simp, by simp, k⟩
set_option maxRecDepth 100000 in
set_option maxHeartbeats 4000000 in
theorem gread_any (bs : List Nat) (w : World) (v : Value) (h : ByAt w v bs) (hb : ∀ c ∈ bs, c < 256) :
    Calls Tryz.prog 69 #[v] w (GReadPost w) := by
  have HO := Lib.hid (fun W (hl : bs.length ≤ 10000) (k : Kept (fun _ => False) w W) => open_any bs W v (h.kept k) hl hb)
  have HN := Lib.hid (fun W (l : List Nat) v g (h : Sl W v 5 1 l.length (u8s l) (some g)) hl hb => gnew_calls l W v g h hl hb)
  have hmf : ∀ (fn : Fn) (first cap : Array Value) (w : World), (Instr.makeFunc fn first cap).run Tryz.prog w = .ok (.func fn first cap) w := fun _ _ _ _ => rfl
  obtain ⟨a0, cap0, rfl, -, -⟩ := h.form
  generalize hnn : bs.length = n at *
  have K0 := (Kept.refl (fun _ => False) w).alloc (.cells #[.int .i64 0, .int .i64 0, .int .i64 0, .slice none 0 0] 78)
  have B0 := Blk.new w [.int .i64 0, .int .i64 0, .int .i64 0, .slice none 0 0] 78
  have HK0 := Lib.hid K0
  have HBB0 := Lib.hid B0
  have f0 := B0.free 0
  have f1 := B0.free 1
  have f2 := B0.free 2
  have f3 := B0.free 3
  have b0 := B0.cell (i := 0) rfl
  have b1 := B0.cell (i := 1) rfl
  have b2 := B0.cell (i := 2) rfl
  have b3 := B0.cell (i := 3) rfl
  clear h hb hnn K0 B0
  by_cases hg4 : (4096 : Int) < n
  · go_enter Tryz.func69, Tryz.ntmps69
    go_wp2_with fail
    refine bodyPost_ret (v := .tuple #[gramV 0 0 0 (.slice none 0 0), .int .i64 8]) (by simp [results, Tryz.f69, Tryz.results69, go_sem, b0, b1, b2, b3]) rfl (gread_bad 8 (by omega) (by omega) HK0.out)
  have hg5 : n ≤ 10000 := by omega
  have HO := Lib.hid (fun W => HO.out W hg5)
  go_enter Tryz.func69, Tryz.ntmps69
  go_wp2_with fail
  refine (HO.out _ HK0.out).mono ?_
  clear f0 f1 f2 f3 b0 b1 b2 b3
  rintro e w1 ⟨v1, ok, rfl, hk1, hok⟩
  have HB0 := Lib.hid (hk1.blk HBB0.out (fun h => h))
  have HK1 := Lib.hid (HK0.out.trans hk1 (fun _ h => h.elim))
  have HOK := Lib.hid hok
  clear hk1 hok HK0 HBB0
  cases ok with
  | false =>
    have f0 := HB0.out.free 0
    have f1 := HB0.out.free 1
    have f2 := HB0.out.free 2
    have f3 := HB0.out.free 3
    have b0 := HB0.out.cell (i := 0) rfl
    have b1 := HB0.out.cell (i := 1) rfl
    have b2 := HB0.out.cell (i := 2) rfl
    have b3 := HB0.out.cell (i := 3) rfl
    go_wp2_with fail
    have hf := (((HB0.out.set 0 (.int .i64 0)).set 1 (.int .i64 0)).set 2 (.int .i64 0)).set 3 (.slice none 0 0)
    have KS := ((((Kept.refl (· = w.heap.size) w1).setCell (a := ⟨w.heap.size, 0, none⟩) (.inl rfl) (.int .i64 0)).setCell (a := ⟨w.heap.size, 1, none⟩) (.inl rfl) (.int .i64 0)).setCell (a := ⟨w.heap.size, 2, none⟩) (.inl rfl) (.int .i64 0)).setCell (a := ⟨w.heap.size, 3, none⟩) (.inl rfl) (.slice none 0 0)
    have r0 := hf.cell (i := 0) rfl
    have r1 := hf.cell (i := 1) rfl
    have r2 := hf.cell (i := 2) rfl
    have r3 := hf.cell (i := 3) rfl
    refine bodyPost_ret (v := .tuple #[gramV 0 0 0 (.slice none 0 0), .int .i64 9]) (by simp [results, Tryz.f69, Tryz.results69, go_sem, r0, r1, r2, r3]) rfl (gread_bad 9 (by omega) (by omega) (HK1.out.trans KS (fun i hi => .inr (by omega))))
  | true =>
    obtain ⟨l, g1, hS1, hl1, hg1, hb1⟩ := HOK.out rfl
    have HS1 := Lib.hid hS1
    have HBY := Lib.hid hb1
    have hg1w : w.heap.size < g1 := by simp at hg1; omega
    have hl2 : l.length ≤ 10000 := by omega
    clear hS1 hb1 hg1 HOK
    go_wp2_with fail
    refine (HN.out _ _ _ _ HS1.out hl2 HBY.out).mono ?_
    rintro e w2 ⟨p, off, cap, rfl, hr2, hp2, hk2⟩
    have hg2 : g1 < w2.heap.size := Nat.lt_of_lt_of_le (HS1.out.lt rfl) hk2.size
    have hpl := hr2.blk.lt
    have HR2 := Lib.hid hr2
    have HB2 := Lib.hid (hk2.blk HB0.out (fun h => h))
    have HK2 := Lib.hid (HK1.out.trans hk2 (fun _ h => h.elim))
    have hg1p := hr2.ne
    clear hr2 hk2
    go_wp2_with fail
    have HI0 : Hid (ParG w2.heap.size p g1 off cap (w2.heap.size + 1) l w ((w2.alloc (.cells #[.pointer (some ⟨p, 0, none⟩), .int .i64 0, .int .i64 0, .int .i64 0, .slice none 0 0] 213)).alloc (.cells (stepsC w2.heap.size).toArray 1)) 0 0 0 0 0 (.slice none 0 0)) := Lib.hid (by
      have kk := (((Kept.refl (fun _ => False) w2).alloc (.cells #[.pointer (some ⟨p, 0, none⟩), .int .i64 0, .int .i64 0, .int .i64 0, .slice none 0 0] 213)).alloc (.cells (stepsC w2.heap.size).toArray 1))
      exact ⟨HR2.out.kept kk (fun h => h) (fun h => h), (Blk.new w2 _ _).alloc _, Blk.new_at (by simp) (stepsC w2.heap.size) _, (HB2.out.alloc _).alloc _, HK2.out.trans kk (fun _ h => h.elim)⟩)
    have z3 := HK1.out.size
    have z4 := HB0.out.lt
    have hnp : w.heap.size < p := by omega
    have hnq : w.heap.size < w2.heap.size := by omega
    go_loopw [36] (fun i wr => ∃ (k : Nat), i = .int .i64 k ∧ (k = 0 ∧ (∃ a er, ParG w2.heap.size p g1 off cap (w2.heap.size + 1) l w wr a er 0 0 0 (.slice none 0 0)) ∨ k = 1 ∧ (∃ a er, ParG w2.heap.size p g1 off cap (w2.heap.size + 1) l w wr a er 0 0 0 (.slice none 0 0)) ∨
      k = 2 ∧ (∃ a er tick time base, ParG w2.heap.size p g1 off cap (w2.heap.size + 1) l w wr a er tick time base (.slice none 0 0) ∧ HdG tick time base) ∨
      k = 3 ∧ (∃ a er tick time base, ParG w2.heap.size p g1 off cap (w2.heap.size + 1) l w wr a er tick time base (.slice none 0 0) ∧ HdG tick time base) ∨
      k = 4 ∧ ∃ a er tick time base rs v own, ParG w2.heap.size p g1 off cap (w2.heap.size + 1) l w wr a er tick time base v ∧ HdG tick time base ∧ Sl wr v 175 9 rs.length (rsC rs) own ∧ (own = none ∨ ∃ g, own = some g ∧ w.heap.size + 1 ≤ g) ∧ (∀ r ∈ rs, RecIn r) ∧ rs.length ≤ 128)) (fun i _ => (4 - intOf i).toNat)
    case atStart => exact ⟨0, rfl, .inl ⟨rfl, 0, 0, HI0.out⟩⟩
    case round =>
      obtain ⟨k, rfl, hk⟩ := hrel
      have hmp : w2.heap.size + 1 ≠ p := by omega
      have hmq : w2.heap.size + 1 ≠ w2.heap.size := by omega
      have hqp : w2.heap.size ≠ p := by omega
      have hqg : w2.heap.size ≠ g1 := by omega
      rcases hk with ⟨rfl, a, er, hI⟩ | ⟨rfl, a, er, hI⟩ | ⟨rfl, a, er, tick, time, base, hI, hH⟩ | ⟨rfl, a, er, tick, time, base, hI, hH⟩ | ⟨rfl, a, er, tick, time, base, rs, v, ow, hI, hH, hV, hO, hR, hL⟩
      · have a0 := hI.arr.cell (i := 0) rfl
        have HC := Lib.hid (gsigns_calls wr w2.heap.size p g1 off cap l a er 0 0 0 (.slice none 0 0) hI.par hqp hI.rd)
        have HJ := Lib.hid hI
        clear hI
        go_wp2_with fail
        refine (HC.out).mono ?_
        rintro e w3 ⟨a', er', rfl, hr, hk⟩
        have HN2 := Lib.hid (HJ.out.step hr (hk.blk HJ.out.par hqp) (hk.mono (fun _ _ h => .inl h)) hmp hmq hnp hnq)
        clear hr hk
        go_wp2_with fail
        exact ⟨⟨1, by simp, .inr (.inl ⟨rfl, _, _, HN2.out⟩)⟩, by simp [intOf]⟩
      · have a0 := hI.arr.cell (i := 1) rfl
        have HC := Lib.hid (gwhen_calls wr w2.heap.size p g1 off cap l a er (.slice none 0 0) hI.par hqp hqg hI.rd)
        have HJ := Lib.hid hI
        clear hI
        go_wp2_with fail
        refine (HC.out).mono ?_
        rintro e w3 ⟨a', er', tick, time, base, rfl, hr, hq, hd, hk⟩
        have HN2 := Lib.hid (HJ.out.step hr hq hk hmp hmq hnp hnq)
        have HD := Lib.hid hd
        clear hr hq hk hd
        go_wp2_with fail
        exact ⟨⟨2, by simp, .inr (.inr (.inl ⟨rfl, _, _, _, _, _, HN2.out, HD.out⟩))⟩, by simp [intOf]⟩
      · have a0 := hI.arr.cell (i := 2) rfl
        have HC := Lib.hid (gbase_calls tick time base hH wr w2.heap.size p g1 off cap l a er (.slice none 0 0) hI.par hqp hqg hI.rd)
        have HJ := Lib.hid hI
        clear hI hH
        go_wp2_with fail
        refine (HC.out).mono ?_
        rintro e w3 ⟨a', er', tick', time', base', rfl, hr, hq, hd, hk⟩
        have HN2 := Lib.hid (HJ.out.step hr hq hk hmp hmq hnp hnq)
        have HD := Lib.hid hd
        clear hr hq hk hd
        go_wp2_with fail
        exact ⟨⟨3, by simp, .inr (.inr (.inr (.inl ⟨rfl, _, _, _, _, _, HN2.out, HD.out⟩)))⟩, by simp [intOf]⟩
      · have a0 := hI.arr.cell (i := 3) rfl
        have HC := Lib.hid (grecords_calls tick time base wr w2.heap.size p g1 off cap l a er hI.par hqp hqg hI.rd)
        have hwr : w.heap.size < wr.heap.size := hI.zer.lt
        have HJ := Lib.hid hI
        have HD := Lib.hid hH
        clear hI hH
        go_wp2_with fail
        refine (HC.out).mono ?_
        rintro e w3 ⟨z, rs, v, ow, a', er', rfl, hI3⟩
        have HN2 := Lib.hid (HJ.out.step hI3.rd hI3.par hI3.kept hmp hmq hnp hnq)
        have HI3 := Lib.hid hI3
        clear hI3
        go_wp2_with fail
        refine ⟨⟨4, by simp, .inr (.inr (.inr (.inr ⟨rfl, _, _, _, _, _, rs, v, ow, HN2.out, HD.out, HI3.out.sl, ?_, HI3.out.ok, HI3.out.len⟩)))⟩, by simp [intOf]⟩
        rcases HI3.out.ow with e | ⟨g, e, hg⟩
        · exact .inl e
        · exact .inr ⟨g, e, by omega⟩
      · have HDn := Lib.hid (gdone_calls wr p g1 off cap l a er hI.rd)
        have HJ := Lib.hid hI
        have HV := Lib.hid (And.intro hH (And.intro hV (And.intro hO (And.intro hR hL))))
        obtain ⟨av, cv, rfl, -, -⟩ := hV.form
        have p0 := hI.par.cell (i := 0) rfl
        clear hI hH hV hO hR hL
        go_wp2_with fail
        refine (HDn.out).mono ?_
        rintro e w3 ⟨d, rfl, hd, hd0, hd1, hk3⟩
        have HZ := Lib.hid (hk3.blk HJ.out.zer (fun h => h))
        have HQ := Lib.hid (hk3.blk HJ.out.par (fun h => h))
        have HK := Lib.hid (HJ.out.kept.trans hk3 (fun _ h => h.elim))
        have HSV := Lib.hid (HV.out.2.1.kept hk3 (fun _ _ h => h))
        have q0 := HQ.out.cell (i := 0) rfl
        have q1 := HQ.out.cell (i := 1) rfl
        have q2 := HQ.out.cell (i := 2) rfl
        have q3 := HQ.out.cell (i := 3) rfl
        have q4 := HQ.out.cell (i := 4) rfl
        have b0 := HZ.out.cell (i := 0) rfl
        have b1 := HZ.out.cell (i := 1) rfl
        have b2 := HZ.out.cell (i := 2) rfl
        have b3 := HZ.out.cell (i := 3) rfl
        have f0 := HZ.out.free 0
        have f1 := HZ.out.free 1
        have f2 := HZ.out.free 2
        have f3 := HZ.out.free 3
        clear hk3 hd p0
        cases hdz : (d != 0) with
        | true =>
          go_wp2_with fail
          have hf := (((HZ.out.set 0 (.int .i64 0)).set 1 (.int .i64 0)).set 2 (.int .i64 0)).set 3 (.slice none 0 0)
          have KS := ((((Kept.refl (· = w.heap.size) w3).setCell (a := ⟨w.heap.size, 0, none⟩) (.inl rfl) (.int .i64 0)).setCell (a := ⟨w.heap.size, 1, none⟩) (.inl rfl) (.int .i64 0)).setCell (a := ⟨w.heap.size, 2, none⟩) (.inl rfl) (.int .i64 0)).setCell (a := ⟨w.heap.size, 3, none⟩) (.inl rfl) (.slice none 0 0)
          have r0 := hf.cell (i := 0) rfl
          have r1 := hf.cell (i := 1) rfl
          have r2 := hf.cell (i := 2) rfl
          have r3 := hf.cell (i := 3) rfl
          refine bodyPost_ret (v := .tuple #[gramV 0 0 0 (.slice none 0 0), .int .i64 d]) (by simp [results, Tryz.f69, Tryz.results69, go_sem, r0, r1, r2, r3]) rfl (gread_bad d hd0 hd1 (HK.out.trans KS (fun i hi => .inr (by omega))))
        | false =>
          obtain rfl : d = 0 := by simpa using hdz
          go_wp2_with fail
          have hf := (((HZ.out.set 0 (.int .i64 tick)).set 1 (.int .i64 time)).set 2 (.int .i64 base)).set 3 (.slice av rs.length cv)
          have KS := ((((Kept.refl (· = w.heap.size) w3).setCell (a := ⟨w.heap.size, 0, none⟩) (.inl rfl) (.int .i64 tick)).setCell (a := ⟨w.heap.size, 1, none⟩) (.inl rfl) (.int .i64 time)).setCell (a := ⟨w.heap.size, 2, none⟩) (.inl rfl) (.int .i64 base)).setCell (a := ⟨w.heap.size, 3, none⟩) (.inl rfl) (.slice av rs.length cv)
          have r0 := hf.cell (i := 0) rfl
          have r1 := hf.cell (i := 1) rfl
          have r2 := hf.cell (i := 2) rfl
          have r3 := hf.cell (i := 3) rfl
          refine bodyPost_ret (v := .tuple #[gramV tick time base (.slice av rs.length cv), .int .i64 0]) (by simp [results, Tryz.f69, Tryz.results69, go_sem, r0, r1, r2, r3]) rfl ⟨tick, time, base, rs, _, ow, 0, rfl, by omega, by omega, HV.out.1, HSV.out.kept KS (fun g' e e2 => ?_), ?_, HV.out.2.2.2.1, HV.out.2.2.2.2, HK.out.trans KS (fun i hi => .inr (by omega))⟩
          · rcases HV.out.2.2.1 with h0 | ⟨g, h0, hg⟩
            · rw [h0] at e; cases e
            · rw [h0] at e
              have := Option.some.inj e
              omega
          · rcases HV.out.2.2.1 with h0 | ⟨g, h0, hg⟩
            · exact .inl h0
            · exact .inr ⟨g, h0, by omega⟩
end Go.Proofs.YtekdkckgmleofaaGreat

/- Contract of gram.head for any datagram. -/
namespace Go.Proofs.YtekdkckgmleofaaGreat
open Go.RowKit
def HeadAny (tick time base : Int) (w : World) (e : Ending) (w' : World) : Prop :=
  ∃ (v : Value) (er : Int), e = .returned (.tuple #[v, .int .i64 er]) ∧ 0 ≤ er ∧ er ≤ 17 ∧ Kept (fun _ => False) w w' ∧ (er = 0 → SnapOk tick time ∧ base < tick ∧ ∃ (l : List Nat) (g : Nat), Sl w' v 5 1 l.length (u8s l) (some g) ∧ w.heap.size ≤ g ∧ l.length ≤ 42)
set_option maxRecDepth 100000 in
set_option maxHeartbeats 4000000 in
theorem head_any (tick time base : Int) (h : HdG tick time base) (a : Option Addr) (n cap : Nat) (hn : (n : Int) ≤ 128) (w : World) :
    Calls Tryz.prog 88 #[gramV tick time base (.slice a n cap)] w (HeadAny tick time base w) := by
  obtain ⟨t0, t1, hs, b0, b1⟩ := h
  unfold I64 at hs
  have hz := zigM_bd time (by omega) (by omega)
  have HZ := Lib.hid (fun W => zig_calls time W (by omega) (by omega))
  have HT := Lib.hid (fun W => timely_any time W)
  generalize zigM time = z at *
  have g1 : ¬ tick < 0 := by omega
  have g2 : ¬ 4294967295 < tick := by omega
  have g5 : ¬ base < -1 := by omega
  have g6 : ¬ (128 : Int) < n := by omega
  by_cases c1 : tick ≤ base
  · skip
    go_enter Tryz.func88, Tryz.ntmps88
    go_wp2_with (go_at_call 130; refine (HT.out _).mono ?_; rintro e w1 ⟨tm, rfl, htm, rfl⟩; have HTM := Lib.hid htm; clear htm HT; cases tm)
    · go_ret2
      exact ⟨_, 3, rfl, by omega, by omega, (Kept.refl _ w).alloc _, fun e => absurd e (by decide)⟩
    go_ret2
    exact ⟨_, 10, rfl, by omega, by omega, (Kept.refl _ w).alloc _, fun e => absurd e (by decide)⟩
  have HOK : Hid ((-2305843009213693952 ≤ time ∧ time ≤ 2305843009213693952) → SnapOk tick time ∧ base < tick) := Lib.hid (fun h => ⟨⟨t0, t1, h.1, h.2⟩, by omega⟩)
  have q1 : IntKind.u64.wrap tick = tick := IntWalk.u64_in _ (by omega)
  have q2 : IntKind.u64.wrap (n : Int) = n := IntWalk.u64_in _ (by omega)
  obtain ⟨j0, hi, hz0, hz1, hz2⟩ := info_parts info8
  have HI := Lib.hid hi
  have HZ0 := Lib.hid hz0
  have HZ1 := Lib.hid hz1
  have HZ2 := Lib.hid hz2
  clear hi hz0 hz1 hz2
  by_cases c2 : 0 ≤ base
  · have q3 : IntKind.i64.wrap (tick - base) = tick - base := IntWalk.i64_in _ (by omega)
    have q4 : IntKind.u64.wrap (tick - base) = tick - base := IntWalk.u64_in _ (by omega)
    obtain ⟨ns, HNS, HN4, HNB⟩ : ∃ ns : List Nat, Hid (ns.map (fun n => Value.int .u64 (n : Nat)) = [.int .u64 tick, .int .u64 z, .int .u64 (tick - base), .int .u64 n]) ∧ Hid (ns.length = 4) ∧ Hid (∀ n ∈ ns, n < 18446744073709551616) := by
      refine ⟨[tick.toNat, z.toNat, ((tick - base)).toNat, n], Lib.hid ?_, Lib.hid rfl, Lib.hid ?_⟩
      · have e1 : (tick.toNat : Int) = tick := by omega
        have e2 : (z.toNat : Int) = z := by omega
        have e3 : ((((tick - base)).toNat : Nat) : Int) = (tick - base) := by omega
        simp only [List.map_cons, List.map_nil, e1, e2, e3]
      · intro m hm
        simp only [List.mem_cons, List.not_mem_nil, or_false] at hm
        omega
    go_enter Tryz.func88, Tryz.ntmps88
    go_wp2_with (go_at_call 130; refine (HT.out _).mono ?_; rintro e w1 ⟨tm, rfl, htm, rfl⟩; have HTM := Lib.hid htm; clear htm HT; cases tm)
    · go_ret2
      exact ⟨_, 3, rfl, by omega, by omega, (Kept.refl _ w).alloc _, fun e => absurd e (by decide)⟩
    have HOK := Lib.hid (HOK.out (HTM.out (by first | rfl | trivial)))
    refine at_world (fun W => Blk W w.heap.size (gramC tick time base (.slice a n cap)) 78 ∧ Sl W (.slice (some ⟨w.heap.size + 1, 0, none⟩) 2 2) 5 1 2 [.int .u8 71, .int .u8 1] (some (w.heap.size + 1)) ∧ Kept (fun _ => False) w W ∧ w.heap.size + 2 ≤ W.heap.size) ⟨(Blk.new w _ _).alloc _, ?_, ((Kept.refl _ w).alloc _).alloc _, by simp⟩ ?_
    · have := Sl.made (w.alloc (.cells #[.int .i64 tick, .int .i64 time, .int .i64 base, .slice a n cap] 78)) [.int .u8 71, .int .u8 1] 5 1 2 rfl (by decide)
      rw [size_alloc] at this
      exact this
    rintro W ⟨B0, S0, K, hs⟩
    have b0 := B0.cell (i := 0) rfl
    have b1 := B0.cell (i := 1) rfl
    have b3 := B0.cell (i := 3) rfl
    have HS := Lib.hid S0
    have HK := Lib.hid K
    clear B0 S0 K
    have n0 : w.heap.size ≠ W.heap.size := by omega
    go_region_held3 (fun w' => w'.cell? ⟨w.heap.size, 0, none⟩ = some (.int .i64 tick) ∧ w'.cell? ⟨w.heap.size, 1, none⟩ = some (.int .i64 time) ∧ w'.cell? ⟨w.heap.size, 3, none⟩ = some (.slice a n cap))
      (first | (go_keep; done))
      ((go_at_call 131; refine (HZ.out _).mono ?_; rintro e w2 ⟨rfl, rfl⟩))
    all_goals
      have HI0 : Hid (HdI ns W.heap.size w 0 (.slice (some ⟨w.heap.size + 1, 0, none⟩) 2 2) (W.alloc (.cells #[.int .u64 tick, .int .u64 z, .int .u64 (tick - base), .int .u64 n] 93)).drew (w.heap.size + 1)) := Lib.hid (by
        refine ⟨HS.out.alloc _, by omega, by omega, ?_, (HK.out.alloc _).drew⟩
        rw [HNS.out]
        exact Blk.new W [.int .u64 tick, .int .u64 z, .int .u64 (tick - base), .int .u64 n] 93)
      clear b0 b1 b3 q1 q2 HS HK HZ
      obtain ⟨j0, hi, hz0, hz1, hz2⟩ := info_parts info8
      have HI := Lib.hid hi
      have HZ0 := Lib.hid hz0
      have HZ1 := Lib.hid hz1
      have HZ2 := Lib.hid hz2
      clear hi hz0 hz1 hz2
      go_wp2_with fail
      go_loopw [5, 62] (fun u i wr => ∃ (k own : Nat) (x : Value), k ≤ 4 ∧ i = .int .i64 k ∧ u = x ∧ HdI ns W.heap.size w k x wr own) (fun _ i _ => (4 - intOf i).toNat)
      case atStart => exact ⟨0, _, _, by omega, rfl, rfl, HI0.out⟩
      case round =>
        obtain ⟨k, own, x, hk, rfl, hx, hI⟩ := hrel
        have hx2 := hx.symm
        clear hx
        subst hx2
        have hl := hdK_len ns k HNB.out
        rw [HN4.out] at hl
        by_cases hlt : k < 4
        · obtain ⟨m, hn⟩ : ∃ m, ns[k]? = some m := ⟨_, List.getElem?_eq_getElem (by rw [HN4.out]; exact hlt)⟩
          have hnb := HNB.out m (List.mem_of_getElem? hn)
          have hs10 := (sizeM_bd m hnb).2.1
          have HP := Lib.hid (fun W => put_calls m W hnb)
          unfold PutPost at HP
          rw [show sizeM m = (putL m).length from (putL_len _).symm] at HP hs10
          have hc := hI.arr.cell (i := k) (v := .int .u64 (m : Nat)) (by rw [List.getElem?_map, hn]; rfl)
          have HST := Lib.hid (hdK_step ns k m hn)
          obtain ⟨a0, cap0, hx, -, -⟩ := hI.sl.form
          subst hx
          have N1 : Hid ((hdK ns k).length + (putL m).length ≤ maxLen) := Lib.hid (by unfold maxLen; omega)
          have N2 : Hid (((hdK ns k).length + (putL m).length) * 1 ≤ 140737488355328) := Lib.hid (by omega)
          have HO := Lib.hid (oneCell_u8s (putL m))
          have HLL := Lib.hid (u8s_len (putL m))
          have HJ := Lib.hid hI
          have HSL := Lib.hid hI.sl
          generalize putL m = t at *
          generalize hdK ns k = L at *
          have hki : (k : Int) < 4 := by omega
          clear hI hl hn hnb
          go_wp2_with fail
          refine (HP.out _).mono ?_
          rintro e w2 ⟨v2, g2, rfl, hS2, hg2, hk2⟩
          obtain ⟨a2, cap2, rfl, -, -⟩ := hS2.form
          have HS2 := Lib.hid hS2.src
          have HK2 := Lib.hid hk2
          clear hS2 hk2
          go_wp2_with (at_builtin; refine wpList_append_sl _ rfl _ _ 23 rfl 5 j0 (.int .u8 0) 1 1 Tryz.underlying23 HI.out HZ0.out HZ1.out HZ2.out rfl _ L.length (u8s L) (some own) rfl (HSL.out.kept HK2.out (fun _ _ h => h)) _ t.length (u8s t) rfl HS2.out (by rw [HLL.out, Nat.mul_one]) HO.out N1.out N2.out ?_; intro v3 w3 own3 hS3 ho3 hK3; have SA := Lib.hid hS3; have OA := Lib.hid ho3; have KA := Lib.hid hK3; clear hS3 ho3 hK3)
          have z1 := HJ.out.kept.size
          have z2 := HK2.out.size
          have z3 := HJ.out.arr.lt
          have z4 := HJ.out.ow
          have z5 := HJ.out.ne
          have KW := HJ.out.kept.trans ((HK2.out.mono (G := fun k => some own = some k) (fun _ _ h => h.elim)).trans KA.out (fun _ h => .inl h)) (fun i hi => .inr (by have := Option.some.inj hi; omega))
          have AR := KA.out.blk (HK2.out.blk HJ.out.arr (fun h => h)) (fun e => z5 (Option.some.inj e))
          have HW : Hid (∃ o, own3 = some o ∧ HdI ns W.heap.size w (k + 1) v3 w3 o) := Lib.hid (by
            rcases OA.out with e | e
            · refine ⟨own, e, ?_, z4, z5, AR, KW⟩
              rw [HST.out, List.length_append, u8s_app, ← e]; exact SA.out
            · refine ⟨_, e, ?_, by omega, by omega, AR, KW⟩
              rw [HST.out, List.length_append, u8s_app, ← e]; exact SA.out)
          clear SA OA KA HS2 HK2 KW AR z1 z2 z3 z4 z5 HJ HSL
          go_wp2_with fail
          obtain ⟨o, -, hW⟩ := HW.out
          exact ⟨⟨k + 1, o, _, by omega, by simp, rfl, hW⟩, by simp [intOf]; omega⟩
        · obtain rfl : k = 4 := by omega
          obtain ⟨a0, cap0, hx, -, -⟩ := hI.sl.form
          subst hx
          have HJ := Lib.hid hI
          clear hI
          go_wp2_with fail
          go_ret2
          exact ⟨_, 0, rfl, by omega, by omega, HJ.out.kept, fun _ => ⟨HOK.out.1, HOK.out.2, hdK ns 4, own, HJ.out.sl, HJ.out.ow, by omega⟩⟩
  · skip
    obtain ⟨ns, HNS, HN4, HNB⟩ : ∃ ns : List Nat, Hid (ns.map (fun n => Value.int .u64 (n : Nat)) = [.int .u64 tick, .int .u64 z, .int .u64 (0 : Int), .int .u64 n]) ∧ Hid (ns.length = 4) ∧ Hid (∀ n ∈ ns, n < 18446744073709551616) := by
      refine ⟨[tick.toNat, z.toNat, ((0 : Int)).toNat, n], Lib.hid ?_, Lib.hid rfl, Lib.hid ?_⟩
      · have e1 : (tick.toNat : Int) = tick := by omega
        have e2 : (z.toNat : Int) = z := by omega
        have e3 : ((((0 : Int)).toNat : Nat) : Int) = (0 : Int) := by omega
        simp only [List.map_cons, List.map_nil, e1, e2, e3]
      · intro m hm
        simp only [List.mem_cons, List.not_mem_nil, or_false] at hm
        omega
    go_enter Tryz.func88, Tryz.ntmps88
    go_wp2_with (go_at_call 130; refine (HT.out _).mono ?_; rintro e w1 ⟨tm, rfl, htm, rfl⟩; have HTM := Lib.hid htm; clear htm HT; cases tm)
    · go_ret2
      exact ⟨_, 3, rfl, by omega, by omega, (Kept.refl _ w).alloc _, fun e => absurd e (by decide)⟩
    have HOK := Lib.hid (HOK.out (HTM.out (by first | rfl | trivial)))
    refine at_world (fun W => Blk W w.heap.size (gramC tick time base (.slice a n cap)) 78 ∧ Sl W (.slice (some ⟨w.heap.size + 1, 0, none⟩) 2 2) 5 1 2 [.int .u8 71, .int .u8 1] (some (w.heap.size + 1)) ∧ Kept (fun _ => False) w W ∧ w.heap.size + 2 ≤ W.heap.size) ⟨(Blk.new w _ _).alloc _, ?_, ((Kept.refl _ w).alloc _).alloc _, by simp⟩ ?_
    · have := Sl.made (w.alloc (.cells #[.int .i64 tick, .int .i64 time, .int .i64 base, .slice a n cap] 78)) [.int .u8 71, .int .u8 1] 5 1 2 rfl (by decide)
      rw [size_alloc] at this
      exact this
    rintro W ⟨B0, S0, K, hs⟩
    have b0 := B0.cell (i := 0) rfl
    have b1 := B0.cell (i := 1) rfl
    have b3 := B0.cell (i := 3) rfl
    have HS := Lib.hid S0
    have HK := Lib.hid K
    clear B0 S0 K
    have n0 : w.heap.size ≠ W.heap.size := by omega
    go_region_held3 (fun w' => w'.cell? ⟨w.heap.size, 0, none⟩ = some (.int .i64 tick) ∧ w'.cell? ⟨w.heap.size, 1, none⟩ = some (.int .i64 time) ∧ w'.cell? ⟨w.heap.size, 3, none⟩ = some (.slice a n cap))
      (first | (go_keep; done))
      ((go_at_call 131; refine (HZ.out _).mono ?_; rintro e w2 ⟨rfl, rfl⟩))
    all_goals
      have HI0 : Hid (HdI ns W.heap.size w 0 (.slice (some ⟨w.heap.size + 1, 0, none⟩) 2 2) (W.alloc (.cells #[.int .u64 tick, .int .u64 z, .int .u64 0, .int .u64 n] 93)).drew (w.heap.size + 1)) := Lib.hid (by
        refine ⟨HS.out.alloc _, by omega, by omega, ?_, (HK.out.alloc _).drew⟩
        rw [HNS.out]
        exact Blk.new W [.int .u64 tick, .int .u64 z, .int .u64 0, .int .u64 n] 93)
      clear b0 b1 b3 q1 q2 HS HK HZ
      obtain ⟨j0, hi, hz0, hz1, hz2⟩ := info_parts info8
      have HI := Lib.hid hi
      have HZ0 := Lib.hid hz0
      have HZ1 := Lib.hid hz1
      have HZ2 := Lib.hid hz2
      clear hi hz0 hz1 hz2
      go_wp2_with fail
      go_loopw [5, 62] (fun u i wr => ∃ (k own : Nat) (x : Value), k ≤ 4 ∧ i = .int .i64 k ∧ u = x ∧ HdI ns W.heap.size w k x wr own) (fun _ i _ => (4 - intOf i).toNat)
      case atStart => exact ⟨0, _, _, by omega, rfl, rfl, HI0.out⟩
      case round =>
        obtain ⟨k, own, x, hk, rfl, hx, hI⟩ := hrel
        have hx2 := hx.symm
        clear hx
        subst hx2
        have hl := hdK_len ns k HNB.out
        rw [HN4.out] at hl
        by_cases hlt : k < 4
        · obtain ⟨m, hn⟩ : ∃ m, ns[k]? = some m := ⟨_, List.getElem?_eq_getElem (by rw [HN4.out]; exact hlt)⟩
          have hnb := HNB.out m (List.mem_of_getElem? hn)
          have hs10 := (sizeM_bd m hnb).2.1
          have HP := Lib.hid (fun W => put_calls m W hnb)
          unfold PutPost at HP
          rw [show sizeM m = (putL m).length from (putL_len _).symm] at HP hs10
          have hc := hI.arr.cell (i := k) (v := .int .u64 (m : Nat)) (by rw [List.getElem?_map, hn]; rfl)
          have HST := Lib.hid (hdK_step ns k m hn)
          obtain ⟨a0, cap0, hx, -, -⟩ := hI.sl.form
          subst hx
          have N1 : Hid ((hdK ns k).length + (putL m).length ≤ maxLen) := Lib.hid (by unfold maxLen; omega)
          have N2 : Hid (((hdK ns k).length + (putL m).length) * 1 ≤ 140737488355328) := Lib.hid (by omega)
          have HO := Lib.hid (oneCell_u8s (putL m))
          have HLL := Lib.hid (u8s_len (putL m))
          have HJ := Lib.hid hI
          have HSL := Lib.hid hI.sl
          generalize putL m = t at *
          generalize hdK ns k = L at *
          have hki : (k : Int) < 4 := by omega
          clear hI hl hn hnb
          go_wp2_with fail
          refine (HP.out _).mono ?_
          rintro e w2 ⟨v2, g2, rfl, hS2, hg2, hk2⟩
          obtain ⟨a2, cap2, rfl, -, -⟩ := hS2.form
          have HS2 := Lib.hid hS2.src
          have HK2 := Lib.hid hk2
          clear hS2 hk2
          go_wp2_with (at_builtin; refine wpList_append_sl _ rfl _ _ 23 rfl 5 j0 (.int .u8 0) 1 1 Tryz.underlying23 HI.out HZ0.out HZ1.out HZ2.out rfl _ L.length (u8s L) (some own) rfl (HSL.out.kept HK2.out (fun _ _ h => h)) _ t.length (u8s t) rfl HS2.out (by rw [HLL.out, Nat.mul_one]) HO.out N1.out N2.out ?_; intro v3 w3 own3 hS3 ho3 hK3; have SA := Lib.hid hS3; have OA := Lib.hid ho3; have KA := Lib.hid hK3; clear hS3 ho3 hK3)
          have z1 := HJ.out.kept.size
          have z2 := HK2.out.size
          have z3 := HJ.out.arr.lt
          have z4 := HJ.out.ow
          have z5 := HJ.out.ne
          have KW := HJ.out.kept.trans ((HK2.out.mono (G := fun k => some own = some k) (fun _ _ h => h.elim)).trans KA.out (fun _ h => .inl h)) (fun i hi => .inr (by have := Option.some.inj hi; omega))
          have AR := KA.out.blk (HK2.out.blk HJ.out.arr (fun h => h)) (fun e => z5 (Option.some.inj e))
          have HW : Hid (∃ o, own3 = some o ∧ HdI ns W.heap.size w (k + 1) v3 w3 o) := Lib.hid (by
            rcases OA.out with e | e
            · refine ⟨own, e, ?_, z4, z5, AR, KW⟩
              rw [HST.out, List.length_append, u8s_app, ← e]; exact SA.out
            · refine ⟨_, e, ?_, by omega, by omega, AR, KW⟩
              rw [HST.out, List.length_append, u8s_app, ← e]; exact SA.out)
          clear SA OA KA HS2 HK2 KW AR z1 z2 z3 z4 z5 HJ HSL
          go_wp2_with fail
          obtain ⟨o, -, hW⟩ := HW.out
          exact ⟨⟨k + 1, o, _, by omega, by simp, rfl, hW⟩, by simp [intOf]; omega⟩
        · obtain rfl : k = 4 := by omega
          obtain ⟨a0, cap0, hx, -, -⟩ := hI.sl.form
          subst hx
          have HJ := Lib.hid hI
          clear hI
          go_wp2_with fail
          go_ret2
          exact ⟨_, 0, rfl, by omega, by omega, HJ.out.kept, fun _ => ⟨HOK.out.1, HOK.out.2, hdK ns 4, own, HJ.out.sl, HJ.out.ow, by omega⟩⟩
end Go.Proofs.YtekdkckgmleofaaGreat

/- Contracts of gram.body and gram.Check for any datagram. -/
namespace Go.Proofs.YtekdkckgmleofaaGreat
open Go.RowKit
structure RGood (r : RecM) : Prop where
  i0 : 0 ≤ r.id
  i1 : r.id ≤ 65535
  k0 : 0 ≤ r.kind
  k1 : r.kind ≤ 3
  ck : RCk r 0
def BodyAny (tick time base : Int) (rs : List RecM) (w : World) (e : Ending) (w' : World) : Prop :=
  ∃ (v : Value) (er : Int), e = .returned (.tuple #[v, .int .i64 er]) ∧ 0 ≤ er ∧ er ≤ 17 ∧ Kept (fun _ => False) w w' ∧ (er = 0 → SnapOk tick time ∧ base < tick ∧ ∀ r ∈ rs, RGood r)
theorem rsC_get (rs : List RecM) (t j : Nat) (r : RecM) (hr : rs[t]? = some r) (hj : j < 9) : (rsC rs)[t * 9 + j]? = (recC r)[j]? :=
  cellsL_get (f := recC) (s := 9) (fun _ => rfl) rs t j r hr hj
theorem rec_at {w : World} {g off : Nat} {xs : List RecM} (h : ∀ j u, (rsC xs)[j]? = some u → w.cell? ⟨g, off + j, none⟩ = some u) {t : Nat} {x : RecM} (hx : xs[t]? = some x) :
    w.cell? ⟨g, off + t * 9, none⟩ = some (.int .i64 x.kind) ∧ w.cell? ⟨g, off + t * 9 + 1, none⟩ = some (.int .i64 x.id) ∧ w.cell? ⟨g, off + t * 9 + 2, none⟩ = some (.int .i64 x.p0) ∧ w.cell? ⟨g, off + t * 9 + 3, none⟩ = some (.int .i64 x.p1) ∧ w.cell? ⟨g, off + t * 9 + 4, none⟩ = some (.int .i64 x.p2) ∧
    w.cell? ⟨g, off + t * 9 + 5, none⟩ = some (.int .i64 x.v0) ∧ w.cell? ⟨g, off + t * 9 + 6, none⟩ = some (.int .i64 x.v1) ∧ w.cell? ⟨g, off + t * 9 + 7, none⟩ = some (.int .i64 x.v2) ∧ w.cell? ⟨g, off + t * 9 + 8, none⟩ = some (.int .u16 x.ang) := by
  have e := fun j u (hj : j < 9) (hu : (recC x)[j]? = some u) => h (t * 9 + j) u ((rsC_get xs t j x hx hj).trans hu)
  exact ⟨e 0 _ (by omega) rfl, e 1 _ (by omega) rfl, e 2 _ (by omega) rfl, e 3 _ (by omega) rfl, e 4 _ (by omega) rfl, e 5 _ (by omega) rfl, e 6 _ (by omega) rfl, e 7 _ (by omega) rfl, e 8 _ (by omega) rfl⟩
structure BdI (rs : List RecM) (w : World) (k : Nat) (L : List Nat) (g : Nat) (v : Value) (z : Int) (wr : World) : Prop where
  sl : Sl wr v 5 1 L.length (u8s L) (some g)
  ow : w.heap.size < g
  len : L.length ≤ 42 + 200 * k
  z0 : -1 ≤ z
  ok : ∀ i r, i < k → rs[i]? = some r → RGood r
  kept : Kept (fun _ => False) w wr
set_option maxRecDepth 100000 in
set_option maxHeartbeats 4000000 in
theorem body_any (tick time base : Int) (h : HdG tick time base) (rs : List RecM) (hr : ∀ r ∈ rs, RecIn r) (hl : (rs.length : Int) ≤ 128) (w : World) (v : Value) (own : Option Nat) (hv : Sl w v 175 9 rs.length (rsC rs) own) :
    Calls Tryz.prog 54 #[gramV tick time base v] w (BodyAny tick time base rs w) := by
  obtain ⟨a, cap, rfl, -, hcm⟩ := hv.form
  have HH := Lib.hid (fun W => head_any tick time base h a rs.length cap hl W)
  have HW := Lib.hid (fun r (h : RecIn r) z W => write_any r z W h)
  have HV := Lib.hid hv
  have HR := Lib.hid hr
  obtain ⟨j0, hi, hz0, hz1, hz2⟩ := info_parts info8
  have HI := Lib.hid hi
  have HZ0 := Lib.hid hz0
  have HZ1 := Lib.hid hz1
  have HZ2 := Lib.hid hz2
  clear hi hz0 hz1 hz2 hv hr h
  go_enter Tryz.func54, Tryz.ntmps54
  go_wp2_with fail
  refine (HH.out _).mono ?_
  rintro e w1 ⟨v1, er, rfl, he0, he1, hk1, hez⟩
  have B0 := hk1.blk (Blk.new w (gramC tick time base (.slice a rs.length cap)) 78) (fun h => h)
  have b3 := B0.cell (i := 3) rfl
  have HK1 := Lib.hid (((Kept.refl (fun _ => False) w).alloc (.cells (gramC tick time base (.slice a rs.length cap)).toArray 78)).trans hk1 (fun _ h => h.elim))
  have HEZ := Lib.hid hez
  have hsz := hk1.size
  simp only [size_alloc] at hsz
  clear hk1 hez B0
  cases hne : (er != 0) with
  | true =>
    have HE : Hid (er ≠ 0) := Lib.hid (by simpa using hne)
    go_wp2_with fail
    go_ret2
    exact ⟨_, er, rfl, he0, he1, HK1.out, fun e => absurd e HE.out⟩
  | false =>
    obtain rfl : er = 0 := by simpa using hne
    obtain ⟨hs, hbt, l1, g1, hS1, hg1, hl1⟩ := HEZ.out rfl
    have HS := Lib.hid (And.intro hs hbt)
    have hg1' : w.heap.size < g1 := by simp at hg1; omega
    have HI0 : Hid (BdI rs w 0 l1 g1 v1 (-1) w1) := Lib.hid ⟨hS1, hg1', by omega, by omega, fun i r h => by omega, HK1.out⟩
    clear hne HEZ hs hbt hS1 hg1 hl1 he0 he1
    go_wp2_with fail
    go_loopw [4, 6, 22] (fun b l i wr => ∃ (k : Nat) (y : Value) (z : Int) (L : List Nat) (g : Nat), k ≤ rs.length ∧ i = .int .i64 k ∧ b = y ∧ l = .int .i64 z ∧ BdI rs w k L g y z wr) (fun _ _ i _ => (rs.length - intOf i).toNat)
    case atStart => exact ⟨0, _, _, _, _, by omega, rfl, rfl, rfl, HI0.out⟩
    case round =>
      obtain ⟨k, y, z, L, g, hk, rfl, hy, rfl, hI⟩ := hrel
      have hy2 := hy.symm
      clear hy
      subst hy2
      have HB := Lib.hid hI
      have hL := hI.len
      have hz := hI.z0
      obtain ⟨ay, capy, rfl, -, -⟩ := hI.sl.form
      clear hI
      by_cases hlt : k < rs.length
      · obtain ⟨r, hrk⟩ : ∃ r, rs[k]? = some r := ⟨_, List.getElem?_eq_getElem hlt⟩
        have hwt := HW.out r (HR.out r (List.mem_of_getElem? hrk)) z
        have HWT := Lib.hid hwt
        obtain ⟨g0, off, cap', ho, hvv, -, -, hc, -⟩ := HV.out.some (by omega)
        cases hvv
        obtain ⟨c0, c1, c2, c3, c4, c5, c6, c7, c8⟩ := rec_at (w := wr) (fun j u hu => HB.out.kept.cell (hc j u hu) (fun h => h)) hrk
        have HRK := Lib.hid hrk
        clear hc hrk hwt
        go_wp2_with fail
        refine (HWT.out _).mono ?_
        rintro e w2 ⟨v2, er2, rfl, he0, he1, hk2, hez2⟩
        have K2 := (((Kept.refl (fun _ => False) wr).alloc (.cells #[.int .i64 r.kind, .int .i64 r.id, .int .i64 r.p0, .int .i64 r.p1, .int .i64 r.p2, .int .i64 r.v0, .int .i64 r.v1, .int .i64 r.v2, .int .u16 r.ang] 175))).trans hk2 (fun _ h => h.elim)
        have B2 := (hk2.blk (Blk.new wr (recC r) 175) (fun h => h))
        have d1 := B2.cell (i := 1) rfl
        have HK2 := Lib.hid K2
        have HEZ2 := Lib.hid hez2
        have hz2 : wr.heap.size < w2.heap.size := by have := hk2.size; simp at this; omega
        clear hk2 K2 B2 hez2
        cases hne2 : (er2 != 0) with
        | true =>
          have HE : Hid (er2 ≠ 0) := Lib.hid (by simpa using hne2)
          go_wp2_with fail
          go_ret2
          exact ⟨_, er2, rfl, he0, he1, HB.out.kept.trans HK2.out (fun _ h => h.elim), fun e => absurd e HE.out⟩
        | false =>
          obtain rfl : er2 = 0 := by simpa using hne2
          obtain ⟨q0, q1, q2, q3, q4, l2, g2, hS2, hg2, hl2⟩ := HEZ2.out rfl
          obtain ⟨a2, cap2, rfl, -, -⟩ := hS2.form
          have HG : Hid (RGood r) := Lib.hid ⟨by omega, q1, q2, q3, q4⟩
          have HS2 := Lib.hid hS2.src
          have HSL := Lib.hid (HB.out.sl.kept HK2.out (fun _ _ h => h))
          have hgl := HB.out.sl.lt rfl
          have hne3 : ¬ wr.heap.size = g := by omega
          have hrid : -1 ≤ r.id := by omega
          have N1 : Hid (L.length + l2.length ≤ maxLen) := Lib.hid (by unfold maxLen; omega)
          have N2 : Hid ((L.length + l2.length) * 1 ≤ 140737488355328) := Lib.hid (by omega)
          have HO := Lib.hid (oneCell_u8s l2)
          have HLL := Lib.hid (u8s_len l2)
          clear hS2 hne2 HEZ2 q0 q1 q2 q3 q4 he0 he1 c0 c1 c2 c3 c4 c5 c6 c7 c8 hg2
          go_wp2_with fail
          go_region_held3 (fun w' => w'.cell? ⟨wr.heap.size, 1, none⟩ = some (.int .i64 r.id))
            (first | (go_keep; done) | exact hk3.cell (by assumption) (fun e => hne3 (Option.some.inj e).symm))
            ((refine step_append_sl _ (by rfl) _ _ _ (by rfl) 5 j0 (.int .u8 0) 1 1 Tryz.underlying23 HI.out HZ0.out HZ1.out HZ2.out rfl _ L.length (u8s L) (some g) (by rfl) (by exact HSL.out) _ l2.length (u8s l2) (by rfl) (by exact HS2.out) (by rw [HLL.out, Nat.mul_one]) HO.out N1.out N2.out ?_; intro v3 w3 o3 hS3 ho3 hk3))
          have HP : Hid (∃ g3, BdI rs w (k + 1) (L ++ l2) g3 v3 r.id w3) := Lib.hid (by
            have hSS : Sl w3 v3 5 1 (L ++ l2).length (u8s (L ++ l2)) o3 := by rw [List.length_append, u8s_app]; exact hS3
            have zb := HB.out.kept.size
            have zo := HB.out.ow
            have KK := (HB.out.kept.trans HK2.out (fun _ h => h.elim)).drew.trans hk3 (fun i hi => .inr (by have := Option.some.inj hi; omega))
            have zz : w2.drew.heap.size = w2.heap.size := rfl
            have hok : ∀ i r', i < k + 1 → rs[i]? = some r' → RGood r' := by
              intro i r' hi hr'
              by_cases hik : i < k
              · exact HB.out.ok i r' hik hr'
              · obtain rfl : i = k := by omega
                rw [HRK.out] at hr'
                cases hr'
                exact HG.out
            rcases ho3 with e | e
            · exact ⟨g, by rw [← e]; exact hSS, zo, by rw [List.length_append]; omega, hrid, hok, KK⟩
            · exact ⟨_, by rw [← e]; exact hSS, by omega, by rw [List.length_append]; omega, hrid, hok, KK⟩)
          clear hS3 ho3 hk3 d1
          go_wp2_with fail
          obtain ⟨g3, hP⟩ := HP.out
          exact ⟨⟨k + 1, _, _, _, _, by omega, by simp, rfl, rfl, hP⟩, by simp [intOf]; omega⟩
      · go_wp2_with fail
        go_ret2
        refine ⟨_, 0, rfl, by omega, by omega, HB.out.kept, fun _ => ⟨HS.out.1, HS.out.2, fun r hr' => ?_⟩⟩
        obtain ⟨i, hi, he⟩ := List.mem_iff_getElem.1 hr'
        exact HB.out.ok i r (by omega) (by rw [List.getElem?_eq_getElem hi, he])
def CkAny (tick time base : Int) (rs : List RecM) (w : World) (e : Ending) (w' : World) : Prop :=
  ∃ (er : Int), e = .returned (.int .i64 er) ∧ 0 ≤ er ∧ er ≤ 17 ∧ Kept (fun _ => False) w w' ∧ (er = 0 → SnapOk tick time ∧ base < tick ∧ ∀ r ∈ rs, RGood r)
set_option maxRecDepth 100000 in
theorem gcheck_any (tick time base : Int) (h : HdG tick time base) (rs : List RecM) (hr : ∀ r ∈ rs, RecIn r) (hl : (rs.length : Int) ≤ 128) (w : World) (v : Value) (own : Option Nat) (hv : Sl w v 175 9 rs.length (rsC rs) own) :
    Calls Tryz.prog 116 #[gramV tick time base v] w (CkAny tick time base rs w) := by
  have HB := Lib.hid (body_any tick time base h rs hr hl (w.alloc (.cells (gramC tick time base v).toArray 78)) v own (hv.alloc _))
  obtain ⟨a, cap, rfl, -, -⟩ := hv.form
  clear hv hr
  go_enter Tryz.func116, Tryz.ntmps116
  go_wp2_with fail
  refine (HB.out).mono ?_
  rintro e w1 ⟨v1, er, rfl, he0, he1, hk1, hez⟩
  have HK1 := Lib.hid (((Kept.refl (fun _ => False) w).alloc (.cells (gramC tick time base (.slice a rs.length cap)).toArray 78)).trans hk1 (fun _ h => h.elim))
  have HEZ := Lib.hid hez
  clear hk1 hez
  go_wp2_with fail
  go_ret
  exact ⟨er, rfl, he0, he1, HK1.out, HEZ.out⟩
end Go.Proofs.YtekdkckgmleofaaGreat
