/- Joined texts. -/
import Derived.Test.YtekdkckgmleofaaGreatXf17
import Derived.Test.YtekdkckgmleofaaGreatXf10
import Derived.Deep.RegionHeld3
set_option linter.unusedVariables false
set_option linter.unusedSimpArgs false
/- Contract of varint.Get at any bytes: it returns. -/
namespace Go.Proofs.YtekdkckgmleofaaGreat
open Go.RowKit
theorem or64_nat (a b : Int) : ∃ U : Nat, bits .or .u64 a b = (U : Int) ∧ (U : Int) < 18446744073709551616 := by
  obtain ⟨A, h1, h2, -⟩ := wrap_nat ((bits .or .u64 a b))
  have hb : IntKind.u64.wrap (bits .or .u64 a b) = bits .or .u64 a b := by
    unfold bits
    simp only [IntKind.wrap_u64]
    omega
  rw [hb] at h1
  exact ⟨A, h1, h2⟩
def GetAny (L : Nat) (w : World) (e : Ending) (w' : World) : Prop := ∃ (x n : Nat) (er : Int), e = .returned (.tuple #[.int .u64 x, .int .i64 n, .int .i64 er]) ∧ x < 18446744073709551616 ∧ n ≤ L ∧ (er = 0 → 1 ≤ n) ∧ 0 ≤ er ∧ er ≤ 17 ∧ w = w'
theorem getany (x n : Nat) (er : Int) {L : Nat} {w : World} (h1 : (x : Int) < 18446744073709551616) (h2 : n ≤ L) (h3 : er = 0 → 1 ≤ n) (h4 : 0 ≤ er) (h5 : er ≤ 17) : GetAny L w (.returned (.tuple #[.int .u64 x, .int .i64 n, .int .i64 er])) w := ⟨x, n, er, rfl, by omega, h2, h3, h4, h5, rfl⟩
set_option maxRecDepth 100000 in
set_option maxHeartbeats 4000000 in
theorem get_any (w : World) (g off L cap : Nat) (hL : (L : Int) ≤ 1000000) (hc : ∀ i, i < L → ∃ c : Nat, c < 256 ∧ w.cell? ⟨g, off + i, none⟩ = some (.int .u8 (c : Nat))) :
    Calls Tryz.prog 184 #[.slice (some ⟨g, off, none⟩) L cap] w (GetAny L w) := by
  have HC := Lib.hid hc
  clear hc
  by_cases hL0 : (L : Int) = 0
  · go_enter Tryz.func184, Tryz.ntmps184
    go_wp2_with fail
    go_ret3
    exact getany 0 0 5 (by omega) (by omega) (by omega) (by omega) (by omega)
  · obtain ⟨m, hm, hmL, hm10⟩ : ∃ m : Nat, min (L : Int) 10 = m ∧ m ≤ L ∧ m ≤ 10 := ⟨min L 10, by omega, by omega, by omega⟩
    go_enter Tryz.func184, Tryz.ntmps184
    go_wp2_with fail
    go_loopw [5, 15] (fun u i wr => ∃ k r : Nat, k ≤ m ∧ i = .int .i64 k ∧ u = .int .u64 r ∧ (r : Int) < 18446744073709551616 ∧ wr = w) (fun _ i _ => (m - intOf i).toNat)
    case atStart => exact ⟨0, 0, by omega, rfl, rfl, by omega, rfl⟩
    case round =>
      obtain ⟨k, r, hk, rfl, rfl, hr, rfl⟩ := hrel
      have HR := Lib.hid hr
      clear hr
      by_cases hkm : (k : Int) < m
      · have hkL : k < L := by omega
        obtain ⟨c, hc, c0⟩ := HC.out k hkL
        obtain ⟨q, hq, hq2, -⟩ := wrap_nat (((c % 128 : Nat) : Int) * 2 ^ (7 * k))
        obtain ⟨U, hU, hU2⟩ := or64_nat r q
        have hA : bits .andNot .u8 c 128 = ((c % 128 : Nat) : Int) := by
          have := (by decide +kernel : ∀ a : Fin 256, bits .andNot .u8 (a.val : Int) 128 = ((a.val % 128 : Nat) : Int)) ⟨c, hc⟩
          exact this
        have hd : ((c % 128 : Nat) : Int) < 128 := by omega
        have hB : IntKind.u64.wrap ((c % 128 : Nat) : Int) = ((c % 128 : Nat) : Int) := by rw [IntKind.wrap_u64]; omega
        have HU := Lib.hid hU2
        have HQ := Lib.hid hq2
        have hcd : True := trivial
        generalize c % 128 = d at *
        have HD := Lib.hid hd
        clear hU2 hq2 hd hcd hc
        generalize (c : Int) = c at *
        by_cases hc7 : c < 128
        · have h129 : ¬ (128 : Int) ≤ c := by omega
          by_cases hq3 : (q : Int) / 2 ^ (7 * k) = (d : Int)
          · cases hcb : (c == 0) with
            | true =>
              go_upto_region 14 with fail
              clear hA hq hB hU hq3 hc7 h129 c0
              rcases k with _ | k
              · go_wp2_with fail
                go_ret3
                refine getany U 1 0 HU.out (by omega) (by omega) (by omega) (by omega)
              · have hk0 : decide ((0 : Int) < (k : Int) + 1) = true := decide_eq_true (by omega)
                go_wp2_with fail
                go_ret3
                exact getany 0 0 7 (by omega) (by omega) (by omega) (by omega) (by omega)
            | false =>
              go_wp2_with fail
              go_ret3
              refine getany U (k + 1) 0 HU.out (by omega) (by omega) (by omega) (by omega)
          · have hq4 : ((q : Int) / 2 ^ (7 * k) != (d : Int)) = true := by simp [hq3]
            go_wp2_with fail
            go_ret3
            exact getany 0 0 8 (by omega) (by omega) (by omega) (by omega) (by omega)
        · have h129 : (128 : Int) ≤ c := by omega
          have hc8 : decide (c < 128) = false := decide_eq_false hc7
          by_cases hq3 : (q : Int) / 2 ^ (7 * k) = (d : Int)
          · go_wp2_with fail
            exact ⟨⟨k + 1, U, by omega, by simp, rfl, HU.out, trivial⟩, by simp [intOf]; omega⟩
          · have hq4 : ((q : Int) / 2 ^ (7 * k) != (d : Int)) = true := by simp [hq3]
            go_wp2_with fail
            exact ⟨⟨k + 1, U, by omega, by simp, rfl, HU.out, trivial⟩, by simp [intOf]; omega⟩
      · by_cases h10 : (10 : Int) ≤ L
        · go_wp2_with fail
          go_ret3
          exact getany 0 0 8 (by omega) (by omega) (by omega) (by omega) (by omega)
        · go_wp2_with fail
          go_ret3
          exact getany 0 0 6 (by omega) (by omega) (by omega) (by omega) (by omega)
end Go.Proofs.YtekdkckgmleofaaGreat

/- Contracts of package reader's functions at any bytes: they return. -/
namespace Go.Proofs.YtekdkckgmleofaaGreat
open Go.RowKit
/-- A reader at block p over a row of bytes; at: where it stands; er: its fault. -/
structure RdG (w : World) (p g off cap : Nat) (bs : List Nat) (at_ : Nat) (er : Int) : Prop where
  blk : Blk w p [.slice (some ⟨g, off, none⟩) bs.length cap, .int .i64 at_, .int .i64 er] 261
  row : RowAt w g off bs
  by' : ∀ c ∈ bs, c < 256
  ne : g ≠ p
  le : at_ ≤ bs.length
  len : (bs.length : Int) ≤ 10000
  cap : bs.length ≤ cap
  e0 : 0 ≤ er
  e1 : er ≤ 17
  gl : g < w.heap.size
theorem RdG.kept {F : Nat → Prop} {w w' : World} {p g off cap : Nat} {bs : List Nat} {a : Nat} {er : Int} (h : RdG w p g off cap bs a er) (k : Kept F w w') (h1 : ¬ F p) (h2 : ¬ F g) : RdG w' p g off cap bs a er :=
  { h with blk := k.blk h.blk h1, row := h.row.kept k h2, gl := Nat.lt_of_lt_of_le h.gl k.size }
theorem RdG.setAt {w : World} {p g off cap : Nat} {bs : List Nat} {a : Nat} {er : Int} (h : RdG w p g off cap bs a er) {a' : Nat} (ha : a' ≤ bs.length) : RdG (w.setCell ⟨p, 1, none⟩ (.int .i64 a')) p g off cap bs a' er :=
  { h with blk := h.blk.set 1 (.int .i64 a'), row := h.row.kept ((Kept.refl (· = p) w).setCell (a := ⟨p, 1, none⟩) (.inl rfl) _) h.ne, le := ha, gl := by rw [size_setCell]; exact h.gl }
theorem RdG.setEr {w : World} {p g off cap : Nat} {bs : List Nat} {a : Nat} {er : Int} (h : RdG w p g off cap bs a er) {er' : Int} (h0 : 0 ≤ er') (h1 : er' ≤ 17) : RdG (w.setCell ⟨p, 2, none⟩ (.int .i64 er')) p g off cap bs a er' :=
  { h with blk := h.blk.set 2 (.int .i64 er'), row := h.row.kept ((Kept.refl (· = p) w).setCell (a := ⟨p, 2, none⟩) (.inl rfl) _) h.ne, e0 := h0, e1 := h1, gl := by rw [size_setCell]; exact h.gl }
theorem RdG.drewN {w : World} {p g off cap : Nat} {bs : List Nat} {a : Nat} {er : Int} (h : RdG w p g off cap bs a er) (n : Nat) : RdG (w.drewN n) p g off cap bs a er := h.kept ((Kept.refl (fun _ => False) w).drewN n) (fun h => h) (fun h => h)
theorem gerr_calls (w : World) (p g off cap : Nat) (bs : List Nat) (a : Nat) (er : Int) (h : RdG w p g off cap bs a er) :
    Calls Tryz.prog 152 #[.pointer (some ⟨p, 0, none⟩)] w fun e w' => e = .returned (.int .i64 er) ∧ w = w' := by
  have b2 := h.blk.cell (i := 2) rfl
  clear h
  go_enter Tryz.func152, Tryz.ntmps152
  go_wp2
  go_ret
  exact ⟨rfl, rfl⟩
theorem gleft_calls (w : World) (p g off cap : Nat) (bs : List Nat) (a : Nat) (er : Int) (h : RdG w p g off cap bs a er) :
    Calls Tryz.prog 153 #[.pointer (some ⟨p, 0, none⟩)] w fun e w' => e = .returned (.int .i64 ((bs.length - a : Nat) : Int)) ∧ ∃ n, w' = w.drewN n := by
  have b0 := h.blk.cell (i := 0) rfl
  have b1 := h.blk.cell (i := 1) rfl
  have h1 := h.le
  have h2 := h.len
  have HS : Hid (((bs.length - a : Nat) : Int) = (bs.length : Int) - a) := Lib.hid (by omega)
  clear h
  go_enter Tryz.func153, Tryz.ntmps153
  go_wp2_with fail
  go_quiet (fail)
  go_wp2_with fail
  go_ret
  exact ⟨by rw [HS.out]; rfl, _, rfl⟩
def FailPost (w : World) (p g off cap : Nat) (bs : List Nat) (a : Nat) (er c : Int) (e : Ending) (w' : World) : Prop := ∃ er', e = .returned (.tuple #[]) ∧ RdG w' p g off cap bs a er' ∧ er' ≠ 0 ∧ (er ≠ 0 → er' = er) ∧ Kept (· = p) w w'
theorem gfail_calls (w : World) (p g off cap : Nat) (bs : List Nat) (a : Nat) (er c : Int) (h : RdG w p g off cap bs a er) (c0 : 0 < c) (c1 : c ≤ 17) :
    Calls Tryz.prog 150 #[.pointer (some ⟨p, 0, none⟩), .int .i64 c] w (FailPost w p g off cap bs a er c) := by
  have HE := Lib.hid (gerr_calls w p g off cap bs a er h)
  have H := Lib.hid h
  have b2 := h.blk.cell (i := 2) rfl
  have f2 := h.blk.free 2
  clear h
  cases hz : (er == 0) with
  | true =>
    go_enter Tryz.func150, Tryz.ntmps150
    go_wp2_with fail
    refine (HE.out).mono ?_
    rintro e w' ⟨rfl, rfl⟩
    go_wp2_with fail
    go_end0
    have : er = 0 := by simpa using hz
    exact ⟨c, rfl, H.out.setEr (by omega) c1, by omega, fun h => absurd this h, (Kept.refl (· = p) w).setCell (a := ⟨p, 2, none⟩) (.inl rfl) _⟩
  | false =>
    go_enter Tryz.func150, Tryz.ntmps150
    go_wp2_with fail
    refine (HE.out).mono ?_
    rintro e w' ⟨rfl, rfl⟩
    go_wp2_with fail
    go_end0
    have : er ≠ 0 := by simpa using hz
    exact ⟨er, rfl, H.out, this, fun _ => rfl, Kept.refl _ w⟩
def U1Post (L most : Nat) (w : World) (e : Ending) (w' : World) : Prop := ∃ (x n : Nat) (er : Int), e = .returned (.tuple #[.int .u64 x, .int .i64 n, .int .i64 er]) ∧ x < 18446744073709551616 ∧ n ≤ L ∧ (er = 0 → x ≤ most) ∧ 0 ≤ er ∧ er ≤ 17 ∧ w = w'
set_option maxRecDepth 100000 in
theorem uint1_any (w : World) (g off L cap q most : Nat) (hL : (L : Int) ≤ 1000000) (hc : ∀ i, i < L → ∃ c : Nat, c < 256 ∧ w.cell? ⟨g, off + i, none⟩ = some (.int .u8 (c : Nat))) (hq : w.cell? ⟨q, 0, none⟩ = some (.int .u64 most)) :
    Calls Tryz.prog 183 #[.slice (some ⟨g, off, none⟩) L cap, .pointer (some ⟨q, 0, none⟩)] w (U1Post L most w) := by
  have HG := Lib.hid (get_any w g off L cap hL hc)
  clear hc hL
  go_enter Tryz.func183, Tryz.ntmps183
  go_wp2_with fail
  refine (HG.out).mono ?_
  rintro e w' ⟨x, n, er, rfl, hx, hn, h1, h0, h17, rfl⟩
  have HX := Lib.hid hx
  have HN := Lib.hid hn
  have HER := Lib.hid (And.intro h0 h17)
  clear hx hn h1 h0 h17
  cases hz : (er == 0) with
  | true =>
    have he : er = 0 := by simpa using hz
    subst he
    by_cases hm : (most : Int) < (x : Int)
    · go_wp2_with fail
      go_ret3
      exact ⟨x, n, 3, rfl, HX.out, HN.out, fun h => absurd h (by decide), by omega, by omega, rfl⟩
    · have hle : x ≤ most := by omega
      go_wp2_with fail
      go_ret3
      exact ⟨x, n, _, rfl, HX.out, HN.out, fun _ => hle, by omega, by omega, rfl⟩
  | false =>
    have he : er ≠ 0 := by simpa using hz
    go_wp2_with fail
    go_ret3
    exact ⟨x, n, er, rfl, HX.out, HN.out, fun h => absurd h he, HER.out.1, HER.out.2, rfl⟩
theorem RowQ.drewN {w : World} {g off : Nat} {bs : List Nat} {q most : Nat} (h : RowQ w g off bs q most) (n : Nat) : RowQ (w.drewN n) g off bs q most := ⟨h.row, h.q⟩
def TkPost (k : IntKind) (most : Nat) (w : World) (p g off cap : Nat) (bs : List Nat) (a : Nat) (er : Int) (e : Ending) (w' : World) : Prop :=
  ∃ (x a' : Nat) (er' : Int), e = .returned (.int k x) ∧ x ≤ most ∧ RdG w' p g off cap bs a' er' ∧ (er ≠ 0 → a' = a ∧ er' = er) ∧ Kept (· = p) w w'
set_option maxRecDepth 100000 in
set_option maxHeartbeats 4000000 in
theorem gtake64_calls (most : Nat) (w : World) (p g off cap q : Nat) (bs : List Nat) (a : Nat) (er : Int) (h : RdG w p g off cap bs a er) (hq : w.cell? ⟨q, 0, none⟩ = some (.int .u64 most)) :
    Calls Tryz.prog 182 #[.pointer (some ⟨p, 0, none⟩), .func (.func 183) #[] #[.pointer (some ⟨q, 0, none⟩)]] w (TkPost .u64 most w p g off cap bs a er) := by
  have HQ := Lib.hid hq
  clear hq
  have HE := Lib.hid (gerr_calls w p g off cap bs a er h)
  have HL := Lib.hid (gleft_calls w p g off cap bs a er h)
  have b0 := h.blk.cell (i := 0) rfl
  have b1 := h.blk.cell (i := 1) rfl
  have f1 := h.blk.free 1
  have b2 := h.blk.cell (i := 2) rfl
  have f2 := h.blk.free 2
  have hl := h.len
  have hcp := h.cap
  have hgp := h.ne
  have hab := h.le
  have H := Lib.hid h
  clear h
  cases hz : (er == 0) with
  | false =>
    have he : er ≠ 0 := by simpa using hz
    go_enter Tryz.func182, Tryz.ntmps182
    go_wp2_with fail
    refine (HE.out).mono ?_
    rintro e w' ⟨rfl, rfl⟩
    go_wp2_with fail
    go_ret
    exact ⟨0, a, er, rfl, by omega, H.out, fun _ => ⟨rfl, rfl⟩, Kept.refl _ w⟩
  | true =>
    have he : er = 0 := by simpa using hz
    subst he
    by_cases hl0 : ((bs.length - a : Nat) : Int) = 0
    · go_enter Tryz.func182, Tryz.ntmps182
      go_wp2_with fail
      refine (HE.out).mono ?_
      rintro e w' ⟨rfl, rfl⟩
      go_wp2_with fail
      refine (HL.out).mono ?_
      rintro e w' ⟨rfl, n1, rfl⟩
      rw [hl0]
      have b2' : (w.drewN n1).cell? ⟨p, 2, none⟩ = some (.int .i64 0) := b2
      have f2' : (w.drewN n1).frozen? ⟨p, 2, none⟩ = false := f2
      go_wp2_with fail
      go_ret
      exact ⟨0, a, 6, rfl, by omega, (H.out.drewN n1).setEr (by omega) (by omega), fun h => absurd rfl h, ((Kept.refl (· = p) w).drewN n1).setCell (a := ⟨p, 2, none⟩) (.inl rfl) _⟩
    · have hca : ¬ (cap = a) := by omega
      have hac : a < cap := by omega
      have HRI : Hid (∀ i, i < bs.length - a → ∃ c : Nat, c < 256 ∧ w.cell? ⟨g, off + a + i, none⟩ = some (.int .u8 (c : Nat))) := Lib.hid (fun i hi => by
        have hx : bs[a + i]? = some bs[a + i] := List.getElem?_eq_getElem (by omega)
        refine ⟨_, H.out.by' _ (List.mem_of_getElem? hx), ?_⟩
        rw [Nat.add_assoc]
        exact H.out.row _ _ hx)
      have hRQ := RowQ.mk H.out.row HQ.out
      have HUA := Lib.hid (fun m => uint1_any (w.drewN m) g (off + a) (bs.length - a) (cap - a) q most (by omega) (fun i hi => HRI.out i hi) HQ.out)
      go_enter Tryz.func182, Tryz.ntmps182
      go_wp2_with fail
      refine (HE.out).mono ?_
      rintro e w' ⟨rfl, rfl⟩
      go_wp2_with fail
      refine (HL.out).mono ?_
      rintro e w' ⟨rfl, n1, rfl⟩
      have hRQ1 := hRQ.drewN n1
      have hRQ2 := hRQ.drewN (n1 + 1)
      have b0' : (w.drewN n1).cell? ⟨p, 0, none⟩ = some (.slice (some ⟨g, off, none⟩) bs.length cap) := b0
      have b1' : (w.drewN n1).cell? ⟨p, 1, none⟩ = some (.int .i64 a) := b1
      go_wp2_with fail
      go_region_held3 (fun w' => w'.cell? ⟨p, 0, none⟩ = some (.slice (some ⟨g, off, none⟩) bs.length cap) ∧ w'.cell? ⟨p, 1, none⟩ = some (.int .i64 a) ∧ RowQ w' g off bs q most)
        (first | (go_keep; done) | (refine ⟨by simp [*], by simp [*], ?_⟩; with_reducible first | exact hRQ2 | assumption))
        ((go_at_call 183; refine (HUA.out (n1 + 1)).mono ?_; rintro e w2 ⟨x, n, ur, rfl, hx, hn, hxm, hu0, hu1, rfl⟩; have HX := Lib.hid (And.intro hx (And.intro hn (And.intro hxm (And.intro hu0 hu1)))); clear hx hn hxm hu0 hu1))
      all_goals
        have b1'' : (w.drewN (n1 + 1)).cell? ⟨p, 1, none⟩ = some (.int .i64 a) := b1
        have f1'' : (w.drewN (n1 + 1)).frozen? ⟨p, 1, none⟩ = false := f1
        have b2'' : (w.drewN (n1 + 1)).cell? ⟨p, 2, none⟩ = some (.int .i64 0) := b2
        have f2'' : (w.drewN (n1 + 1)).frozen? ⟨p, 2, none⟩ = false := f2
        clear b0 b1 f1 b2 f2 b0' b1' hRQ hRQ1 hRQ2
        cases hz2 : (ur == 0) with
        | true =>
          have he2 : ur = 0 := by simpa using hz2
          subst he2
          have hw9 : wrap64 ((a : Int) + n) = (a : Int) + n := by
            have := HX.out.2.1
            unfold wrap64
            omega
          go_wp2_with fail
          go_ret
          obtain ⟨h1, h2, h3, h4, h5⟩ := HX.out
          refine ⟨x, a + n, 0, rfl, (by simpa using h3), ?_, fun h => absurd rfl h, ((Kept.refl (· = p) w).drewN (n1 + 1)).setCell (a := ⟨p, 1, none⟩) (.inl rfl) _⟩
          have := (H.out.drewN (n1 + 1)).setAt (a' := a + n) (by omega)
          rw [Int.natCast_add] at this
          exact this
        | false =>
          have he2 : ur ≠ 0 := by simpa using hz2
          go_wp2_with fail
          go_ret
          obtain ⟨h1, h2, h3, h4, h5⟩ := HX.out
          exact ⟨0, a, ur, rfl, by omega, (H.out.drewN (n1 + 1)).setEr h4 h5, fun h => absurd rfl h, ((Kept.refl (· = p) w).drewN (n1 + 1)).setCell (a := ⟨p, 2, none⟩) (.inl rfl) _⟩
structure RowB (w : World) (g off : Nat) (bs : List Nat) : Prop where
  row : RowAt w g off bs
theorem RowB.drewN {w : World} {g off : Nat} {bs : List Nat} (h : RowB w g off bs) (n : Nat) : RowB (w.drewN n) g off bs := ⟨h.row⟩
theorem RowB.drew {w : World} {g off : Nat} {bs : List Nat} (h : RowB w g off bs) : RowB w.drew g off bs := ⟨h.row⟩
def B1Post (L : Nat) (w : World) (e : Ending) (w' : World) : Prop := ∃ (x n : Nat) (er : Int), e = .returned (.tuple #[.int .u8 x, .int .i64 n, .int .i64 er]) ∧ x < 256 ∧ n ≤ L ∧ (er = 0 → x ≤ 255) ∧ 0 ≤ er ∧ er ≤ 17 ∧ w = w'
theorem byte1_any (w : World) (g off L cap : Nat) (hL : 1 ≤ L) (hc : ∀ i, i < L → ∃ c : Nat, c < 256 ∧ w.cell? ⟨g, off + i, none⟩ = some (.int .u8 (c : Nat))) :
    Calls Tryz.prog 197 #[.slice (some ⟨g, off, none⟩) L cap] w (B1Post L w) := by
  obtain ⟨c, hc1, hc2⟩ := hc 0 (by omega)
  refine (byte1_calls c w g off L cap hL hc2).mono ?_
  rintro e w' ⟨rfl, rfl⟩
  exact ⟨c, 1, 0, rfl, hc1, hL, fun _ => by omega, by omega, by omega, rfl⟩
set_option maxRecDepth 100000 in
set_option maxHeartbeats 4000000 in
theorem gtake8_calls (w : World) (p g off cap : Nat) (bs : List Nat) (a : Nat) (er : Int) (h : RdG w p g off cap bs a er) :
    Calls Tryz.prog 196 #[.pointer (some ⟨p, 0, none⟩), .func (.func 197) #[] #[]] w (TkPost .u8 255 w p g off cap bs a er) := by
  have HE := Lib.hid (gerr_calls w p g off cap bs a er h)
  have HL := Lib.hid (gleft_calls w p g off cap bs a er h)
  have b0 := h.blk.cell (i := 0) rfl
  have b1 := h.blk.cell (i := 1) rfl
  have f1 := h.blk.free 1
  have b2 := h.blk.cell (i := 2) rfl
  have f2 := h.blk.free 2
  have hl := h.len
  have hcp := h.cap
  have hgp := h.ne
  have hab := h.le
  have H := Lib.hid h
  clear h
  cases hz : (er == 0) with
  | false =>
    have he : er ≠ 0 := by simpa using hz
    go_enter Tryz.func196, Tryz.ntmps196
    go_wp2_with fail
    refine (HE.out).mono ?_
    rintro e w' ⟨rfl, rfl⟩
    go_wp2_with fail
    go_ret
    exact ⟨0, a, er, rfl, by omega, H.out, fun _ => ⟨rfl, rfl⟩, Kept.refl _ w⟩
  | true =>
    have he : er = 0 := by simpa using hz
    subst he
    by_cases hl0 : ((bs.length - a : Nat) : Int) = 0
    · go_enter Tryz.func196, Tryz.ntmps196
      go_wp2_with fail
      refine (HE.out).mono ?_
      rintro e w' ⟨rfl, rfl⟩
      go_wp2_with fail
      refine (HL.out).mono ?_
      rintro e w' ⟨rfl, n1, rfl⟩
      rw [hl0]
      have b2' : (w.drewN n1).cell? ⟨p, 2, none⟩ = some (.int .i64 0) := b2
      have f2' : (w.drewN n1).frozen? ⟨p, 2, none⟩ = false := f2
      go_wp2_with fail
      go_ret
      exact ⟨0, a, 6, rfl, by omega, (H.out.drewN n1).setEr (by omega) (by omega), fun h => absurd rfl h, ((Kept.refl (· = p) w).drewN n1).setCell (a := ⟨p, 2, none⟩) (.inl rfl) _⟩
    · have hca : ¬ (cap = a) := by omega
      have hac : a < cap := by omega
      have HRI : Hid (∀ i, i < bs.length - a → ∃ c : Nat, c < 256 ∧ w.cell? ⟨g, off + a + i, none⟩ = some (.int .u8 (c : Nat))) := Lib.hid (fun i hi => by
        have hx : bs[a + i]? = some bs[a + i] := List.getElem?_eq_getElem (by omega)
        refine ⟨_, H.out.by' _ (List.mem_of_getElem? hx), ?_⟩
        rw [Nat.add_assoc]
        exact H.out.row _ _ hx)
      have hRQ := RowB.mk H.out.row
      have HUA := Lib.hid (fun m => byte1_any (w.drewN m) g (off + a) (bs.length - a) (cap - a) (by omega) (fun i hi => HRI.out i hi))
      go_enter Tryz.func196, Tryz.ntmps196
      go_wp2_with fail
      refine (HE.out).mono ?_
      rintro e w' ⟨rfl, rfl⟩
      go_wp2_with fail
      refine (HL.out).mono ?_
      rintro e w' ⟨rfl, n1, rfl⟩
      have hRQ1 := hRQ.drewN n1
      have hRQ2 := hRQ.drewN (n1 + 1)
      have b0' : (w.drewN n1).cell? ⟨p, 0, none⟩ = some (.slice (some ⟨g, off, none⟩) bs.length cap) := b0
      have b1' : (w.drewN n1).cell? ⟨p, 1, none⟩ = some (.int .i64 a) := b1
      go_wp2_with fail
      go_region_held3 (fun w' => w'.cell? ⟨p, 0, none⟩ = some (.slice (some ⟨g, off, none⟩) bs.length cap) ∧ w'.cell? ⟨p, 1, none⟩ = some (.int .i64 a) ∧ RowB w' g off bs)
        (first | (go_keep; done) | (refine ⟨by simp [*], by simp [*], ?_⟩; with_reducible first | exact hRQ2 | assumption))
        ((go_at_call 197; refine (HUA.out (n1 + 1)).mono ?_; rintro e w2 ⟨x, n, ur, rfl, hx, hn, hxm, hu0, hu1, rfl⟩; have HX := Lib.hid (And.intro hx (And.intro hn (And.intro hxm (And.intro hu0 hu1)))); clear hx hn hxm hu0 hu1))
      all_goals
        have b1'' : (w.drewN (n1 + 1)).cell? ⟨p, 1, none⟩ = some (.int .i64 a) := b1
        have f1'' : (w.drewN (n1 + 1)).frozen? ⟨p, 1, none⟩ = false := f1
        have b2'' : (w.drewN (n1 + 1)).cell? ⟨p, 2, none⟩ = some (.int .i64 0) := b2
        have f2'' : (w.drewN (n1 + 1)).frozen? ⟨p, 2, none⟩ = false := f2
        clear b0 b1 f1 b2 f2 b0' b1' hRQ hRQ1 hRQ2
        cases hz2 : (ur == 0) with
        | true =>
          have he2 : ur = 0 := by simpa using hz2
          subst he2
          have hw9 : wrap64 ((a : Int) + n) = (a : Int) + n := by
            have := HX.out.2.1
            unfold wrap64
            omega
          go_wp2_with fail
          go_ret
          obtain ⟨h1, h2, h3, h4, h5⟩ := HX.out
          refine ⟨x, a + n, 0, rfl, (by simpa using h3), ?_, fun h => absurd rfl h, ((Kept.refl (· = p) w).drewN (n1 + 1)).setCell (a := ⟨p, 1, none⟩) (.inl rfl) _⟩
          have := (H.out.drewN (n1 + 1)).setAt (a' := a + n) (by omega)
          rw [Int.natCast_add] at this
          exact this
        | false =>
          have he2 : ur ≠ 0 := by simpa using hz2
          go_wp2_with fail
          go_ret
          obtain ⟨h1, h2, h3, h4, h5⟩ := HX.out
          exact ⟨0, a, ur, rfl, by omega, (H.out.drewN (n1 + 1)).setEr h4 h5, fun h => absurd rfl h, ((Kept.refl (· = p) w).drewN (n1 + 1)).setCell (a := ⟨p, 2, none⟩) (.inl rfl) _⟩
end Go.Proofs.YtekdkckgmleofaaGreat

/- Contracts of package reader's functions at any bytes, the second: Uint, Int, Byte, Vec, Done, New. -/
namespace Go.Proofs.YtekdkckgmleofaaGreat
open Go.RowKit
theorem guint_calls (most : Nat) (w : World) (p g off cap : Nat) (bs : List Nat) (a : Nat) (er : Int) (h : RdG w p g off cap bs a er) :
    Calls Tryz.prog 148 #[.pointer (some ⟨p, 0, none⟩), .int .u64 most] w (TkPost .u64 most w p g off cap bs a er) := by
  have K0 := (Kept.refl (fun _ => False) w).alloc (.cells #[.int .u64 (most : Int)] 93)
  have HT := Lib.hid (gtake64_calls most (w.alloc (.cells #[.int .u64 (most : Int)] 93)) p g off cap w.heap.size bs a er (h.kept K0 (fun h => h) (fun h => h)) ((Blk.new w [.int .u64 (most : Int)] 93).cell (i := 0) rfl))
  have HK := Lib.hid K0
  have hmf : ∀ (fn : Fn) (first cap : Array Value) (w : World), (Instr.makeFunc fn first cap).run Tryz.prog w = .ok (.func fn first cap) w := fun _ _ _ _ => rfl
  clear h K0
  go_enter Tryz.func148, Tryz.ntmps148
  go_wp2_with fail
  refine (HT.out).mono ?_
  rintro e w' ⟨x, a', er', rfl, hx, hr, he, hk⟩
  have HX := Lib.hid hx
  have HR := Lib.hid hr
  have HE := Lib.hid he
  clear hx hr he
  go_wp2_with fail
  go_ret
  exact ⟨x, a', er', rfl, HX.out, HR.out, HE.out, (HK.out.mono (fun _ _ h => h.elim)).trans hk (fun _ h => .inl h)⟩
theorem gbyte_calls (w : World) (p g off cap : Nat) (bs : List Nat) (a : Nat) (er : Int) (h : RdG w p g off cap bs a er) :
    Calls Tryz.prog 181 #[.pointer (some ⟨p, 0, none⟩)] w (TkPost .u8 255 w p g off cap bs a er) := by
  have HT := Lib.hid (gtake8_calls w p g off cap bs a er h)
  clear h
  go_enter Tryz.func181, Tryz.ntmps181
  go_wp2_with fail
  refine (HT.out).mono ?_
  rintro e w' ⟨x, a', er', rfl, hx, hr, he, hk⟩
  have HX := Lib.hid hx
  have HR := Lib.hid hr
  have HE := Lib.hid he
  clear hx hr he
  go_wp2_with fail
  go_ret
  exact ⟨x, a', er', rfl, HX.out, HR.out, HE.out, hk⟩
def InPost (w : World) (p g off cap : Nat) (bs : List Nat) (a : Nat) (er : Int) (e : Ending) (w' : World) : Prop :=
  ∃ (x : Int) (a' : Nat) (er' : Int), e = .returned (.int .i64 x) ∧ I64 x ∧ RdG w' p g off cap bs a' er' ∧ (er ≠ 0 → a' = a ∧ er' = er) ∧ Kept (· = p) w w'
theorem zag_i64 {x : Nat} (h : (x : Int) ≤ 18446744073709551615) : I64 (zagM x) := by
  unfold zagM I64
  split <;> omega
theorem gint_calls (w : World) (p g off cap : Nat) (bs : List Nat) (a : Nat) (er : Int) (h : RdG w p g off cap bs a er) :
    Calls Tryz.prog 149 #[.pointer (some ⟨p, 0, none⟩)] w (InPost w p g off cap bs a er) := by
  have HU := Lib.hid (guint_calls 18446744073709551615 w p g off cap bs a er h)
  have HZ := Lib.hid (fun (x : Nat) W (h : (x : Int) ≤ 18446744073709551615) => zag_calls x W (by omega) h)
  clear h
  go_enter Tryz.func149, Tryz.ntmps149
  go_wp2_with fail
  refine (HU.out).mono ?_
  rintro e w' ⟨x, a', er', rfl, hx, hr, he, hk⟩
  have HX : Hid ((x : Int) ≤ 18446744073709551615) := Lib.hid (by omega)
  have HR := Lib.hid hr
  have HE := Lib.hid he
  clear hx hr he
  go_wp2_with fail
  refine (HZ.out _ _ HX.out).mono ?_
  rintro e w2 ⟨rfl, rfl⟩
  have hzi := Lib.hid (zag_i64 HX.out)
  generalize zagM x = z at *
  go_wp2_with fail
  go_ret
  exact ⟨z, a', er', rfl, hzi.out, HR.out, HE.out, hk⟩
def DnPost (w : World) (er : Int) (e : Ending) (w' : World) : Prop := ∃ d : Int, e = .returned (.int .i64 d) ∧ (d = 0 → er = 0) ∧ 0 ≤ d ∧ d ≤ 17 ∧ Kept (fun _ => False) w w'
theorem gdone_calls (w : World) (p g off cap : Nat) (bs : List Nat) (a : Nat) (er : Int) (h : RdG w p g off cap bs a er) :
    Calls Tryz.prog 113 #[.pointer (some ⟨p, 0, none⟩)] w (DnPost w er) := by
  have HE := Lib.hid (gerr_calls w p g off cap bs a er h)
  have HL := Lib.hid (gleft_calls w p g off cap bs a er h)
  have e0 := h.e0
  have e1 := h.e1
  clear h
  cases hz : (er == 0) with
  | false =>
    have he : er ≠ 0 := by simpa using hz
    have hne : (er != 0) = true := by simp [he]
    go_enter Tryz.func113, Tryz.ntmps113
    go_wp2_with fail
    refine (HE.out).mono ?_
    rintro e w' ⟨rfl, rfl⟩
    go_wp2_with fail
    go_ret
    exact ⟨er, rfl, fun h => h, e0, e1, Kept.refl _ w⟩
  | true =>
    have he : er = 0 := by simpa using hz
    subst he
    by_cases hl0 : ((bs.length - a : Nat) : Int) = 0
    · go_enter Tryz.func113, Tryz.ntmps113
      go_wp2_with fail
      refine (HE.out).mono ?_
      rintro e w' ⟨rfl, rfl⟩
      go_wp2_with fail
      refine (HL.out).mono ?_
      rintro e w' ⟨rfl, n1, rfl⟩
      rw [hl0]
      go_wp2_with fail
      go_ret
      exact ⟨0, rfl, fun h => h, e0, e1, (Kept.refl _ w).drewN n1⟩
    · go_enter Tryz.func113, Tryz.ntmps113
      go_wp2_with fail
      refine (HE.out).mono ?_
      rintro e w' ⟨rfl, rfl⟩
      go_wp2_with fail
      refine (HL.out).mono ?_
      rintro e w' ⟨rfl, n1, rfl⟩
      go_wp2_with fail
      go_ret
      exact ⟨8, rfl, fun h => absurd h (by decide), by omega, by omega, (Kept.refl _ w).drewN n1⟩
end Go.Proofs.YtekdkckgmleofaaGreat

/- Contracts of package reader's functions at any bytes, the third: Vec. -/
namespace Go.Proofs.YtekdkckgmleofaaGreat
open Go.RowKit
structure VecG (w : World) (p g off cap : Nat) (bs : List Nat) (a : Nat) (er : Int) (e0 : Int) (cs : List Value) (wr : World) : Prop where
  rd : RdG wr p g off cap bs a er
  st : e0 ≠ 0 → er = e0
  arr : Blk wr (w.heap.size + 1) cs 36
  out : Blk wr w.heap.size [.int .i64 0, .int .i64 0, .int .i64 0] 36
  kept : Kept (· = p) w wr
theorem VecG.step {w wr w2 : World} {p g off cap : Nat} {bs : List Nat} {a a2 : Nat} {er er2 e0 : Int} {cs : List Value} (h : VecG w p g off cap bs a er e0 cs wr) (hp : p < w.heap.size) (hg : g < w.heap.size) (h2 : RdG w2 p g off cap bs a2 er2) (hs : er ≠ 0 → a2 = a ∧ er2 = er) (hk : Kept (· = p) wr w2) (k : Nat) (v : Value) :
    VecG w p g off cap bs a2 er2 e0 (cs.set k v) (w2.setCell ⟨w.heap.size + 1, k, none⟩ v) :=
  ⟨h2.kept ((Kept.refl (· = w.heap.size + 1) w2).setCell (a := ⟨w.heap.size + 1, k, none⟩) (.inl rfl) v) (by omega) (by omega), fun e => by have e1 := h.st e; rw [(hs (by rw [e1]; exact e)).2, e1], (hk.blk h.arr (by omega)).set k v, (hk.blk h.out (by omega)).set_ne (by simp) v, (h.kept.trans hk (fun _ h => .inl h)).setCell (.inr (by simp)) v⟩
def VcPost (w : World) (p g off cap : Nat) (bs : List Nat) (er : Int) (e : Ending) (w' : World) : Prop :=
  ∃ (x y z : Int) (a' : Nat) (er' : Int), e = .returned (vecV x y z) ∧ I64 x ∧ I64 y ∧ I64 z ∧ RdG w' p g off cap bs a' er' ∧ (er ≠ 0 → er' = er) ∧ Kept (· = p) w w'
set_option maxHeartbeats 2000000 in
theorem gvec_calls (w : World) (p g off cap : Nat) (bs : List Nat) (a : Nat) (er : Int) (h : RdG w p g off cap bs a er) :
    Calls Tryz.prog 195 #[.pointer (some ⟨p, 0, none⟩)] w (VcPost w p g off cap bs er) := by
  have hp := h.blk.lt
  have hg := h.gl
  have H1 := Lib.hid (fun W a er (h : RdG W p g off cap bs a er) => gint_calls W p g off cap bs a er h)
  have HI : Hid (VecG w p g off cap bs a er er (vC 0 0 0 0) ((w.alloc (.cells #[.int .i64 0, .int .i64 0, .int .i64 0] 36)).alloc (.cells #[.int .i64 0, .int .i64 0, .int .i64 0] 36))) := Lib.hid (by
    have k0 := ((Kept.refl (fun _ => False) w).alloc (.cells #[.int .i64 0, .int .i64 0, .int .i64 0] 36)).alloc (.cells #[.int .i64 0, .int .i64 0, .int .i64 0] 36)
    refine ⟨h.kept k0 (fun h => h) (fun h => h), fun _ => rfl, ?_, (Blk.new w [.int .i64 0, .int .i64 0, .int .i64 0] 36).alloc _, k0.mono (fun _ _ h => h.elim)⟩
    have := Blk.new (w.alloc (.cells #[.int .i64 0, .int .i64 0, .int .i64 0] 36)) [.int .i64 0, .int .i64 0, .int .i64 0] 36
    rw [size_alloc] at this
    exact this)
  clear h
  go_enter Tryz.func195, Tryz.ntmps195
  go_wp2_with fail
  go_loopw [5] (fun i wr => ∃ (k b : Nat) (e : Int) (x y z : Int), i = .int .i64 k ∧ VecG w p g off cap bs b e er (vC x y z k) wr ∧ k ≤ 3 ∧ I64 x ∧ I64 y ∧ I64 z) (fun i _ => (3 - intOf i).toNat)
  case atStart => exact ⟨0, a, er, 0, 0, 0, rfl, HI.out, by omega, by unfold I64; omega, by unfold I64; omega, by unfold I64; omega⟩
  case round =>
    obtain ⟨k, b, e, x, y, z, rfl, hI, hk, hx, hy, hz⟩ := hrel
    have HJ := Lib.hid hI
    have HX := Lib.hid (And.intro hx (And.intro hy hz))
    clear hI hx hy hz
    rcases (by omega : k = 0 ∨ k = 1 ∨ k = 2 ∨ k = 3) with rfl | rfl | rfl | rfl
    · go_wp2_with fail
      refine (H1.out _ _ _ HJ.out.rd).mono ?_
      rintro e w2 ⟨n, a2, er2, rfl, hn, hr, hs, hk⟩
      have hb := hk.blk HJ.out.arr (by omega)
      have b0 := hb.cell (i := 0) rfl
      have f0 := hb.free 0
      have HS := Lib.hid (HJ.out.step hp hg hr hs hk 0 (.int .i64 n))
      have HN := Lib.hid hn
      clear hr hk hb hs hn
      go_wp2_with fail
      exact ⟨⟨1, _, _, n, y, z, by simp, HS.out, by omega, HN.out, HX.out.2.1, HX.out.2.2⟩, by simp [intOf]⟩
    · go_wp2_with fail
      refine (H1.out _ _ _ HJ.out.rd).mono ?_
      rintro e w2 ⟨n, a2, er2, rfl, hn, hr, hs, hk⟩
      have hb := hk.blk HJ.out.arr (by omega)
      have b0 := hb.cell (i := 1) rfl
      have f0 := hb.free 1
      have HS := Lib.hid (HJ.out.step hp hg hr hs hk 1 (.int .i64 n))
      have HN := Lib.hid hn
      clear hr hk hb hs hn
      go_wp2_with fail
      exact ⟨⟨2, _, _, x, n, z, by simp, HS.out, by omega, HX.out.1, HN.out, HX.out.2.2⟩, by simp [intOf]⟩
    · go_wp2_with fail
      refine (H1.out _ _ _ HJ.out.rd).mono ?_
      rintro e w2 ⟨n, a2, er2, rfl, hn, hr, hs, hk⟩
      have hb := hk.blk HJ.out.arr (by omega)
      have b0 := hb.cell (i := 2) rfl
      have f0 := hb.free 2
      have HS := Lib.hid (HJ.out.step hp hg hr hs hk 2 (.int .i64 n))
      have HN := Lib.hid hn
      clear hr hk hb hs hn
      go_wp2_with fail
      exact ⟨⟨3, _, _, x, y, n, by simp, HS.out, by omega, HX.out.1, HX.out.2.1, HN.out⟩, by simp [intOf]⟩
    · have a0 := HJ.out.arr.cell (i := 0) rfl
      have a1 := HJ.out.arr.cell (i := 1) rfl
      have a2 := HJ.out.arr.cell (i := 2) rfl
      have o0 := HJ.out.out.cell (i := 0) rfl
      have o1 := HJ.out.out.cell (i := 1) rfl
      have o2 := HJ.out.out.cell (i := 2) rfl
      have f0 := HJ.out.out.free 0
      have f1 := HJ.out.out.free 1
      have f2 := HJ.out.out.free 2
      go_wp2_with fail
      have hf := ((HJ.out.out.set 0 (.int .i64 x)).set 1 (.int .i64 y)).set 2 (.int .i64 z)
      have r0 := hf.cell (i := 0) rfl
      have r1 := hf.cell (i := 1) rfl
      have r2 := hf.cell (i := 2) rfl
      have kk := ((((Kept.refl (· = w.heap.size) wr).setCell (a := ⟨w.heap.size, 0, none⟩) (.inl rfl) (.int .i64 x)).setCell (a := ⟨w.heap.size, 1, none⟩) (.inl rfl) (.int .i64 y)).setCell (a := ⟨w.heap.size, 2, none⟩) (.inl rfl) (.int .i64 z))
      refine bodyPost_ret (v := vecV x y z) (by simp [results, Tryz.f195, Tryz.results195, go_sem, r0, r1, r2]) rfl ⟨x, y, z, b, e, rfl, HX.out.1, HX.out.2.1, HX.out.2.2, HJ.out.rd.kept kk (by omega) (by omega), HJ.out.st, HJ.out.kept.trans kk (fun i hi => .inr (by omega))⟩
end Go.Proofs.YtekdkckgmleofaaGreat
