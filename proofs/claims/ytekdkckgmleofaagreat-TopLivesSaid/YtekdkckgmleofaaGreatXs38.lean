/- Joined texts. -/
import Derived.Test.YtekdkckgmleofaaGreatXs37
import Derived.Test.YtekdkckgmleofaaGreatXs36
import Derived.Test.YtekdkckgmleofaaGreatXs29
import Derived.Test.YtekdkckgmleofaaGreatXs03
import Derived.Test.YtekdkckgmleofaaGreatXs35
import Derived.Deep.RegionHeld3
import Derived.Test.YtekdkckgmleofaaGreatXs23
set_option linter.unusedVariables false
set_option linter.unusedSimpArgs false
/- Contract of pose.Between, of snapshots of one entity each, with one Id, angle and Gen. -/
namespace Go.Proofs.YtekdkckgmleofaaGreat
open Go.RowKit
theorem between_calls (c : Cfg) (hc : COk c) (a b : SnapS) (x y : EntM) (w : World) (ha : SnapAt w a [x]) (hb : SnapAt w b [y]) (at_ : Int) (hab : TimesOk [a, b]) (h1 : a.time ≤ at_) (h2 : at_ ≤ b.time)
    (hid : x.id = y.id) (hgen : x.gen = y.gen) (hang : x.ang = y.ang) (n kk : Nat) (hn : at_ - a.time = n) (hk : b.time - a.time = kk) (h0 : 0 < kk) (hn48 : n < 281474976710656) (hL : c.curved = false → LineOk x y n) :
    Calls Tryz.prog 62 #[cfgV c, sv a, sv b, .int .i64 at_] w (BtwPost c x y n kk w) := by
  cases hcu : c.curved with
  | false => exact betweenL_calls c hc a b x y w ha hb at_ hab h1 h2 hid hgen hang n kk hn hk h0 hn48 hL hcu
  | true => exact betweenC_calls c hc a b x y w ha hb at_ hab h1 h2 hid hgen hang n kk hn hk h0 hn48 hL hcu
end Go.Proofs.YtekdkckgmleofaaGreat

/- Contract of pose.Show, of snapshots of one entity each, with one Id, angle and Gen. -/
namespace Go.Proofs.YtekdkckgmleofaaGreat
open Go.RowKit
/-- Snapshots with their one entity. -/
structure Ys (c : Cfg) (ys : List (SnapS × EntM)) : Prop where
  bd : ∀ y ∈ ys, 0 ≤ y.1.time ∧ y.1.time < 1099511627776
  rise : (ys.map Prod.fst).Pairwise (fun a b => a.time < b.time)
  same : ∀ y ∈ ys, ∀ z ∈ ys, y.2.id = z.2.id ∧ y.2.gen = z.2.gen ∧ y.2.ang = z.2.ang
  line : c.curved = false → ∀ (j : Nat) (y z : SnapS × EntM), ys[j]? = some y → ys[j + 1]? = some z → ∀ n : Nat, (n : Int) ≤ z.1.time - y.1.time → LineOk y.2 z.2 n
def ShowPost (c : Cfg) (ys : List (SnapS × EntM)) (at_ : Int) (w : World) (e : Ending) (w' : World) : Prop :=
  ((∀ y ∈ ys, at_ < y.1.time) ∧ e = .returned (.tuple #[.slice none 0 0, .int .i64 5]) ∧ Kept (fun _ => False) w w') ∨
  ∃ (j : Nat) (y : SnapS × EntM), ys[j]? = some y ∧ y.1.time ≤ at_ ∧ (∀ (k : Nat) (z : SnapS × EntM), j < k → ys[k]? = some z → at_ < z.1.time) ∧
    ((j + 1 = ys.length ∧ PosePost (beyP c y.2 (satI (at_ - y.1.time))) w e w') ∨
     ∃ z, ys[j + 1]? = some z ∧ BtwPost c y.2 z.2 (at_ - y.1.time).toNat (z.1.time - y.1.time).toNat w e w')
theorem Ys.times {c : Cfg} {ys : List (SnapS × EntM)} (h : Ys c ys) : TimesOk (ys.map Prod.fst) := by
  refine ⟨fun x hx => ?_, h.rise⟩
  obtain ⟨y, hy, rfl⟩ := List.mem_map.1 hx
  have := h.bd y hy
  omega
theorem PosePost.later {x : PoseM} {w w1 w' : World} {e : Ending} (k : Kept (fun _ => False) w w1) (h : PosePost x w1 e w') : PosePost x w e w' := by
  obtain ⟨v, he, ⟨g, hs, hg⟩, hk⟩ := h
  exact ⟨v, he, ⟨g, hs, Nat.le_trans k.size hg⟩, k.trans hk (fun _ h => h.elim)⟩
theorem PosePost.drewN {x : PoseM} {w w' : World} {e : Ending} (n : Nat) (h : PosePost x w e w') : PosePost x w e (w'.drewN n) := by
  obtain ⟨v, he, ⟨g, hs, hg⟩, hk⟩ := h
  exact ⟨v, he, ⟨g, hs.drewN n, hg⟩, hk.drewN n⟩
set_option maxRecDepth 100000 in
set_option maxHeartbeats 4000000 in
theorem show_calls (c : Cfg) (hc : COk c) (ys : List (SnapS × EntM)) (hy : Ys c ys) (hl : ys.length ≤ 1000) (h0 : 0 < ys.length) (at_ : Int) (hat : I64 at_) (w : World) (hx : ∀ y ∈ ys, SnapAt w y.1 [y.2])
    (v : Value) (own : Option Nat) (hv : Sl w v 42 3 (ys.map Prod.fst).length (cellsL snC (ys.map Prod.fst)) own) :
    Calls Tryz.prog 26 #[cfgV c, .int .i64 at_, v] w (ShowPost c ys at_ w) := by
  have HC := Lib.hid (fun W hx v own hv => pcheck_calls c hc (ys.map Prod.fst) (by simpa using hl) W hx v own hv)
  have HP := Lib.hid (fun W v own hv => pick_calls (ys.map Prod.fst) at_ hy.times (by simpa using hl) (by simpa using h0) W v own hv)
  have HB := Lib.hid (fun W y h hle => beyond_calls c hc (y : SnapS × EntM).1 y.2 W h at_ hle hat)
  have HW := Lib.hid (fun W (y z : SnapS × EntM) ha hb hab h1 h2 hid hgen hang n kk hn hk h0 hn48 hL => between_calls c hc y.1 z.1 y.2 z.2 W ha hb at_ hab h1 h2 hid hgen hang n kk hn hk h0 hn48 hL)
  have HX := Lib.hid hx
  have HY := Lib.hid hy
  have HV := Lib.hid hv
  obtain ⟨g, off, cap, rfl, rfl, hcap, hcm, hcc, -⟩ := hv.some (by simpa using h0)
  unfold maxLen at hcm
  rw [List.length_map] at *
  clear hx hy hv
  go_enter Tryz.func26, Tryz.ntmps26
  go_wp2_with fail
  refine (HC.out _ (fun x hx => ?_) _ _ (HV.out.kept ((Kept.refl (fun _ => False) w).alloc _) (fun _ _ h => h))).mono ?_
  · obtain ⟨y, hy, rfl⟩ := List.mem_map.1 hx
    exact ⟨_, (HX.out y hy).kept ((Kept.refl (fun _ => False) w).alloc _)⟩
  rintro e w1 ⟨rfl, hk1⟩
  have HK1 := Lib.hid (((Kept.refl (fun _ => False) w).alloc (.cells (cfgC c).toArray 26)).trans hk1 (fun _ h => h.elim))
  have HBC := Lib.hid (hk1.blk (Blk.new w (cfgC c) 26) (fun h => h))
  clear hk1
  go_wp2_with fail
  refine (HP.out _ _ _ (HV.out.kept HK1.out (fun _ _ h => h))).mono ?_
  rintro e w2 ⟨i, next, err, rfl, hrel, hk2⟩
  have HK2 := Lib.hid (HK1.out.trans hk2 (fun _ h => h.elim))
  have BC := hk2.blk HBC.out (fun h => h)
  have b0 := BC.cell (i := 0) rfl
  have b1 := BC.cell (i := 1) rfl
  have b2 := BC.cell (i := 2) rfl
  have b3 := BC.cell (i := 3) rfl
  have b4 := BC.cell (i := 4) rfl
  have b5 := BC.cell (i := 5) rfl
  have b6 := BC.cell (i := 6) rfl
  have b7 := BC.cell (i := 7) rfl
  have b8 := BC.cell (i := 8) rfl
  have b9 := BC.cell (i := 9) rfl
  have b10 := BC.cell (i := 10) rfl
  clear hk2 BC
  rcases hrel with ⟨rfl, j, x, rfl, hxj, hle, hlat, hnx⟩ | ⟨rfl, rfl, rfl, hall⟩
  · rw [List.getElem?_map, Option.map_eq_some_iff] at hxj
    obtain ⟨y, hyj, rfl⟩ := hxj
    have hjl := (List.getElem?_eq_some_iff.1 hyj).1
    have hxj : (ys.map Prod.fst)[j]? = some y.1 := by rw [List.getElem?_map, hyj]; rfl
    obtain ⟨c0, c1, c2⟩ := sn_at (w := w2) (fun j u hu => HK2.out.cell (hcc j u hu) (fun h => h)) hxj
    have hj0 : (0 : Int) ≤ (j : Int) := by omega
    have hj1 : (j : Int) < (ys.length : Int) := by omega
    have hlat2 : ∀ (k : Nat) (z : SnapS × EntM), j < k → ys[k]? = some z → at_ < z.1.time := fun k z hk hz => hlat k z.1 hk (by rw [List.getElem?_map, hz]; rfl)
    have HLAT := Lib.hid hlat2
    have HYJ := Lib.hid hyj
    have HLE := Lib.hid hle
    have hym := List.mem_of_getElem? hyj
    by_cases hnl : j + 1 < ys.length
    · obtain ⟨z, hzj⟩ : ∃ z, ys[j + 1]? = some z := ⟨_, List.getElem?_eq_getElem hnl⟩
      have hzm := List.mem_of_getElem? hzj
      have hxz : (ys.map Prod.fst)[j + 1]? = some z.1 := by rw [List.getElem?_map, hzj]; rfl
      obtain ⟨d0, d1, d2⟩ := sn_at (w := w2) (fun j u hu => HK2.out.cell (hcc j u hu) (fun h => h)) hxz
      rw [if_pos (by rw [List.length_map]; exact hnl)] at hnx
      subst hnx
      have hn0 : decide (((j + 1 : Nat) : Int) < 0) = false := decide_eq_false (by omega)
      have hj2 : (0 : Int) ≤ ((j + 1 : Nat) : Int) := by omega
      have hj3 : ((j + 1 : Nat) : Int) < (ys.length : Int) := by omega
      have hab : TimesOk [y.1, z.1] := by
        have g1 := HY.out.bd y hym
        have g2 := HY.out.bd z hzm
        have g3 := HY.out.times.step hxj hxz
        exact ⟨by simp; omega, by simpa using g3⟩
      have hrz : y.1.time < z.1.time := HY.out.times.step hxj hxz
      have hlz : at_ < z.1.time := HLAT.out (j + 1) z (by omega) hzj
      have HQ : Hid (∀ W, Kept (fun _ => False) w W → Calls Tryz.prog 62 #[cfgV c, sv y.1, sv z.1, .int .i64 at_] W (BtwPost c y.2 z.2 (at_ - y.1.time).toNat (z.1.time - y.1.time).toNat W)) := Lib.hid (fun W hW => by
        obtain ⟨e1, e2, e3⟩ := HY.out.same y hym z hzm
        have g1 := HY.out.bd y hym
        have g2 := HY.out.bd z hzm
        exact HW.out W y z ((HX.out y hym).kept hW) ((HX.out z hzm).kept hW) hab HLE.out (by omega) e1 e2 e3 _ _ (by omega) (by omega) (by omega) (by omega) (fun hcu => HY.out.line hcu j y z HYJ.out hzj _ (by omega)))
      have HZJ := Lib.hid hzj
      clear hyj hxj hle hlat hlat2 hym hzm hzj hxz hab hrz hlz hcc h0 hl hat
      go_wp2_with fail
      refine region_mix2 (fun w' => ∃ n, w' = w2.drewN n) [] [0, 1, 2, 3, 4, 5, 6, 7, 8, 9] 10 [11, 12, 13, 14] (by kernel_rfl) (by kernel_rfl) (fun _ _ d _ _ h => by cases d <;> exact h) ⟨1, rfl⟩ ?_
      simp only [pick, List.filterMap_cons, List.filterMap_nil, List.getElem?_toArray, List.getElem?_cons_zero, List.getElem?_cons_succ, floatPut, Act.put, Act.eval, List.setIfInBounds_toArray, List.set_cons_zero, List.set_cons_succ, Array.getD_eq_getD_getElem?, Option.getD_some]
      repeat (change wpQuiet _ _ _ _ (List.cons _ _) _; go_big_quiet_step (fail))
      refine wpQuiet_nil ?_
      rintro _ ⟨n2, rfl⟩
      go_wp2_with fail
      refine (HQ.out _ (HK2.out.drewN n2)).mono ?_
      rintro e w3 ⟨z3, hz, v, rfl, hp, hk3⟩
      have HPP : Hid (PosePost ⟨y.2.id, z3, y.2.ang, if c.curved then 2 else 1⟩ w (.returned (.tuple #[v, .int .i64 0])) w3) := Lib.hid (PosePost.later (HK2.out.drewN n2) ⟨v, rfl, hp, hk3⟩)
      have HZ := Lib.hid hz
      clear hp hk3 hz
      go_wp2_with fail
      simp only [QThen]
      repeat (change wpQuiet _ _ _ _ (List.cons _ _) _; go_big_quiet_step (fail))
      refine wpQuiet_nil ?_
      rintro _ ⟨n3, rfl⟩
      go_wp2_with fail
      go_ret2
      exact .inr ⟨j, y, HYJ.out, HLE.out, HLAT.out, .inr ⟨z, HZJ.out, z3, HZ.out, HPP.out.drewN n3⟩⟩
    · rw [if_neg (by rw [List.length_map]; exact hnl)] at hnx
      subst hnx
      have HQ : Hid (∀ W, Kept (fun _ => False) w W → Calls Tryz.prog 61 #[cfgV c, sv y.1, .int .i64 at_] W (PosePost (beyP c y.2 (satI (at_ - y.1.time))) W)) := Lib.hid (fun W hW => HB.out W y ((HX.out y hym).kept hW) HLE.out)
      clear hyj hxj hle hlat hlat2 hym hcc h0 hl hat
      go_wp2_with fail
      refine region_mix2 (fun w' => ∃ n, w' = w2.drewN n) [] [0, 1, 2, 3, 4, 5] 6 [7, 8, 9, 10] (by kernel_rfl) (by kernel_rfl) (fun _ _ d _ _ h => by cases d <;> exact h) ⟨1, rfl⟩ ?_
      simp only [pick, List.filterMap_cons, List.filterMap_nil, List.getElem?_toArray, List.getElem?_cons_zero, List.getElem?_cons_succ, floatPut, Act.put, Act.eval, List.setIfInBounds_toArray, List.set_cons_zero, List.set_cons_succ, Array.getD_eq_getD_getElem?, Option.getD_some]
      repeat (change wpQuiet _ _ _ _ (List.cons _ _) _; go_big_quiet_step (fail))
      refine wpQuiet_nil ?_
      rintro _ ⟨n2, rfl⟩
      go_wp2_with fail
      refine (HQ.out _ (HK2.out.drewN n2)).mono ?_
      rintro e w3 ⟨v, rfl, hp, hk3⟩
      have HPP : Hid (PosePost (beyP c y.2 (satI (at_ - y.1.time))) w (.returned (.tuple #[v, .int .i64 0])) w3) := Lib.hid (PosePost.later (HK2.out.drewN n2) ⟨v, rfl, hp, hk3⟩)
      clear hp hk3
      go_wp2_with fail
      simp only [QThen]
      repeat (change wpQuiet _ _ _ _ (List.cons _ _) _; go_big_quiet_step (fail))
      refine wpQuiet_nil ?_
      rintro _ ⟨n3, rfl⟩
      go_wp2_with fail
      go_ret2
      exact .inr ⟨j, y, HYJ.out, HLE.out, HLAT.out, .inl ⟨by omega, HPP.out.drewN n3⟩⟩
  · go_wp2_with fail
    go_ret2
    exact .inl ⟨fun y hy => hall y.1 (List.mem_map.2 ⟨y, hy, rfl⟩), rfl, HK2.out⟩
end Go.Proofs.YtekdkckgmleofaaGreat

/- Client's Frame, of snapshots of one entity each. -/
namespace Go.Proofs.YtekdkckgmleofaaGreat
open Go.RowKit
/-- The poses of a time, as a value. -/
def PosesAt (c : Cfg) (ys : List (SnapS × EntM)) (at_ : Int) (v : Value) (lo : Nat) (w : World) : Prop :=
  ((∀ y ∈ ys, at_ < y.1.time) ∧ v = .slice none 0 0) ∨
  ∃ (j : Nat) (y : SnapS × EntM), ys[j]? = some y ∧ y.1.time ≤ at_ ∧ (∀ (k : Nat) (z : SnapS × EntM), j < k → ys[k]? = some z → at_ < z.1.time) ∧
    ((j + 1 = ys.length ∧ OneP 48 6 (poseC (beyP c y.2 (satI (at_ - y.1.time)))) v lo w) ∨
     ∃ z p, ys[j + 1]? = some z ∧ WayM c y.2 z.2 (at_ - y.1.time).toNat (z.1.time - y.1.time).toNat p ∧ OneP 48 6 (poseC ⟨y.2.id, p, y.2.ang, if c.curved then 2 else 1⟩) v lo w)
theorem PosesAt.kept {F : Nat → Prop} {c : Cfg} {ys : List (SnapS × EntM)} {at_ : Int} {v : Value} {lo : Nat} {w w' : World} (h : PosesAt c ys at_ v lo w) (k : Kept F w w') (hF : ∀ g, lo ≤ g → ¬ F g) : PosesAt c ys at_ v lo w' := by
  rcases h with h | ⟨j, y, h1, h2, h3, h4⟩
  · exact .inl h
  · refine .inr ⟨j, y, h1, h2, h3, ?_⟩
    rcases h4 with ⟨h4, h5⟩ | ⟨z, p, h4, h5, h6⟩
    · exact .inl ⟨h4, h5.kept k hF⟩
    · exact .inr ⟨z, p, h4, h5, h6.kept k hF⟩
theorem PosesAt.later {c : Cfg} {ys : List (SnapS × EntM)} {at_ : Int} {v : Value} {lo lo' : Nat} {w : World} (h : PosesAt c ys at_ v lo w) (hl : lo' ≤ lo) : PosesAt c ys at_ v lo' w := by
  rcases h with h | ⟨j, y, h1, h2, h3, h4⟩
  · exact .inl h
  · refine .inr ⟨j, y, h1, h2, h3, ?_⟩
    rcases h4 with ⟨h4, g, h5, h6⟩ | ⟨z, p, h4, h5, g, h6, h7⟩
    · exact .inl ⟨h4, g, h5, Nat.le_trans hl h6⟩
    · exact .inr ⟨z, p, h4, h5, g, h6, Nat.le_trans hl h7⟩
theorem show_poses {c : Cfg} {ys : List (SnapS × EntM)} {at_ : Int} {w w' : World} {e : Ending} (h : ShowPost c ys at_ w e w') :
    ∃ v er, e = .returned (.tuple #[v, .int .i64 er]) ∧ PosesAt c ys at_ v w.heap.size w' ∧ Kept (fun _ => False) w w' := by
  rcases h with ⟨h1, rfl, hk⟩ | ⟨j, y, h1, h2, h3, h4⟩
  · exact ⟨_, 5, rfl, .inl ⟨h1, rfl⟩, hk⟩
  · rcases h4 with ⟨h4, v, rfl, h5, hk⟩ | ⟨z, h4, p, h5, v, rfl, h6, hk⟩
    · exact ⟨v, 0, rfl, .inr ⟨j, y, h1, h2, h3, .inl ⟨h4, h5⟩⟩, hk⟩
    · exact ⟨v, 0, rfl, .inr ⟨j, y, h1, h2, h3, .inr ⟨z, p, h4, h5, h6⟩⟩, hk⟩
theorem PosesAt.form {c : Cfg} {ys : List (SnapS × EntM)} {at_ : Int} {v : Value} {lo : Nat} {w : World} (h : PosesAt c ys at_ v lo w) : ∃ a n cap, v = .slice a n cap := by
  rcases h with ⟨_, h⟩ | ⟨j, y, h1, h2, h3, h4⟩
  · exact ⟨_, _, _, h⟩
  · rcases h4 with ⟨h4, g, h5, h6⟩ | ⟨z, p, h4, h5, g, h6, h7⟩
    · obtain ⟨a, cap, e, -, -⟩ := h5.form
      exact ⟨_, _, _, e⟩
    · obtain ⟨a, cap, e, -, -⟩ := h6.form
      exact ⟨_, _, _, e⟩
def FrNone (w : World) (q : Nat) (F : Nat → Prop) (c : Cfg) (m : ClkM) (K : Nat) (r : RingM SnapS) (P : Int → Int → List EntM → Prop) (e : Ending) (w' : World) : Prop :=
  e = .returned (.agg #[.bool false, .int .i64 0, .slice none 0 0]) ∧ Cli w' q F c m K r P ∧ Kept F w w'
def FrSome (R : Int → Int → EntM → Prop) (w : World) (q : Nat) (F : Nat → Prop) (c : Cfg) (m : ClkM) (K : Nat) (r : RingM SnapS) (e : Ending) (w' : World) : Prop :=
  ∃ v ys, e = .returned (.agg #[.bool true, .int .i64 m.sl.at_, v]) ∧ Cli w' q F c m K r (OneE R) ∧ Kept F w w' ∧ ys.map (fun y => (y.1.tick, y.1.time)) = r.l.map (fun z => (z.2.tick, z.2.time)) ∧ (∀ y ∈ ys, R y.1.tick y.1.time y.2) ∧ PosesAt c ys m.sl.at_ v w.heap.size w'
theorem cfg_cells {w : World} {q : Nat} {c : Cfg} {s k : Nat} {n : Int} {t : TypeId} (h : Blk w q (cliC c s k n) t) :
    w.cell? ⟨q, 0, none⟩ = some (.int .i64 c.ring) ∧ w.cell? ⟨q, 1, none⟩ = some (.int .i64 c.window) ∧ w.cell? ⟨q, 2, none⟩ = some (.int .i64 c.base) ∧ w.cell? ⟨q, 3, none⟩ = some (.int .i64 c.gain) ∧ w.cell? ⟨q, 4, none⟩ = some (.int .i64 c.least) ∧ w.cell? ⟨q, 5, none⟩ = some (.int .i64 c.most) ∧ w.cell? ⟨q, 6, none⟩ = some (.int .i64 c.slack) ∧ w.cell? ⟨q, 7, none⟩ = some (.int .i64 c.num) ∧ w.cell? ⟨q, 8, none⟩ = some (.int .i64 c.den) ∧ w.cell? ⟨q, 9, none⟩ = some (.int .i64 c.extra) ∧ w.cell? ⟨q, 10, none⟩ = some (.bool c.curved) :=
  ⟨h.cell (i := 0) rfl, h.cell (i := 1) rfl, h.cell (i := 2) rfl, h.cell (i := 3) rfl, h.cell (i := 4) rfl, h.cell (i := 5) rfl, h.cell (i := 6) rfl, h.cell (i := 7) rfl, h.cell (i := 8) rfl, h.cell (i := 9) rfl, h.cell (i := 10) rfl⟩
theorem CliAt.set {F fr fe fk : Nat → Prop} {w : World} {q s p k : Nat} {c : Cfg} {m : ClkM} {K : Nat} {r : RingM SnapS} {cs : List Int} {P : Int → Int → List EntM → Prop} {n : Int} (h : CliAt w q s p k F fr fe fk c m K r cs P n) (n' : Int) :
    CliAt (w.setCell ⟨q, 13, none⟩ (.int .i64 n')) q s p k F fr fe fk c m K r cs P n' := by
  have kp : Kept (fun g => g = q) w (w.setCell ⟨q, 13, none⟩ (.int .i64 n')) := (Kept.refl (fun g => g = q) w).setCell (a := ⟨q, 13, none⟩) (.inl rfl) _
  exact { h with
    blk := h.blk.set 13 (.int .i64 n')
    sto := h.sto.kept kp (fun e => h.qs e.symm) (fun g hg e => h.qr (e ▸ hg)) (fun g hg e => h.qe (e ▸ hg))
    clk := h.clk.kept kp (fun g hg e => h.qk (e ▸ hg)) }
theorem CliAt.clock {F fr fe fk : Nat → Prop} {w w' : World} {q s p k : Nat} {c : Cfg} {m m' : ClkM} {K K' : Nat} {r : RingM SnapS} {cs : List Int} {P : Int → Int → List EntM → Prop} {n : Int} (h : CliAt w q s p k F fr fe fk c m K r cs P n) (kp : Kept fk w w') (hc : Clk w' k fk c m' K') :
    CliAt w' q s p k F fr fe fk c m' K' r cs P n :=
  { h with
    blk := kp.blk h.blk h.qk
    sto := h.sto.kept kp h.ks (fun g h1 h2 => h.kr g h2 h1) (fun g h1 h2 => h.ke g h2 h1)
    clk := hc }
set_option maxRecDepth 100000 in
set_option maxHeartbeats 8000000 in
theorem frame_none (w : World) (q : Nat) (F : Nat → Prop) (c : Cfg) (m : ClkM) (K : Nat) (r : RingM SnapS) (P : Int → Int → List EntM → Prop) (h : Cli w q F c m K r P) (he : m.last = []) (loc : Int) :
    Calls Tryz.prog 10 #[.pointer (some ⟨q, 0, none⟩), .int .i64 loc] w (FrNone w q F c m K r P) := by
  obtain ⟨s, p, kk, fr, fe, fk, cs, n, h, lr, le, lk⟩ := h.tight
  have hq := h.blk.lt
  have b13 := h.blk.cell (i := 13) rfl
  have g13 := h.blk.free 13
  have HK0 : Hid (Kept F w ((w.setCell ⟨q, 13, none⟩ (.int .i64 (wrap64 (n + 1)))).alloc (.cells #[.bool false, .int .i64 0, .slice none 0 0] 45))) := Lib.hid (((Kept.refl F w).setCell (a := ⟨q, 13, none⟩) (.inl h.fq) (.int .i64 (wrap64 (n + 1)))).alloc _)
  have HC0 : Hid (CliAt ((w.setCell ⟨q, 13, none⟩ (.int .i64 (wrap64 (n + 1)))).alloc (.cells #[.bool false, .int .i64 0, .slice none 0 0] 45)) q s p kk F fr fe fk c m K r cs P (wrap64 (n + 1))) := Lib.hid ((h.set (wrap64 (n + 1))).kept ((Kept.refl (fun _ => False) _).alloc _) (fun _ _ h => h))
  have HN0 : Hid (Blk ((w.setCell ⟨q, 13, none⟩ (.int .i64 (wrap64 (n + 1)))).alloc (.cells #[.bool false, .int .i64 0, .slice none 0 0] 45)) w.heap.size [.bool false, .int .i64 0, .slice none 0 0] 45) := Lib.hid (Blk.new_at (by simp) _ _)
  have b12 := HC0.out.blk.cell (i := 12) rfl
  have HLK := Lib.hid lk
  have HLR := Lib.hid lr
  have HLE := Lib.hid le
  have HSZ := Lib.hid h.sto.blk.lt
  have hqs : ¬ w.heap.size = q := by omega
  clear h lr le lk
  go_enter Tryz.func10, Tryz.ntmps10
  go_upto_region 4 with fail
  generalize ((w.setCell ⟨q, 13, none⟩ (.int .i64 (wrap64 (n + 1)))).alloc (.cells #[.bool false, .int .i64 0, .slice none 0 0] 45)) = W1 at *
  clear b13 g13
  go_wp2_with fail
  have e0 := HN0.out.cell (i := 0) rfl
  have e1 := HN0.out.cell (i := 1) rfl
  have e2 := HN0.out.cell (i := 2) rfl
  have f0 := HN0.out.free 0
  have f1 := HN0.out.free 1
  have f2 := HN0.out.free 2
  refine (cframe_none W1 kk fk c m K loc HC0.out.clk he).mono ?_
  rintro e w2 ⟨rfl, hw⟩
  subst hw
  clear b12
  go_wp2_with fail
  have hf := ((HN0.out.set 0 (.bool false)).set 1 (.int .i64 0)).set 2 (.slice none 0 0)
  have r0 := hf.cell (i := 0) rfl
  have r1 := hf.cell (i := 1) rfl
  have r2 := hf.cell (i := 2) rfl
  have kS := (((Kept.refl (fun k => k = w.heap.size) W1).setCell (a := ⟨w.heap.size, 0, none⟩) (.inl rfl) (.bool false)).setCell (a := ⟨w.heap.size, 1, none⟩) (.inl rfl) (.int .i64 0)).setCell (a := ⟨w.heap.size, 2, none⟩) (.inl rfl) (.slice none 0 0)
  refine bodyPost_ret (v := .agg #[.bool false, .int .i64 0, .slice none 0 0]) (by simp [results, Tryz.f10, Tryz.results10, go_sem, r0, r1, r2]) rfl ⟨rfl, ?_, HK0.out.trans kS (fun i hi => .inr (by omega))⟩
  have HT : Cli W1 q (fun g => F g ∧ g < w.heap.size) c m K r P := ⟨s, p, kk, fr, fe, fk, cs, _, { HC0.out with
    fq := ⟨HC0.out.fq, hq⟩
    fs := ⟨HC0.out.fs, HSZ.out⟩
    fR := fun g hg => ⟨HC0.out.fR g hg, HLR.out g hg⟩
    fE := fun g hg => ⟨HC0.out.fE g hg, HLE.out g hg⟩
    fK := fun g hg => ⟨HC0.out.fK g hg, HLK.out g hg⟩ }⟩
  exact (HT.kept kS (fun g hg e => by have := hg.2; omega)).mono (fun g _ hg => hg.1)
set_option maxRecDepth 100000 in
set_option maxHeartbeats 16000000 in
theorem frame_calls (R : Int → Int → EntM → Prop) (w : World) (q : Nat) (F : Nat → Prop) (c : Cfg) (hc : COk c) (m : ClkM) (K : Nat) (r : RingM SnapS) (h : Cli w q F c m K r (OneE R)) (he : m.last ≠ []) (loc : Int) (hl : I64 loc) (hr : r.l ≠ [])
    (hY : ∀ ys : List (SnapS × EntM), ys.map (fun y => (y.1.tick, y.1.time)) = r.l.map (fun z => (z.2.tick, z.2.time)) → (∀ y ∈ ys, R y.1.tick y.1.time y.2) → Ys c ys) :
    Calls Tryz.prog 10 #[.pointer (some ⟨q, 0, none⟩), .int .i64 loc] w (FrSome R w q F c (frmM c m loc) K r) := by
  have HYS := Lib.hid hY
  have HCF := Lib.hid (fun W kk fk hcl => cframe_calls W kk fk c m K loc hc hcl he hl)
  have hlen : r.l.length ≤ 64 := by
    obtain ⟨s, p, kk, fr, fe, fk, cs, n, h⟩ := h
    exact Nat.le_trans h.sto.ring.len h.sto.m2
  have hlen0 : 0 < r.l.length := List.length_pos_iff.2 hr
  have HCC := Lib.hid hc
  clear hY he hl hr hc
  obtain ⟨s, p, kk, fr, fe, fk, cs, n, h, lr, le, lk⟩ := h.tight
  have hq := h.blk.lt
  have b13 := h.blk.cell (i := 13) rfl
  have g13 := h.blk.free 13
  have HK0 : Hid (Kept F w ((w.setCell ⟨q, 13, none⟩ (.int .i64 (wrap64 (n + 1)))).alloc (.cells #[.bool false, .int .i64 0, .slice none 0 0] 45))) := Lib.hid (((Kept.refl F w).setCell (a := ⟨q, 13, none⟩) (.inl h.fq) (.int .i64 (wrap64 (n + 1)))).alloc _)
  have HC0 : Hid (CliAt ((w.setCell ⟨q, 13, none⟩ (.int .i64 (wrap64 (n + 1)))).alloc (.cells #[.bool false, .int .i64 0, .slice none 0 0] 45)) q s p kk F fr fe fk c m K r cs (OneE R) (wrap64 (n + 1))) := Lib.hid ((h.set (wrap64 (n + 1))).kept ((Kept.refl (fun _ => False) _).alloc _) (fun _ _ h => h))
  have HN0 : Hid (Blk ((w.setCell ⟨q, 13, none⟩ (.int .i64 (wrap64 (n + 1)))).alloc (.cells #[.bool false, .int .i64 0, .slice none 0 0] 45)) w.heap.size [.bool false, .int .i64 0, .slice none 0 0] 45) := Lib.hid (Blk.new_at (by simp) _ _)
  have b12 := HC0.out.blk.cell (i := 12) rfl
  have HLK := Lib.hid lk
  have HLR := Lib.hid lr
  have HLE := Lib.hid le
  have HSZ := Lib.hid h.sto.blk.lt
  have hqs : ¬ w.heap.size = q := by omega
  clear h lr le lk
  go_enter Tryz.func10, Tryz.ntmps10
  go_upto_region 4 with fail
  generalize ((w.setCell ⟨q, 13, none⟩ (.int .i64 (wrap64 (n + 1)))).alloc (.cells #[.bool false, .int .i64 0, .slice none 0 0] 45)) = W1 at *
  clear b13 g13
  go_wp2_with fail
  refine (HCF.out _ _ _ HC0.out.clk).mono ?_
  rintro e w2 ⟨rfl, hcl, hk2⟩
  have HC2 := Lib.hid (HC0.out.clock hk2 hcl)
  have HN2 := Lib.hid (hk2.blk HN0.out (fun h => by have := HLK.out _ h; omega))
  have HK2 := Lib.hid (HK0.out.trans hk2 (fun g hg => .inl (HC0.out.fK g hg)))
  have hat : I64 (frmM c m loc).sl.at_ := by
    obtain ⟨_, _, _, _, _, _, _, hcl, _⟩ := hcl
    exact hcl.slew.2.1
  have HSN := Lib.hid (fun W (hk : Kept (fun _ => False) w2 W) => snaps_calls R W q F c (frmM c m loc) K r (Cli.kept ⟨s, p, kk, fr, fe, fk, cs, _, HC2.out⟩ hk (fun _ _ h => h)))
  have HSH := Lib.hid (fun W ys hy hl h0 hx v own hv => show_calls c HCC.out ys hy hl h0 (frmM c m loc).sl.at_ hat W hx v own hv)
  generalize hat_ : (frmM c m loc).sl.at_ = at_ at *
  obtain ⟨g0, g1, g2, g3, g4, g5, g6, g7, g8, g9, g10⟩ := cfg_cells HC2.out.blk
  clear b12 hk2 hcl hat
  go_wp2_with fail
  have HBB := Lib.hid HC2.out.blk
  go_region_held3 (fun w' => w'.cell? ⟨q, 0, none⟩ = some (.int .i64 c.ring) ∧ w'.cell? ⟨q, 1, none⟩ = some (.int .i64 c.window) ∧ w'.cell? ⟨q, 2, none⟩ = some (.int .i64 c.base) ∧ w'.cell? ⟨q, 3, none⟩ = some (.int .i64 c.gain) ∧ w'.cell? ⟨q, 4, none⟩ = some (.int .i64 c.least) ∧ w'.cell? ⟨q, 5, none⟩ = some (.int .i64 c.most) ∧ w'.cell? ⟨q, 6, none⟩ = some (.int .i64 c.slack) ∧ w'.cell? ⟨q, 7, none⟩ = some (.int .i64 c.num) ∧ w'.cell? ⟨q, 8, none⟩ = some (.int .i64 c.den) ∧ w'.cell? ⟨q, 9, none⟩ = some (.int .i64 c.extra) ∧ w'.cell? ⟨q, 10, none⟩ = some (.bool c.curved))
    (first | (go_keep; done) | exact cfg_cells HB4.out | exact cfg_cells HB5.out)
    (first
      | (go_at_call 27; refine (HSN.out _ ((Kept.refl (fun _ => False) w2).drew)).mono ?_; rintro e w4 ⟨v4, ys, own, rfl, hI⟩; obtain ⟨a4, cap4, rfl, -, -⟩ := hI.row.form; have HI4 := Lib.hid hI; have HB4 := Lib.hid (hI.kept.blk HBB.out.drew (fun h => h)); have HK4 := Lib.hid (((Kept.refl (fun _ => False) w2).drew).trans hI.kept (fun _ h => h.elim)); clear hI)
      | (go_at_call 26; refine (HSH.out w4 ys (HYS.out ys (by have := HI4.out.same; rwa [List.take_length] at this) (fun y hy => (HI4.out.el y hy).2)) (by have := HI4.out.len; omega) (by have := HI4.out.len; omega) (fun y hy => (HI4.out.el y hy).1) _ own (by rw [List.length_map, HI4.out.len]; exact HI4.out.row)).mono ?_; intro e w5 hp; obtain ⟨v5, er, rfl, hp5, hk5⟩ := show_poses hp; have HP5 := Lib.hid hp5; have HK5 := Lib.hid hk5; have HB5 := Lib.hid (hk5.blk HB4.out (fun h => h)); clear hp hp5 hk5))
  obtain ⟨b5, l5, p5, rfl⟩ := HP5.out.form
  have hk25 := HK4.out.trans HK5.out (fun _ h => h.elim)
  have HN5 := Lib.hid (hk25.blk HN2.out (fun h => h))
  have HK25 := Lib.hid hk25
  have e0 := HN5.out.cell (i := 0) rfl
  have e1 := HN5.out.cell (i := 1) rfl
  have e2 := HN5.out.cell (i := 2) rfl
  have f0 := HN5.out.free 0
  have f1 := HN5.out.free 1
  have f2 := HN5.out.free 2
  have hnl := HN2.out.lt
  have hs4 := HK4.out.size
  clear hk25 g0 g1 g2 g3 g4 g5 g6 g7 g8 g9 g10
  go_wp2_with fail
  have hf := ((HN5.out.set 0 (.bool true)).set 1 (.int .i64 at_)).set 2 (.slice b5 l5 p5)
  have r0 := hf.cell (i := 0) rfl
  have r1 := hf.cell (i := 1) rfl
  have r2 := hf.cell (i := 2) rfl
  have kS := (((Kept.refl (fun k => k = w.heap.size) w5).setCell (a := ⟨w.heap.size, 0, none⟩) (.inl rfl) (.bool true)).setCell (a := ⟨w.heap.size, 1, none⟩) (.inl rfl) (.int .i64 at_)).setCell (a := ⟨w.heap.size, 2, none⟩) (.inl rfl) (.slice b5 l5 p5)
  refine bodyPost_ret (v := .agg #[.bool true, .int .i64 at_, .slice b5 l5 p5]) (by simp [results, Tryz.f10, Tryz.results10, go_sem, r0, r1, r2]) rfl ⟨_, ys, by rw [hat_], ?_, (HK2.out.trans HK25.out (fun _ h => h.elim)).trans kS (fun i hi => .inr (by omega)), by have := HI4.out.same; rwa [List.take_length] at this, fun y hy => (HI4.out.el y hy).2, ?_⟩
  · have HT : Cli w2 q (fun g => F g ∧ g < w.heap.size) c (frmM c m loc) K r (OneE R) := ⟨s, p, kk, fr, fe, fk, cs, _, { HC2.out with
      fq := ⟨HC2.out.fq, hq⟩
      fs := ⟨HC2.out.fs, HSZ.out⟩
      fR := fun g hg => ⟨HC2.out.fR g hg, HLR.out g hg⟩
      fE := fun g hg => ⟨HC2.out.fE g hg, HLE.out g hg⟩
      fK := fun g hg => ⟨HC2.out.fK g hg, HLK.out g hg⟩ }⟩
    exact ((HT.kept HK25.out (fun _ _ h => h)).kept kS (fun g hg e => by have := hg.2; omega)).mono (fun g _ hg => hg.1)
  · rw [hat_]
    exact (HP5.out.kept kS (fun g hg e => by omega)).later (by omega)
end Go.Proofs.YtekdkckgmleofaaGreat

/- The example's parts: its config, its two snapshots, its clock and what is shown. -/
namespace Go.Proofs.YtekdkckgmleofaaGreat
open Go.RowKit
abbrev plainM : Cfg := ⟨8, 4, 0, 0, 0, 0, 0, 1, 1, 5, false⟩
theorem plain_ok : COk plainM := by
  refine ⟨?_, ?_, ?_, ?_, ?_, ?_, ?_, ?_, ?_, ?_, ?_⟩
  · constructor <;> decide
  all_goals decide
theorem plain_calls (w : World) : Calls Tryz.prog 17 #[] w fun e w' => e = .returned (cfgV plainM) ∧ Kept (fun _ => False) w w' := by
  go_enter Tryz.func17, Tryz.ntmps17
  go_wp2_with fail
  have hb := Blk.new w (cfgC plainM) 26
  have d0 := hb.cell (i := 0) rfl
  have d1 := hb.cell (i := 1) rfl
  have d2 := hb.cell (i := 2) rfl
  have d3 := hb.cell (i := 3) rfl
  have d4 := hb.cell (i := 4) rfl
  have d5 := hb.cell (i := 5) rfl
  have d6 := hb.cell (i := 6) rfl
  have d7 := hb.cell (i := 7) rfl
  have d8 := hb.cell (i := 8) rfl
  have d9 := hb.cell (i := 9) rfl
  have d10 := hb.cell (i := 10) rfl
  simp only [cfgC] at d0 d1 d2 d3 d4 d5 d6 d7 d8 d9 d10
  exact bodyPost_ret (v := cfgV plainM) (by simp [results, Tryz.f17, Tryz.results17, go_sem, d0, d1, d2, d3, d4, d5, d6, d7, d8, d9, d10, cfgV, cfgC]) rfl ⟨rfl, (Kept.refl _ w).alloc _⟩
abbrev xa : EntM := ⟨1, 0, 0, 0, 65536, 0, 0, 0, 0⟩
abbrev xb : EntM := ⟨1, 10, 0, 0, 65536, 0, 0, 0, 0⟩
def RA (tick time : Int) (x : EntM) : Prop := (tick = 1 ∧ time = 0 ∧ x = xa) ∨ (tick = 2 ∧ time = 10 ∧ x = xb)
abbrev k0 : ClkM := ⟨[], 0, tgtM plainM 0, ⟨0, 0, false⟩⟩
abbrev k1 : ClkM := smpM plainM k0 100 0
abbrev k2 : ClkM := smpM plainM k1 110 10
abbrev k3 : ClkM := frmM plainM k2 104
abbrev k4 : ClkM := frmM plainM k3 113
abbrev k5 : ClkM := frmM plainM k4 900
theorem at3 : k3.sl.at_ = 4 := by decide +kernel
theorem at4 : k4.sl.at_ = 13 := by decide +kernel
theorem at5 : k5.sl.at_ = 800 := by decide +kernel
theorem last2 : k2.last = [100, 100] := by decide +kernel
theorem alvL {a a' : Option Addr} {cap cap' : Nat} : (layM 8 (layM 8 (⟨[], 0, false⟩ : RingM SnapS) 1 ⟨1, 0, a, 1, cap⟩).1 2 ⟨2, 10, a', 1, cap'⟩).1.l = ([(1, ⟨1, 0, a, 1, cap⟩), (2, ⟨2, 10, a', 1, cap'⟩)] : List (Int × SnapS)) := rfl
theorem may1 : May 8 ⟨[], 0, false⟩ 1 0 := ⟨rfl, rfl, rfl⟩
theorem may2 {a : Option Addr} {cap : Nat} : May 8 (layM 8 ⟨[], 0, false⟩ 1 ⟨1, 0, a, 1, cap⟩).1 2 10 := ⟨rfl, rfl, rfl⟩
theorem RA_ys {ys : List (SnapS × EntM)} (h1 : ys.map (fun y => (y.1.tick, y.1.time)) = [(1, 0), (2, 10)]) (h2 : ∀ y ∈ ys, RA y.1.tick y.1.time y.2) : ∃ s t, ys = [(s, xa), (t, xb)] ∧ s.time = 0 ∧ t.time = 10 := by
  match ys, h1, h2 with
  | [], h1, _ => cases h1
  | [y], h1, _ => simp at h1
  | [y, z], h1, h2 =>
    simp only [List.map_cons, List.map_nil, List.cons.injEq, Prod.mk.injEq, and_true] at h1
    obtain ⟨⟨e1, e2⟩, e3, e4⟩ := h1
    have r1 := h2 y (by simp)
    have r2 := h2 z (by simp)
    rw [e1, e2] at r1
    rw [e3, e4] at r2
    rcases r1 with ⟨_, _, r1⟩ | ⟨r1, _⟩
    · rcases r2 with ⟨r2, _⟩ | ⟨_, _, r2⟩
      · exact absurd r2 (by decide)
      · exact ⟨y.1, z.1, by rw [← r1, ← r2], e2, e4⟩
    · exact absurd r1 (by decide)
  | y :: z :: u :: ys, h1, _ => simp at h1
theorem ab_line (n : Nat) (hn : n ≤ 10) : LineOk xa xb n := by
  have f : ∀ j : Nat, j < 3 → posM xb j - posM xa j < 9223372036854775808 ∧ posM xa j ≤ posM xb j ∧ (posM xb j - posM xa j).toNat ≤ 10 := by decide
  refine ⟨fun j hj => (f j hj).1, fun j hj => (f j hj).2.1, fun j hj => ?_⟩
  have h1 := (f j hj).2.2
  have h2 : (posM xb j - posM xa j).toNat * n ≤ 10 * 10 := Nat.mul_le_mul h1 hn
  omega
theorem RA_Ys {ys : List (SnapS × EntM)} (h1 : ys.map (fun y => (y.1.tick, y.1.time)) = [(1, 0), (2, 10)]) (h2 : ∀ y ∈ ys, RA y.1.tick y.1.time y.2) : Ys plainM ys := by
  obtain ⟨s, t, rfl, hs, ht⟩ := RA_ys h1 h2
  refine ⟨?_, ?_, ?_, ?_⟩
  · intro y hy
    simp only [List.mem_cons, List.not_mem_nil, or_false] at hy
    rcases hy with rfl | rfl <;> simp [hs, ht]
  · simp [hs, ht]
  · intro y hy z hz
    simp only [List.mem_cons, List.not_mem_nil, or_false] at hy hz
    rcases hy with rfl | rfl <;> rcases hz with rfl | rfl <;> exact ⟨rfl, rfl, rfl⟩
  · intro _ j y z hy hz n hn
    rcases j with _ | j
    · simp only [List.getElem?_cons_zero, Option.some.injEq, Nat.zero_add, List.getElem?_cons_succ] at hy hz
      subst hy
      subst hz
      simp only [hs, ht] at hn
      have hn10 : n ≤ 10 := by omega
      exact ab_line n hn10
    · simp at hz
/-- One pose, at a number. -/
def PoseIs (v : Value) (n m : Int) (lo : Nat) (w : World) : Prop := ∃ g off cap, v = .slice (some ⟨g, off, none⟩) 1 cap ∧ lo ≤ g ∧ (∀ (i : Nat) u, [Value.int .i64 1, .int .i64 n, .int .i64 0, .int .i64 0, .int .u16 0, .int .i64 m][i]? = some u → w.cell? ⟨g, off + i, none⟩ = some u)
theorem PoseIs.kept {F : Nat → Prop} {v : Value} {n m : Int} {lo : Nat} {w w' : World} (h : PoseIs v n m lo w) (k : Kept F w w') (hF : ∀ g, lo ≤ g → ¬ F g) : PoseIs v n m lo w' := by
  obtain ⟨g, off, cap, h1, h2, h3⟩ := h
  exact ⟨g, off, cap, h1, h2, fun i u hu => k.cell (h3 i u hu) (hF g h2)⟩
theorem oneP_is {x : PoseM} {v : Value} {lo : Nat} {w : World} (h : OneP 48 6 (poseC x) v lo w) {n m : Int} (e : poseC x = [Value.int .i64 1, .int .i64 n, .int .i64 0, .int .i64 0, .int .u16 0, .int .i64 m]) : PoseIs v n m lo w := by
  rw [e] at h
  obtain ⟨g, hs, hg⟩ := h
  obtain ⟨g', off, cap, ho, hv, hcap, -, hc, -⟩ := hs.some (by decide)
  cases ho
  exact ⟨g, off, cap, hv, hg, fun i u hu => hc i u hu⟩
theorem pose3 {ys : List (SnapS × EntM)} (h1 : ys.map (fun y => (y.1.tick, y.1.time)) = [(1, 0), (2, 10)]) (h2 : ∀ y ∈ ys, RA y.1.tick y.1.time y.2) {v : Value} {lo : Nat} {w : World} (h : PosesAt plainM ys 4 v lo w) : PoseIs v 4 1 lo w := by
  obtain ⟨s, t, rfl, hs, ht⟩ := RA_ys h1 h2
  rcases h with ⟨h, _⟩ | ⟨j, y, h3, h4, h5, h6⟩
  · have := h _ (List.mem_cons_self ..)
    simp [hs] at this
  · rcases j with _ | _ | j
    · simp at h3
      subst h3
      rcases h6 with ⟨h6, _⟩ | ⟨z, p, h6, h7, h8⟩
      · simp at h6
      · simp at h6
        subst h6
        simp only [hs, ht] at h7
        have h9 := h7.2 rfl
        subst h9
        exact oneP_is h8 (by kernel_rfl)
    · simp at h3
      subst h3
      simp [ht] at h4
    · simp at h3
theorem poseB {ys : List (SnapS × EntM)} (h1 : ys.map (fun y => (y.1.tick, y.1.time)) = [(1, 0), (2, 10)]) (h2 : ∀ y ∈ ys, RA y.1.tick y.1.time y.2) {at_ n m : Int} (hat : 10 ≤ at_) (he : poseC (beyP plainM xb (satI (at_ - 10))) = [Value.int .i64 1, .int .i64 n, .int .i64 0, .int .i64 0, .int .u16 0, .int .i64 m]) {v : Value} {lo : Nat} {w : World} (h : PosesAt plainM ys at_ v lo w) : PoseIs v n m lo w := by
  obtain ⟨s, t, rfl, hs, ht⟩ := RA_ys h1 h2
  rcases h with ⟨h, _⟩ | ⟨j, y, h3, h4, h5, h6⟩
  · have := h (s, xa) (by simp)
    simp only [hs] at this
    omega
  · rcases j with _ | _ | j
    · have := h5 1 (t, xb) (by decide) rfl
      simp only [ht] at this
      omega
    · simp at h3
      subst h3
      simp only [ht] at h6
      rcases h6 with ⟨_, h6⟩ | ⟨z, p, h6, _⟩
      · exact oneP_is h6 he
      · simp at h6
    · simp at h3
theorem pose4 {ys : List (SnapS × EntM)} (h1 : ys.map (fun y => (y.1.tick, y.1.time)) = [(1, 0), (2, 10)]) (h2 : ∀ y ∈ ys, RA y.1.tick y.1.time y.2) {v : Value} {lo : Nat} {w : World} (h : PosesAt plainM ys 13 v lo w) : PoseIs v 13 3 lo w :=
  poseB h1 h2 (by decide) (by kernel_rfl) h
theorem pose5 {ys : List (SnapS × EntM)} (h1 : ys.map (fun y => (y.1.tick, y.1.time)) = [(1, 0), (2, 10)]) (h2 : ∀ y ∈ ys, RA y.1.tick y.1.time y.2) {v : Value} {lo : Nat} {w : World} (h : PosesAt plainM ys 800 v lo w) : PoseIs v 15 4 lo w :=
  poseB h1 h2 (by decide) (by kernel_rfl) h
end Go.Proofs.YtekdkckgmleofaaGreat

/- The example of the whole: it answers true. -/
namespace Go.Proofs.YtekdkckgmleofaaGreat
open Go.RowKit
theorem xa_ok : xa.Ok := ⟨by decide, by decide, by decide, by decide, by decide⟩
theorem xb_ok : xb.Ok := ⟨by decide, by decide, by decide, by decide, by decide⟩
theorem RA_one : ∀ t y, RA 1 t y → t = 0 := fun t y h => by
  rcases h with ⟨_, h, _⟩ | ⟨h, _⟩
  · exact h
  · exact absurd h (by decide)
theorem RA_two : ∀ t y, RA 2 t y → t = 10 := fun t y h => by
  rcases h with ⟨h, _⟩ | ⟨_, h, _⟩
  · exact absurd h (by decide)
  · exact h
/-- The example's two snapshots in memory. -/
structure AlvI (n : Nat) (W : World) : Prop where
  a0 : Blk W n (entC xa) 39
  a1 : Blk W (n + 1) (snapC 1 0 (.slice (some ⟨n, 0, none⟩) 1 1)) 42
  b0 : Blk W (n + 1 + 1) (entC xb) 39
  b1 : Blk W (n + 1 + 1 + 1) (snapC 2 10 (.slice (some ⟨n + 1 + 1, 0, none⟩) 1 1)) 42
theorem AlvI.kept {n : Nat} {W W' : World} {F : Nat → Prop} (h : AlvI n W) (k : Kept F W W') (hF : ∀ g, g ≤ n + 1 + 1 + 1 → ¬ F g) : AlvI n W' :=
  ⟨k.blk h.a0 (hF _ (by omega)), k.blk h.a1 (hF _ (by omega)), k.blk h.b0 (hF _ (by omega)), k.blk h.b1 (hF _ (by omega))⟩
theorem sl_of_blk {W : World} {n : Nat} {x : EntM} (h : Blk W n (entC x) 39) : Sl W (.slice (some ⟨n, 0, none⟩) 1 1) 39 9 1 (entC x) (some n) :=
  ⟨rfl, .inr ⟨n, 0, 1, (entC x).toArray, rfl, rfl, h, Nat.le_refl _, by unfold maxLen; omega, by simp, by simp⟩⟩
theorem eq36a : ∀ W, Sem.run Tryz.prog (Op.equalIn 9999 36 (.agg #[.int .i64 4, .int .i64 0, .int .i64 0]) (.agg #[.int .i64 4, .int .i64 0, .int .i64 0])) W = .ok true W := fun W => by kernel_rfl
theorem eq36b : ∀ W, Sem.run Tryz.prog (Op.equalIn 9999 36 (.agg #[.int .i64 13, .int .i64 0, .int .i64 0]) (.agg #[.int .i64 13, .int .i64 0, .int .i64 0])) W = .ok true W := fun W => by kernel_rfl
theorem eq36c : ∀ W, Sem.run Tryz.prog (Op.equalIn 9999 36 (.agg #[.int .i64 15, .int .i64 0, .int .i64 0]) (.agg #[.int .i64 15, .int .i64 0, .int .i64 0])) W = .ok true W := fun W => by kernel_rfl
theorem PoseIs.cells {n m : Int} {lo : Nat} {W : World} {g off cap : Nat} (h : PoseIs (.slice (some ⟨g, off, none⟩) 1 cap) n m lo W) :
    W.cell? ⟨g, off, none⟩ = some (.int .i64 1) ∧ W.cell? ⟨g, off + 1, none⟩ = some (.int .i64 n) ∧ W.cell? ⟨g, off + 2, none⟩ = some (.int .i64 0) ∧ W.cell? ⟨g, off + 3, none⟩ = some (.int .i64 0) ∧ W.cell? ⟨g, off + 4, none⟩ = some (.int .u16 0) ∧ W.cell? ⟨g, off + 5, none⟩ = some (.int .i64 m) := by
  obtain ⟨g', off', cap', hv, _, h⟩ := h
  simp only [Value.slice.injEq, Option.some.injEq, Addr.mk.injEq, true_and, and_true] at hv
  obtain ⟨⟨rfl, rfl⟩, rfl⟩ := hv
  exact ⟨h 0 _ rfl, h 1 _ rfl, h 2 _ rfl, h 3 _ rfl, h 4 _ rfl, h 5 _ rfl⟩
set_option maxRecDepth 100000 in
set_option maxHeartbeats 16000000 in
theorem alive_calls (w : World) : Calls Tryz.prog 6 #[] w fun e w' => e = .returned (.bool true) ∧ Kept (fun _ => False) w w' := by
  have HP := Lib.hid (fun W => plain_calls W)
  have HN := Lib.hid (fun W => clinew_calls plainM plain_ok (OneE RA) W)
  go_enter Tryz.func6, Tryz.ntmps6
  go_wp2_with fail
  have A0 : AlvI w.heap.size ((((w.alloc (.cells (entC xa).toArray 39)).alloc (.cells #[.int .i64 1, .int .i64 0, .slice (some ⟨w.heap.size, 0, none⟩) 1 1] 42)).alloc (.cells (entC xb).toArray 39)).alloc (.cells #[.int .i64 2, .int .i64 10, .slice (some ⟨w.heap.size + 1 + 1, 0, none⟩) 1 1] 42)) :=
    ⟨(((Blk.new w (entC xa) 39).alloc _).alloc _).alloc _, ((Blk.new_at (by simp) _ _).alloc _).alloc _, (Blk.new_at (by simp) _ _).alloc _, Blk.new_at (by simp) _ _⟩
  have KK0 : Kept (fun _ => False) w ((((w.alloc (.cells (entC xa).toArray 39)).alloc (.cells #[.int .i64 1, .int .i64 0, .slice (some ⟨w.heap.size, 0, none⟩) 1 1] 42)).alloc (.cells (entC xb).toArray 39)).alloc (.cells #[.int .i64 2, .int .i64 10, .slice (some ⟨w.heap.size + 1 + 1, 0, none⟩) 1 1] 42)) :=
    ((((Kept.refl (fun _ => False) w).alloc _).alloc _).alloc _).alloc _
  have HA0 := Lib.hid A0
  have HK0 := Lib.hid KK0
  have hs0 : w.heap.size + 1 + 1 + 1 + 1 ≤ (((((w.alloc (.cells (entC xa).toArray 39)).alloc (.cells #[.int .i64 1, .int .i64 0, .slice (some ⟨w.heap.size, 0, none⟩) 1 1] 42)).alloc (.cells (entC xb).toArray 39)).alloc (.cells #[.int .i64 2, .int .i64 10, .slice (some ⟨w.heap.size + 1 + 1, 0, none⟩) 1 1] 42))).heap.size := by simp
  clear A0 KK0
  generalize (((((w.alloc (.cells (entC xa).toArray 39)).alloc (.cells #[.int .i64 1, .int .i64 0, .slice (some ⟨w.heap.size, 0, none⟩) 1 1] 42)).alloc (.cells (entC xb).toArray 39)).alloc (.cells #[.int .i64 2, .int .i64 10, .slice (some ⟨w.heap.size + 1 + 1, 0, none⟩) 1 1] 42))) = W0 at *
  refine (HP.out _).mono ?_
  rintro e w1 ⟨rfl, hk1⟩
  have hs1 := hk1.size
  have HA1 := Lib.hid (HA0.out.kept hk1 (fun _ _ h => h))
  have HK1 := Lib.hid (HK0.out.trans hk1 (fun _ h => h.elim))
  clear hk1
  go_wp2_with fail
  refine (HN.out _).mono ?_
  rintro e w2 ⟨q, rfl, hcl, hq, hk2⟩
  have hs2 := hk2.size
  have HA2 := Lib.hid (HA1.out.kept hk2 (fun _ _ h => h))
  have HK2 := Lib.hid (HK1.out.trans hk2 (fun _ h => h.elim))
  have HC2 := Lib.hid hcl
  have s0 := HA2.out.a1.cell (i := 0) rfl
  have s1 := HA2.out.a1.cell (i := 1) rfl
  have s2 := HA2.out.a1.cell (i := 2) rfl
  have HFA := Lib.hid (tfull_calls 1 0 ⟨by decide, by decide, by decide, by decide⟩ xa xa_ok rfl w2 _ _ (sl_of_blk HA2.out.a0))
  clear hk2 hcl
  go_wp2_with fail
  refine HFA.out.mono ?_
  rintro e w3 ⟨v3, g3, rfl, hv3, -, hk3⟩
  have hs3 := hk3.size
  have HA3 := Lib.hid (HA2.out.kept hk3 (fun _ _ h => h))
  have HK3 := Lib.hid (HK2.out.trans hk3 (fun _ h => h.elim))
  have HC3 := Lib.hid (HC2.out.kept hk3 (fun _ _ h => h))
  have HAR := Lib.hid (arrive_calls RA w3 q _ plainM plain_ok k0 0 _ HC3.out 1 0 ⟨by decide, by decide, by decide, by decide⟩ xa xa_ok rfl may1 (.inl ⟨rfl, rfl, rfl⟩) RA_one 100 (by unfold I64; omega) (by unfold I64; omega) (by decide) _ _ hv3)
  clear hk3 hv3 s0 s1 s2
  go_wp2_with fail
  refine HAR.out.mono ?_
  rintro e w4 ⟨rfl, a4, cap4, hc4, hk4⟩
  have hs4 := hk4.size
  have HA4 := Lib.hid (HA3.out.kept hk4 (fun g hg h => by omega))
  have HK4 := Lib.hid (HK3.out.trans hk4 (fun g h => .inr (by omega)))
  have HC4 : Hid (Cli w4 q (fun g => w1.heap.size ≤ g ∧ g < w4.heap.size) plainM k1 1 (layM 8 ⟨[], 0, false⟩ 1 ⟨1, 0, a4, 1, cap4⟩).1 (OneE RA)) := Lib.hid (hc4.mono (fun g _ h => by omega))
  have s0 := HA4.out.b1.cell (i := 0) rfl
  have s1 := HA4.out.b1.cell (i := 1) rfl
  have s2 := HA4.out.b1.cell (i := 2) rfl
  have HFB := Lib.hid (tfull_calls 2 10 ⟨by decide, by decide, by decide, by decide⟩ xb xb_ok rfl w4 _ _ (sl_of_blk HA4.out.b0))
  clear hk4 hc4
  go_wp2_with fail
  refine HFB.out.mono ?_
  rintro e w5 ⟨v5, g5, rfl, hv5, -, hk5⟩
  have hs5 := hk5.size
  have HK5 := Lib.hid (HK4.out.trans hk5 (fun _ h => h.elim))
  have HC5 := Lib.hid (HC4.out.kept hk5 (fun _ _ h => h))
  have HAR := Lib.hid (arrive_calls RA w5 q _ plainM plain_ok k1 1 _ HC5.out 2 10 ⟨by decide, by decide, by decide, by decide⟩ xb xb_ok rfl may2 (.inr ⟨rfl, rfl, rfl⟩) RA_two 110 (by unfold I64; omega) (by unfold I64; omega) (by decide) _ _ hv5)
  clear hk5 hv5 s0 s1 s2
  go_wp2_with fail
  refine HAR.out.mono ?_
  rintro e w6 ⟨rfl, a6, cap6, hc6, hk6⟩
  have hs6 := hk6.size
  have HK6 := Lib.hid (HK5.out.trans hk6 (fun g h => .inr (by omega)))
  have HC6 : Hid (Cli w6 q (fun g => w1.heap.size ≤ g ∧ g < w6.heap.size) plainM k2 2 (layM 8 (layM 8 ⟨[], 0, false⟩ 1 ⟨1, 0, a4, 1, cap4⟩).1 2 ⟨2, 10, a6, 1, cap6⟩).1 (OneE RA)) := Lib.hid (hc6.mono (fun g _ h => by omega))
  have HFR : Hid (∀ W F (m : ClkM), Cli W q F plainM m 2 (layM 8 (layM 8 ⟨[], 0, false⟩ 1 ⟨1, 0, a4, 1, cap4⟩).1 2 ⟨2, 10, a6, 1, cap6⟩).1 (OneE RA) → m.last ≠ [] → ∀ loc, I64 loc → Calls Tryz.prog 10 #[.pointer (some ⟨q, 0, none⟩), .int .i64 loc] W (FrSome RA W q F plainM (frmM plainM m loc) 2 (layM 8 (layM 8 ⟨[], 0, false⟩ 1 ⟨1, 0, a4, 1, cap4⟩).1 2 ⟨2, 10, a6, 1, cap6⟩).1)) :=
    Lib.hid (fun W F m hc hm loc hl => frame_calls RA W q F plainM plain_ok m 2 _ hc hm loc hl (by rw [alvL]; simp) (fun ys h1 h2 => by rw [alvL] at h1; exact RA_Ys h1 h2))
  clear hk6 hc6
  go_wp2_with fail
  refine (HFR.out _ _ k2 HC6.out (by decide +kernel) 104 (by unfold I64; omega)).mono ?_
  rintro e w7 ⟨v7, ys7, rfl, hc7, hk7, hy7, hr7, hp7⟩
  have hs7 := hk7.size
  have HK7 := Lib.hid (HK6.out.trans hk7 (fun g h => .inr (by omega)))
  have HC7 : Hid (Cli w7 q (fun g => w1.heap.size ≤ g ∧ g < w6.heap.size) plainM k3 2 (layM 8 (layM 8 ⟨[], 0, false⟩ 1 ⟨1, 0, a4, 1, cap4⟩).1 2 ⟨2, 10, a6, 1, cap6⟩).1 (OneE RA)) := Lib.hid hc7
  rw [alvL] at hy7
  change PosesAt plainM ys7 k3.sl.at_ v7 w6.heap.size w7 at hp7
  rw [at3] at hp7
  have HP7 := Lib.hid (pose3 hy7 hr7 hp7)
  obtain ⟨g7, o7, c7, rfl, hg7, -⟩ := HP7.out
  generalize (frmM plainM k2 104).sl.at_ = t7 at *
  clear hk7 hc7 hy7 hr7 hp7
  go_wp2_with fail
  refine (HFR.out _ _ k3 HC7.out (by decide +kernel) 113 (by unfold I64; omega)).mono ?_
  rintro e w8 ⟨v8, ys8, rfl, hc8, hk8, hy8, hr8, hp8⟩
  have hs8 := hk8.size
  have HK8 := Lib.hid (HK7.out.trans hk8 (fun g h => .inr (by omega)))
  have HC8 : Hid (Cli w8 q (fun g => w1.heap.size ≤ g ∧ g < w6.heap.size) plainM k4 2 (layM 8 (layM 8 ⟨[], 0, false⟩ 1 ⟨1, 0, a4, 1, cap4⟩).1 2 ⟨2, 10, a6, 1, cap6⟩).1 (OneE RA)) := Lib.hid hc8
  rw [alvL] at hy8
  change PosesAt plainM ys8 k4.sl.at_ v8 w7.heap.size w8 at hp8
  rw [at4] at hp8
  have HP8 := Lib.hid (pose4 hy8 hr8 hp8)
  obtain ⟨g8, o8, c8, rfl, hg8, -⟩ := HP8.out
  have HP78 := Lib.hid (HP7.out.kept hk8 (fun g h1 h2 => by omega))
  generalize (frmM plainM k3 113).sl.at_ = t8 at *
  clear hk8 hc8 hy8 hr8 hp8
  go_wp2_with fail
  refine (HFR.out _ _ k4 HC8.out (by decide +kernel) 900 (by unfold I64; omega)).mono ?_
  rintro e w9 ⟨v9, ys9, rfl, hc9, hk9, hy9, hr9, hp9⟩
  have hs9 := hk9.size
  have HK9 := Lib.hid (HK8.out.trans hk9 (fun g h => .inr (by omega)))
  have HC9 : Hid (Cli w9 q (fun g => w1.heap.size ≤ g ∧ g < w6.heap.size) plainM k5 2 (layM 8 (layM 8 ⟨[], 0, false⟩ 1 ⟨1, 0, a4, 1, cap4⟩).1 2 ⟨2, 10, a6, 1, cap6⟩).1 (OneE RA)) := Lib.hid hc9
  rw [alvL] at hy9
  change PosesAt plainM ys9 k5.sl.at_ v9 w8.heap.size w9 at hp9
  rw [at5] at hp9
  have HP9 := Lib.hid (pose5 hy9 hr9 hp9)
  obtain ⟨g9, o9, c9, rfl, hg9, -⟩ := HP9.out
  have HP79 := Lib.hid (HP78.out.kept hk9 (fun g h1 h2 => by omega))
  have HP89 := Lib.hid (HP8.out.kept hk9 (fun g h1 h2 => by omega))
  generalize (frmM plainM k4 900).sl.at_ = t9 at *
  have kk := (((Kept.refl (fun _ => False) w9).alloc (.cells #[.bool true, .int .i64 t7, .slice (some ⟨g7, o7, none⟩) 1 c7] 45)).alloc (.cells #[.bool true, .int .i64 t8, .slice (some ⟨g8, o8, none⟩) 1 c8] 45)).alloc (.cells #[.bool true, .int .i64 t9, .slice (some ⟨g9, o9, none⟩) 1 c9] 45)
  obtain ⟨p7_0, p7_1, p7_2, p7_3, p7_4, p7_5⟩ := (HP79.out.kept kk (fun _ _ h => h)).cells
  obtain ⟨p8_0, p8_1, p8_2, p8_3, p8_4, p8_5⟩ := (HP89.out.kept kk (fun _ _ h => h)).cells
  obtain ⟨p9_0, p9_1, p9_2, p9_3, p9_4, p9_5⟩ := (HP9.out.kept kk (fun _ _ h => h)).cells
  have HKK := Lib.hid (HK9.out.trans kk (fun _ h => h.elim))
  have q1 := eq36a
  have q2 := eq36b
  have q3 := eq36c
  clear hk9 hc9 hy9 hr9 hp9 kk
  go_wp2_with fail
  go_ret
  exact ⟨rfl, HKK.out⟩
end Go.Proofs.YtekdkckgmleofaaGreat

/- An entity that stands still: what is kept, what is shown. -/
namespace Go.Proofs.YtekdkckgmleofaaGreat
open Go.RowKit
/-- It stands still. -/
structure Rest (x : EntM) : Prop where
  ok : x.Ok
  v0 : x.v0 = 0
  v1 : x.v1 = 0
  v2 : x.v2 = 0
  gen : x.gen = 0
def RS (x : EntM) (tick time : Int) (y : EntM) : Prop := y = x ∧ time = tick * 20 ∧ 0 ≤ tick ∧ tick ≤ 1000
theorem RS_one {x : EntM} (tick : Int) : ∀ t y, RS x tick t y → t = tick * 20 := fun t y h => h.2.1
theorem ticks_rise {ys : List (SnapS × EntM)} {l : List (Int × SnapS)} (h : ys.map (fun y => (y.1.tick, y.1.time)) = l.map (fun z => (z.2.tick, z.2.time))) (hs : Srt l) (hk : ∀ z ∈ l, z.1 = z.2.tick) : ys.Pairwise (fun a b => a.1.tick < b.1.tick) := by
  have h1 : l.Pairwise (fun a b => a.2.tick < b.2.tick) := by
    refine List.Pairwise.imp_of_mem ?_ hs
    intro a b ha hb hab
    rw [← hk a ha, ← hk b hb]
    exact hab
  have h2 : (l.map (fun z => (z.2.tick, z.2.time))).Pairwise (fun a b => a.1 < b.1) := List.pairwise_map.2 h1
  rw [← h] at h2
  have h3 := List.pairwise_map.1 h2
  exact h3
theorem still_line {x : EntM} (n : Nat) : LineOk x x n := by
  refine ⟨fun j _ => by omega, fun j _ => Int.le_refl _, fun j _ => ?_⟩
  rw [Int.sub_self]
  simp
theorem still_ys {c : Cfg} {x : EntM} {ys : List (SnapS × EntM)} {l : List (Int × SnapS)} (h : ys.map (fun y => (y.1.tick, y.1.time)) = l.map (fun z => (z.2.tick, z.2.time))) (hs : Srt l) (hk : ∀ z ∈ l, z.1 = z.2.tick) (hR : ∀ y ∈ ys, RS x y.1.tick y.1.time y.2) : Ys c ys := by
  have hr := ticks_rise h hs hk
  refine ⟨?_, ?_, ?_, ?_⟩
  · intro y hy
    obtain ⟨_, h1, h2, h3⟩ := hR y hy
    omega
  · refine List.pairwise_map.2 (List.Pairwise.imp_of_mem ?_ hr)
    intro a b ha hb hab
    have h1 := (hR a ha).2.1
    have h2 := (hR b hb).2.1
    omega
  · intro y hy z hz
    rw [(hR y hy).1, (hR z hz).1]
    exact ⟨rfl, rfl, rfl⟩
  · intro _ j y z hy hz n _
    rw [(hR y (List.mem_of_getElem? hy)).1, (hR z (List.mem_of_getElem? hz)).1]
    exact still_line n
/-- What is shown of it. -/
def StillV (x : EntM) (v : Value) (lo : Nat) (w : World) : Prop := v = .slice none 0 0 ∨ ∃ m g off cap, v = .slice (some ⟨g, off, none⟩) 1 cap ∧ lo ≤ g ∧ (∀ (i : Nat) u, [Value.int .i64 x.id, .int .i64 x.p0, .int .i64 x.p1, .int .i64 x.p2, .int .u16 x.ang, .int .i64 m][i]? = some u → w.cell? ⟨g, off + i, none⟩ = some u)
theorem mulF_zero (t : Int) : mulF 0 t = 0 := by
  unfold mulF
  simp
  exact satI_in (by unfold I64; omega)
theorem still_go {x : EntM} (h : Rest x) (t : Int) (j : Nat) (hj : j < 3) : goM (posM x) (velM x) t j = posM x j := by
  unfold goM
  have hv : velM x j = 0 := by
    have : j = 0 ∨ j = 1 ∨ j = 2 := by omega
    rcases this with rfl | rfl | rfl
    · exact h.v0
    · exact h.v1
    · exact h.v2
  rw [hv, mulF_zero, Int.add_zero]
  exact satI_in (posM_bd h.ok j)
theorem still_bey {c : Cfg} {x : EntM} (h : Rest x) (d : Int) : ∃ m, poseC (beyP c x d) = [Value.int .i64 x.id, .int .i64 x.p0, .int .i64 x.p1, .int .i64 x.p2, .int .u16 x.ang, .int .i64 m] := by
  unfold beyP
  have f := fun t => still_go h t
  split
  · refine ⟨0, ?_⟩
    simp only [poseC, f _ 0 (by omega), f _ 1 (by omega), f _ 2 (by omega)]
    rfl
  · split
    · refine ⟨4, ?_⟩
      simp only [poseC, f _ 0 (by omega), f _ 1 (by omega), f _ 2 (by omega)]
      rfl
    · refine ⟨3, ?_⟩
      simp only [poseC, f _ 0 (by omega), f _ 1 (by omega), f _ 2 (by omega)]
      rfl
theorem still_way {c : Cfg} {x : EntM} {n k : Nat} {z : Nat → Int} (h : WayM c x x n k z) (j : Nat) (hj : j < 3) : z j = posM x j := by
  cases hc : c.curved with
  | true => exact h.1 hc j hj rfl
  | false =>
    rw [h.2 hc]
    unfold lineM
    rw [Int.sub_self]
    simp
theorem still_one {x : PoseM} {y : EntM} {m : Int} (e : poseC x = [Value.int .i64 y.id, .int .i64 y.p0, .int .i64 y.p1, .int .i64 y.p2, .int .u16 y.ang, .int .i64 m]) {v : Value} {lo : Nat} {w : World} (h : OneP 48 6 (poseC x) v lo w) : StillV y v lo w := by
  rw [e] at h
  obtain ⟨g, hs, hg⟩ := h
  obtain ⟨g', off, cap, ho, hv, hcap, -, hc, -⟩ := hs.some (by decide)
  cases ho
  exact .inr ⟨m, g, off, cap, hv, hg, fun i u hu => hc i u hu⟩
theorem still_poses {c : Cfg} {x : EntM} (hx : Rest x) {ys : List (SnapS × EntM)} (hR : ∀ y ∈ ys, RS x y.1.tick y.1.time y.2) {at_ : Int} {v : Value} {lo : Nat} {w : World} (h : PosesAt c ys at_ v lo w) : StillV x v lo w := by
  rcases h with ⟨_, h⟩ | ⟨j, y, h3, h4, h5, h6⟩
  · exact .inl h
  · have ey := (hR y (List.mem_of_getElem? h3)).1
    rw [ey] at h6
    rcases h6 with ⟨_, h6⟩ | ⟨z, p, hz, hw, h6⟩
    · obtain ⟨m, e⟩ := still_bey (c := c) hx (satI (at_ - y.1.time))
      exact still_one e h6
    · rw [(hR z (List.mem_of_getElem? hz)).1] at hw
      refine still_one (m := if c.curved then 2 else 1) ?_ h6
      simp only [poseC, still_way hw 0 (by omega), still_way hw 1 (by omega), still_way hw 2 (by omega)]
      rfl
/-- A snapshot more may be taken: its tick is beyond all. -/
theorem may_next {most : Nat} {r : RingM SnapS} {tick time : Int} (hs : Srt r.l) (h1 : 1 ≤ most) (hk : ∀ y ∈ r.l, y.1 < tick ∧ y.2.time < time) (hf : r.gone = true → r.floor < tick) : May most r tick time := by
  have hp : plc r.l tick = r.l.length := by
    symm
    refine plc_uniq r.l tick r.l.length hs (Nat.le_refl _) ?_ ?_
    · intro t y _ hy
      exact (hk y (List.mem_of_getElem? hy)).1
    · intro t y ht hy
      have := (List.getElem?_eq_some_iff.1 hy).1
      omega
  have hn : there r.l tick = false := by
    cases ht : there r.l tick with
    | false => rfl
    | true =>
      obtain ⟨y, hy⟩ := (there_iff _ _ hs).1 ht
      have := (hk _ hy).1
      simp at this
  refine ⟨hn, ?_, ?_⟩
  · unfold staleM RingN.untilM
    rw [hn, hp, Bool.or_eq_false_iff]
    refine ⟨?_, ?_⟩
    · cases hg : r.gone with
      | false => rfl
      | true =>
        have := hf hg
        simp
        omega
    · by_cases hl : r.l.length = most
      · simp [hl]
        omega
      · simp [hl]
  · unfold timelyM RingN.untilM
    rw [hn, hp]
    simp only [Bool.false_eq_true, if_false, Nat.add_zero]
    have e2 : atM r.l (r.l.length : Int) = none := by
      unfold atM
      rw [if_neg (by omega)]
      simp
    rw [e2]
    simp only [behindB, Bool.and_true]
    cases ha : atM r.l ((r.l.length : Int) - 1) with
    | none => rfl
    | some y =>
      unfold atM at ha
      split at ha
      · cases ha
      · have := (hk y (List.mem_of_getElem? ha)).2
        simp [aheadB, this]
end Go.Proofs.YtekdkckgmleofaaGreat
