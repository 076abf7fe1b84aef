/- Joined texts. -/
import Derived.Test.YtekdkckgmleofaaGreatXf16
import Derived.Test.YtekdkckgmleofaaGreatXf06
import Derived.Test.YtekdkckgmleofaaGreatXf08
import Derived.Laws.Closers25b
import Derived.Deep.RegionHeld3
set_option linter.unusedVariables false
set_option linter.unusedSimpArgs false
/- Contracts of package varint's functions: Zig, Zag, Size. -/
namespace Go.Proofs.YtekdkckgmleofaaGreat
open Go.RowKit

theorem zig_calls (n : Int) (w : World) (h1 : -9223372036854775808 ≤ n) (h2 : n ≤ 9223372036854775807) :
    Calls Tryz.prog 131 #[.int .i64 n] w fun e w' => e = .returned (.int .u64 (zigM n)) ∧ w = w' := by
  go_enter Tryz.func131, Tryz.ntmps131
  go_wp2
  go_ret
  exact ⟨by simp only [zig_run n h1 h2]; rfl, rfl⟩
theorem zag_calls (x : Int) (w : World) (h1 : 0 ≤ x) (h2 : x ≤ 18446744073709551615) :
    Calls Tryz.prog 185 #[.int .u64 x] w fun e w' => e = .returned (.int .i64 (zagM x)) ∧ w = w' := by
  go_enter Tryz.func185, Tryz.ntmps185
  go_wp2
  go_ret
  exact ⟨by simp only [zag_run x h1 h2]; rfl, rfl⟩
theorem size_calls (x : Nat) (w : World) (h2 : x < 18446744073709551616) :
    Calls Tryz.prog 167 #[.int .u64 x] w fun e w' => e = .returned (.int .i64 (sizeM x)) ∧ w = w' := by
  have HL := Lib.hid (Tryz.bits_Len64 (x : Int) w (by omega) (by omega))
  have hb : Lib.bitLen ((x : Int).toNat) ≤ 64 := Any.bitLen_le64 (x : Int) (by omega) (by omega)
  have HS : Hid ((sizeM x : Int) = ((max 1 ((Lib.bitLen ((x : Int).toNat) : Nat) : Int) + 7 - 1) / 7)) := Lib.hid (by
    unfold sizeM
    rw [show (x : Int).toNat = x from by omega] at hb ⊢
    generalize Lib.bitLen x = b at *
    omega)
  generalize Lib.bitLen ((x : Int).toNat) = b at *
  go_enter Tryz.func167, Tryz.ntmps167
  go_wp2_with fail
  refine HL.out.mono ?_
  rintro e w' ⟨rfl, rfl⟩
  go_wp2
  go_ret
  exact ⟨by rw [HS.out]; rfl, rfl⟩
theorem make_bytes (n : Nat) (h1 : 1 ≤ n) (h2 : n ≤ 10) (W : World) :
    (Instr.makeSlice 23 (.int .i64 n) (.int .i64 n)).run Tryz.prog W = .ok (.slice (some ⟨W.heap.size, 0, none⟩) n n) (W.alloc (.cells (List.replicate n (.int .u8 0)).toArray 5)) := by
  rcases (by omega : n = 1 ∨ n = 2 ∨ n = 3 ∨ n = 4 ∨ n = 5 ∨ n = 6 ∨ n = 7 ∨ n = 8 ∨ n = 9 ∨ n = 10) with rfl | rfl | rfl | rfl | rfl | rfl | rfl | rfl | rfl | rfl <;> kernel_rfl
/-- The cells of the bytes as they stand after i steps. -/
def putS (x n i : Nat) : List Value := (List.range n).map fun j => .int .u8 (if j < i then ((dig x j + 128 : Nat) : Int) else 0)
theorem putS_zero (x n : Nat) : List.replicate n (.int .u8 0) = putS x n 0 := by
  unfold putS; apply List.ext_getElem? ; intro j; simp [List.getElem?_replicate]; split <;> simp [*]
abbrev u8s (l : List Nat) : List Value := l.map fun (b : Nat) => .int .u8 (b : Int)
theorem Sl.of_blk {w : World} {g n : Nat} {cs : List Value} {e : TypeId} (h : Blk w g cs e) (hl : cs.length = n) (hm : n ≤ 10) : Sl w (.slice (Option.some ⟨g, 0, none⟩) n n) e 1 n cs (Option.some g) :=
  ⟨by omega, .inr ⟨g, 0, n, cs.toArray, rfl, rfl, h, Nat.le_refl _, by unfold maxLen; omega, by simp [hl], by simp [← hl]⟩⟩
theorem putS_last (x n : Nat) (h : 1 ≤ n) (hn : sizeM x = n) : (putS x n n).set (n - 1) (.int .u8 (dig x (n - 1) : Int)) = u8s (putL x) := by
  unfold putS u8s putL
  rw [hn, List.map_map]
  apply List.ext_getElem?
  intro j
  rw [List.getElem?_set]
  by_cases hj : j < n
  · by_cases e : n - 1 = j
    · subst e; simp [hj, putB, hn, show ¬ (n - 1 + 1 < n) by omega]
    · rw [if_neg e]; simp [hj, putB, hn, show j + 1 < n by omega]
  · simp [hj]; intro e; omega
theorem putS_step (x n k : Nat) : (putS x n k).set k (.int .u8 ((dig x k + 128 : Nat) : Int)) = putS x n (k + 1) := by
  unfold putS
  apply List.ext_getElem?
  intro j
  rw [List.getElem?_set]
  by_cases hj : j < n
  · by_cases e : k = j
    · subst e; simp [hj]
    · rw [if_neg e]; simp [hj, show (j < k + 1) = (j < k) from by apply propext; omega]
  · simp [hj]; intro e; omega
def PutPost (x : Nat) (w : World) (e : Ending) (w' : World) : Prop := ∃ v g, e = .returned v ∧ Sl w' v 5 1 (sizeM x) (u8s (putL x)) (some g) ∧ w.heap.size ≤ g ∧ Kept (fun _ => False) w w'
set_option maxHeartbeats 2000000 in
set_option maxRecDepth 100000 in
theorem put_calls (x : Nat) (w : World) (h2 : x < 18446744073709551616) :
    Calls Tryz.prog 132 #[.int .u64 x] w (PutPost x w) := by
  have HL := Lib.hid (size_calls x w h2)
  obtain ⟨s1, s2, s3, s4⟩ := sizeM_bd x h2
  have HS := Lib.hid s3
  have HT := Lib.hid s4
  clear s3 s4 h2
  generalize hn : sizeM x = n at *
  have HN := Lib.hid hn
  clear hn
  go_enter Tryz.func132, Tryz.ntmps132
  go_wp2_with fail
  refine HL.out.mono ?_
  rintro e w' ⟨rfl, rfl⟩
  have hmk := make_bytes n s1 s2
  rw [putS_zero x] at hmk
  go_wp2_with fail
  go_loopw [10] (fun i wr => ∃ k : Nat, k ≤ n ∧ i = .int .i64 k ∧ Blk wr w.heap.size (putS x n k) 5 ∧ Kept (fun _ => False) w wr) (fun i _ => (n - intOf i).toNat)
  case atStart => exact ⟨0, Nat.zero_le _, rfl, Blk.new w _ _, (Kept.refl _ _).alloc _⟩
  case round =>
    obtain ⟨k, hk, rfl, B, K⟩ := hrel
    have HB := Lib.hid B
    have HK := Lib.hid K
    clear K
    by_cases hlt : k < n
    · have b0 := B.cell (i := k) (v := .int .u8 0) (by unfold putS; simp [hlt])
      have f0 := B.free k
      clear B
      go_wp2_with fail
      rw [put_byte]
      refine ⟨⟨k + 1, hlt, by simp, ?_, HK.out.setCell (.inr (Nat.le_refl _)) _⟩, by simp [intOf]; omega⟩
      have := HB.out.set k (.int .u8 ((dig x k + 128 : Nat) : Int))
      rw [putS_step] at this
      exact this
    · have hkn : k = n := by omega
      subst hkn
      have b0 := B.cell (i := k - 1) (v := .int .u8 ((dig x (k - 1) + 128 : Nat) : Int)) (by unfold putS; simp [show k - 1 < k by omega])
      have f0 := B.free (k - 1)
      clear B
      have hcast : (k : Int) - 1 = ((k - 1 : Nat) : Int) := by omega
      have HD : Hid (bits .andNot .u8 ((dig x (k - 1) : Int) + 128) 128 = (dig x (k - 1) : Int)) := Lib.hid (andnot_byte _ (dig_lt _ _))
      go_wp2_with fail
      rw [HD.out]
      go_ret
      refine ⟨_, w.heap.size, rfl, ?_, Nat.le_refl _, HK.out.setCell (.inr (Nat.le_refl _)) _⟩
      have h1 := HB.out.set (k - 1) (.int .u8 (dig x (k - 1) : Int))
      rw [putS_last x k s1 HN.out] at h1
      have h2 := Sl.of_blk h1 (n := k) (by simp [putL_len, HN.out]) s2
      rw [HN.out]
      exact h2
end Go.Proofs.YtekdkckgmleofaaGreat

/- Contracts of package crc's functions: step, More, Sum. -/
namespace Go.Proofs.YtekdkckgmleofaaGreat
open Go.RowKit

def oneM (s : Int) : Int := bits .xor .u32 (s / 2) (bits .and .u32 3988292384 (-bits .and .u32 s 1 % 4294967296))
def itM : Nat → Int → Int
  | 0, s => s
  | n + 1, s => oneM (itM n s)
def stepM (s : Int) (c : Nat) : Int := itM 8 (bits .xor .u32 s c)
theorem itM_bd (n : Nat) (s : Int) (h1 : 0 ≤ s) (h2 : s ≤ 4294967295) : 0 ≤ itM n s ∧ itM n s ≤ 4294967295 := by
  cases n with
  | zero => exact ⟨h1, h2⟩
  | succ n => show 0 ≤ oneM (itM n s) ∧ oneM (itM n s) ≤ 4294967295; exact ⟨bits_lo_u32 _ _ _, bits_hi_u32 _ _ _⟩
theorem stepM_bd (s : Int) (c : Nat) : 0 ≤ stepM s c ∧ stepM s c ≤ 4294967295 := itM_bd _ _ (bits_lo_u32 _ _ _) (bits_hi_u32 _ _ _)

set_option maxRecDepth 100000 in
theorem step_calls (s : Int) (c : Nat) (w : World) (h1 : 0 ≤ s) (h2 : s ≤ 4294967295) (hc : c < 256) :
    Calls Tryz.prog 175 #[.int .u32 s, .int .u8 c] w fun e w' => e = .returned (.int .u32 (stepM s c)) ∧ w = w' := by
  have hX : (0 : Int) ≤ bits .xor .u32 s c ∧ bits .xor .u32 s c ≤ 4294967295 := ⟨bits_lo_u32 _ _ _, bits_hi_u32 _ _ _⟩
  have hcc : (c : Int) < 256 := by omega
  clear hc
  have HS : Hid (stepM s c = itM 8 (bits .xor .u32 s c)) := Lib.hid rfl
  go_enter Tryz.func175, Tryz.ntmps175
  go_wp2_with fail
  generalize bits .xor .u32 s c = t at *
  go_loopw [0, 9] (fun u i wr => ∃ k : Nat, k ≤ 8 ∧ i = .int .i64 k ∧ u = .int .u32 (itM k t) ∧ wr = w) (fun _ i _ => (8 - intOf i).toNat)
  case atStart => exact ⟨0, by omega, rfl, rfl, rfl⟩
  case round =>
    obtain ⟨k, hk, rfl, rfl, rfl⟩ := hrel
    have ⟨hb1, hb2⟩ := itM_bd k t hX.1 hX.2
    by_cases hlt : k < 8
    · have HO : Hid (itM (k + 1) t = oneM (itM k t)) := Lib.hid rfl
      generalize itM k t = r at *
      go_wp2_with fail
      exact ⟨⟨k + 1, hlt, by simp, by rw [HO.out]; rfl, trivial⟩, by simp [intOf]; omega⟩
    · have hk8 : k = 8 := by omega
      subst hk8
      go_wp2_with fail
      go_ret
      exact ⟨by rw [HS.out]; rfl, rfl⟩

theorem more1_calls (s : Int) (c p : Nat) (w : World) (hp : Blk w p [.int .u32 s] 182) (h1 : 0 ≤ s) (h2 : s ≤ 4294967295) (hc : c < 256) :
    Calls Tryz.prog 174 #[.int .u8 c, .pointer (some ⟨p, 0, none⟩)] w fun e w' => e = .returned (.tuple #[]) ∧ Blk w' p [.int .u32 (stepM s c)] 182 ∧ Kept (· = p) w w' := by
  have HS := Lib.hid (fun W => step_calls s c W h1 h2 hc)
  have HB := Lib.hid hp
  have b0 := hp.cell (i := 0) rfl
  have f0 := hp.free 0
  clear hp hc
  go_enter Tryz.func174, Tryz.ntmps174
  go_wp2_with fail
  refine (HS.out _).mono ?_
  rintro e w' ⟨rfl, rfl⟩
  go_wp2_with fail
  go_end0
  exact ⟨rfl, HB.out.set 0 _, (Kept.refl (· = p) w).setCell (a := ⟨p, 0, none⟩) (.inl rfl) _⟩
def moreM (s : Int) (l : List Nat) : Int := l.foldl stepM s
def X0 : Int := bits .xor .u32 IntKind.u32.max 0
def sumM (l : List Nat) : Int := bits .xor .u32 IntKind.u32.max (moreM X0 l)
theorem X0_bd : 0 ≤ X0 ∧ X0 ≤ 4294967295 := ⟨bits_lo_u32 _ _ _, bits_hi_u32 _ _ _⟩
theorem sumM_bd (l : List Nat) : 0 ≤ sumM l ∧ sumM l ≤ 4294967295 := ⟨bits_lo_u32 _ _ _, bits_hi_u32 _ _ _⟩
theorem moreM_bd (l : List Nat) : ∀ (s : Int), 0 ≤ s → s ≤ 4294967295 → 0 ≤ moreM s l ∧ moreM s l ≤ 4294967295 := by
  induction l with
  | nil => exact fun s h1 h2 => ⟨h1, h2⟩
  | cons c t ih => exact fun s _ _ => ih _ (stepM_bd s c).1 (stepM_bd s c).2
theorem moreM_take (s : Int) (l : List Nat) (k c : Nat) (h : l[k]? = some c) : moreM s (l.take (k + 1)) = stepM (moreM s (l.take k)) c := by
  unfold moreM
  rw [List.take_add_one, h]
  simp
set_option maxRecDepth 100000 in
theorem more_calls (l : List Nat) (w : World) (g off cap : Nat) (hl : l.length ≤ 100000) (hb : ∀ c ∈ l, c < 256) (hc : ∀ i c, l[i]? = some c → w.cell? ⟨g, off + i, none⟩ = some (.int .u8 (c : Nat))) :
    Calls Tryz.prog 135 #[.int .u32 0, .slice (some ⟨g, off, none⟩) l.length cap] w fun e w' => e = .returned (.int .u32 (sumM l)) ∧ Kept (fun _ => False) w w' := by
  have HC := Lib.hid hc
  have HB := Lib.hid hb
  clear hc hb
  have hmf : ∀ (fn : Fn) (first cap : Array Value) (w : World), (Instr.makeFunc fn first cap).run Tryz.prog w = .ok (.func fn first cap) w := fun _ _ _ _ => rfl
  go_enter Tryz.func135, Tryz.ntmps135
  go_wp2_with fail
  have hX := X0_bd
  rw [show bits .xor .u32 IntKind.u32.max 0 = X0 from rfl]
  have HSM : Hid (sumM l = bits .xor .u32 IntKind.u32.max (moreM X0 l)) := Lib.hid rfl
  generalize X0 = z at *
  go_loopw [14] (fun i wr => ∃ k : Nat, k ≤ l.length ∧ i = .int .i64 k ∧ Blk wr w.heap.size [.int .u32 (moreM z (l.take k))] 182 ∧ Kept (fun _ => False) w wr) (fun i _ => (l.length - intOf i).toNat)
  case atStart => exact ⟨0, Nat.zero_le _, rfl, Blk.new w _ _, (Kept.refl _ _).alloc _⟩
  case round =>
    obtain ⟨k, hk, rfl, B, K⟩ := hrel
    by_cases hlt : k < l.length
    · have hck : l[k]? = some l[k] := List.getElem?_eq_getElem hlt
      have c0 := K.cell (HC.out k _ hck) (fun h => h)
      have hM := moreM_bd (l.take k) z hX.1 hX.2
      have HM := Lib.hid (more1_calls (moreM z (l.take k)) l[k] w.heap.size wr B hM.1 hM.2 (HB.out _ (List.getElem_mem hlt)))
      have HK := Lib.hid K
      have HT := Lib.hid (moreM_take z l k _ hck)
      clear B K hck
      generalize l[k] = c at *
      go_wp2_with (go_at_call 174; refine (HM.out).mono ?_; rintro e w2 ⟨rfl, hb2, hk2⟩)
      refine ⟨⟨k + 1, hlt, by simp, by rw [HT.out]; exact hb2, HK.out.trans hk2 (fun i hi => .inr (by omega))⟩, by simp [intOf]; omega⟩
    · have hkl : k = l.length := by omega
      subst hkl
      rw [List.take_length] at B
      have b0 := B.cell (i := 0) rfl
      clear B
      go_wp2_with fail
      go_ret
      exact ⟨by rw [HSM.out]; rfl, K⟩
theorem sum_calls (l : List Nat) (w : World) (g off cap : Nat) (hl : l.length ≤ 100000) (hb : ∀ c ∈ l, c < 256) (hc : ∀ i c, l[i]? = some c → w.cell? ⟨g, off + i, none⟩ = some (.int .u8 (c : Nat))) :
    Calls Tryz.prog 90 #[.slice (some ⟨g, off, none⟩) l.length cap] w fun e w' => e = .returned (.int .u32 (sumM l)) ∧ Kept (fun _ => False) w w' := by
  have HM := Lib.hid (more_calls l w g off cap hl hb hc)
  clear hc hb
  go_enter Tryz.func90, Tryz.ntmps90
  go_wp2_with fail
  refine (HM.out).mono ?_
  rintro e w' ⟨rfl, hk⟩
  go_wp2_with fail
  go_ret
  exact ⟨rfl, hk⟩
end Go.Proofs.YtekdkckgmleofaaGreat

/- Contracts of package crc's functions: Seal. -/
namespace Go.Proofs.YtekdkckgmleofaaGreat
open Go.RowKit

theorem info8 : (Tryz.prog.info? 5).map (fun i => (i.zero, i.size, i.bytes)) = some (some (.int .u8 0), 1, 1) := by kernel_rfl
theorem oneCell_u8s (l : List Nat) : ∀ u ∈ u8s l, u.oneCell' = true := by
  intro u hu
  obtain ⟨b, -, rfl⟩ := List.mem_map.1 hu
  rfl
theorem Src.four (w : World) (a b c d : Value) (e : TypeId) : Src (w.alloc (.cells #[a, b, c, d] e)) (.slice (some ⟨w.heap.size, 0, none⟩) 4 4) 4 [a, b, c, d] := by
  refine .inr ⟨_, 4, rfl, fun j v hv => ?_⟩
  rw [Addr.add_lit]
  exact (Blk.new w [a, b, c, d] e).cell (i := 0 + j) (v := v) (by simpa using hv)
theorem u8s_len (l : List Nat) : (u8s l).length = l.length := by simp
theorem u8s_get {l : List Nat} {i c : Nat} (h : l[i]? = some c) : (u8s l)[i]? = some (.int .u8 (c : Nat)) := by simp [h]

/-- The four bytes of a sum, and a row of bytes with its sum behind it. -/
def tailM (s : Int) : List Nat := [(s / 16777216).toNat, (s / 65536 % 256).toNat, (s / 256 % 256).toNat, (s % 256).toNat]
def sealM (l : List Nat) : List Nat := l ++ tailM (sumM l)
theorem tailM_u8 (s : Int) (h : 0 ≤ s) : u8s (tailM s) = [.int .u8 (s / 16777216), .int .u8 (s / 65536 % 256), .int .u8 (s / 256 % 256), .int .u8 (s % 256)] := by
  unfold tailM
  simp only [u8s, List.map_cons, List.map_nil]
  rw [Int.toNat_of_nonneg (by omega), Int.toNat_of_nonneg (by omega), Int.toNat_of_nonneg (by omega), Int.toNat_of_nonneg (by omega)]

def RowPost (l : List Nat) (w : World) (e : Ending) (w' : World) : Prop := ∃ v g, e = .returned v ∧ Sl w' v 5 1 l.length (u8s l) (some g) ∧ w.heap.size ≤ g ∧ Kept (fun _ => False) w w'
set_option maxRecDepth 100000 in
set_option maxHeartbeats 2000000 in
theorem seal_calls (l : List Nat) (w : World) (v : Value) (own : Option Nat) (h : Sl w v 5 1 l.length (u8s l) own) (h0 : 1 ≤ l.length) (hl : l.length ≤ 10000) (hb : ∀ c ∈ l, c < 256) :
    Calls Tryz.prog 55 #[v] w (RowPost (sealM l) w) := by
  obtain ⟨g, off, cap, ho, hv, hle, hcm, hcell, hfr⟩ := h.some (by omega)
  have HM := Lib.hid (sum_calls l w g off cap (by omega) hb (fun i c hc => hcell i _ (u8s_get hc)))
  subst hv
  have H := Lib.hid h
  have hs := sumM_bd l
  have HSE : Hid (u8s (sealM l) = u8s l ++ u8s (tailM (sumM l))) := Lib.hid (by unfold sealM; simp [u8s])
  have HSL : Hid ((sealM l).length = l.length + 4) := Lib.hid (by unfold sealM; rw [List.length_append]; rfl)
  have HT := Lib.hid (tailM_u8 (sumM l) hs.1)
  generalize sumM l = S at *
  have HO1 := Lib.hid (oneCell_u8s l)
  have HO2 := Lib.hid (oneCell_u8s (tailM S))
  obtain ⟨i0, hi, hz0, hz1, hz2⟩ := info_parts info8
  have HI := Lib.hid hi
  have HZ0 := Lib.hid hz0
  have HZ1 := Lib.hid hz1
  have HZ2 := Lib.hid hz2
  have N1 : Hid (0 + l.length ≤ maxLen) := Lib.hid (by unfold maxLen; omega)
  have N2 : Hid ((0 + l.length) * 1 ≤ 140737488355328) := Lib.hid (by omega)
  have N3 : Hid (l.length + 4 ≤ maxLen) := Lib.hid (by unfold maxLen; omega)
  have N4 : Hid ((l.length + 4) * 1 ≤ 140737488355328) := Lib.hid (by omega)
  have HLL := Lib.hid (u8s_len l)
  have HE : Hid (∀ W : World, Sl (W.alloc (.cells #[] 5)) (.slice (some ⟨W.heap.size, 0, none⟩) 0 0) 5 1 0 [] (some W.heap.size)) := Lib.hid (fun W => Sl.made W [] 5 1 0 rfl (by decide))
  clear h hi hz0 hz1 hz2 hb hcell hfr hcm
  go_enter Tryz.func55, Tryz.ntmps55
  go_wp2_with fail
  refine (HM.out).mono ?_
  rintro e w1 ⟨rfl, hk1⟩
  have HK1 := Lib.hid hk1
  have HR : Hid (Src (w1.alloc (.cells #[] 5)) (.slice (some ⟨g, off, none⟩) l.length cap) l.length (u8s l)) := Lib.hid ((H.out.kept hk1 (fun _ _ h => h)).alloc _).src
  clear hk1
  have HF : Hid (∀ u ∈ [Value.int .u8 (S / 16777216), .int .u8 (S / 65536 % 256), .int .u8 (S / 256 % 256), .int .u8 (S % 256)], u.oneCell' = true) := Lib.hid (by simp [Value.oneCell'])
  go_wp2_with (first
    | (at_builtin; refine wpList_append_sl _ rfl _ _ 23 rfl 5 i0 (.int .u8 0) 1 1 Tryz.underlying23 HI.out HZ0.out HZ1.out HZ2.out rfl _ l.length (u8s l) own1 rfl (SA.out.alloc _) _ 4 [.int .u8 (S / 16777216), .int .u8 (S / 65536 % 256), .int .u8 (S / 256 % 256), .int .u8 (S % 256)] rfl (Src.four _ _ _ _ _ _) rfl HF.out N3.out N4.out ?_; intro v2 w2 own2 hS2 ho2 hK2; obtain ⟨a2, cap2, rfl, hc2, hm2⟩ := hS2.form; have SB := Lib.hid hS2; have OB := Lib.hid ho2; have KB := Lib.hid hK2; clear hS2 ho2 hK2 hc2 hm2)
    | (at_builtin; refine wpList_append_sl _ rfl _ _ 23 rfl 5 i0 (.int .u8 0) 1 1 Tryz.underlying23 HI.out HZ0.out HZ1.out HZ2.out rfl _ 0 [] (some w1.heap.size) rfl (HE.out _) _ l.length (u8s l) rfl HR.out (by rw [HLL.out, Nat.mul_one]) HO1.out N1.out N2.out ?_; intro v1 w2 own1 hS1 ho1 hK1; rw [Nat.zero_add, List.nil_append] at hS1; obtain ⟨a1, cap1, rfl, hc1, hm1⟩ := hS1.form; have SA := Lib.hid hS1; have OA := Lib.hid ho1; have KA := Lib.hid hK1; clear hS1 ho1 hK1 hc1 hm1))
  go_ret
  have z1 := HK1.out.size
  have z2 := KA.out.size
  have z3 := KB.out.size
  rw [size_alloc] at z2 z3
  have ho1 : ∃ q, own1 = some q ∧ w.heap.size ≤ q := by
    rcases OA.out with e | e
    · exact ⟨_, e, z1⟩
    · exact ⟨_, e, by rw [size_alloc]; omega⟩
  have ho2 : ∃ q, own2 = some q ∧ w.heap.size ≤ q := by
    rcases OB.out with e | e
    · rw [e]; exact ho1
    · exact ⟨_, e, by rw [size_alloc]; omega⟩
  obtain ⟨q1, e1, hq1⟩ := ho1
  obtain ⟨q2, e2, hq2⟩ := ho2
  refine ⟨_, q2, rfl, ?_, hq2, (((HK1.out.alloc _).trans KA.out (fun i hi => .inr ?_)).alloc _).trans KB.out (fun i hi => .inr ?_)⟩
  · rw [HSL.out, HSE.out, HT.out, ← e2]; exact SB.out
  · have := Option.some.inj hi; omega
  · rw [e1] at hi; have := Option.some.inj hi; omega
end Go.Proofs.YtekdkckgmleofaaGreat

/- Contracts of package crc's functions: Open of what Seal wrote. -/
namespace Go.Proofs.YtekdkckgmleofaaGreat
open Go.RowKit

theorem or_byte (r c : Int) (h0 : 0 ≤ r) (h1 : r ≤ 16777215) (c0 : 0 ≤ c) (c1 : c < 256) : bits .or .u32 (r * 256) c = r * 256 + c :=
  bits_join .u32 32 (by decide) (fun n h0 h1 => by rw [IntKind.wrap_u32]; omega) 8 (r * 256) c (by omega) (by omega) (by omega) c0 c1 (by omega)
def accM (S : Int) : Nat → Int
  | 0 => 0
  | 1 => S / 16777216
  | 2 => S / 65536
  | 3 => S / 256
  | _ => S
def OpenPost (l : List Nat) (w : World) (e : Ending) (w' : World) : Prop := ∃ v g, e = .returned (.tuple #[v, .bool true]) ∧ Sl w' v 5 1 l.length (u8s l) (some g) ∧ w.heap.size ≤ g ∧ Kept (fun _ => False) w w'
set_option maxRecDepth 100000 in
set_option maxHeartbeats 2000000 in
theorem open_calls (l : List Nat) (w : World) (v : Value) (own : Option Nat) (h : Sl w v 5 1 (sealM l).length (u8s (sealM l)) own) (hl : l.length ≤ 10000) (hb : ∀ c ∈ l, c < 256) :
    Calls Tryz.prog 107 #[v] w (OpenPost l w) := by
  have hlen : (sealM l).length = l.length + 4 := by unfold sealM; rw [List.length_append]; rfl
  have hs := sumM_bd l
  have hcs : u8s (sealM l) = u8s l ++ u8s (tailM (sumM l)) := by unfold sealM; simp [u8s]
  rw [hlen, hcs, tailM_u8 _ hs.1] at h
  obtain ⟨g, off, cap, ho, hv, hle, hcm, hcell, hfr⟩ := h.some (by omega)
  subst hv
  have H := Lib.hid (h.take (k := l.length) (by omega))
  rw [Nat.mul_one, List.take_left' (u8s_len l)] at H
  have HM := Lib.hid (fun cap' => sum_calls l w g off cap' (by omega) hb (fun i c hc => hcell i _ (by rw [List.getElem?_append_left (by rw [u8s_len]; exact (List.getElem?_eq_some_iff.1 hc).1)]; exact u8s_get hc)))
  have t0 := hcell (l.length + 0) (.int .u8 (sumM l / 16777216)) (by rw [List.getElem?_append_right (by rw [u8s_len]; omega)]; rw [u8s_len, Nat.add_sub_cancel_left]; rfl)
  have t1 := hcell (l.length + 1) (.int .u8 (sumM l / 65536 % 256)) (by rw [List.getElem?_append_right (by rw [u8s_len]; omega)]; rw [u8s_len, Nat.add_sub_cancel_left]; rfl)
  have t2 := hcell (l.length + 2) (.int .u8 (sumM l / 256 % 256)) (by rw [List.getElem?_append_right (by rw [u8s_len]; omega)]; rw [u8s_len, Nat.add_sub_cancel_left]; rfl)
  have t3 := hcell (l.length + 3) (.int .u8 (sumM l % 256)) (by rw [List.getElem?_append_right (by rw [u8s_len]; omega)]; rw [u8s_len, Nat.add_sub_cancel_left]; rfl)
  rw [← Nat.add_assoc] at t0 t1 t2 t3
  have HTT := Lib.hid (And.intro t0 (And.intro t1 (And.intro t2 t3)))
  clear t0 t1 t2 t3 h hb hcell hfr
  generalize sumM l = S at *
  have hn0 : ¬ ((l.length : Int) + 4 - 4 < 0) := by omega
  have hn1 : (l.length : Int) + 4 - 4 = (l.length : Int) := by omega
  go_enter Tryz.func107, Tryz.ntmps107
  go_wp2_with fail
  go_loopw [5, 17] (fun u i wr => ∃ k : Nat, k ≤ 4 ∧ i = .int .i64 k ∧ u = .int .u32 (accM S k) ∧ wr = w) (fun _ i _ => (4 - intOf i).toNat)
  case atStart => exact ⟨0, by omega, rfl, rfl, rfl⟩
  case round =>
    obtain ⟨k, hk, rfl, rfl, hw⟩ := hrel
    replace hw := hw.symm
    subst hw
    rcases (by omega : k = 0 ∨ k = 1 ∨ k = 2 ∨ k = 3 ∨ k = 4) with rfl | rfl | rfl | rfl | rfl
    · have t0 := HTT.out.1
      rw [Nat.add_zero] at t0
      have hO : bits .or .u32 0 (S / 16777216) = S / 16777216 := by have := or_byte 0 (S / 16777216) (by omega) (by omega) (by omega) (by omega); simpa using this
      rw [show accM S 0 = 0 from rfl]
      go_wp2_with fail
      exact ⟨⟨1, by omega, by simp, by simp [accM], trivial⟩, by simp [intOf]⟩
    · have t1 := HTT.out.2.1
      have hO : bits .or .u32 (S / 16777216 * 256) (S / 65536 % 256) = S / 65536 := by rw [or_byte _ _ (by omega) (by omega) (by omega) (by omega)]; omega
      rw [show accM S 1 = S / 16777216 from rfl]
      go_wp2_with fail
      exact ⟨⟨2, by omega, by simp, by simp [accM], trivial⟩, by simp [intOf]⟩
    · have t2 := HTT.out.2.2.1
      have hO : bits .or .u32 (S / 65536 * 256) (S / 256 % 256) = S / 256 := by rw [or_byte _ _ (by omega) (by omega) (by omega) (by omega)]; omega
      rw [show accM S 2 = S / 65536 from rfl]
      go_wp2_with fail
      exact ⟨⟨3, by omega, by simp, by simp [accM], trivial⟩, by simp [intOf]⟩
    · have t3 := HTT.out.2.2.2
      have hO : bits .or .u32 (S / 256 * 256) (S % 256) = S := by rw [or_byte _ _ (by omega) (by omega) (by omega) (by omega)]; omega
      rw [show accM S 3 = S / 256 from rfl]
      go_wp2_with fail
      exact ⟨⟨4, by omega, by simp, by simp [accM], trivial⟩, by simp [intOf]⟩
    · rw [show accM S 4 = S from rfl]
      go_wp2_with fail
      refine (HM.out _).mono ?_
      rintro e w1 ⟨rfl, hk1⟩
      have HK1 := Lib.hid hk1
      have HR : Hid (Src (w1.alloc (.cells #[] 5)) (.slice (some ⟨g, off, none⟩) l.length cap) l.length (u8s l)) := Lib.hid ((H.out.kept hk1 (fun _ _ h => h)).alloc _).src
      clear hk1
      have HO1 := Lib.hid (oneCell_u8s l)
      obtain ⟨i0, hi, hz0, hz1, hz2⟩ := info_parts info8
      have HI := Lib.hid hi
      have HZ0 := Lib.hid hz0
      have HZ1 := Lib.hid hz1
      have HZ2 := Lib.hid hz2
      have N1 : Hid (0 + l.length ≤ maxLen) := Lib.hid (by unfold maxLen; omega)
      have N2 : Hid ((0 + l.length) * 1 ≤ 140737488355328) := Lib.hid (by omega)
      have HLL := Lib.hid (u8s_len l)
      have HE : Hid (∀ W : World, Sl (W.alloc (.cells #[] 5)) (.slice (some ⟨W.heap.size, 0, none⟩) 0 0) 5 1 0 [] (some W.heap.size)) := Lib.hid (fun W => Sl.made W [] 5 1 0 rfl (by decide))
      clear hi hz0 hz1 hz2 hcm
      go_wp2_with (at_builtin; refine wpList_append_sl _ rfl _ _ 23 rfl 5 i0 (.int .u8 0) 1 1 Tryz.underlying23 HI.out HZ0.out HZ1.out HZ2.out rfl _ 0 [] (some w1.heap.size) rfl (HE.out _) _ l.length (u8s l) rfl HR.out (by rw [HLL.out, Nat.mul_one]) HO1.out N1.out N2.out ?_; intro v1 w2 own1 hS1 ho1 hK1; rw [Nat.zero_add, List.nil_append] at hS1; have SA := Lib.hid hS1; have OA := Lib.hid ho1; have KA := Lib.hid hK1; clear hS1 ho1 hK1)
      go_ret2
      have z1 := HK1.out.size
      have ho1 : ∃ q, own1 = some q ∧ w.heap.size ≤ q := by
        rcases OA.out with e | e
        · exact ⟨_, e, z1⟩
        · exact ⟨_, e, by rw [size_alloc]; omega⟩
      obtain ⟨q1, e1, hq1⟩ := ho1
      refine ⟨_, q1, rfl, by rw [← e1]; exact SA.out, hq1, (HK1.out.alloc _).trans KA.out (fun i hi => .inr ?_)⟩
      have := Option.some.inj hi
      omega
end Go.Proofs.YtekdkckgmleofaaGreat

/- Contracts of package crc's functions: Open of any bytes. -/
namespace Go.Proofs.YtekdkckgmleofaaGreat
open Go.RowKit
def OpenAny (n : Nat) (w : World) (e : Ending) (w' : World) : Prop := ∃ (v : Value) (ok : Bool), e = .returned (.tuple #[v, .bool ok]) ∧ Kept (fun _ => False) w w' ∧ (ok = true → ∃ (l : List Nat) (g : Nat), Sl w' v 5 1 l.length (u8s l) (some g) ∧ l.length ≤ n ∧ w.heap.size ≤ g ∧ ∀ c ∈ l, c < 256)
/-- These bytes can be read at a slice. -/
def ByAt (w : World) (v : Value) (bs : List Nat) : Prop := ∃ a cap, v = .slice a bs.length cap ∧ bs.length ≤ cap ∧ cap ≤ maxLen ∧ (0 < bs.length → ∃ g off, a = some ⟨g, off, none⟩ ∧ ∀ j u, (u8s bs)[j]? = some u → w.cell? ⟨g, off + j, none⟩ = some u)
theorem ByAt.form {w : World} {v : Value} {bs : List Nat} (h : ByAt w v bs) : ∃ a cap, v = .slice a bs.length cap ∧ bs.length ≤ cap ∧ cap ≤ maxLen := by
  obtain ⟨a, cap, h1, h2, h3, -⟩ := h
  exact ⟨a, cap, h1, h2, h3⟩
theorem ByAt.kept {w w' : World} {v : Value} {bs : List Nat} (h : ByAt w v bs) (k : Kept (fun _ => False) w w') : ByAt w' v bs := by
  obtain ⟨a, cap, h1, h2, h3, h4⟩ := h
  refine ⟨a, cap, h1, h2, h3, fun hn => ?_⟩
  obtain ⟨g, off, h5, h6⟩ := h4 hn
  exact ⟨g, off, h5, fun j u hu => k.cell (h6 j u hu) (fun h => h)⟩
theorem ByAt.some {w : World} {v : Value} {bs : List Nat} (h : ByAt w v bs) (hn : 0 < bs.length) : ∃ g off cap, v = .slice (some ⟨g, off, none⟩) bs.length cap ∧ bs.length ≤ cap ∧ cap ≤ maxLen ∧ ∀ j u, (u8s bs)[j]? = some u → w.cell? ⟨g, off + j, none⟩ = some u := by
  obtain ⟨a, cap, h1, h2, h3, h4⟩ := h
  obtain ⟨g, off, rfl, h6⟩ := h4 hn
  exact ⟨g, off, cap, h1, h2, h3, h6⟩
theorem last4 (bs : List Nat) (h : 4 ≤ bs.length) : ∃ (l : List Nat) (a b c d : Nat), bs = l ++ [a, b, c, d] := by
  have e := (List.take_append_drop (bs.length - 4) bs).symm
  have hl : (bs.drop (bs.length - 4)).length = 4 := by rw [List.length_drop]; omega
  generalize bs.drop (bs.length - 4) = t at *
  match t, hl with
  | [a, b, c, d], _ => exact ⟨_, a, b, c, d, e⟩
set_option maxRecDepth 100000 in
set_option maxHeartbeats 2000000 in
theorem open_any (bs : List Nat) (w : World) (v : Value) (h : ByAt w v bs) (hbl : bs.length ≤ 10000) (hb : ∀ c ∈ bs, c < 256) :
    Calls Tryz.prog 107 #[v] w (OpenAny bs.length w) := by
  by_cases h4 : bs.length < 4
  · obtain ⟨a0, cap0, rfl, -, -⟩ := h.form
    have hn : (bs.length : Int) - 4 < 0 := by omega
    generalize bs.length = n at *
    clear h hb
    go_enter Tryz.func107, Tryz.ntmps107
    go_wp2_with fail
    go_ret2
    exact ⟨_, false, rfl, Kept.refl _ _, fun e => by cases e⟩
  obtain ⟨l, x0, x1, x2, x3, rfl⟩ := last4 bs (by omega)
  have hlen : (l ++ [x0, x1, x2, x3]).length = l.length + 4 := by rw [List.length_append]; rfl
  have hcs : u8s (l ++ [x0, x1, x2, x3]) = u8s l ++ [.int .u8 x0, .int .u8 x1, .int .u8 x2, .int .u8 x3] := by simp [u8s]
  rw [hlen] at hbl
  rw [hlen]
  obtain ⟨g, off, cap, hv, hle, hcm, hcell⟩ := h.some (by omega)
  rw [hcs] at hcell
  rw [hlen] at hv hle
  subst hv
  have H : Hid (Src w (.slice (some ⟨g, off, none⟩) l.length cap) l.length (u8s l)) := Lib.hid (.inr ⟨_, cap, rfl, fun j u hu => by
    rw [Addr.add_lit]
    exact hcell j u (by rw [List.getElem?_append_left (List.getElem?_eq_some_iff.1 hu).1]; exact hu)⟩)
  have hbb : ∀ c ∈ l, c < 256 := fun c hc => hb c (List.mem_append_left _ hc)
  have HBB := Lib.hid hbb
  have HM := Lib.hid (fun cap' => sum_calls l w g off cap' (by omega) hbb (fun i c hc => hcell i _ (by rw [List.getElem?_append_left (by rw [u8s_len]; exact (List.getElem?_eq_some_iff.1 hc).1)]; exact u8s_get hc)))
  have t0 := hcell (l.length + 0) (.int .u8 x0) (by rw [List.getElem?_append_right (by rw [u8s_len]; omega)]; rw [u8s_len, Nat.add_sub_cancel_left]; rfl)
  have t1 := hcell (l.length + 1) (.int .u8 x1) (by rw [List.getElem?_append_right (by rw [u8s_len]; omega)]; rw [u8s_len, Nat.add_sub_cancel_left]; rfl)
  have t2 := hcell (l.length + 2) (.int .u8 x2) (by rw [List.getElem?_append_right (by rw [u8s_len]; omega)]; rw [u8s_len, Nat.add_sub_cancel_left]; rfl)
  have t3 := hcell (l.length + 3) (.int .u8 x3) (by rw [List.getElem?_append_right (by rw [u8s_len]; omega)]; rw [u8s_len, Nat.add_sub_cancel_left]; rfl)
  rw [← Nat.add_assoc] at t0 t1 t2 t3
  have HTT := Lib.hid (And.intro t0 (And.intro t1 (And.intro t2 t3)))
  clear t0 t1 t2 t3 h hb hbb hcell h4 hlen hcs
  generalize sumM l = S at *
  have hn0 : ¬ ((l.length : Int) + 4 - 4 < 0) := by omega
  have hn1 : (l.length : Int) + 4 - 4 = (l.length : Int) := by omega
  go_enter Tryz.func107, Tryz.ntmps107
  go_wp2_with fail
  go_loopw [5, 17] (fun u i wr => ∃ (k : Nat) (s : Int), k ≤ 4 ∧ i = .int .i64 k ∧ u = .int .u32 s ∧ wr = w) (fun _ i _ => (4 - intOf i).toNat)
  case atStart => exact ⟨0, 0, by omega, rfl, rfl, rfl⟩
  case round =>
    obtain ⟨k, s, hk, rfl, rfl, hw⟩ := hrel
    replace hw := hw.symm
    subst hw
    rcases (by omega : k = 0 ∨ k = 1 ∨ k = 2 ∨ k = 3 ∨ k = 4) with rfl | rfl | rfl | rfl | rfl
    · have t0 := HTT.out.1
      rw [Nat.add_zero] at t0
      go_wp2_with fail
      exact ⟨⟨1, _, by omega, by simp, rfl, trivial⟩, by simp [intOf]⟩
    · have t1 := HTT.out.2.1
      go_wp2_with fail
      exact ⟨⟨2, _, by omega, by simp, rfl, trivial⟩, by simp [intOf]⟩
    · have t2 := HTT.out.2.2.1
      go_wp2_with fail
      exact ⟨⟨3, _, by omega, by simp, rfl, trivial⟩, by simp [intOf]⟩
    · have t3 := HTT.out.2.2.2
      go_wp2_with fail
      exact ⟨⟨4, _, by omega, by simp, rfl, trivial⟩, by simp [intOf]⟩
    · go_wp2_with fail
      refine (HM.out _).mono ?_
      rintro e w1 ⟨rfl, hk1⟩
      have HK1 := Lib.hid hk1
      have HR : Hid (Src (w1.alloc (.cells #[] 5)) (.slice (some ⟨g, off, none⟩) l.length cap) l.length (u8s l)) := Lib.hid ((H.out.kept hk1).kept ((Kept.refl (fun _ => False) w1).alloc _))
      clear hk1
      have HO1 := Lib.hid (oneCell_u8s l)
      obtain ⟨i0, hi, hz0, hz1, hz2⟩ := info_parts info8
      have HI := Lib.hid hi
      have HZ0 := Lib.hid hz0
      have HZ1 := Lib.hid hz1
      have HZ2 := Lib.hid hz2
      have N1 : Hid (0 + l.length ≤ maxLen) := Lib.hid (by unfold maxLen; omega)
      have N2 : Hid ((0 + l.length) * 1 ≤ 140737488355328) := Lib.hid (by omega)
      have HLL := Lib.hid (u8s_len l)
      have HE : Hid (∀ W : World, Sl (W.alloc (.cells #[] 5)) (.slice (some ⟨W.heap.size, 0, none⟩) 0 0) 5 1 0 [] (some W.heap.size)) := Lib.hid (fun W => Sl.made W [] 5 1 0 rfl (by decide))
      clear hi hz0 hz1 hz2 hcm
      cases hsm : (s != S) with
      | true =>
        go_wp2_with fail
        go_ret2
        exact ⟨_, false, rfl, HK1.out, fun e => by cases e⟩
      | false =>
        go_wp2_with (at_builtin; refine wpList_append_sl _ rfl _ _ 23 rfl 5 i0 (.int .u8 0) 1 1 Tryz.underlying23 HI.out HZ0.out HZ1.out HZ2.out rfl _ 0 [] (some w1.heap.size) rfl (HE.out _) _ l.length (u8s l) rfl HR.out (by rw [HLL.out, Nat.mul_one]) HO1.out N1.out N2.out ?_; intro v1 w2 own1 hS1 ho1 hK1; rw [Nat.zero_add, List.nil_append] at hS1; have SA := Lib.hid hS1; have OA := Lib.hid ho1; have KA := Lib.hid hK1; clear hS1 ho1 hK1)
        go_ret2
        have z1 := HK1.out.size
        have ho1 : ∃ q, own1 = some q ∧ w.heap.size ≤ q := by
          rcases OA.out with e | e
          · exact ⟨_, e, z1⟩
          · exact ⟨_, e, by rw [size_alloc]; omega⟩
        obtain ⟨q1, e1, hq1⟩ := ho1
        refine ⟨_, true, rfl, (HK1.out.alloc _).trans KA.out (fun i hi => .inr ?_), fun _ => ⟨l, q1, by rw [← e1]; exact SA.out, by omega, hq1, HBB.out⟩⟩
        have := Option.some.inj hi
        omega
end Go.Proofs.YtekdkckgmleofaaGreat

/- Contracts of package varint's functions: Get of what Put wrote. -/
namespace Go.Proofs.YtekdkckgmleofaaGreat
open Go.RowKit

set_option maxRecDepth 100000 in
set_option maxHeartbeats 2000000 in
theorem get_calls (x : Nat) (w : World) (g off L cap : Nat) (h2 : x < 18446744073709551616) (hL : sizeM x ≤ L) (hc : ∀ i, i < sizeM x → w.cell? ⟨g, off + i, none⟩ = some (.int .u8 (putB x i : Nat))) :
    Calls Tryz.prog 184 #[.slice (some ⟨g, off, none⟩) L cap] w fun e w' => e = .returned (.tuple #[.int .u64 x, .int .i64 (sizeM x), .int .i64 0]) ∧ w = w' := by
  obtain ⟨s1, s2, s3, s4⟩ := sizeM_bd x h2
  have HX := Lib.hid h2
  have HS := Lib.hid s3
  have HT := Lib.hid s4
  have HC := Lib.hid hc
  clear s3 s4 h2 hc
  generalize hn : sizeM x = n at *
  have HN := Lib.hid hn
  clear hn
  have hL0 : ¬ ((L : Int) = 0) := by omega
  obtain ⟨m, hm, hnm⟩ : ∃ m : Nat, min (L : Int) 10 = m ∧ n ≤ m := ⟨min L 10, by omega, by omega⟩
  have hnL : n ≤ L := hL
  go_enter Tryz.func184, Tryz.ntmps184
  go_wp2_with fail
  go_loopw [5, 15] (fun u i wr => ∃ k r : Nat, k < n ∧ i = .int .i64 k ∧ u = .int .u64 r ∧ r = x % 128 ^ k ∧ wr = w) (fun _ i _ => (n - intOf i).toNat)
  case atStart => exact ⟨0, 0, by omega, rfl, rfl, by rw [Nat.pow_zero, Nat.mod_one], rfl⟩
  case round =>
    obtain ⟨k, r, hk, rfl, rfl, hr, rfl⟩ := hrel
    have hkm : (k : Int) < m := by omega
    have hkL : k < L := by omega
    have c0 := HC.out k hk
    obtain ⟨q, hB, hW, hDv, hOr⟩ := get_step x k HX.out
    rw [← hr] at hOr
    have hd := dig_lt x k
    obtain ⟨r2, hr2⟩ : ∃ r2 : Nat, r2 = x % 128 ^ (k + 1) := ⟨_, rfl⟩
    rw [← hr2] at hOr
    have HR2 := Lib.hid hr2
    clear hr hr2
    by_cases hlt : k + 1 < n
    · rw [show putB x k = dig x k + 128 by unfold putB; rw [HN.out, if_pos hlt]] at c0
      have hA : bits .andNot .u8 ((dig x k : Int) + 128) 128 = (dig x k : Int) := andnot_byte _ hd
      generalize dig x k = d at *
      have h128 : ¬ ((d : Int) + 128 < 128) := by omega
      have h129 : (128 : Int) ≤ (d : Int) + 128 := by omega
      go_wp2_with fail
      exact ⟨⟨k + 1, r2, hlt, by simp, rfl, HR2.out, trivial⟩, by simp [intOf]; omega⟩
    · have hkn : n = k + 1 := by omega
      subst hkn
      rw [show putB x k = dig x k by unfold putB; rw [HN.out, if_neg hlt]; rfl] at c0
      have hA : bits .andNot .u8 (dig x k : Int) 128 = (dig x k : Int) := andnot_byte2 _ hd
      have hz := dig_last x (k + 1) (by omega) HS.out HT.out
      rw [show k + 1 - 1 = k by omega] at hz
      have hre : r2 = x := by rw [HR2.out]; exact Nat.mod_eq_of_lt HS.out
      subst hre
      generalize dig r2 k = d at *
      have h128 : ((d : Int) < 128) := by omega
      have h129 : ¬ (128 : Int) ≤ (d : Int) := by omega
      by_cases hd0 : (d : Int) = 0
      · have hk0 : ¬ (0 < (k : Int)) := fun h => by have := hz (by omega); omega
        clear hz
        rw [hd0] at hA hB hW hDv c0
        clear h128 h129 hd hd0
        rw [Int.zero_mul, hB] at hW
        rw [← hW] at hOr hDv
        clear hW
        go_wp2_with fail
        go_ret3
        exact ⟨by rfl, rfl⟩
      · clear hz
        go_wp2_with fail
        go_ret3
        exact ⟨by rfl, rfl⟩
end Go.Proofs.YtekdkckgmleofaaGreat

/- Contracts of package reader's functions along the good way: New, Err, Left, Uint, Int, Byte, Done. -/
namespace Go.Proofs.YtekdkckgmleofaaGreat
open Go.RowKit

/-- A row of bytes in memory. -/
def RowAt (w : World) (g off : Nat) (bs : List Nat) : Prop := ∀ i c, bs[i]? = some c → w.cell? ⟨g, off + i, none⟩ = some (.int .u8 (c : Nat))
theorem RowAt.kept {F : Nat → Prop} {w w' : World} {g off : Nat} {bs : List Nat} (h : RowAt w g off bs) (k : Kept F w w') (hF : ¬ F g) : RowAt w' g off bs := fun i c hc => k.cell (h i c hc) hF
/-- A reader at block p over such a row; at: where it stands; no fault so far. -/
structure Rd (w : World) (p g off cap : Nat) (bs : List Nat) (at_ : Nat) : Prop where
  blk : Blk w p [.slice (some ⟨g, off, none⟩) bs.length cap, .int .i64 at_, .int .i64 0] 261
  row : RowAt w g off bs
  ne : g ≠ p
  le : at_ ≤ bs.length
  len : bs.length ≤ 10000
  cap : bs.length ≤ cap
theorem Rd.kept {F : Nat → Prop} {w w' : World} {p g off cap : Nat} {bs : List Nat} {a : Nat} (h : Rd w p g off cap bs a) (k : Kept F w w') (h1 : ¬ F p) (h2 : ¬ F g) : Rd w' p g off cap bs a :=
  ⟨k.blk h.blk h1, h.row.kept k h2, h.ne, h.le, h.len, h.cap⟩

def NewRdPost (bs : List Nat) (g : Nat) (w : World) (e : Ending) (w' : World) : Prop := ∃ p off cap, e = .returned (.pointer (some ⟨p, 0, none⟩)) ∧ Rd w' p g off cap bs 0 ∧ w.heap.size ≤ p ∧ Kept (fun _ => False) w w'
theorem rnew_calls (bs : List Nat) (w : World) (v : Value) (g : Nat) (h : Sl w v 5 1 bs.length (u8s bs) (some g)) (h0 : 1 ≤ bs.length) (hl : bs.length ≤ 10000) :
    Calls Tryz.prog 108 #[v] w (NewRdPost bs g w) := by
  obtain ⟨g1, off, cap, ho, hv, hle, hcm, hcell, hfr⟩ := h.some (by omega)
  have hg := h.lt rfl
  cases ho
  subst hv
  have HR : Hid (RowAt w g off bs) := Lib.hid (fun i c hc => hcell i _ (u8s_get hc))
  clear h hcell hfr hcm
  go_enter Tryz.func108, Tryz.ntmps108
  go_wp2
  go_ret
  exact ⟨w.heap.size, off, cap, rfl, ⟨Blk.new w _ _, HR.out.kept ((Kept.refl (fun _ => False) w).alloc _) (fun h => h), by omega, Nat.zero_le _, hl, hle⟩, Nat.le_refl _, (Kept.refl _ w).alloc _⟩
theorem rerr_calls (w : World) (p g off cap : Nat) (bs : List Nat) (a : Nat) (h : Rd w p g off cap bs a) :
    Calls Tryz.prog 152 #[.pointer (some ⟨p, 0, none⟩)] w fun e w' => e = .returned (.int .i64 0) ∧ w = w' := by
  have b2 := h.blk.cell (i := 2) rfl
  clear h
  go_enter Tryz.func152, Tryz.ntmps152
  go_wp2
  go_ret
  exact ⟨rfl, rfl⟩
theorem rleft_calls (w : World) (p g off cap : Nat) (bs : List Nat) (a : Nat) (h : Rd w p g off cap bs a) :
    Calls Tryz.prog 153 #[.pointer (some ⟨p, 0, none⟩)] w fun e w' => e = .returned (.int .i64 ((bs.length - a : Nat) : Int)) ∧ ∃ n, w' = w.drewN n := by
  have b0 := h.blk.cell (i := 0) rfl
  have b1 := h.blk.cell (i := 1) rfl
  have h1 := h.le
  have h2 := h.len
  have HS : Hid (((bs.length - a : Nat) : Int) = IntKind.i64.wrap ((bs.length : Int) - a)) := Lib.hid (by rw [IntKind.wrap_i64]; omega)
  clear h
  go_enter Tryz.func153, Tryz.ntmps153
  go_wp2_with fail
  go_quiet (fail)
  go_wp2_with fail
  go_ret
  exact ⟨by rw [HS.out]; rfl, _, rfl⟩
set_option maxRecDepth 100000 in
/-- The closure of Uint, at the bytes of a number. -/
theorem uint1_calls (x most : Nat) (w : World) (g off L cap q : Nat) (h2 : most < 18446744073709551616) (hx : x ≤ most) (hL : sizeM x ≤ L) (hc : ∀ i, i < sizeM x → w.cell? ⟨g, off + i, none⟩ = some (.int .u8 (putB x i : Nat))) (hq : w.cell? ⟨q, 0, none⟩ = some (.int .u64 most)) :
    Calls Tryz.prog 183 #[.slice (some ⟨g, off, none⟩) L cap, .pointer (some ⟨q, 0, none⟩)] w fun e w' => e = .returned (.tuple #[.int .u64 x, .int .i64 (sizeM x), .int .i64 0]) ∧ w = w' := by
  have HG := Lib.hid (get_calls x w g off L cap (by omega) hL hc)
  have hgt : ¬ ((most : Int) < (x : Int)) := by omega
  clear hc h2
  go_enter Tryz.func183, Tryz.ntmps183
  go_wp2_with fail
  refine (HG.out).mono ?_
  rintro e w' ⟨rfl, rfl⟩
  go_wp2_with fail
  go_ret3
  exact ⟨rfl, rfl⟩
structure RowQ (w : World) (g off : Nat) (bs : List Nat) (q most : Nat) : Prop where
  row : RowAt w g off bs
  q : w.cell? ⟨q, 0, none⟩ = some (.int .u64 most)
theorem RowQ.drew {w : World} {g off : Nat} {bs : List Nat} {q most : Nat} (h : RowQ w g off bs q most) : RowQ w.drew g off bs q most := ⟨h.row, h.q⟩
set_option maxRecDepth 100000 in
set_option maxHeartbeats 2000000 in
theorem take64_calls (x most : Nat) (w : World) (p g off cap q : Nat) (bs : List Nat) (a : Nat) (h : Rd w p g off cap bs a) (h2 : most < 18446744073709551616) (hx : x ≤ most) (hb : ∀ i, i < sizeM x → bs[a + i]? = some (putB x i)) (hq : w.cell? ⟨q, 0, none⟩ = some (.int .u64 most)) :
    Calls Tryz.prog 182 #[.pointer (some ⟨p, 0, none⟩), .func (.func 183) #[] #[.pointer (some ⟨q, 0, none⟩)]] w fun e w' => e = .returned (.int .u64 x) ∧ Rd w' p g off cap bs (a + sizeM x) ∧ Kept (· = p) w w' := by
  obtain ⟨s1, s2, s3, s4⟩ := sizeM_bd x (by omega)
  have hlen : a + sizeM x ≤ bs.length := by
    have := hb (sizeM x - 1) (by omega)
    have := (List.getElem?_eq_some_iff.1 this).1
    omega
  have HE := Lib.hid (rerr_calls w p g off cap bs a h)
  have HL := Lib.hid (rleft_calls w p g off cap bs a h)
  have HU : Hid (∀ W, RowQ W g off bs q most → Calls Tryz.prog 183 #[.slice (some ⟨g, off + a, none⟩) (bs.length - a) (cap - a), .pointer (some ⟨q, 0, none⟩)] W fun e w' => e = .returned (.tuple #[.int .u64 x, .int .i64 (sizeM x), .int .i64 0]) ∧ W = w') :=
    Lib.hid (fun W hW => uint1_calls x most W g (off + a) (bs.length - a) (cap - a) q h2 hx (by omega) (fun i hi => by rw [Nat.add_assoc]; exact hW.row _ _ (hb i hi)) hW.q)
  have hRQ : RowQ w g off bs q most := ⟨h.row, hq⟩
  have b0 := h.blk.cell (i := 0) rfl
  have b1 := h.blk.cell (i := 1) rfl
  have f1 := h.blk.free 1
  have hl := h.len
  have hcp := h.cap
  have hgp := h.ne
  have H := Lib.hid h
  clear h s3 s4 h2 hx hb hq
  generalize sizeM x = n at *
  have hl0 : ¬ (((bs.length - a : Nat) : Int) = 0) := by omega
  have hac : a < cap := by omega
  have hca : ¬ (cap = a) := by omega
  have hab : a ≤ bs.length := by omega
  go_enter Tryz.func182, Tryz.ntmps182
  go_wp2_with fail
  refine (HE.out).mono ?_
  rintro e w' ⟨rfl, rfl⟩
  go_wp2_with fail
  refine (HL.out).mono ?_
  rintro e w' ⟨rfl, n1, rfl⟩
  have hRQ1 : RowQ (w.drewN n1) g off bs q most := ⟨hRQ.row, hRQ.q⟩
  have hRQ2 : RowQ (w.drewN (n1 + 1)) g off bs q most := ⟨hRQ.row, hRQ.q⟩
  have b0' : (w.drewN n1).cell? ⟨p, 0, none⟩ = some (.slice (some ⟨g, off, none⟩) bs.length cap) := b0
  have b1' : (w.drewN n1).cell? ⟨p, 1, none⟩ = some (.int .i64 a) := b1
  go_wp2_with fail
  go_region_held3 (fun w' => w'.cell? ⟨p, 0, none⟩ = some (.slice (some ⟨g, off, none⟩) bs.length cap) ∧ w'.cell? ⟨p, 1, none⟩ = some (.int .i64 a) ∧ RowQ w' g off bs q most)
    (first | (go_keep; done) | (refine ⟨by simp [*], by simp [*], ?_⟩; with_reducible first | exact hRQ2 | exact RowQ.drew hRQ1 | assumption))
    ((go_at_call 183; refine (HU.out _ (by with_reducible first | exact hRQ2 | exact RowQ.drew hRQ1 | assumption)).mono ?_; rintro e w2 ⟨rfl, rfl⟩))
  all_goals
    have b1'' : (w.drewN (n1 + 1)).cell? ⟨p, 1, none⟩ = some (.int .i64 a) := b1
    have f1'' : (w.drewN (n1 + 1)).frozen? ⟨p, 1, none⟩ = false := f1
    clear b0 b1 f1 b0' b1' hRQ hRQ1 hRQ2
    go_wp2_with fail
    go_ret
    refine ⟨rfl, ⟨by rw [Int.natCast_add]; exact (H.out.blk.drewN (n1 + 1)).set 1 (.int .i64 ((a : Int) + n)), H.out.row.kept (((Kept.refl (· = p) w).drewN (n1 + 1)).setCell (a := ⟨p, 1, none⟩) (.inl rfl) _) hgp, hgp, hlen, hl, hcp⟩, ((Kept.refl (· = p) w).drewN (n1 + 1)).setCell (a := ⟨p, 1, none⟩) (.inl rfl) _⟩
end Go.Proofs.YtekdkckgmleofaaGreat

/- Contracts of package reader's functions along the good way, the second: Uint, Int. -/
namespace Go.Proofs.YtekdkckgmleofaaGreat
open Go.RowKit

set_option maxRecDepth 100000 in
theorem uint_calls (x most : Nat) (w : World) (p g off cap : Nat) (bs : List Nat) (a : Nat) (h : Rd w p g off cap bs a) (h2 : most < 18446744073709551616) (hx : x ≤ most) (hb : ∀ i, i < sizeM x → bs[a + i]? = some (putB x i)) :
    Calls Tryz.prog 148 #[.pointer (some ⟨p, 0, none⟩), .int .u64 most] w fun e w' => e = .returned (.int .u64 x) ∧ Rd w' p g off cap bs (a + sizeM x) ∧ Kept (· = p) w w' := by
  have hp := h.blk.lt
  have hg : g < w.heap.size := by
    obtain ⟨s1, -, -, -⟩ := sizeM_bd x (by omega)
    exact lt_of_cell (h.row _ _ (hb 0 (by omega)))
  have K0 := (Kept.refl (fun _ => False) w).alloc (.cells #[.int .u64 (most : Int)] 93)
  have HT := Lib.hid (take64_calls x most (w.alloc (.cells #[.int .u64 (most : Int)] 93)) p g off cap w.heap.size bs a (h.kept K0 (fun h => h) (fun h => h)) h2 hx hb ((Blk.new w [.int .u64 (most : Int)] 93).cell (i := 0) rfl))
  have HK := Lib.hid K0
  have hmf : ∀ (fn : Fn) (first cap : Array Value) (w : World), (Instr.makeFunc fn first cap).run Tryz.prog w = .ok (.func fn first cap) w := fun _ _ _ _ => rfl
  clear h h2 hx hb K0
  go_enter Tryz.func148, Tryz.ntmps148
  go_wp2_with fail
  refine (HT.out).mono ?_
  rintro e w' ⟨rfl, hr, hk⟩
  go_wp2_with fail
  go_ret
  exact ⟨rfl, hr, (HK.out.mono (fun _ _ h => h.elim)).trans hk (fun _ h => .inl h)⟩
theorem int_calls (n : Int) (w : World) (p g off cap : Nat) (bs : List Nat) (a : Nat) (h : Rd w p g off cap bs a) (h1 : -9223372036854775808 ≤ n) (h2 : n ≤ 9223372036854775807) (hb : ∀ i, i < sizeM (zigM n).toNat → bs[a + i]? = some (putB (zigM n).toNat i)) :
    Calls Tryz.prog 149 #[.pointer (some ⟨p, 0, none⟩)] w fun e w' => e = .returned (.int .i64 n) ∧ Rd w' p g off cap bs (a + sizeM (zigM n).toNat) ∧ Kept (· = p) w w' := by
  have hz := zigM_bd n h1 h2
  have HU := Lib.hid (uint_calls (zigM n).toNat 18446744073709551615 w p g off cap bs a h (by omega) (by omega) hb)
  have HZ := Lib.hid (fun W => zag_calls (zigM n) W hz.1 hz.2)
  rw [zag_zig] at HZ
  have e1 : (((zigM n).toNat : Nat) : Int) = zigM n := by omega
  rw [e1] at HU
  generalize zigM n = z at *
  clear h hb
  go_enter Tryz.func149, Tryz.ntmps149
  go_wp2_with fail
  refine (HU.out).mono ?_
  rintro e w' ⟨rfl, hr, hk⟩
  go_wp2_with fail
  refine (HZ.out _).mono ?_
  rintro e w2 ⟨rfl, rfl⟩
  go_wp2_with fail
  go_ret
  exact ⟨rfl, hr, hk⟩

structure RowH (w : World) (g off : Nat) (bs : List Nat) : Prop where
  row : RowAt w g off bs
theorem byte1_calls (c : Nat) (w : World) (g off L cap : Nat) (hL : 1 ≤ L) (hc : w.cell? ⟨g, off, none⟩ = some (.int .u8 (c : Nat))) :
    Calls Tryz.prog 197 #[.slice (some ⟨g, off, none⟩) L cap] w fun e w' => e = .returned (.tuple #[.int .u8 c, .int .i64 1, .int .i64 0]) ∧ w = w' := by
  go_enter Tryz.func197, Tryz.ntmps197
  go_wp2
  go_ret3
  exact ⟨rfl, rfl⟩
set_option maxRecDepth 100000 in
set_option maxHeartbeats 2000000 in
theorem take8_calls (c : Nat) (w : World) (p g off cap : Nat) (bs : List Nat) (a : Nat) (h : Rd w p g off cap bs a) (hb : bs[a]? = some c) :
    Calls Tryz.prog 196 #[.pointer (some ⟨p, 0, none⟩), .func (.func 197) #[] #[]] w fun e w' => e = .returned (.int .u8 c) ∧ Rd w' p g off cap bs (a + 1) ∧ Kept (· = p) w w' := by
  have hlen : a + 1 ≤ bs.length := (List.getElem?_eq_some_iff.1 hb).1
  have HE := Lib.hid (rerr_calls w p g off cap bs a h)
  have HL := Lib.hid (rleft_calls w p g off cap bs a h)
  have HU : Hid (∀ W, RowAt W g off bs → Calls Tryz.prog 197 #[.slice (some ⟨g, off + a, none⟩) (bs.length - a) (cap - a)] W fun e w' => e = .returned (.tuple #[.int .u8 c, .int .i64 1, .int .i64 0]) ∧ W = w') :=
    Lib.hid (fun W hW => byte1_calls c W g (off + a) (bs.length - a) (cap - a) (by omega) (hW _ _ hb))
  have hRQ : RowH w g off bs := ⟨h.row⟩
  have b0 := h.blk.cell (i := 0) rfl
  have b1 := h.blk.cell (i := 1) rfl
  have f1 := h.blk.free 1
  have hl := h.len
  have hcp := h.cap
  have hgp := h.ne
  have H := Lib.hid h
  clear h hb
  have hl0 : ¬ (((bs.length - a : Nat) : Int) = 0) := by omega
  have hac : a < cap := by omega
  have hca : ¬ (cap = a) := by omega
  have hab : a ≤ bs.length := by omega
  go_enter Tryz.func196, Tryz.ntmps196
  go_wp2_with fail
  refine (HE.out).mono ?_
  rintro e w' ⟨rfl, rfl⟩
  go_wp2_with fail
  refine (HL.out).mono ?_
  rintro e w' ⟨rfl, n1, rfl⟩
  have hRQ1 : RowH (w.drewN n1) g off bs := ⟨hRQ.row⟩
  have hRQ2 : RowH (w.drewN (n1 + 1)) g off bs := ⟨hRQ.row⟩
  have b0' : (w.drewN n1).cell? ⟨p, 0, none⟩ = some (.slice (some ⟨g, off, none⟩) bs.length cap) := b0
  have b1' : (w.drewN n1).cell? ⟨p, 1, none⟩ = some (.int .i64 a) := b1
  go_wp2_with fail
  go_region_held3 (fun w' => w'.cell? ⟨p, 0, none⟩ = some (.slice (some ⟨g, off, none⟩) bs.length cap) ∧ w'.cell? ⟨p, 1, none⟩ = some (.int .i64 a) ∧ RowH w' g off bs)
    (first | (go_keep; done) | (refine ⟨by simp [*], by simp [*], ?_⟩; with_reducible first | exact hRQ2 | assumption))
    ((go_at_call 197; refine (HU.out _ hRQ2.row).mono ?_; rintro e w2 ⟨rfl, rfl⟩))
  all_goals
    have b1'' : (w.drewN (n1 + 1)).cell? ⟨p, 1, none⟩ = some (.int .i64 a) := b1
    have f1'' : (w.drewN (n1 + 1)).frozen? ⟨p, 1, none⟩ = false := f1
    clear b0 b1 f1 b0' b1' hRQ hRQ1 hRQ2
    go_wp2_with fail
    go_ret
    refine ⟨rfl, ⟨by rw [Int.natCast_add]; exact (H.out.blk.drewN (n1 + 1)).set 1 (.int .i64 ((a : Int) + 1)), H.out.row.kept (((Kept.refl (· = p) w).drewN (n1 + 1)).setCell (a := ⟨p, 1, none⟩) (.inl rfl) _) hgp, hgp, hlen, hl, hcp⟩, ((Kept.refl (· = p) w).drewN (n1 + 1)).setCell (a := ⟨p, 1, none⟩) (.inl rfl) _⟩
theorem byte_calls (c : Nat) (w : World) (p g off cap : Nat) (bs : List Nat) (a : Nat) (h : Rd w p g off cap bs a) (hb : bs[a]? = some c) :
    Calls Tryz.prog 181 #[.pointer (some ⟨p, 0, none⟩)] w fun e w' => e = .returned (.int .u8 c) ∧ Rd w' p g off cap bs (a + 1) ∧ Kept (· = p) w w' := by
  have HT := Lib.hid (take8_calls c w p g off cap bs a h hb)
  clear h hb
  go_enter Tryz.func181, Tryz.ntmps181
  go_wp2_with fail
  refine (HT.out).mono ?_
  rintro e w' ⟨rfl, hr, hk⟩
  go_wp2_with fail
  go_ret
  exact ⟨rfl, hr, hk⟩
theorem done_calls (w : World) (p g off cap : Nat) (bs : List Nat) (h : Rd w p g off cap bs bs.length) :
    Calls Tryz.prog 113 #[.pointer (some ⟨p, 0, none⟩)] w fun e w' => e = .returned (.int .i64 0) ∧ ∃ n, w' = w.drewN n := by
  have HE := Lib.hid (rerr_calls w p g off cap bs bs.length h)
  have HL := Lib.hid (rleft_calls w p g off cap bs bs.length h)
  rw [Nat.sub_self] at HL
  clear h
  go_enter Tryz.func113, Tryz.ntmps113
  go_wp2_with fail
  refine (HE.out).mono ?_
  rintro e w' ⟨rfl, rfl⟩
  go_wp2_with fail
  refine (HL.out).mono ?_
  rintro e w' ⟨rfl, n1, rfl⟩
  go_wp2_with fail
  go_ret
  exact ⟨rfl, _, rfl⟩
end Go.Proofs.YtekdkckgmleofaaGreat

/- Contracts of package reader's functions along the good way, the third: Vec. -/
namespace Go.Proofs.YtekdkckgmleofaaGreat
open Go.RowKit

/-- The bytes of a number, folded, at a place of a row. -/
def NumAt (bs : List Nat) (a : Nat) (n : Int) : Prop := ∀ i, i < sizeM (zigM n).toNat → bs[a + i]? = some (putB (zigM n).toNat i)
def zsz (n : Int) : Nat := sizeM (zigM n).toNat
def vC (a b c : Int) : Nat → List Value
  | 0 => [.int .i64 0, .int .i64 0, .int .i64 0]
  | 1 => [.int .i64 a, .int .i64 0, .int .i64 0]
  | 2 => [.int .i64 a, .int .i64 b, .int .i64 0]
  | _ => [.int .i64 a, .int .i64 b, .int .i64 c]
abbrev vecV (a b c : Int) : Value := .agg #[.int .i64 a, .int .i64 b, .int .i64 c]
structure VecI (w : World) (p g off cap : Nat) (bs : List Nat) (a : Nat) (cs : List Value) (wr : World) : Prop where
  rd : Rd wr p g off cap bs a
  arr : Blk wr (w.heap.size + 1) cs 36
  out : Blk wr w.heap.size [.int .i64 0, .int .i64 0, .int .i64 0] 36
  kept : Kept (· = p) w wr
theorem VecI.step {w wr w2 : World} {p g off cap : Nat} {bs : List Nat} {a a2 : Nat} {cs : List Value} (h : VecI w p g off cap bs a cs wr) (hp : p < w.heap.size) (hg : g < w.heap.size) (h2 : Rd w2 p g off cap bs a2) (hk : Kept (· = p) wr w2) (k : Nat) (v : Value) :
    VecI w p g off cap bs a2 (cs.set k v) (w2.setCell ⟨w.heap.size + 1, k, none⟩ v) :=
  ⟨h2.kept ((Kept.refl (· = w.heap.size + 1) w2).setCell (a := ⟨w.heap.size + 1, k, none⟩) (.inl rfl) v) (by omega) (by omega), (hk.blk h.arr (by omega)).set k v, (hk.blk h.out (by omega)).set_ne (by simp) v, (h.kept.trans hk (fun _ h => .inl h)).setCell (.inr (by simp)) v⟩
set_option maxHeartbeats 2000000 in
theorem vec_calls (x y z : Int) (w : World) (p g off cap : Nat) (bs : List Nat) (a : Nat) (h : Rd w p g off cap bs a) (hg : g < w.heap.size)
    (hx : -9223372036854775808 ≤ x ∧ x ≤ 9223372036854775807) (hy : -9223372036854775808 ≤ y ∧ y ≤ 9223372036854775807) (hz : -9223372036854775808 ≤ z ∧ z ≤ 9223372036854775807)
    (h1 : NumAt bs a x) (h2 : NumAt bs (a + zsz x) y) (h3 : NumAt bs (a + zsz x + zsz y) z) :
    Calls Tryz.prog 195 #[.pointer (some ⟨p, 0, none⟩)] w fun e w' => e = .returned (vecV x y z) ∧ Rd w' p g off cap bs (a + zsz x + zsz y + zsz z) ∧ Kept (· = p) w w' := by
  have hp := h.blk.lt
  have H1 := Lib.hid (fun W (h : Rd W p g off cap bs a) => int_calls x W p g off cap bs a h hx.1 hx.2 h1)
  have H2 := Lib.hid (fun W (h : Rd W p g off cap bs (a + zsz x)) => int_calls y W p g off cap bs (a + zsz x) h hy.1 hy.2 h2)
  have H3 := Lib.hid (fun W (h : Rd W p g off cap bs (a + zsz x + zsz y)) => int_calls z W p g off cap bs (a + zsz x + zsz y) h hz.1 hz.2 h3)
  rw [show sizeM (zigM x).toNat = zsz x from rfl] at H1
  rw [show sizeM (zigM y).toNat = zsz y from rfl] at H2
  rw [show sizeM (zigM z).toNat = zsz z from rfl] at H3
  have HI : Hid (VecI w p g off cap bs a (vC x y z 0) ((w.alloc (.cells #[.int .i64 0, .int .i64 0, .int .i64 0] 36)).alloc (.cells #[.int .i64 0, .int .i64 0, .int .i64 0] 36))) := Lib.hid (by
    have k0 := ((Kept.refl (fun _ => False) w).alloc (.cells #[.int .i64 0, .int .i64 0, .int .i64 0] 36)).alloc (.cells #[.int .i64 0, .int .i64 0, .int .i64 0] 36)
    refine ⟨h.kept k0 (fun h => h) (fun h => h), ?_, (Blk.new w [.int .i64 0, .int .i64 0, .int .i64 0] 36).alloc _, k0.mono (fun _ _ h => h.elim)⟩
    have := Blk.new (w.alloc (.cells #[.int .i64 0, .int .i64 0, .int .i64 0] 36)) [.int .i64 0, .int .i64 0, .int .i64 0] 36
    rw [size_alloc] at this
    exact this)
  generalize zsz x = s0 at *
  generalize zsz y = s1 at *
  generalize zsz z = s2 at *
  clear h h1 h2 h3 hx hy hz
  go_enter Tryz.func195, Tryz.ntmps195
  go_wp2_with fail
  go_loopw [5] (fun i wr => ∃ k b : Nat, i = .int .i64 k ∧ VecI w p g off cap bs b (vC x y z k) wr ∧ (k = 0 ∧ b = a ∨ k = 1 ∧ b = a + s0 ∨ k = 2 ∧ b = a + s0 + s1 ∨ k = 3 ∧ b = a + s0 + s1 + s2)) (fun i _ => (3 - intOf i).toNat)
  case atStart => exact ⟨0, a, rfl, HI.out, .inl ⟨rfl, rfl⟩⟩
  case round =>
    obtain ⟨k, b, rfl, hI, hk⟩ := hrel
    rcases hk with ⟨rfl, rfl⟩ | ⟨rfl, rfl⟩ | ⟨rfl, rfl⟩ | ⟨rfl, rfl⟩
    · have HJ := Lib.hid hI
      clear hI
      go_wp2_with fail
      refine (H1.out _ HJ.out.rd).mono ?_
      rintro e w2 ⟨rfl, hr, hk⟩
      have hb := hk.blk HJ.out.arr (by omega)
      have b0 := hb.cell (i := 0) rfl
      have f0 := hb.free 0
      have HS := Lib.hid (HJ.out.step hp hg hr hk 0 (.int .i64 x))
      clear hr hk hb
      go_wp2_with fail
      exact ⟨⟨1, _, by simp, HS.out, by simp⟩, by simp [intOf]⟩
    · have HJ := Lib.hid hI
      clear hI
      go_wp2_with fail
      refine (H2.out _ HJ.out.rd).mono ?_
      rintro e w2 ⟨rfl, hr, hk⟩
      have hb := hk.blk HJ.out.arr (by omega)
      have b0 := hb.cell (i := 1) rfl
      have f0 := hb.free 1
      have HS := Lib.hid (HJ.out.step hp hg hr hk 1 (.int .i64 y))
      clear hr hk hb
      go_wp2_with fail
      exact ⟨⟨2, _, by simp, HS.out, by simp⟩, by simp [intOf]⟩
    · have HJ := Lib.hid hI
      clear hI
      go_wp2_with fail
      refine (H3.out _ HJ.out.rd).mono ?_
      rintro e w2 ⟨rfl, hr, hk⟩
      have hb := hk.blk HJ.out.arr (by omega)
      have b0 := hb.cell (i := 2) rfl
      have f0 := hb.free 2
      have HS := Lib.hid (HJ.out.step hp hg hr hk 2 (.int .i64 z))
      clear hr hk hb
      go_wp2_with fail
      exact ⟨⟨3, _, by simp, HS.out, by simp⟩, by simp [intOf]⟩
    · have HJ := Lib.hid hI
      have a0 := hI.arr.cell (i := 0) rfl
      have a1 := hI.arr.cell (i := 1) rfl
      have a2 := hI.arr.cell (i := 2) rfl
      have o0 := hI.out.cell (i := 0) rfl
      have o1 := hI.out.cell (i := 1) rfl
      have o2 := hI.out.cell (i := 2) rfl
      have f0 := hI.out.free 0
      have f1 := hI.out.free 1
      have f2 := hI.out.free 2
      clear hI
      go_wp2_with fail
      have hf := ((HJ.out.out.set 0 (.int .i64 x)).set 1 (.int .i64 y)).set 2 (.int .i64 z)
      have r0 := hf.cell (i := 0) rfl
      have r1 := hf.cell (i := 1) rfl
      have r2 := hf.cell (i := 2) rfl
      have kk := ((((Kept.refl (· = w.heap.size) wr).setCell (a := ⟨w.heap.size, 0, none⟩) (.inl rfl) (.int .i64 x)).setCell (a := ⟨w.heap.size, 1, none⟩) (.inl rfl) (.int .i64 y)).setCell (a := ⟨w.heap.size, 2, none⟩) (.inl rfl) (.int .i64 z))
      refine bodyPost_ret (v := vecV x y z) (by simp [results, Tryz.f195, Tryz.results195, go_sem, r0, r1, r2]) rfl ⟨rfl, HJ.out.rd.kept kk (by omega) (by omega), HJ.out.kept.trans kk (fun i hi => .inr (by omega))⟩
end Go.Proofs.YtekdkckgmleofaaGreat

/- Contract of vec.each with one function. -/
namespace Go.Proofs.YtekdkckgmleofaaGreat
open Go.RowKit
namespace EachAdd
def eachC (c : Nat → Int) : Nat → List Value
  | 0 => [.int .i64 0, .int .i64 0, .int .i64 0]
  | 1 => [.int .i64 (c 0), .int .i64 0, .int .i64 0]
  | 2 => [.int .i64 (c 0), .int .i64 (c 1), .int .i64 0]
  | _ => [.int .i64 (c 0), .int .i64 (c 1), .int .i64 (c 2)]
abbrev v3 (c : Nat → Int) : Value := vecV (c 0) (c 1) (c 2)
abbrev c3 (c : Nat → Int) : List Value := [.int .i64 (c 0), .int .i64 (c 1), .int .i64 (c 2)]
theorem c3_at (c : Nat → Int) (k : Nat) (hk : k < 3) : (c3 c)[k]? = some (.int .i64 (c k)) := by
  rcases (by omega : k = 0 ∨ k = 1 ∨ k = 2) with rfl | rfl | rfl <;> rfl
theorem eachC_set (c : Nat → Int) (k : Nat) (hk : k < 3) : (eachC c k).set k (.int .i64 (c k)) = eachC c (k + 1) := by
  rcases (by omega : k = 0 ∨ k = 1 ∨ k = 2) with rfl | rfl | rfl <;> rfl
theorem eachC_at (c : Nat → Int) (k : Nat) (hk : k < 3) : (eachC c k)[k]? = some (.int .i64 0) := by
  rcases (by omega : k = 0 ∨ k = 1 ∨ k = 2) with rfl | rfl | rfl <;> rfl
structure EachI (w : World) (a b : Nat → Int) (cs : List Value) (wr : World) : Prop where
  a : Blk wr w.heap.size (c3 a) 36
  b : Blk wr (w.heap.size + 1) (c3 b) 36
  out : Blk wr (w.heap.size + 1 + 1) [.int .i64 0, .int .i64 0, .int .i64 0] 36
  arr : Blk wr (w.heap.size + 1 + 1 + 1) cs 36
  kept : Kept (fun _ => False) w wr
theorem EachI.step {w wr : World} {a b : Nat → Int} {cs : List Value} (h : EachI w a b cs wr) (n k : Nat) (v : Value) :
    EachI w a b (cs.set k v) ((wr.drewN n).setCell ⟨w.heap.size + 1 + 1 + 1, k, none⟩ v) :=
  ⟨(h.a.drewN n).set_ne (by simp; omega) v, (h.b.drewN n).set_ne (by simp) v, (h.out.drewN n).set_ne (by simp) v, (h.arr.drewN n).set k v, (h.kept.drewN n).setCell (.inr (by show w.heap.size ≤ w.heap.size + 1 + 1 + 1; omega)) _⟩
set_option maxRecDepth 100000 in
set_option maxHeartbeats 2000000 in
theorem each_calls (a b c : Nat → Int)  (w : World)
    (hF : ∀ W j, j < 3 → Kept (fun _ => False) w W → Calls Tryz.prog 16 #[.int .i64 (a j), .int .i64 (b j)] W fun e w' => e = .returned (.int .i64 (c j)) ∧ ∃ n, w' = W.drewN n) :
    Calls Tryz.prog 176 #[v3 a, v3 b, .func (.func 16) #[] #[]] w fun e w' => e = .returned (v3 c) ∧ Kept (fun _ => False) w w' := by
  have HI : Hid (EachI w a b (eachC c 0) ((((w.alloc (.cells #[.int .i64 (a 0), .int .i64 (a 1), .int .i64 (a 2)] 36)).alloc (.cells #[.int .i64 (b 0), .int .i64 (b 1), .int .i64 (b 2)] 36)).alloc (.cells #[.int .i64 0, .int .i64 0, .int .i64 0] 36)).alloc (.cells #[.int .i64 0, .int .i64 0, .int .i64 0] 36))) := Lib.hid
    ⟨(((Blk.new w (c3 a) _).alloc _).alloc _).alloc _, ((Blk.new_at (by simp) (c3 b) _).alloc _).alloc _, (Blk.new_at (by simp) _ _).alloc _, Blk.new_at (by simp) _ _, ((((Kept.refl (fun _ => False) w).alloc _).alloc _).alloc _).alloc _⟩
  have HF := Lib.hid hF
  clear hF
  go_enter Tryz.func176, Tryz.ntmps176
  go_wp2_with fail
  go_loopw [9] (fun i wr => ∃ k : Nat, k ≤ 3 ∧ i = .int .i64 k ∧ EachI w a b (eachC c k) wr) (fun i _ => (3 - intOf i).toNat)
  case atStart => exact ⟨0, by omega, rfl, HI.out⟩
  case round =>
    obtain ⟨k, hk, rfl, hI⟩ := hrel
    by_cases hk3 : k < 3
    · have a0 := hI.a.cell (c3_at a k hk3)
      have b0 := hI.b.cell (c3_at b k hk3)
      have d0 := hI.arr.cell (eachC_at c k hk3)
      have e0 := hI.arr.free k
      have HJ := Lib.hid hI
      have HR := Lib.hid (fun n => HF.out (wr.drewN n) k hk3 (hI.kept.drewN n))
      have HS := Lib.hid (fun n => eachC_set c k hk3 ▸ hI.step n k (.int .i64 (c k)))
      clear hI
      go_wp2_with fail
      go_region_held3 (fun w' => w'.cell? ⟨w.heap.size, k, none⟩ = some (.int .i64 (a k)) ∧ w'.cell? ⟨w.heap.size + 1, k, none⟩ = some (.int .i64 (b k)))
        (first | (go_keep; done) | exact ⟨a0, b0⟩ | exact ⟨(HS.out _).a.cell (c3_at a k hk3), (HS.out _).b.cell (c3_at b k hk3)⟩)
        ((go_at_call 16; refine (HR.out 1).mono ?_; rintro e w2 ⟨rfl, n2, rfl⟩))
      all_goals go_wp2_with fail
      all_goals exact ⟨⟨k + 1, by omega, by simp, HS.out _⟩, by simp [intOf]; omega⟩
    · have e3 : k = 3 := by omega
      subst e3
      have HJ := Lib.hid hI
      have a0 := hI.arr.cell (i := 0) rfl
      have a1 := hI.arr.cell (i := 1) rfl
      have a2 := hI.arr.cell (i := 2) rfl
      have o0 := hI.out.cell (i := 0) rfl
      have o1 := hI.out.cell (i := 1) rfl
      have o2 := hI.out.cell (i := 2) rfl
      have f0 := hI.out.free 0
      have f1 := hI.out.free 1
      have f2 := hI.out.free 2
      clear hI
      go_wp2_with fail
      have hf := ((HJ.out.out.set 0 (.int .i64 (c 0))).set 1 (.int .i64 (c 1))).set 2 (.int .i64 (c 2))
      have r0 := hf.cell (i := 0) rfl
      have r1 := hf.cell (i := 1) rfl
      have r2 := hf.cell (i := 2) rfl
      have kk := ((((Kept.refl (· = w.heap.size + 1 + 1) wr).setCell (a := ⟨w.heap.size + 1 + 1, 0, none⟩) (.inl rfl) (.int .i64 (c 0))).setCell (a := ⟨w.heap.size + 1 + 1, 1, none⟩) (.inl rfl) (.int .i64 (c 1))).setCell (a := ⟨w.heap.size + 1 + 1, 2, none⟩) (.inl rfl) (.int .i64 (c 2)))
      refine bodyPost_ret (v := v3 c) (by simp [results, Tryz.f176, Tryz.results176, go_sem, r0, r1, r2]) rfl ⟨rfl, HJ.out.kept.trans kk (fun i hi => .inr (by omega))⟩
end EachAdd
end Go.Proofs.YtekdkckgmleofaaGreat

/- Contract of vec.each with one function. -/
namespace Go.Proofs.YtekdkckgmleofaaGreat
open Go.RowKit
namespace EachLerp
def eachC (c : Nat → Int) : Nat → List Value
  | 0 => [.int .i64 0, .int .i64 0, .int .i64 0]
  | 1 => [.int .i64 (c 0), .int .i64 0, .int .i64 0]
  | 2 => [.int .i64 (c 0), .int .i64 (c 1), .int .i64 0]
  | _ => [.int .i64 (c 0), .int .i64 (c 1), .int .i64 (c 2)]
abbrev v3 (c : Nat → Int) : Value := vecV (c 0) (c 1) (c 2)
abbrev c3 (c : Nat → Int) : List Value := [.int .i64 (c 0), .int .i64 (c 1), .int .i64 (c 2)]
theorem c3_at (c : Nat → Int) (k : Nat) (hk : k < 3) : (c3 c)[k]? = some (.int .i64 (c k)) := by
  rcases (by omega : k = 0 ∨ k = 1 ∨ k = 2) with rfl | rfl | rfl <;> rfl
theorem eachC_set (c : Nat → Int) (k : Nat) (hk : k < 3) : (eachC c k).set k (.int .i64 (c k)) = eachC c (k + 1) := by
  rcases (by omega : k = 0 ∨ k = 1 ∨ k = 2) with rfl | rfl | rfl <;> rfl
theorem eachC_at (c : Nat → Int) (k : Nat) (hk : k < 3) : (eachC c k)[k]? = some (.int .i64 0) := by
  rcases (by omega : k = 0 ∨ k = 1 ∨ k = 2) with rfl | rfl | rfl <;> rfl
structure EachI (w : World) (a b : Nat → Int) (cs : List Value) (wr : World) : Prop where
  a : Blk wr w.heap.size (c3 a) 36
  b : Blk wr (w.heap.size + 1) (c3 b) 36
  out : Blk wr (w.heap.size + 1 + 1) [.int .i64 0, .int .i64 0, .int .i64 0] 36
  arr : Blk wr (w.heap.size + 1 + 1 + 1) cs 36
  kept : Kept (fun _ => False) w wr
theorem EachI.step {w wr : World} {a b : Nat → Int} {cs : List Value} (h : EachI w a b cs wr) (n k : Nat) (v : Value) :
    EachI w a b (cs.set k v) ((wr.drewN n).setCell ⟨w.heap.size + 1 + 1 + 1, k, none⟩ v) :=
  ⟨(h.a.drewN n).set_ne (by simp; omega) v, (h.b.drewN n).set_ne (by simp) v, (h.out.drewN n).set_ne (by simp) v, (h.arr.drewN n).set k v, (h.kept.drewN n).setCell (.inr (by show w.heap.size ≤ w.heap.size + 1 + 1 + 1; omega)) _⟩
set_option maxRecDepth 100000 in
set_option maxHeartbeats 2000000 in
theorem each_calls (a b c : Nat → Int) (q1 q2 : Nat) (w : World)
    (hF : ∀ W j, j < 3 → Kept (fun _ => False) w W → Calls Tryz.prog 243 #[.int .i64 (a j), .int .i64 (b j), .pointer (some ⟨q1, 0, none⟩), .pointer (some ⟨q2, 0, none⟩)] W fun e w' => e = .returned (.int .i64 (c j)) ∧ ∃ n, w' = W.drewN n) :
    Calls Tryz.prog 176 #[v3 a, v3 b, .func (.func 243) #[] #[.pointer (some ⟨q1, 0, none⟩), .pointer (some ⟨q2, 0, none⟩)]] w fun e w' => e = .returned (v3 c) ∧ Kept (fun _ => False) w w' := by
  have HI : Hid (EachI w a b (eachC c 0) ((((w.alloc (.cells #[.int .i64 (a 0), .int .i64 (a 1), .int .i64 (a 2)] 36)).alloc (.cells #[.int .i64 (b 0), .int .i64 (b 1), .int .i64 (b 2)] 36)).alloc (.cells #[.int .i64 0, .int .i64 0, .int .i64 0] 36)).alloc (.cells #[.int .i64 0, .int .i64 0, .int .i64 0] 36))) := Lib.hid
    ⟨(((Blk.new w (c3 a) _).alloc _).alloc _).alloc _, ((Blk.new_at (by simp) (c3 b) _).alloc _).alloc _, (Blk.new_at (by simp) _ _).alloc _, Blk.new_at (by simp) _ _, ((((Kept.refl (fun _ => False) w).alloc _).alloc _).alloc _).alloc _⟩
  have HF := Lib.hid hF
  clear hF
  go_enter Tryz.func176, Tryz.ntmps176
  go_wp2_with fail
  go_loopw [9] (fun i wr => ∃ k : Nat, k ≤ 3 ∧ i = .int .i64 k ∧ EachI w a b (eachC c k) wr) (fun i _ => (3 - intOf i).toNat)
  case atStart => exact ⟨0, by omega, rfl, HI.out⟩
  case round =>
    obtain ⟨k, hk, rfl, hI⟩ := hrel
    by_cases hk3 : k < 3
    · have a0 := hI.a.cell (c3_at a k hk3)
      have b0 := hI.b.cell (c3_at b k hk3)
      have d0 := hI.arr.cell (eachC_at c k hk3)
      have e0 := hI.arr.free k
      have HJ := Lib.hid hI
      have HR := Lib.hid (fun n => HF.out (wr.drewN n) k hk3 (hI.kept.drewN n))
      have HS := Lib.hid (fun n => eachC_set c k hk3 ▸ hI.step n k (.int .i64 (c k)))
      clear hI
      go_wp2_with fail
      go_region_held3 (fun w' => w'.cell? ⟨w.heap.size, k, none⟩ = some (.int .i64 (a k)) ∧ w'.cell? ⟨w.heap.size + 1, k, none⟩ = some (.int .i64 (b k)))
        (first | (go_keep; done) | exact ⟨a0, b0⟩ | exact ⟨(HS.out _).a.cell (c3_at a k hk3), (HS.out _).b.cell (c3_at b k hk3)⟩)
        ((go_at_call 243; refine (HR.out 1).mono ?_; rintro e w2 ⟨rfl, n2, rfl⟩))
      all_goals go_wp2_with fail
      all_goals exact ⟨⟨k + 1, by omega, by simp, HS.out _⟩, by simp [intOf]; omega⟩
    · have e3 : k = 3 := by omega
      subst e3
      have HJ := Lib.hid hI
      have a0 := hI.arr.cell (i := 0) rfl
      have a1 := hI.arr.cell (i := 1) rfl
      have a2 := hI.arr.cell (i := 2) rfl
      have o0 := hI.out.cell (i := 0) rfl
      have o1 := hI.out.cell (i := 1) rfl
      have o2 := hI.out.cell (i := 2) rfl
      have f0 := hI.out.free 0
      have f1 := hI.out.free 1
      have f2 := hI.out.free 2
      clear hI
      go_wp2_with fail
      have hf := ((HJ.out.out.set 0 (.int .i64 (c 0))).set 1 (.int .i64 (c 1))).set 2 (.int .i64 (c 2))
      have r0 := hf.cell (i := 0) rfl
      have r1 := hf.cell (i := 1) rfl
      have r2 := hf.cell (i := 2) rfl
      have kk := ((((Kept.refl (· = w.heap.size + 1 + 1) wr).setCell (a := ⟨w.heap.size + 1 + 1, 0, none⟩) (.inl rfl) (.int .i64 (c 0))).setCell (a := ⟨w.heap.size + 1 + 1, 1, none⟩) (.inl rfl) (.int .i64 (c 1))).setCell (a := ⟨w.heap.size + 1 + 1, 2, none⟩) (.inl rfl) (.int .i64 (c 2)))
      refine bodyPost_ret (v := v3 c) (by simp [results, Tryz.f176, Tryz.results176, go_sem, r0, r1, r2]) rfl ⟨rfl, HJ.out.kept.trans kk (fun i hi => .inr (by omega))⟩
end EachLerp
end Go.Proofs.YtekdkckgmleofaaGreat

/- Contract of vec.each with one function. -/
namespace Go.Proofs.YtekdkckgmleofaaGreat
open Go.RowKit
namespace EachMul
def eachC (c : Nat → Int) : Nat → List Value
  | 0 => [.int .i64 0, .int .i64 0, .int .i64 0]
  | 1 => [.int .i64 (c 0), .int .i64 0, .int .i64 0]
  | 2 => [.int .i64 (c 0), .int .i64 (c 1), .int .i64 0]
  | _ => [.int .i64 (c 0), .int .i64 (c 1), .int .i64 (c 2)]
abbrev v3 (c : Nat → Int) : Value := vecV (c 0) (c 1) (c 2)
abbrev c3 (c : Nat → Int) : List Value := [.int .i64 (c 0), .int .i64 (c 1), .int .i64 (c 2)]
theorem c3_at (c : Nat → Int) (k : Nat) (hk : k < 3) : (c3 c)[k]? = some (.int .i64 (c k)) := by
  rcases (by omega : k = 0 ∨ k = 1 ∨ k = 2) with rfl | rfl | rfl <;> rfl
theorem eachC_set (c : Nat → Int) (k : Nat) (hk : k < 3) : (eachC c k).set k (.int .i64 (c k)) = eachC c (k + 1) := by
  rcases (by omega : k = 0 ∨ k = 1 ∨ k = 2) with rfl | rfl | rfl <;> rfl
theorem eachC_at (c : Nat → Int) (k : Nat) (hk : k < 3) : (eachC c k)[k]? = some (.int .i64 0) := by
  rcases (by omega : k = 0 ∨ k = 1 ∨ k = 2) with rfl | rfl | rfl <;> rfl
structure EachI (w : World) (a b : Nat → Int) (cs : List Value) (wr : World) : Prop where
  a : Blk wr w.heap.size (c3 a) 36
  b : Blk wr (w.heap.size + 1) (c3 b) 36
  out : Blk wr (w.heap.size + 1 + 1) [.int .i64 0, .int .i64 0, .int .i64 0] 36
  arr : Blk wr (w.heap.size + 1 + 1 + 1) cs 36
  kept : Kept (fun _ => False) w wr
theorem EachI.step {w wr : World} {a b : Nat → Int} {cs : List Value} (h : EachI w a b cs wr) (n k : Nat) (v : Value) :
    EachI w a b (cs.set k v) ((wr.drewN n).setCell ⟨w.heap.size + 1 + 1 + 1, k, none⟩ v) :=
  ⟨(h.a.drewN n).set_ne (by simp; omega) v, (h.b.drewN n).set_ne (by simp) v, (h.out.drewN n).set_ne (by simp) v, (h.arr.drewN n).set k v, (h.kept.drewN n).setCell (.inr (by show w.heap.size ≤ w.heap.size + 1 + 1 + 1; omega)) _⟩
set_option maxRecDepth 100000 in
set_option maxHeartbeats 2000000 in
theorem each_calls (a b c : Nat → Int)  (w : World)
    (hF : ∀ W j, j < 3 → Kept (fun _ => False) w W → Calls Tryz.prog 106 #[.int .i64 (a j), .int .i64 (b j)] W fun e w' => e = .returned (.int .i64 (c j)) ∧ ∃ n, w' = W.drewN n) :
    Calls Tryz.prog 176 #[v3 a, v3 b, .func (.func 106) #[] #[]] w fun e w' => e = .returned (v3 c) ∧ Kept (fun _ => False) w w' := by
  have HI : Hid (EachI w a b (eachC c 0) ((((w.alloc (.cells #[.int .i64 (a 0), .int .i64 (a 1), .int .i64 (a 2)] 36)).alloc (.cells #[.int .i64 (b 0), .int .i64 (b 1), .int .i64 (b 2)] 36)).alloc (.cells #[.int .i64 0, .int .i64 0, .int .i64 0] 36)).alloc (.cells #[.int .i64 0, .int .i64 0, .int .i64 0] 36))) := Lib.hid
    ⟨(((Blk.new w (c3 a) _).alloc _).alloc _).alloc _, ((Blk.new_at (by simp) (c3 b) _).alloc _).alloc _, (Blk.new_at (by simp) _ _).alloc _, Blk.new_at (by simp) _ _, ((((Kept.refl (fun _ => False) w).alloc _).alloc _).alloc _).alloc _⟩
  have HF := Lib.hid hF
  clear hF
  go_enter Tryz.func176, Tryz.ntmps176
  go_wp2_with fail
  go_loopw [9] (fun i wr => ∃ k : Nat, k ≤ 3 ∧ i = .int .i64 k ∧ EachI w a b (eachC c k) wr) (fun i _ => (3 - intOf i).toNat)
  case atStart => exact ⟨0, by omega, rfl, HI.out⟩
  case round =>
    obtain ⟨k, hk, rfl, hI⟩ := hrel
    by_cases hk3 : k < 3
    · have a0 := hI.a.cell (c3_at a k hk3)
      have b0 := hI.b.cell (c3_at b k hk3)
      have d0 := hI.arr.cell (eachC_at c k hk3)
      have e0 := hI.arr.free k
      have HJ := Lib.hid hI
      have HR := Lib.hid (fun n => HF.out (wr.drewN n) k hk3 (hI.kept.drewN n))
      have HS := Lib.hid (fun n => eachC_set c k hk3 ▸ hI.step n k (.int .i64 (c k)))
      clear hI
      go_wp2_with fail
      go_region_held3 (fun w' => w'.cell? ⟨w.heap.size, k, none⟩ = some (.int .i64 (a k)) ∧ w'.cell? ⟨w.heap.size + 1, k, none⟩ = some (.int .i64 (b k)))
        (first | (go_keep; done) | exact ⟨a0, b0⟩ | exact ⟨(HS.out _).a.cell (c3_at a k hk3), (HS.out _).b.cell (c3_at b k hk3)⟩)
        ((go_at_call 106; refine (HR.out 1).mono ?_; rintro e w2 ⟨rfl, n2, rfl⟩))
      all_goals go_wp2_with fail
      all_goals exact ⟨⟨k + 1, by omega, by simp, HS.out _⟩, by simp [intOf]; omega⟩
    · have e3 : k = 3 := by omega
      subst e3
      have HJ := Lib.hid hI
      have a0 := hI.arr.cell (i := 0) rfl
      have a1 := hI.arr.cell (i := 1) rfl
      have a2 := hI.arr.cell (i := 2) rfl
      have o0 := hI.out.cell (i := 0) rfl
      have o1 := hI.out.cell (i := 1) rfl
      have o2 := hI.out.cell (i := 2) rfl
      have f0 := hI.out.free 0
      have f1 := hI.out.free 1
      have f2 := hI.out.free 2
      clear hI
      go_wp2_with fail
      have hf := ((HJ.out.out.set 0 (.int .i64 (c 0))).set 1 (.int .i64 (c 1))).set 2 (.int .i64 (c 2))
      have r0 := hf.cell (i := 0) rfl
      have r1 := hf.cell (i := 1) rfl
      have r2 := hf.cell (i := 2) rfl
      have kk := ((((Kept.refl (· = w.heap.size + 1 + 1) wr).setCell (a := ⟨w.heap.size + 1 + 1, 0, none⟩) (.inl rfl) (.int .i64 (c 0))).setCell (a := ⟨w.heap.size + 1 + 1, 1, none⟩) (.inl rfl) (.int .i64 (c 1))).setCell (a := ⟨w.heap.size + 1 + 1, 2, none⟩) (.inl rfl) (.int .i64 (c 2)))
      refine bodyPost_ret (v := v3 c) (by simp [results, Tryz.f176, Tryz.results176, go_sem, r0, r1, r2]) rfl ⟨rfl, HJ.out.kept.trans kk (fun i hi => .inr (by omega))⟩
end EachMul
end Go.Proofs.YtekdkckgmleofaaGreat

/- Contracts of package record's functions along the way of kind Put: number. -/
namespace Go.Proofs.YtekdkckgmleofaaGreat
open Go.RowKit

/-- A row of bytes, grown: the same block, or a new one. -/
def AppPost (l : List Nat) (own : Option Nat) (w : World) (e : Ending) (w' : World) : Prop :=
  ∃ v' own', e = .returned v' ∧ Sl w' v' 5 1 l.length (u8s l) own' ∧ (own' = own ∨ ∃ q, own' = some q ∧ w.heap.size ≤ q) ∧ Kept (fun k => own = some k) w w'
def numL (n : Int) : List Nat := putL (zigM n).toNat
theorem numL_len (n : Int) : (numL n).length = zsz n := putL_len _
theorem u8s_app (a b : List Nat) : u8s (a ++ b) = u8s a ++ u8s b := by simp [u8s]

set_option maxRecDepth 100000 in
set_option maxHeartbeats 2000000 in
theorem number_calls (n : Int) (l : List Nat) (w : World) (v : Value) (own : Option Nat) (h : Sl w v 5 1 l.length (u8s l) own) (hl : l.length ≤ 10000) (h1 : -9223372036854775808 ≤ n) (h2 : n ≤ 9223372036854775807) :
    Calls Tryz.prog 194 #[v, .int .i64 n] w (AppPost (l ++ numL n) own w) := by
  have hz := zigM_bd n h1 h2
  have HZ := Lib.hid (fun W => zig_calls n W h1 h2)
  have HP := Lib.hid (fun W => put_calls (zigM n).toNat W (by omega))
  obtain ⟨s1, s2, -, -⟩ := sizeM_bd (zigM n).toNat (by omega)
  have hs10 : (numL n).length ≤ 10 := by rw [numL_len]; exact s2
  have e1 : (((zigM n).toNat : Nat) : Int) = zigM n := by omega
  rw [e1] at HP
  unfold PutPost at HP
  rw [show putL (zigM n).toNat = numL n from rfl, show sizeM (zigM n).toNat = (numL n).length from (numL_len n).symm] at HP
  obtain ⟨i0, hi, hz0, hz1, hz2⟩ := info_parts info8
  have HI := Lib.hid hi
  have HZ0 := Lib.hid hz0
  have HZ1 := Lib.hid hz1
  have HZ2 := Lib.hid hz2
  have H := Lib.hid h
  have hlt : ∀ g, own = some g → g < w.heap.size := fun g hg => h.lt hg
  have HLT := Lib.hid hlt
  have N1 : Hid (l.length + (numL n).length ≤ maxLen) := Lib.hid (by unfold maxLen; omega)
  have N2 : Hid ((l.length + (numL n).length) * 1 ≤ 140737488355328) := Lib.hid (by omega)
  have HO := Lib.hid (oneCell_u8s (numL n))
  have HLL := Lib.hid (u8s_len (numL n))
  generalize zigM n = z at *
  generalize numL n = t at *
  clear hz hi hz0 hz1 hz2 h hlt e1
  go_enter Tryz.func194, Tryz.ntmps194
  go_wp2_with fail
  refine (HZ.out _).mono ?_
  rintro e w1 ⟨rfl, rfl⟩
  go_wp2_with fail
  refine (HP.out _).mono ?_
  rintro e w2 ⟨v2, g2, rfl, hS2, hg2, hk2⟩
  obtain ⟨a2, cap2, rfl, -, -⟩ := hS2.form
  have HS2 := Lib.hid hS2.src
  have HK2 := Lib.hid hk2
  clear hS2 hk2
  go_wp2_with (at_builtin; refine wpList_append_sl _ rfl _ _ 23 rfl 5 i0 (.int .u8 0) 1 1 Tryz.underlying23 HI.out HZ0.out HZ1.out HZ2.out rfl _ l.length (u8s l) own rfl (H.out.kept HK2.out (fun _ _ h => h)) _ t.length (u8s t) rfl HS2.out (by rw [HLL.out, Nat.mul_one]) HO.out N1.out N2.out ?_; intro v3 w3 own3 hS3 ho3 hK3; have SA := Lib.hid hS3; have OA := Lib.hid ho3; have KA := Lib.hid hK3; clear hS3 ho3 hK3)
  go_ret
  have z2 := HK2.out.size
  refine ⟨_, own3, rfl, by rw [List.length_append, u8s_app]; exact SA.out, ?_, (HK2.out.mono (fun _ _ h => h.elim)).trans KA.out (fun _ h => .inl h)⟩
  rcases OA.out with e | e
  · exact .inl e
  · exact .inr ⟨_, e, z2⟩
end Go.Proofs.YtekdkckgmleofaaGreat

/- Contracts of package record's functions along the way of kind Put: numbers, writeAll. -/
namespace Go.Proofs.YtekdkckgmleofaaGreat
open Go.RowKit

/-- A record. -/
structure RecM where
  kind : Int
  id : Int
  p0 : Int
  p1 : Int
  p2 : Int
  v0 : Int
  v1 : Int
  v2 : Int
  ang : Nat
abbrev RecM.ns (r : RecM) : List Int := [r.p0, r.p1, r.p2, r.v0, r.v1, r.v2]
structure RecM.Ok (r : RecM) : Prop where
  ns : ∀ n ∈ r.ns, -9223372036854775808 ≤ n ∧ n ≤ 9223372036854775807
  ang : r.ang ≤ 65535
abbrev recC (r : RecM) : List Value := [.int .i64 r.kind, .int .i64 r.id, .int .i64 r.p0, .int .i64 r.p1, .int .i64 r.p2, .int .i64 r.v0, .int .i64 r.v1, .int .i64 r.v2, .int .u16 r.ang]
abbrev recV (r : RecM) : Value := .agg (recC r).toArray
abbrev ptrsV (q : Nat) : Value := .agg #[.pointer (some ⟨q, 2, none⟩), .pointer (some ⟨q, 3, none⟩), .pointer (some ⟨q, 4, none⟩), .pointer (some ⟨q, 5, none⟩), .pointer (some ⟨q, 6, none⟩), .pointer (some ⟨q, 7, none⟩)]
set_option maxRecDepth 100000 in
theorem numbers_calls (q : Nat) (w : World) :
    Calls Tryz.prog 126 #[.pointer (some ⟨q, 0, none⟩)] w fun e w' => e = .returned (ptrsV q) ∧ Kept (fun _ => False) w w' := by
  go_enter Tryz.func126, Tryz.ntmps126
  go_wp2_with fail
  refine region_tail 25 (by kernel_rfl) (by kernel_rfl) ?_
  simp only [List.take_succ_cons, List.take_zero, List.drop_succ_cons, List.drop_zero]
  repeat still_step
  refine wpStill_nil ?_
  go_wp2
  refine bodyPost_ret (v := ptrsV q) (by simp [results, Tryz.f126, Tryz.results126, go_sem]) rfl ⟨rfl, ((Kept.refl (fun _ => False) w).alloc _).drew⟩
theorem idxP (q k : Nat) (h : k < 6) (w : World) : (Instr.index 231 (ptrsV q) (.int .i64 k)).run Tryz.prog w = .ok (.pointer (some ⟨q, 2 + k, none⟩)) w := by
  rcases (by omega : k = 0 ∨ k = 1 ∨ k = 2 ∨ k = 3 ∨ k = 4 ∨ k = 5) with rfl | rfl | rfl | rfl | rfl | rfl <;> kernel_rfl
def allL (ns : List Int) : List Nat := ns.flatMap numL
theorem allL_step (ns : List Int) (k : Nat) (n : Int) (h : ns[k]? = some n) : allL (ns.take (k + 1)) = allL (ns.take k) ++ numL n := by
  unfold allL
  rw [List.take_add_one, h, List.flatMap_append]
  simp
theorem allL_len (ns : List Int) (h : ∀ n ∈ ns, -9223372036854775808 ≤ n ∧ n ≤ 9223372036854775807) : (allL ns).length ≤ 10 * ns.length := by
  induction ns with
  | nil => simp [allL]
  | cons n t ih =>
    have h1 := ih (fun m hm => h m (List.mem_cons_of_mem _ hm))
    have h2 := h n (List.mem_cons_self)
    have hz := zigM_bd n h2.1 h2.2
    obtain ⟨-, s2, -, -⟩ := sizeM_bd (zigM n).toNat (by omega)
    have h3 : (numL n).length ≤ 10 := by rw [numL_len]; exact s2
    have h4 : allL (n :: t) = numL n ++ allL t := by simp [allL]
    rw [h4, List.length_append, List.length_cons]
    omega
/-- The bytes of a record of kind Put behind its head. -/
def wholeL (r : RecM) : List Nat := allL r.ns ++ putL r.ang
structure WrI (l : List Nat) (own : Option Nat) (q : Nat) (w : World) (r : RecM) (k : Nat) (v : Value) (wr : World) (own2 : Option Nat) : Prop where
  sl : Sl wr v 5 1 (l ++ allL (r.ns.take k)).length (u8s (l ++ allL (r.ns.take k))) own2
  ow : own2 = own ∨ ∃ g, own2 = some g ∧ w.heap.size ≤ g
  rec_ : Blk wr q (recC r) 175
  kept : Kept (fun i => own = some i) w wr
set_option maxRecDepth 100000 in
set_option maxHeartbeats 2000000 in
theorem writeAll_calls (r : RecM) (hr : r.Ok) (q : Nat) (l : List Nat) (w : World) (v : Value) (own : Option Nat) (h : Sl w v 5 1 l.length (u8s l) own) (hl : l.length ≤ 5000) (hq : Blk w q (recC r) 175) (hne : own ≠ some q) :
    Calls Tryz.prog 170 #[v, .pointer (some ⟨q, 0, none⟩)] w (AppPost (l ++ wholeL r) own w) := by
  have HN := Lib.hid (numbers_calls q w)
  have hqs := hq.lt
  have HI0 : Hid (∀ W, Kept (fun _ => False) w W → WrI l own q w r 0 v W own) := Lib.hid (fun W hk => ⟨by
    rw [show l ++ allL (r.ns.take 0) = l from by simp [allL]]; exact h.kept hk (fun _ _ h => h), .inl rfl, hk.blk hq (fun h => h), hk.mono (fun _ _ h => h.elim)⟩)
  have HR := Lib.hid hr
  have HIX := idxP q
  clear h hq hr
  go_enter Tryz.func170, Tryz.ntmps170
  go_wp2_with fail
  refine (HN.out).mono ?_
  rintro e w1 ⟨rfl, hk1⟩
  have HI1 := Lib.hid (HI0.out _ hk1)
  clear HN HI0 hk1
  go_wp2_with fail
  go_loopw [0, 9] (fun u i wr => ∃ (k : Nat) (o : Option Nat) (x : Value), k ≤ 6 ∧ i = .int .i64 k ∧ u = x ∧ WrI l own q w r k x wr o) (fun _ i _ => (6 - intOf i).toNat)
  case atStart => exact ⟨0, own, _, by omega, rfl, rfl, HI1.out⟩
  case round =>
    obtain ⟨k, o, x, hk, rfl, hx, hI⟩ := hrel
    have hx2 := hx.symm
    clear hx
    subst hx2
    by_cases hlt : k < 6
    · have hix := idxP q k hlt
      obtain ⟨n, hn⟩ : ∃ n, r.ns[k]? = some n := ⟨_, List.getElem?_eq_getElem (by simpa using hlt)⟩
      have hb := HR.out.ns n (List.mem_of_getElem? hn)
      have hcell := hI.rec_.cell (i := 2 + k) (v := .int .i64 n) (by
        rcases (by omega : k = 0 ∨ k = 1 ∨ k = 2 ∨ k = 3 ∨ k = 4 ∨ k = 5) with rfl | rfl | rfl | rfl | rfl | rfl <;> (simp at hn; subst hn; rfl))
      have hlen := allL_len (r.ns.take k) (fun m hm => HR.out.ns m (List.mem_of_mem_take hm))
      rw [List.length_take] at hlen
      have HC := Lib.hid (number_calls n (l ++ allL (r.ns.take k)) wr _ o hI.sl (by rw [List.length_append]; omega) hb.1 hb.2)
      rw [List.append_assoc, ← allL_step _ _ _ hn] at HC
      have HJ := Lib.hid hI
      clear hI hlen hn hb
      go_wp2_with fail
      refine (HC.out).mono ?_
      rintro e w3 ⟨v3, o3, rfl, hS3, ho3, hK3⟩
      have HW : Hid (WrI l own q w r (k + 1) v3 w3 o3) := Lib.hid (by
        have z1 := HJ.out.kept.size
        have hoq : ∀ i, o = some i → own = some i ∨ w.heap.size ≤ i := by
          intro i hi
          rcases HJ.out.ow with e | ⟨g, e, hg⟩
          · exact .inl (by rw [← e]; exact hi)
          · rw [e] at hi; cases hi; exact .inr hg
        refine ⟨hS3, ?_, hK3.blk HJ.out.rec_ (fun e => ?_), HJ.out.kept.trans hK3 hoq⟩
        · rcases ho3 with e | ⟨g, e, hg⟩
          · rw [e]; exact HJ.out.ow
          · exact .inr ⟨g, e, by omega⟩
        · rcases hoq q e with h | h
          · exact hne h
          · omega)
      clear hS3 ho3 hK3
      go_wp2_with fail
      exact ⟨⟨k + 1, o3, _, by omega, by simp, rfl, HW.out⟩, by simp [intOf]; omega⟩
    · obtain rfl : k = 6 := by omega
      have hang : r.ang < 18446744073709551616 := by have := HR.out.ang; omega
      have hcell := hI.rec_.cell (i := 8) (v := .int .u16 r.ang) rfl
      have HP := Lib.hid (put_calls r.ang wr hang)
      have hlen := allL_len r.ns HR.out.ns
      have hs2 := (sizeM_bd r.ang hang).2.1
      rw [show r.ns.length = 6 from rfl] at hlen
      unfold PutPost at HP
      rw [show sizeM r.ang = (putL r.ang).length from (putL_len _).symm] at HP hs2
      obtain ⟨i0, hi, hz0, hz1, hz2⟩ := info_parts info8
      have HI := Lib.hid hi
      have HZ0 := Lib.hid hz0
      have HZ1 := Lib.hid hz1
      have HZ2 := Lib.hid hz2
      have HJ := Lib.hid hI
      have N1 : Hid ((l ++ allL r.ns).length + (putL r.ang).length ≤ maxLen) := Lib.hid (by unfold maxLen; rw [List.length_append]; omega)
      have N2 : Hid (((l ++ allL r.ns).length + (putL r.ang).length) * 1 ≤ 140737488355328) := Lib.hid (by rw [List.length_append]; omega)
      have HO := Lib.hid (oneCell_u8s (putL r.ang))
      have HLL := Lib.hid (u8s_len (putL r.ang))
      have HWH : Hid (l ++ wholeL r = (l ++ allL r.ns) ++ putL r.ang) := Lib.hid (by unfold wholeL; rw [List.append_assoc])
      have HS : Hid (Sl wr x 5 1 (l ++ allL r.ns).length (u8s (l ++ allL r.ns)) o) := Lib.hid hI.sl
      have hm1 : (65536 : Int) > r.ang := by have := HR.out.ang; omega
      generalize putL r.ang = t at *
      generalize l ++ allL r.ns = L at *
      obtain ⟨a0, cap0, hx, -, -⟩ := HS.out.form
      subst hx
      clear hI hlen hz0 hz1 hz2 hi
      go_wp2_with fail
      refine (HP.out).mono ?_
      rintro e w2 ⟨v2, g2, rfl, hS2, hg2, hk2⟩
      obtain ⟨a2, cap2, rfl, -, -⟩ := hS2.form
      have HS2 := Lib.hid hS2.src
      have HK2 := Lib.hid hk2
      clear hS2 hk2
      go_wp2_with (at_builtin; refine wpList_append_sl _ rfl _ _ 23 rfl 5 i0 (.int .u8 0) 1 1 Tryz.underlying23 HI.out HZ0.out HZ1.out HZ2.out rfl _ L.length (u8s L) o rfl (HS.out.kept HK2.out (fun _ _ h => h)) _ t.length (u8s t) rfl HS2.out (by rw [HLL.out, Nat.mul_one]) HO.out N1.out N2.out ?_; intro v3 w3 own3 hS3 ho3 hK3; have SA := Lib.hid hS3; have OA := Lib.hid ho3; have KA := Lib.hid hK3; clear hS3 ho3 hK3)
      go_ret
      have z1 := HJ.out.kept.size
      have z2 := HK2.out.size
      have hoq : ∀ i, o = some i → own = some i ∨ w.heap.size ≤ i := by
        intro i hi
        rcases HJ.out.ow with e | ⟨g, e, hg⟩
        · exact .inl (by rw [← e]; exact hi)
        · rw [e] at hi; cases hi; exact .inr hg
      refine ⟨_, own3, rfl, by rw [HWH.out, List.length_append, u8s_app]; exact SA.out, ?_, HJ.out.kept.trans ((HK2.out.mono (fun _ _ h => h.elim)).trans KA.out (fun _ h => .inl h)) hoq⟩
      rcases OA.out with e | e
      · rw [e]; exact HJ.out.ow
      · exact .inr ⟨_, e, by omega⟩
end Go.Proofs.YtekdkckgmleofaaGreat
