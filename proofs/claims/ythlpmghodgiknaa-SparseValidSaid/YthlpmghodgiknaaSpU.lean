/-
  The program's integers: division by one digit, shifts, the estimated digit.
-/
import Derived.Test.YthlpmghodgiknaaSpT
import Derived.Test.YthlpmghodgiknaaNum4
namespace Go.Proofs.Ythlpmghodgiknaa.C
open Go Go.Ev

section
variable (G : Pure) (ic : Inl) (n : Nat)

theorem w64_or {a b i z : Nat} (ha : a < 2 ^ i) (hb : b = 2 ^ i * z) (hs : a + b < 18446744073709551616) : IntKind.u64.wrap ((b % 2 ^ IntKind.u64.bits ||| a % 2 ^ IntKind.u64.bits : Nat) : Int) = ((b + a : Nat) : Int) := by
  show IntKind.u64.wrap ((b % 18446744073709551616 ||| a % 18446744073709551616 : Nat) : Int) = ((b + a : Nat) : Int)
  have h3 : b ||| a = b + a := by rw [hb, ← Nat.two_pow_add_eq_or_of_lt ha]
  rw [Nat.mod_eq_of_lt (by omega), Nat.mod_eq_of_lt (by omega), h3]
  exact wrapu64_id _ (by omega) (by omega)

theorem mid_get {α : Type} (A : List α) (y : α) (R : List α) : (A ++ y :: R)[A.length]? = some y := by
  rw [List.getElem?_append_right (Nat.le_refl _), Nat.sub_self]; rfl

/-! ### shrunk -/

theorem shrunk_loop (k : Nat) (hk : k < W32) (hk0 : k ≠ 0) (ds : List Nat) (hw : Wf ds) (hl : ds.length < 100000000) (reb own : List Nat) : ∀ i m, i ≤ ds.length → i < m →
    blockE (some c97_e0) 0 (iterK G ic n c97_k0 c97_b0Q m ⟨[(0, .sl 0 0 ds.length), (1, .int .u32 k), (5, .int .u64 (dv (ds.drop i) % k : Nat)), (6, .int .i64 ((i : Int) - 1))],
        [(0, { sz := 1, ty := 88, es := dg (ds.take i ++ dpad (ds.length - i) (dv (ds.drop i) / k)), refs := [] })], [], own, reb⟩) =
      some (.normal, ⟨[(5, .int .u64 (dv ds % k : Nat))], [(0, { sz := 1, ty := 88, es := dg (dpad ds.length (dv ds / k)), refs := [] })], [], own, reb⟩) := by
  intro i
  induction i with
  | zero =>
    intro m hi hm
    obtain ⟨m, rfl⟩ : ∃ i, m = i + 1 := ⟨m - 1, by omega⟩
    simp [iterK_succ]
  | succ i ih =>
    intro m hi hm
    obtain ⟨m, rfl⟩ : ∃ i, m = i + 1 := ⟨m - 1, by omega⟩
    have hil : i < ds.length := by omega
    have hd := wf_get hw hil
    obtain ⟨d, hde⟩ : ∃ d, d = ds[i] := ⟨_, rfl⟩
    rw [← hde] at hd
    obtain ⟨M', hM'⟩ : ∃ M', M' = dv (ds.drop (i + 1)) := ⟨_, rfl⟩
    have hM : dv (ds.drop i) = d + W32 * M' := by rw [drop_cons hil, dv, hde, hM']
    obtain ⟨s1, s2, s3⟩ := short_step (M' := M') hd hk hk0 (ds.length - (i + 1))
    have hr := Nat.mod_lt M' (show 0 < k by omega)
    obtain ⟨r, hrr⟩ : ∃ r, r = M' % k := ⟨_, rfl⟩
    rw [← hrr] at s1 s2 s3 hr
    obtain ⟨x, hx⟩ : ∃ x, x = (r * W32 + d) / k := ⟨_, rfl⟩
    obtain ⟨r', hr'⟩ : ∃ r', r' = (r * W32 + d) % k := ⟨_, rfl⟩
    rw [← hx] at s1 s3
    rw [← hr'] at s2
    have hr'k : r' < k := by rw [hr']; exact Nat.mod_lt _ (by omega)
    have e := ih m (by omega) (by omega)
    rw [hM, s2, show ds.length - i = ds.length - (i + 1) + 1 by omega, s1] at e
    rw [← hM', ← hrr]
    rw [← e]
    obtain ⟨T, hT⟩ : ∃ T, T = dpad (ds.length - (i + 1)) (M' / k) := ⟨_, rfl⟩
    rw [← hT]
    have hTl : T.length = ds.length - (i + 1) := by rw [hT, dpad_length]
    have htake : ds.take (i + 1) = ds.take i ++ [d] := by rw [List.take_succ_eq_append_getElem hil, ← hde]
    have hA : (ds.take i).length = i := by rw [List.length_take]; omega
    obtain ⟨A, hAe⟩ : ∃ A, A = ds.take i := ⟨_, rfl⟩
    rw [htake, ← hAe, List.append_assoc, List.singleton_append]
    rw [← hAe] at hA
    have gd : (dg (A ++ d :: T))[i]? = some [.int .u32 d] := by
      rw [dg, List.getElem?_map, ← hA, mid_get]; rfl
    have hset : (dg (A ++ d :: T)).set i [.int .u32 x] = dg (A ++ x :: T) := by rw [dg_set, ← hA, set_mid]
    obtain ⟨v, hv⟩ : ∃ v, v = r * W32 := ⟨_, rfl⟩
    have hvb : v ≤ 4294967294 * 4294967296 := by rw [hv]; exact Nat.mul_le_mul_right _ (by simp only [W32] at hk; omega)
    simp only [W32] at hd hk
    have w1 : IntKind.u64.wrap ((r : Int) * 4294967296) = (v : Int) := w64_nat (by rw [hv]; simp) (by omega)
    have w2 : IntKind.u64.wrap (d : Int) = (d : Int) := wrapu64_id _ (by omega) (by omega)
    have w3 := w64_or (a := d) (b := v) (i := 32) (z := r) (by simpa using hd) (by rw [hv, Nat.mul_comm]) (by omega)
    have w4 : IntKind.u64.wrap (k : Int) = (k : Int) := wrapu64_id _ (by omega) (by omega)
    have w5 : IntKind.u64.wrap (((v + d : Nat) : Int) / k) = (x : Int) := by
      have : ((v + d : Nat) : Int) / k = (x : Int) := by rw [hx, ← hv, Int.natCast_ediv]
      rw [this]; exact wrapu64_id _ (by omega) (by simp only [W32] at s3; omega)
    have w6 : IntKind.u32.wrap (x : Int) = (x : Int) := wrapu32_id _ (by omega) (by simp only [W32] at s3; omega)
    have w7 : ((v + d : Nat) : Int).tmod k = (r' : Int) := by
      rw [Int.tmod_eq_emod_of_nonneg (by omega), hr', ← hv, Int.natCast_emod]
    have w8 : IntKind.i64.wrap ((i : Int) - 1) = (i : Int) - 1 := wrap64_id _ (by omega) (by omega)
    have e1 : ((i + 1 : Nat) : Int) - 1 = i := by omega
    have k0 : ¬ (k : Int) = 0 := by omega
    have hlen : i < (dg (A ++ d :: T)).length := by simp; omega
    have hi2 : (i : Int) < ds.length := by omega
    rw [e1]
    simp only [Int.natCast_add] at w5 w7 w3
    have td : ((v : Int) + d).tdiv k = ((v : Int) + d) / k := Int.tdiv_eq_ediv_of_nonneg (by omega)
    have hget : (A ++ d :: T)[i]? = some d := by rw [← hA]; exact mid_get A d T
    simp [iterK_succ, gd, w1, w2, w3, w4, td, w5, w6, w7, w8, hk0, hset, hil, -dg_getElem]


def spShrunk : List AV → Option PRes
  | [.imm false 1 es, k] => match digOf (.imm false 1 es), u32Of k with
    | some ds, some k => if k ≠ 0 then some { val := .int .u32 (dv ds % k : Nat), objs := [{ sz := 1, ty := 88, es := dg (dpad ds.length (dv ds / k)), refs := [] }] } else none
    | _, _ => none
  | _ => none

theorem shrunk_run : ∀ args r, spShrunk args = some r → ∃ n, updF G ic n c97F 0 88 args = some r := by
  intro args r h
  unfold spShrunk at h
  split at h
  case h_2 => cases h
  rename_i es ka
  split at h
  case h_2 => cases h
  rename_i ds k hd hk
  obtain ⟨hk0, h1⟩ := of_ite h
  cases h1
  obtain ⟨nl, he, hw, hl⟩ := digOf_inv hd
  cases he
  obtain ⟨rfl, hkb⟩ := u32Of_inv hk
  obtain ⟨N, hN⟩ : ∃ N, N = ds.length + 1 := ⟨_, rfl⟩
  have e := shrunk_loop G ic N k (by simpa [W32] using hkb) hk0 ds hw hl [] [] ds.length N (Nat.le_refl _) (by omega)
  rw [List.drop_length, List.take_length, Nat.sub_self] at e
  simp [c97_e0, c97_k0, dv, dpad] at e
  have hm := Nat.mod_lt (dv ds) (show 0 < k by omega)
  have w1 : IntKind.i64.wrap ((ds.length : Int) - 1) = (ds.length : Int) - 1 := wrap64_id _ (by omega) (by omega)
  obtain ⟨r, hr⟩ : ∃ r, r = dv ds % k := ⟨_, rfl⟩
  rw [← hr] at hm ⊢
  have hr2 : (dv ds : Int) % k = (r : Int) := by rw [hr, Int.natCast_emod]
  rw [hr2] at e
  have w2 : IntKind.u32.wrap (r : Int) = (r : Int) := wrapu32_id _ (by omega) (by omega)
  refine ⟨N, ?_⟩
  simp [updF, updO, runF, w1, e, w2, dpad_length]

theorem shrunk_at {G : Pure} (hS : G 97 = spShrunk) {ds : List Nat} {k : Nat} (hw : Wf ds) (hl : ds.length < 100000000) (hk : k < 4294967296) (hk0 : k ≠ 0) :
    G 97 [.imm false 1 (dg ds), .int .u32 k] = some { val := .int .u32 (dv ds % k : Nat), objs := [{ sz := 1, ty := 88, es := dg (dpad ds.length (dv ds / k)), refs := [] }] } := by
  rw [hS]; simp only [spShrunk, digOf_dg hw hl, u32Of_mk hk]; rw [if_pos hk0]

/-! ### shifted -/

theorem shifted_loop (la : Bool) (a : List Nat) (r : Nat) (ha : Wf a) (hla : a.length < 99999000) (hr : r < 32) : ∀ d i s, i + d = a.length → s.length = a.length + 1 → Wf s → dv s = 2 ^ r * dv (a.take i) → dgt s i < 2 ^ r → (∀ j, i < j → dgt s j = 0) →
    ∃ s' : List Nat, s'.length = a.length + 1 ∧ Wf s' ∧ dv s' = 2 ^ r * dv a ∧ ∀ m, d < m →
      blockE (some c99_e0) 0 (iterK G ic n c99_k0 c99_b0Q m ⟨[(1, .int .i64 r), (5, .sl 1584192 0 (a.length + 1)), (13, .imm la 1 (dg a)), (14, .int .i64 a.length), (15, .int .i64 i)],
        [(1584192, { sz := 1, ty := 88, es := dg s, refs := [] })], [], [1584192], []⟩) =
        some (.normal, ⟨[(5, .sl 1584192 0 (a.length + 1))], [(1584192, { sz := 1, ty := 88, es := dg s', refs := [] })], [], [1584192], []⟩) := by
  intro d
  induction d with
  | zero =>
    intro i s hi hs hw hv _ _
    have e : i = a.length := by omega
    subst e
    rw [List.take_length] at hv
    refine ⟨s, hs, hw, hv, fun m hm => ?_⟩
    obtain ⟨m, rfl⟩ : ∃ i, m = i + 1 := ⟨m - 1, by omega⟩
    simp [iterK_succ]
  | succ d ih =>
    intro i s hi hs hw hv htop hz
    have hia : i < a.length := by omega
    have hA := wf_get ha hia
    obtain ⟨A, hAe⟩ : ∃ A, A = a[i] := ⟨_, rfl⟩
    rw [← hAe] at hA
    obtain ⟨z, p1, p2, p3, p4⟩ := shl_parts hr hA
    obtain ⟨x, hx⟩ : ∃ x, x = A * 2 ^ r := ⟨_, rfl⟩
    rw [← hx] at p1 p2 p4
    obtain ⟨q, hq⟩ : ∃ q, q = x % 4294967296 := ⟨_, rfl⟩
    obtain ⟨e, he⟩ : ∃ e, e = x / 4294967296 := ⟨_, rfl⟩
    have hq2 : q = 2 ^ r * z := by rw [hq]; exact p1
    have he2 : e < 2 ^ r := by rw [he]; exact p2
    have hiw : i < s.length := by omega
    have hiw1 : i + 1 < s.length := by omega
    obtain ⟨T, hT⟩ : ∃ T, T = s[i] := ⟨_, rfl⟩
    have hT2 : T < 2 ^ r := by rw [hT, ← dgt_get hiw]; exact htop
    have h31 : 2 ^ r ≤ 2147483648 := by
      have : 2 ^ r ≤ 2 ^ 31 := Nat.pow_le_pow_right (by decide) (by omega)
      simpa using this
    have hzero : s[i + 1] = 0 := by rw [← dgt_get hiw1]; exact hz _ (by omega)
    have hsum : T + q < 4294967296 := by rw [hq2]; simp only [W32] at p3; omega
    obtain ⟨t, ht⟩ : ∃ t, t = T + q := ⟨_, rfl⟩
    have hset1 := dv_set (ds := s) (j := i) (q := t) hiw
    have hset2 := dv_set (ds := s.set i t) (j := i + 1) (q := e) (by simpa using hiw1)
    have hz2 : (s.set i t)[i + 1]'(by simpa using hiw1) = 0 := by rw [List.getElem_set_ne (by omega)]; exact hzero
    rw [hz2, Nat.mul_zero, Nat.add_zero] at hset2
    rw [← hT] at hset1
    have hwt : Wf (s.set i t) := wf_set hw (by simp only [W32]; omega)
    have hwe : Wf ((s.set i t).set (i + 1) e) := wf_set hwt (by simp only [W32]; omega)
    have hqe : q + W32 * e = x := by simp only [W32]; omega
    obtain ⟨s', r1, r2, r3, r4⟩ := ih (i + 1) ((s.set i t).set (i + 1) e) (by omega) (by simpa using hs) hwe (by
      rw [hset2, dv_take_succ hia, ← hAe]
      have := shift_step (i := i) (w := 0) (r := r) (S := dv s) (S1 := dv (s.set i t)) (D := dv (a.take i)) (A := A) (T := T) (t := t) (q := q) (e := e) (x := x) (by rw [Nat.pow_zero, Nat.one_mul]; exact hv) hset1 (by omega) hqe hx
      rw [Nat.pow_zero, Nat.one_mul] at this
      exact this) (by
      rw [dgt_get (by simpa using hiw1), List.getElem_set_self]; exact he2) (fun j hj => by
      rw [dgt_set_ne (by omega), dgt_set_ne (by omega)]; exact hz j (by omega))
    refine ⟨s', r1, r2, r3, fun m hm => ?_⟩
    obtain ⟨m, rfl⟩ : ∃ i, m = i + 1 := ⟨m - 1, by omega⟩
    rw [← r4 m (by omega)]
    have ga := dg_get a i hia
    rw [← hAe] at ga
    have f4 : IntKind.u64.wrap (A : Int) = (A : Int) := wrapu64_id _ (by omega) (by simp only [W32] at hA; omega)
    have f5 : min r 64 = r := by omega
    have f6 : IntKind.u64.wrap ((A : Int) * 2 ^ r) = (x : Int) := w64_nat (by rw [hx]; simp) (by simp only [W32] at p4; omega)
    have f7 : IntKind.i64.wrap ((i : Int) + 1) = (i : Int) + 1 := wrap64_id _ (by omega) (by omega)
    have f10 : ((i : Int) + 1).toNat = i + 1 := by omega
    have f11 := w32_or hT2 hq2 hsum
    rw [← ht] at f11
    have f12 : IntKind.u32.wrap (e : Int) = (e : Int) := wrapu32_id _ (by omega) (by omega)
    have g2 : 0 ≤ (i : Int) + 1 := by omega
    have g3 : (i : Int) < (a.length : Int) + 1 := by omega
    have g4 : (i : Int) + 1 < (a.length : Int) + 1 := by omega
    have g5 : i < a.length + 1 := by omega
    have f0 : ¬ (r : Int) < 0 := by omega
    simp [iterK_succ, hia, ga, f0, f4, f5, f6, f7, f10, f11, f12, g2, g3, g4, g5, hs, ← hAe, ← hT, w32_nat hq, fdiv_nat he, dg_set]

def spShifted : List AV → Option PRes
  | [a, .int .i64 r] => match digOf a with
    | some ds => if 0 ≤ r ∧ r < 32 ∧ ds.length < 99999000 then some { val := .sl 0 0 (ds.length + 1), objs := [{ sz := 1, ty := 88, es := dg (dpad (ds.length + 1) (2 ^ r.toNat * dv ds)), refs := [] }] } else none
    | none => none
  | _ => none

theorem shifted_run : FSpec (fun args n => freshF G ic n c99F args) spShifted := by
  intro args r h
  unfold spShifted at h
  split at h
  case h_2 => cases h
  rename_i a r0
  split at h
  case h_2 => cases h
  rename_i ds hd
  obtain ⟨⟨hr0, hr1, hl⟩, h1⟩ := of_ite h
  cases h1
  obtain ⟨la, rfl, hw, _⟩ := digOf_inv hd
  obtain ⟨r, rfl⟩ : ∃ r : Nat, r0 = r := ⟨r0.toNat, by omega⟩
  obtain ⟨N, hN⟩ : ∃ N, N = ds.length + 1 := ⟨_, rfl⟩
  have hp : 0 < 2 ^ r := Nat.pow_pos (by decide)
  obtain ⟨s', r1, r2, r3, r4⟩ := shifted_loop G ic N la ds r hw hl (by omega) ds.length 0 (List.replicate (ds.length + 1) 0) (by omega) (by simp) (wf_replicate _) (by rw [dv_replicate]; simp [dv]) (by rw [dgt_replicate]; exact hp) (fun j _ => dgt_replicate _ j)
  have e := r4 N (by omega)
  simp [c99_e0, c99_k0] at e
  have hs := dpad_of r2 r1 r3
  have w1 : IntKind.i64.wrap ((ds.length : Int) + 1) = (ds.length : Int) + 1 := wrap64_id _ (by omega) (by omega)
  have w3 : ((ds.length : Int) + 1) * 4 ≤ 140737488355328 := by omega
  have w4 : 0 ≤ (ds.length : Int) + 1 := by omega
  have w6 : ((ds.length : Int) + 1).toNat = ds.length + 1 := by omega
  refine ⟨_, ⟨N, ?_⟩, rfl, rfl⟩
  simp only [Int.toNat_natCast]
  rw [← hs]
  simp [freshF, freshO, runF, w1, w3, w4, w6, dg_replicate, e, AV.dn]

theorem shifted_at {G : Pure} (hS : G 99 = spShifted) {la : Bool} {ds : List Nat} {r : Nat} (hw : Wf ds) (hl : ds.length < 99999000) (hr : r < 32) :
    G 99 [.imm la 1 (dg ds), .int .i64 r] = some { val := .sl 0 0 (ds.length + 1), objs := [{ sz := 1, ty := 88, es := dg (dpad (ds.length + 1) (2 ^ r * dv ds)), refs := [] }] } := by
  rw [hS]; simp only [spShifted, digOf_dg hw (show ds.length < 100000000 by omega)]; rw [if_pos ⟨by omega, by omega, hl⟩]; simp

/-! ### unshifted -/

theorem unshift_digit {ds : List Nat} (hw : Wf ds) {r : Nat} (hr : r < 32) (i : Nat) : dv ds / 2 ^ r / W32 ^ i % W32 = (dgt ds i + W32 * dgt ds (i + 1)) / 2 ^ r % W32 := by
  have e1 : dv ds / 2 ^ r / W32 ^ i = dv (ds.drop i) / 2 ^ r := by rw [dv_drop_div hw, Nat.div_div_eq_div_mul, Nat.div_div_eq_div_mul, Nat.mul_comm]
  rw [e1, dv_drop_dgt, dv_drop_dgt]
  obtain ⟨Y, hY⟩ : ∃ Y, Y = dv (ds.drop (i + 1 + 1)) := ⟨_, rfl⟩
  rw [← hY]
  have hp : 0 < 2 ^ r := Nat.pow_pos (by decide)
  have hW : W32 = 2 ^ r * 2 ^ (32 - r) := by rw [← Nat.pow_add, show r + (32 - r) = 32 by omega]
  have e2 : dgt ds i + W32 * (dgt ds (i + 1) + W32 * Y) = (dgt ds i + W32 * dgt ds (i + 1)) + 2 ^ r * (2 ^ (32 - r) * (W32 * Y)) := by
    rw [← Nat.mul_assoc (2 ^ r), ← hW, Nat.mul_add]; omega
  rw [e2, Nat.add_mul_div_left _ _ hp]
  rw [Nat.mul_left_comm, Nat.add_mul_mod_self_left]

theorem unshifted_loop (r : Nat) (hr : r < 32) (ds : List Nat) (hw : Wf ds) (hl : ds.length < 100000000) (own reb : List Nat) : ∀ d i m, i + d = ds.length → d < m →
    blockE (some c102_e0) 0 (iterK G ic n c102_k0 c102_b0Q m ⟨[(0, .sl 0 0 ds.length), (1, .int .i64 r), (7, .int .i64 ds.length), (8, .int .i64 i)],
        [(0, { sz := 1, ty := 88, es := dg (dpad i (dv ds / 2 ^ r) ++ ds.drop i), refs := [] })], [], own, reb⟩) =
      some (.normal, ⟨[], [(0, { sz := 1, ty := 88, es := dg (dpad ds.length (dv ds / 2 ^ r)), refs := [] })], [], own, reb⟩) := by
  intro d
  induction d with
  | zero =>
    intro i m hi hm
    obtain ⟨m, rfl⟩ : ∃ i, m = i + 1 := ⟨m - 1, by omega⟩
    have e : i = ds.length := by omega
    subst e
    simp [iterK_succ]
  | succ d ih =>
    intro i m hi hm
    obtain ⟨m, rfl⟩ : ∃ i, m = i + 1 := ⟨m - 1, by omega⟩
    have hil : i < ds.length := by omega
    have e := ih (i + 1) m (by omega) (by omega)
    rw [dpad_snoc, unshift_digit hw hr] at e
    obtain ⟨y, hy⟩ : ∃ y, y = dgt ds (i + 1) := ⟨_, rfl⟩
    obtain ⟨x, hx⟩ : ∃ x, x = dgt ds i := ⟨_, rfl⟩
    have hxb := dgt_lt hw i
    have hyb := dgt_lt hw (i + 1)
    rw [← hx] at hxb
    rw [← hy] at hyb
    rw [← hx, ← hy] at e
    obtain ⟨V, hV⟩ : ∃ V, V = x + W32 * y := ⟨_, rfl⟩
    rw [← hV] at e
    obtain ⟨q, hq⟩ : ∃ q, q = V / 2 ^ r % W32 := ⟨_, rfl⟩
    rw [← hq] at e
    rw [← e]
    obtain ⟨A, hA⟩ : ∃ A, A = dpad i (dv ds / 2 ^ r) := ⟨_, rfl⟩
    have hAl : A.length = i := by rw [hA, dpad_length]
    obtain ⟨R, hR⟩ : ∃ R, R = ds.drop (i + 1) := ⟨_, rfl⟩
    rw [← hA, ← hR, drop_cons hil, ← dgt_get hil, ← hx, ← hR, List.append_assoc, List.singleton_append]
    have gx : (dg (A ++ x :: R))[i]? = some [.int .u32 x] := by rw [dg, List.getElem?_map, ← hAl, mid_get]; rfl
    have hset : (dg (A ++ x :: R)).set i [.int .u32 q] = dg (A ++ q :: R) := by rw [dg_set, ← hAl, set_mid]
    have hRl : R.length = ds.length - (i + 1) := by rw [hR, List.length_drop]
    simp only [W32] at hxb hyb
    have w1 : IntKind.u64.wrap (x : Int) = (x : Int) := wrapu64_id _ (by omega) (by omega)
    have w2 : IntKind.i64.wrap ((i : Int) + 1) = (i : Int) + 1 := wrap64_id _ (by omega) (by omega)
    have f0 : ¬ (r : Int) < 0 := by omega
    have f5 : min r 64 = r := by omega
    have f10 : ((i : Int) + 1).toNat = i + 1 := by omega
    have g2 : 0 ≤ (i : Int) + 1 := by omega
    have hp : 0 < 2 ^ r := Nat.pow_pos (by decide)
    obtain ⟨D, hD⟩ : ∃ D, D = V / 2 ^ r := ⟨_, rfl⟩
    have fd : (V : Int).fdiv (2 ^ r) = (D : Int) := by
      rw [Int.fdiv_eq_ediv_of_nonneg _ (by exact_mod_cast Nat.zero_le _), hD]; simp
    have fq : IntKind.u32.wrap (D : Int) = (q : Int) := w32_nat (by rw [hq, ← hD])
    by_cases hlast : i + 1 < ds.length
    · have gy : (dg (A ++ x :: R))[i + 1]? = some [.int .u32 y] := by
        have : (A ++ x :: R)[i + 1]? = some y := by
          rw [List.getElem?_append_right (by omega), hAl, show i + 1 - i = 1 by omega, List.getElem?_cons_succ, hR, List.getElem?_drop, List.getElem?_eq_getElem (by omega), hy, dgt_get hlast]
        rw [dg, List.getElem?_map, this]; rfl
      have hl2 : (i : Int) + 1 < ds.length := by omega
      have w3 : IntKind.u64.wrap (y : Int) = (y : Int) := wrapu64_id _ (by omega) (by omega)
      obtain ⟨Y, hY⟩ : ∃ Y, Y = W32 * y := ⟨_, rfl⟩
      have w4 : IntKind.u64.wrap ((y : Int) * 4294967296) = (Y : Int) := w64_nat (by rw [hY]; simp only [W32]; omega) (by rw [hY]; simp only [W32]; omega)
      have w5 : IntKind.u64.wrap ((x % 2 ^ IntKind.u64.bits ||| Y % 2 ^ IntKind.u64.bits : Nat) : Int) = (V : Int) := by
        rw [Nat.or_comm, w64_or (i := 32) (z := y) (by simpa using hxb) (by rw [hY]) (by rw [hY]; simp only [W32]; omega), hV, hY, Nat.add_comm]
      simp [iterK_succ, hil, gx, gy, w1, w2, w3, w4, w5, f0, f5, f10, g2, hl2, hlast, fd, fq, hset, -dg_getElem]
    · have hl2 : ¬ ((i : Int) + 1 < ds.length) := by omega
      have hy0 : y = 0 := by rw [hy, dgt_end (by omega)]
      have hVx : V = x := by rw [hV, hy0, Nat.mul_zero, Nat.add_zero]
      rw [hVx] at fd
      simp [iterK_succ, hil, gx, w1, w2, f0, f5, f10, g2, hl2, fd, fq, hset, -dg_getElem]

def spUnshifted : List AV → Option PRes
  | [.imm false 1 es, .int .i64 r] => match digOf (.imm false 1 es) with
    | some ds => if 0 ≤ r ∧ r < 32 then some { val := .tup [], objs := [{ sz := 1, ty := 88, es := dg (dpad ds.length (dv ds / 2 ^ r.toNat)), refs := [] }] } else none
    | none => none
  | _ => none

theorem unshifted_run : ∀ args r, spUnshifted args = some r → ∃ n, updF G ic n c102F 0 88 args = some r := by
  intro args r h
  unfold spUnshifted at h
  split at h
  case h_2 => cases h
  rename_i es r0
  split at h
  case h_2 => cases h
  rename_i ds hd
  obtain ⟨⟨hr0, hr1⟩, h1⟩ := of_ite h
  cases h1
  obtain ⟨nl, he, hw, hl⟩ := digOf_inv hd
  cases he
  obtain ⟨r, rfl⟩ : ∃ r : Nat, r0 = r := ⟨r0.toNat, by omega⟩
  obtain ⟨N, hN⟩ : ∃ N, N = ds.length + 1 := ⟨_, rfl⟩
  have e := unshifted_loop G ic N r (by omega) ds hw hl [] [] ds.length 0 N (by omega) (by omega)
  simp [c102_e0, c102_k0, dpad] at e
  refine ⟨N, ?_⟩
  simp only [Int.toNat_natCast]
  simp [updF, updO, runF, e, dpad_length]

theorem unshifted_at {G : Pure} (hS : G 102 = spUnshifted) {ds : List Nat} {r : Nat} (hw : Wf ds) (hl : ds.length < 100000000) (hr : r < 32) :
    G 102 [.imm false 1 (dg ds), .int .i64 r] = some { val := .tup [], objs := [{ sz := 1, ty := 88, es := dg (dpad ds.length (dv ds / 2 ^ r)), refs := [] }] } := by
  rw [hS]; simp only [spUnshifted, digOf_dg hw hl]; rw [if_pos ⟨by omega, by omega⟩]; simp

end
end Go.Proofs.Ythlpmghodgiknaa.C
