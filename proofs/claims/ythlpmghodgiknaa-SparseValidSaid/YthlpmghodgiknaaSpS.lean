/-
  The reference's integers: bits and division.
-/
import Derived.Test.YthlpmghodgiknaaSpR
import Derived.Test.YthlpmghodgiknaaNum2
namespace Go.Proofs.Ythlpmghodgiknaa.C
open Go Go.Ev

section
variable (G : Pure) (ic : Inl) (n : Nat)

/-! ### bitLen -/

theorem fdiv2 {t e : Nat} (h : e = t / 2) : (t : Int).fdiv 2 = (e : Int) := by rw [Int.fdiv_eq_ediv_of_nonneg _ (by decide)]; omega
theorem fdiv2_nat (t : Nat) : (t : Int).fdiv 2 = ((t / 2 : Nat) : Int) := by rw [Int.fdiv_eq_ediv_of_nonneg _ (by decide)]; omega

theorem bits_loop : ∀ (x k m : Nat), x < W32 → k + bl x < 10000000000 → bl x < m →
    blockE (some c88_e0) 0 (iterK G ic n c88_k0 c88_b0Q m ⟨[(3, .int .i64 k), (4, .int .u32 x)], [], [], [], []⟩) = some (.normal, ⟨[(3, .int .i64 ((k + bl x : Nat) : Int))], [], [], [], []⟩) := by
  intro x
  induction x using Nat.strongRecOn with
  | _ x ih =>
    intro k m hx hk hm
    obtain ⟨m, rfl⟩ : ∃ i, m = i + 1 := ⟨m - 1, by omega⟩
    by_cases h : x = 0
    · subst h
      simp [iterK_succ, bl_zero]
    · have hp : 0 < x := by omega
      rw [bl_pos h] at hm hk ⊢
      have e := ih (x / 2) (by omega) (k + 1) m (by simp only [W32] at *; omega) (by omega) (by omega)
      have e2 : k + 1 + bl (x / 2) = k + (bl (x / 2) + 1) := by omega
      rw [e2] at e
      rw [← e]
      have w : IntKind.i64.wrap ((k : Int) + 1) = (k : Int) + 1 := wrap64_id _ (by omega) (by omega)
      simp [iterK_succ, hp, w, fdiv2_nat]

def spBitLen : List AV → Option PRes
  | [a] => (digOf a).map fun ds => { val := .int .i64 (bl (dv ds) : Nat) }
  | _ => none

theorem bitLen_run (hT : G 74 = spTrim) : FSpec (fun args n => pureF G ic n c88F args) spBitLen := by
  intro args r h
  unfold spBitLen at h
  split at h
  case h_2 => cases h
  rename_i a
  rw [Option.map_eq_some_iff] at h
  obtain ⟨ds, hd, rfl⟩ := h
  obtain ⟨nl, rfl, hw, hl⟩ := digOf_inv hd
  have t := trim_eq (nl := nl) hw hl
  rw [← hT] at t
  have hlen := digs_length_dv hw
  refine ⟨{ val := .int .i64 (bl (dv ds) : Nat) }, ⟨100, ?_⟩, rfl, rfl⟩
  by_cases h0 : dv ds = 0
  · simp [pureF, runF, t, dA, h0, digs_zero, dg_nil, bl_zero]
  · obtain ⟨k, hk⟩ : ∃ k, (digs (dv ds)).length = k + 1 := ⟨(digs (dv ds)).length - 1, by
      have : (digs (dv ds)).length ≠ 0 := fun e => h0 (digs_eq_nil.1 (List.eq_nil_of_length_eq_zero e))
      omega⟩
    have hkl : k < (digs (dv ds)).length := by omega
    have htop : (digs (dv ds))[k] ≠ 0 := digs_last (by omega)
    have hb := bl_dv (wf_digs _) hk htop
    rw [dv_digs] at hb
    have hlt := wf_get (wf_digs (dv ds)) hkl
    obtain ⟨N, hN⟩ : ∃ N, N = 100 := ⟨_, rfl⟩
    rw [← hN]
    obtain ⟨X, hX⟩ : ∃ X, X = (digs (dv ds))[k] := ⟨_, rfl⟩
    rw [← hX] at hb hlt
    have e := bits_loop G ic N X (32 * k) N hlt (by have := bl_digit hlt; omega) (by have := bl_digit hlt; omega)
    rw [← hb] at e
    simp [c88_e0, c88_k0] at e
    have g := dg_get _ k hkl
    rw [← hX] at g
    have w1 : IntKind.i64.wrap (k : Int) = (k : Int) := wrap64_id _ (by omega) (by omega)
    have w2 : IntKind.i64.wrap (32 * (k : Int)) = 32 * (k : Int) := wrap64_id _ (by omega) (by omega)
    have hne : ¬ (k : Int) + 1 = 0 := by omega
    simp [pureF, runF, t, dA, hk, hne, w1, w2, ← hX, e]

theorem bitLen_eq {nl : Bool} {ds : List Nat} (h : Wf ds) (hl : ds.length < 100000000) : spBitLen [.imm nl 1 (dg ds)] = some { val := .int .i64 (bl (dv ds) : Nat) } := by simp [spBitLen, digOf_dg h hl]


/-! ### half -/

theorem w32_or {a b i z : Nat} (ha : a < 2 ^ i) (hb : b = 2 ^ i * z) (hs : a + b < 4294967296) : IntKind.u32.wrap ((a % 2 ^ IntKind.u32.bits ||| b % 2 ^ IntKind.u32.bits : Nat) : Int) = ((a + b : Nat) : Int) := by
  show IntKind.u32.wrap ((a % 4294967296 ||| b % 4294967296 : Nat) : Int) = ((a + b : Nat) : Int)
  have h3 : a ||| b = a + b := by
    rw [hb, Nat.or_comm, ← Nat.two_pow_add_eq_or_of_lt ha]; omega
  rw [Nat.mod_eq_of_lt (by omega), Nat.mod_eq_of_lt (by omega), h3]
  exact wrapu32_id _ (by omega) (by omega)

theorem half_loop (hD : G 87 = spDigit) (la : Bool) (a : List Nat) (ha : Wf a) (hla : a.length < 100000000) : ∀ d i s, i + d = a.length → s.length = a.length → Wf s →
    2 * dv (s.take i) + dgt a 0 % 2 = dv (a.take i) + W32 ^ i * (dgt a i % 2) →
    ∃ s', s'.length = a.length ∧ Wf s' ∧ 2 * dv s' + dgt a 0 % 2 = dv a ∧ ∀ m, d < m →
      blockE (some c90_e0) 0 (iterK G ic n c90_k0 c90_b0Q m ⟨[(0, .imm la 1 (dg a)), (3, .sl 1440112 0 a.length), (4, .int .i64 i)],
        [(1440112, { sz := 1, ty := 88, es := dg s, refs := [] })], [], [1440112], []⟩) =
        some (.normal, ⟨[(3, .sl 1440112 0 a.length)], [(1440112, { sz := 1, ty := 88, es := dg s', refs := [] })], [], [1440112], []⟩) := by
  intro d
  induction d with
  | zero =>
    intro i s hi hs hw hv
    have e : i = a.length := by omega
    subst e
    rw [dgt_end (Nat.le_refl _), List.take_length, List.take_of_length_le (by omega), Nat.zero_mod, Nat.mul_zero, Nat.add_zero] at hv
    refine ⟨s, hs, hw, hv, fun m hm => ?_⟩
    obtain ⟨m, rfl⟩ : ∃ i, m = i + 1 := ⟨m - 1, by omega⟩
    simp [iterK_succ]
  | succ d ih =>
    intro i s hi hs hw hv
    have hia : i < a.length := by omega
    have his : i < s.length := by omega
    have hA := wf_get ha hia
    have hB := dgt_lt ha (i + 1)
    simp only [W32] at hA hB
    obtain ⟨A, hAe⟩ : ∃ A, A = a[i] := ⟨_, rfl⟩
    have hdA : dgt a i = A := by rw [dgt_get hia, hAe]
    rw [← hAe] at hA
    obtain ⟨B, hBe⟩ : ∃ B, B = dgt a (i + 1) := ⟨_, rfl⟩
    rw [← hBe] at hB
    obtain ⟨u, hu⟩ : ∃ u, u = B * 2147483648 := ⟨_, rfl⟩
    obtain ⟨q, hq⟩ : ∃ q, q = u % 4294967296 := ⟨_, rfl⟩
    have hq2 : q = 2 ^ 31 * (B % 2) := by simp only [Nat.reducePow]; omega
    obtain ⟨H, hH⟩ : ∃ H, H = A / 2 := ⟨_, rfl⟩
    have hsum : H + q < 4294967296 := by simp only [Nat.reducePow] at hq2; omega
    obtain ⟨t, ht⟩ : ∃ t, t = H + q := ⟨_, rfl⟩
    have hstep : 2 * t + A % 2 = A + W32 * (B % 2) := by simp only [W32, Nat.reducePow] at *; omega
    obtain ⟨s', r1, r2, r3, r4⟩ := ih (i + 1) (s.set i t) (by omega) (by simpa using hs) (wf_set hw (by simp only [W32]; omega)) (by
      rw [dv_take_set his, dv_take_dgt a, hdA, Nat.pow_succ, Nat.mul_assoc, ← hBe]
      rw [hdA] at hv
      exact half_step hv hstep)
    refine ⟨s', r1, r2, r3, fun m hm => ?_⟩
    obtain ⟨m, rfl⟩ : ∃ i, m = i + 1 := ⟨m - 1, by omega⟩
    rw [← r4 m (by omega)]
    have da := digit_eq (la := la) ha hla (i + 1)
    rw [← hD, ← hBe] at da
    have e1 : ((i + 1 : Nat) : Int) = (i : Int) + 1 := by omega
    rw [e1] at da
    have w1 : IntKind.i64.wrap ((i : Int) + 1) = (i : Int) + 1 := wrap64_id _ (by omega) (by omega)
    have w2 : IntKind.u64.wrap ((B : Int) * 2147483648) = (u : Int) := w64_nat (by omega) (by omega)
    have w3 := w32_or (a := H) (b := q) (i := 31) (by simp only [Nat.reducePow]; omega) hq2 hsum
    rw [← ht] at w3
    simp [iterK_succ, hia, da, w1, w2, w32_nat hq, ← hAe, fdiv2 hH, dg_set, hs, w3]


def spHalf : List AV → Option PRes
  | [a] => (digOf a).map fun ds => { val := dA (digs (dv ds / 2)) }
  | _ => none

theorem half_run (hT : G 74 = spTrim) (hD : G 87 = spDigit) : FSpec (fun args n => pureF G ic n c90F args) spHalf := by
  intro args r h
  unfold spHalf at h
  split at h
  case h_2 => cases h
  rename_i a
  rw [Option.map_eq_some_iff] at h
  obtain ⟨x, hd, rfl⟩ := h
  obtain ⟨la, rfl, hw, hl⟩ := digOf_inv hd
  obtain ⟨N, hN⟩ : ∃ N, N = x.length + 1 := ⟨_, rfl⟩
  obtain ⟨s', r1, r2, r3, r4⟩ := half_loop G ic N hD la x hw hl x.length 0 (List.replicate x.length 0) (by omega) (by simp) (wf_replicate _) (by simp [dv])
  have hv : dv s' = dv x / 2 := by omega
  have t := trim_eq (nl := false) r2 (by omega)
  rw [← hT] at t
  have e := r4 N (by omega)
  simp [c90_e0, c90_k0] at e
  refine ⟨{ val := dA (digs (dv s')) }, ⟨N, ?_⟩, rfl, by rw [hv]; exact (weak_dA _ _).symm⟩
  have w3 : (x.length : Int) * 4 ≤ 140737488355328 := by omega
  have hk2 : x.length ≤ s'.length := by omega
  have hk3 : (dg s').take x.length = dg s' := by rw [← r1, take_dg]
  simp [pureF, runF, w3, dg_replicate, e, hk2, hk3, t, dA]

theorem half_eq {nl : Bool} {ds : List Nat} (h : Wf ds) (hl : ds.length < 100000000) : spHalf [.imm nl 1 (dg ds)] = some { val := dA (digs (dv ds / 2)) } := by simp [spHalf, digOf_dg h hl]


/-! ### shift -/

theorem shift_loop (la : Bool) (a : List Nat) (N w r L : Nat) (ha : Wf a) (hL : L = a.length + w + 1) (hLb : L < 100000000) (hr : r < 32) (hN : N = 32 * w + r) : ∀ d i s, i + d = a.length → s.length = L → Wf s → dv s = W32 ^ w * (2 ^ r * dv (a.take i)) → dgt s (i + w) < 2 ^ r → (∀ j, i + w < j → dgt s j = 0) →
    ∃ s', s'.length = L ∧ Wf s' ∧ dv s' = W32 ^ w * (2 ^ r * dv a) ∧ ∀ m, d < m →
      blockE (some c89_e0) 0 (iterK G ic n c89_k0 c89_b0Q m ⟨[(0, .imm la 1 (dg a)), (1, .int .i64 N), (5, .sl 1424224 0 L), (6, .int .i64 i)],
        [(1424224, { sz := 1, ty := 88, es := dg s, refs := [] })], [], [1424224], []⟩) =
        some (.normal, ⟨[(5, .sl 1424224 0 L)], [(1424224, { sz := 1, ty := 88, es := dg s', refs := [] })], [], [1424224], []⟩) := by
  intro d
  induction d with
  | zero =>
    intro i s hi hs hw hv _ _
    have e : i = a.length := by omega
    subst e
    rw [List.take_length] at hv
    refine ⟨s, hs, hw, hv, fun m hm => ?_⟩
    obtain ⟨m, rfl⟩ : ∃ i, m = i + 1 := ⟨m - 1, by omega⟩
    simp [iterK_succ]
  | succ d ih =>
    intro i s hi hs hw hv htop hz
    have hia : i < a.length := by omega
    have hA := wf_get ha hia
    obtain ⟨A, hAe⟩ : ∃ A, A = a[i] := ⟨_, rfl⟩
    rw [← hAe] at hA
    obtain ⟨z, p1, p2, p3, p4⟩ := shl_parts hr hA
    obtain ⟨x, hx⟩ : ∃ x, x = A * 2 ^ r := ⟨_, rfl⟩
    rw [← hx] at p1 p2 p4
    obtain ⟨q, hq⟩ : ∃ q, q = x % 4294967296 := ⟨_, rfl⟩
    obtain ⟨e, he⟩ : ∃ e, e = x / 4294967296 := ⟨_, rfl⟩
    have hq2 : q = 2 ^ r * z := by rw [hq]; exact p1
    have he2 : e < 2 ^ r := by rw [he]; exact p2
    have hiw : i + w < s.length := by omega
    have hiw1 : i + w + 1 < s.length := by omega
    obtain ⟨T, hT⟩ : ∃ T, T = s[i + w] := ⟨_, rfl⟩
    have hT2 : T < 2 ^ r := by rw [hT, ← dgt_get hiw]; exact htop
    have h31 : 2 ^ r ≤ 2147483648 := by
      have : 2 ^ r ≤ 2 ^ 31 := Nat.pow_le_pow_right (by decide) (by omega)
      simpa using this
    have hzero : s[i + w + 1] = 0 := by rw [← dgt_get hiw1]; exact hz _ (by omega)
    have hsum : T + q < 4294967296 := by rw [hq2]; simp only [W32] at p3; omega
    obtain ⟨t, ht⟩ : ∃ t, t = T + q := ⟨_, rfl⟩
    have hset1 := dv_set (ds := s) (j := i + w) (q := t) hiw
    have hset2 := dv_set (ds := s.set (i + w) t) (j := i + w + 1) (q := e) (by simpa using hiw1)
    have hz2 : (s.set (i + w) t)[i + w + 1]'(by simpa using hiw1) = 0 := by rw [List.getElem_set_ne (by omega)]; exact hzero
    rw [hz2, Nat.mul_zero, Nat.add_zero] at hset2
    rw [← hT] at hset1
    have hwt : Wf (s.set (i + w) t) := wf_set hw (by simp only [W32]; omega)
    have hwe : Wf ((s.set (i + w) t).set (i + w + 1) e) := wf_set hwt (by simp only [W32]; omega)
    have hqe : q + W32 * e = x := by simp only [W32]; omega
    obtain ⟨s', r1, r2, r3, r4⟩ := ih (i + 1) ((s.set (i + w) t).set (i + w + 1) e) (by omega) (by simpa using hs) hwe (by
      rw [hset2, dv_take_succ hia, ← hAe]
      exact shift_step hv hset1 (by omega) hqe hx) (by
      rw [show i + 1 + w = i + w + 1 by omega, dgt_get (by simpa using hiw1), List.getElem_set_self]; exact he2) (fun j hj => by
      rw [dgt_set_ne (by omega), dgt_set_ne (by omega)]; exact hz j (by omega))
    refine ⟨s', r1, r2, r3, fun m hm => ?_⟩
    obtain ⟨m, rfl⟩ : ∃ i, m = i + 1 := ⟨m - 1, by omega⟩
    rw [← r4 m (by omega)]
    have f1 : IntKind.i64.wrap ((N : Int) / 32) = (w : Int) := by
      have : (N : Int) / 32 = (w : Int) := by omega
      rw [this]; exact wrap64_id _ (by omega) (by omega)
    have f2 : (N : Int).tmod 32 = (r : Int) := by rw [Int.tmod_eq_emod_of_nonneg (by omega)]; omega
    have f3 : IntKind.u64.wrap (r : Int) = (r : Int) := wrapu64_id _ (by omega) (by omega)
    have f4 : IntKind.u64.wrap (A : Int) = (A : Int) := wrapu64_id _ (by omega) (by simp only [W32] at hA; omega)
    have f5 : min r 64 = r := by omega
    have f6 : IntKind.u64.wrap ((A : Int) * 2 ^ r) = (x : Int) := w64_nat (by rw [hx]; simp) (by simp only [W32] at p4; omega)
    have f7 : IntKind.i64.wrap ((i : Int) + w) = (i : Int) + w := wrap64_id _ (by omega) (by omega)
    have f8 : ((i : Int) + w).toNat = i + w := by omega
    have f9 : IntKind.i64.wrap ((i : Int) + w + 1) = (i : Int) + w + 1 := wrap64_id _ (by omega) (by omega)
    have f10 : ((i : Int) + w + 1).toNat = i + w + 1 := by omega
    have f11 := w32_or hT2 hq2 hsum
    rw [← ht] at f11
    have f12 : IntKind.u32.wrap (e : Int) = (e : Int) := wrapu32_id _ (by omega) (by omega)
    have f13 : IntKind.i64.wrap ((i : Int) + 1) = (i : Int) + 1 := wrap64_id _ (by omega) (by omega)
    have g1 : 0 ≤ (i : Int) + w := by omega
    have g2 : 0 ≤ (i : Int) + w + 1 := by omega
    have g3 : (i : Int) + w < L := by omega
    have g4 : (i : Int) + w + 1 < L := by omega
    have g5 : i + w < L := by omega
    have g6 : i + w + 1 < L := by omega
    have f0 : ¬ (r : Int) < 0 := by omega
    simp [iterK_succ, hia, f0, f1, f2, f3, f4, f5, f6, f7, f8, f9, f10, f11, f12, f13, g1, g2, g3, g4, g5, g6, hs, ← hAe, ← hT, w32_nat hq, fdiv_nat he, dg_set]


def spShift : List AV → Option PRes
  | [a, .int .i64 N] => match digOf a with | some x => if 0 ≤ N ∧ (x.length : Int) + N / 32 + 1 < 100000000 then some { val := dA (digs (2 ^ N.toNat * dv x)) } else none | none => none
  | _ => none

theorem shift_run (hT : G 74 = spTrim) : FSpec (fun args n => pureF G ic n c89F args) spShift := by
  intro args r h
  unfold spShift at h
  split at h
  case h_2 => cases h
  rename_i a N0
  split at h
  case h_2 => cases h
  rename_i x hx
  obtain ⟨⟨hN0, hNb⟩, h1⟩ := of_ite h
  clear h
  cases h1
  obtain ⟨la, rfl, hwa, hla⟩ := digOf_inv hx
  obtain ⟨N, rfl⟩ : ∃ N : Nat, N0 = N := ⟨N0.toNat, by omega⟩
  obtain ⟨w, hw⟩ : ∃ w, w = N / 32 := ⟨_, rfl⟩
  obtain ⟨q, hq⟩ : ∃ q, q = N % 32 := ⟨_, rfl⟩
  obtain ⟨L, hL⟩ : ∃ L, L = x.length + w + 1 := ⟨_, rfl⟩
  obtain ⟨M, hM⟩ : ∃ M, M = x.length + 1 := ⟨_, rfl⟩
  have hp : 0 < 2 ^ q := Nat.pow_pos (by decide)
  obtain ⟨s', r1, r2, r3, r4⟩ := shift_loop G ic M la x N w q L hwa hL (by omega) (by omega) (by omega) x.length 0 (List.replicate L 0) (by omega) (by simp) (wf_replicate _) (by rw [dv_replicate, List.take_zero, dv, Nat.mul_zero, Nat.mul_zero]) (by rw [dgt_replicate]; exact hp) (fun j _ => dgt_replicate _ j)
  have hv : dv s' = 2 ^ N * dv x := by
    rw [r3, W32_pow, ← Nat.mul_assoc, ← Nat.pow_add]
    congr 2
    omega
  have t := trim_eq (nl := false) r2 (by omega)
  rw [← hT] at t
  have e := r4 M (by omega)
  simp [c89_e0, c89_k0] at e
  refine ⟨{ val := dA (digs (dv s')) }, ⟨M, ?_⟩, rfl, by rw [hv]; exact (weak_dA _ _).symm⟩
  have f1 : IntKind.i64.wrap ((N : Int) / 32) = (w : Int) := by
    have : (N : Int) / 32 = (w : Int) := by omega
    rw [this]; exact wrap64_id _ (by omega) (by omega)
  have f2 : IntKind.i64.wrap ((x.length : Int) + w) = (x.length : Int) + w := wrap64_id _ (by omega) (by omega)
  have f3 : IntKind.i64.wrap ((x.length : Int) + w + 1) = (L : Int) := by rw [wrap64_id _ (by omega) (by omega)]; omega
  have f4 : (L : Int) * 4 ≤ 140737488355328 := by omega
  have hk2 : L ≤ s'.length := by omega
  have hk3 : (dg s').take L = dg s' := by rw [← r1, take_dg]
  simp [pureF, runF, f1, f2, f3, f4, dg_replicate, e, hk2, hk3, t, dA]


/-! ### divDigits -/

theorem cmp_digs (hC : G 72 = spCompareDigits) {x y : Nat} {lx ly : Bool} (hx : (digs x).length < 100000000) (hy : (digs y).length < 100000000) :
    G 72 [.imm lx 1 (dg (digs x)), .imm ly 1 (dg (digs y))] = some { val := .int .i64 (cmpI x y) } := by
  rw [hC, compareDigits_eq (wf_digs _) (wf_digs _) hx hy, dv_digs, dv_digs]

theorem sub_digs (hS : G 73 = spSubDigits) {x y : Nat} {lx ly : Bool} (hx : (digs x).length < 100000000) (hy : (digs y).length < 100000000) (h : y ≤ x) :
    G 73 [.imm lx 1 (dg (digs x)), .imm ly 1 (dg (digs y))] = some { val := dA (digs (x - y)) } := by
  rw [hS, subDigits_eq (wf_digs _) (wf_digs _) hx hy (by rw [dv_digs, dv_digs]; exact h), dv_digs, dv_digs]

theorem half_digs (hH : G 90 = spHalf) {x : Nat} {lx : Bool} (hx : (digs x).length < 100000000) :
    G 90 [.imm lx 1 (dg (digs x))] = some { val := dA (digs (x / 2)) } := by
  rw [hH, half_eq (wf_digs _) hx, dv_digs]


theorem cmp_ge {x y : Nat} : (0 ≤ cmpI x y) ↔ y ≤ x := by
  unfold cmpI
  split
  · constructor <;> intro h <;> omega
  · split <;> constructor <;> intro h <;> omega

theorem div_loop_imm (hC : G 72 = spCompareDigits) (hS : G 73 = spSubDigits) (hH : G 90 = spHalf) (a b X E L : Nat) (rs0 : List Nat) (F own reb : List Nat) (hF : 1216400 ∉ F)
    (hX : X < W32 ^ E) (hE : E < 100000000) (hL : L < 100000000) : ∀ k m r q, k ≤ 32 * L → r < b * 2 ^ k → r ≤ X → b * 2 ^ k ≤ X → q.length = L → Wf q → (∃ Z, dv q = 2 ^ k * Z) → a = b * dv q + r → k < m →
    ∃ q' r', q'.length = L ∧ Wf q' ∧ r' < b ∧ a = b * dv q' + r' ∧
      blockE (some c76_e0) 0 (iterK G ic n c76_k0 c76_b0Q m ⟨[(6, .imm false 1 (dg (digs r))), (8, .sl 1216400 0 L), (9, .imm false 1 (dg (digs (b * 2 ^ k / 2)))), (10, .int .i64 ((k : Int) - 1))],
        [(1216208, { sz := 1, ty := 88, es := dg rs0, refs := [] }), (1216400, { sz := 1, ty := 88, es := dg q, refs := [] })], F, own, reb⟩) =
        some (.normal, ⟨[(6, .imm false 1 (dg (digs r'))), (8, .sl 1216400 0 L)], [(1216208, { sz := 1, ty := 88, es := dg rs0, refs := [] }), (1216400, { sz := 1, ty := 88, es := dg q', refs := [] })], F, own, reb⟩) := by
  intro k
  induction k with
  | zero =>
    intro m r q hk hr hrX hbX hq hw hZ ha hm
    obtain ⟨m, rfl⟩ : ∃ i, m = i + 1 := ⟨m - 1, by omega⟩
    refine ⟨q, r, hq, hw, by simpa using hr, ha, ?_⟩
    simp [iterK_succ]
  | succ k ih =>
    intro m r q hk hr hrX hbX hq hw hZ ha hm
    obtain ⟨m, rfl⟩ : ∃ i, m = i + 1 := ⟨m - 1, by omega⟩
    obtain ⟨Z, hZ⟩ := hZ
    have hp2 : b * 2 ^ (k + 1) = 2 * (b * 2 ^ k) := by rw [Nat.pow_succ]; rw [← Nat.mul_assoc, Nat.mul_comm]
    obtain ⟨D, hD⟩ : ∃ D, D = b * 2 ^ k := ⟨_, rfl⟩
    rw [← hD] at hp2
    have hD2 : b * 2 ^ (k + 1) / 2 = D := by omega
    have lr := len_of_le hrX hX hE
    have lD := len_of_le (n := D) (by omega) hX hE
    have tc := cmp_digs G hC (lx := false) (ly := false) lr lD
    have th := half_digs G hH (lx := false) lD
    have e1 : ((k + 1 : Nat) : Int) - 1 = k := by omega
    have w1 : IntKind.i64.wrap ((k : Int) - 1) = (k : Int) - 1 := wrap64_id _ (by omega) (by omega)
    rw [hD2, e1]
    by_cases hc : D ≤ r
    · obtain ⟨j, hj⟩ : ∃ j, j = k / 32 := ⟨_, rfl⟩
      obtain ⟨e, he⟩ : ∃ e, e = k % 32 := ⟨_, rfl⟩
      have hjq : j < q.length := by omega
      obtain ⟨z, hz⟩ := dgt_mul hw hZ
      rw [← hj, ← he, dgt_get hjq] at hz
      obtain ⟨T, hT⟩ : ∃ T, T = q[j] := ⟨_, rfl⟩
      obtain ⟨P, hP⟩ : ∃ P, P = 2 ^ e := ⟨_, rfl⟩
      rw [← hT] at hz
      have hTb : T < W32 := by rw [hT]; exact wf_get hw hjq
      obtain ⟨t, ht⟩ : ∃ t, t = P + T := ⟨_, rfl⟩
      have hPT : P + T < 4294967296 := by
        have h1 : W32 = 2 ^ (e + 1) * 2 ^ (31 - e) := by rw [← Nat.pow_add, show e + 1 + (31 - e) = 32 by omega]
        have h2 : 2 ^ (e + 1) * z < 2 ^ (e + 1) * 2 ^ (31 - e) := by rw [← hz, ← h1]; exact hTb
        have h3 : z < 2 ^ (31 - e) := Nat.lt_of_mul_lt_mul_left h2
        have h4 : 2 ^ (e + 1) * (z + 1) ≤ 2 ^ (e + 1) * 2 ^ (31 - e) := Nat.mul_le_mul_left _ h3
        rw [Nat.mul_add, Nat.mul_one, ← hz, ← h1, Nat.pow_succ, ← hP] at h4
        simp only [W32] at h4
        have : 0 < P := by rw [hP]; exact Nat.pow_pos (by decide)
        omega
      have hset := dv_set (ds := q) (j := j) (q := t) hjq
      rw [← hT] at hset
      have hdq : dv (q.set j t) = dv q + 2 ^ k := by
        have h1 : W32 ^ j * P = 2 ^ k := by rw [W32_pow, hP, ← Nat.pow_add]; congr 1; omega
        have h2 : W32 ^ j * t = W32 ^ j * P + W32 ^ j * T := by rw [ht, Nat.mul_add]
        omega
      obtain ⟨q', r', p1, p2, p3, p4, p5⟩ := ih m (r - D) (q.set j t) (by omega) (by omega) (by omega) (by omega) (by simpa using hq) (wf_set hw (by simp only [W32]; omega)) ⟨2 * Z + 1, by rw [hdq, hZ, Nat.pow_succ, Nat.mul_add, Nat.mul_one, Nat.mul_assoc]⟩ (by
        rw [hdq, Nat.mul_add, ← hD]; omega) (by omega)
      refine ⟨q', r', p1, p2, p3, p4, ?_⟩
      rw [← p5, ← hD]
      have ts := sub_digs G hS (lx := false) (ly := false) lr lD hc
      have hpos : 0 ≤ cmpI r D := cmp_ge.2 hc
      have f1 : IntKind.i64.wrap ((k : Int) / 32) = (j : Int) := by
        have : (k : Int) / 32 = (j : Int) := by omega
        rw [this]; exact wrap64_id _ (by omega) (by omega)
      have f2 : (k : Int).tmod 32 = (e : Int) := by rw [Int.tmod_eq_emod_of_nonneg (by omega)]; omega
      have f3 : IntKind.u64.wrap (e : Int) = (e : Int) := wrapu64_id _ (by omega) (by omega)
      have f0 : ¬ (e : Int) < 0 := by omega
      have f5 : min e 32 = e := by omega
      have f6 : IntKind.u32.wrap (2 ^ e : Int) = (P : Int) := by rw [show (2 ^ e : Int) = (P : Int) by rw [hP]; simp]; exact wrapu32_id _ (by omega) (by omega)
      have f7 : IntKind.u32.wrap ((T % 2 ^ IntKind.u32.bits ||| P % 2 ^ IntKind.u32.bits : Nat) : Int) = (t : Int) := by
        rw [Nat.or_comm, w32_or (i := e + 1) (z := z) (by rw [hP, Nat.pow_succ]; have := Nat.pow_pos (n := e) (show 0 < 2 by decide); omega) hz hPT, ht]
      have g5 : j < L := by omega
      simp [iterK_succ, tc, th, ts, hpos, w1, dA, f0, f1, f2, f3, f5, f6, f7, g5, hq, ← hT, dg_set, hF]
    · have hneg : ¬ (0 ≤ cmpI r D) := fun h => hc (cmp_ge.1 h)
      obtain ⟨q', r', p1, p2, p3, p4, p5⟩ := ih m r q (by omega) (by omega) hrX (by omega) hq hw ⟨2 * Z, by rw [hZ, Nat.pow_succ]; rw [Nat.mul_assoc]⟩ ha (by omega)
      refine ⟨q', r', p1, p2, p3, p4, ?_⟩
      rw [← p5, ← hD]
      simp [iterK_succ, tc, th, hneg, w1, dA]

theorem div_loop_sl (hC : G 72 = spCompareDigits) (hS : G 73 = spSubDigits) (hH : G 90 = spHalf) (a b X E L : Nat) (own reb : List Nat)
    (hX : X < W32 ^ E) (hE : E < 100000000) (hL : L < 100000000) : ∀ k m r q F, 1216400 ∉ F → k ≤ 32 * L → r < b * 2 ^ k → r ≤ X → b * 2 ^ k ≤ X → q.length = L → Wf q → (∃ Z, dv q = 2 ^ k * Z) → a = b * dv q + r → k < m →
    ∃ q' r' R' F', q'.length = L ∧ Wf q' ∧ r' < b ∧ a = b * dv q' + r' ∧ 1216400 ∉ F' ∧ (R' = .imm false 1 (dg (digs r')) ∨ (R' = .sl 1216208 0 (digs r').length ∧ r' = r)) ∧
      blockE (some c76_e0) 0 (iterK G ic n c76_k0 c76_b0Q m ⟨[(6, .sl 1216208 0 (digs r).length), (8, .sl 1216400 0 L), (9, .imm false 1 (dg (digs (b * 2 ^ k / 2)))), (10, .int .i64 ((k : Int) - 1))],
        [(1216208, { sz := 1, ty := 88, es := dg (digs r), refs := [] }), (1216400, { sz := 1, ty := 88, es := dg q, refs := [] })], F, own, reb⟩) =
        some (.normal, ⟨[(6, R'), (8, .sl 1216400 0 L)], [(1216208, { sz := 1, ty := 88, es := dg (digs r), refs := [] }), (1216400, { sz := 1, ty := 88, es := dg q', refs := [] })], F', own, reb⟩) := by
  intro k
  induction k with
  | zero =>
    intro m r q F hF hk hr hrX hbX hq hw hZ ha hm
    obtain ⟨m, rfl⟩ : ∃ i, m = i + 1 := ⟨m - 1, by omega⟩
    refine ⟨q, r, _, F, hq, hw, by simpa using hr, ha, hF, .inr ⟨rfl, rfl⟩, ?_⟩
    simp [iterK_succ]
  | succ k ih =>
    intro m r q F hF hk hr hrX hbX hq hw hZ ha hm
    obtain ⟨m, rfl⟩ : ∃ i, m = i + 1 := ⟨m - 1, by omega⟩
    obtain ⟨Z, hZ⟩ := hZ
    have hp2 : b * 2 ^ (k + 1) = 2 * (b * 2 ^ k) := by rw [Nat.pow_succ]; rw [← Nat.mul_assoc, Nat.mul_comm]
    obtain ⟨D, hD⟩ : ∃ D, D = b * 2 ^ k := ⟨_, rfl⟩
    rw [← hD] at hp2
    have hD2 : b * 2 ^ (k + 1) / 2 = D := by omega
    have lr := len_of_le hrX hX hE
    have lD := len_of_le (n := D) (by omega) hX hE
    have tc := cmp_digs G hC (lx := false) (ly := false) lr lD
    have th := half_digs G hH (lx := false) lD
    have e1 : ((k + 1 : Nat) : Int) - 1 = k := by omega
    have w1 : IntKind.i64.wrap ((k : Int) - 1) = (k : Int) - 1 := wrap64_id _ (by omega) (by omega)
    rw [hD2, e1]
    by_cases hc : D ≤ r
    · obtain ⟨j, hj⟩ : ∃ j, j = k / 32 := ⟨_, rfl⟩
      obtain ⟨e, he⟩ : ∃ e, e = k % 32 := ⟨_, rfl⟩
      have hjq : j < q.length := by omega
      obtain ⟨z, hz⟩ := dgt_mul hw hZ
      rw [← hj, ← he, dgt_get hjq] at hz
      obtain ⟨T, hT⟩ : ∃ T, T = q[j] := ⟨_, rfl⟩
      obtain ⟨P, hP⟩ : ∃ P, P = 2 ^ e := ⟨_, rfl⟩
      rw [← hT] at hz
      have hTb : T < W32 := by rw [hT]; exact wf_get hw hjq
      obtain ⟨t, ht⟩ : ∃ t, t = P + T := ⟨_, rfl⟩
      have hPT : P + T < 4294967296 := by
        have h1 : W32 = 2 ^ (e + 1) * 2 ^ (31 - e) := by rw [← Nat.pow_add, show e + 1 + (31 - e) = 32 by omega]
        have h2 : 2 ^ (e + 1) * z < 2 ^ (e + 1) * 2 ^ (31 - e) := by rw [← hz, ← h1]; exact hTb
        have h3 : z < 2 ^ (31 - e) := Nat.lt_of_mul_lt_mul_left h2
        have h4 : 2 ^ (e + 1) * (z + 1) ≤ 2 ^ (e + 1) * 2 ^ (31 - e) := Nat.mul_le_mul_left _ h3
        rw [Nat.mul_add, Nat.mul_one, ← hz, ← h1, Nat.pow_succ, ← hP] at h4
        simp only [W32] at h4
        have : 0 < P := by rw [hP]; exact Nat.pow_pos (by decide)
        omega
      have hset := dv_set (ds := q) (j := j) (q := t) hjq
      rw [← hT] at hset
      have hdq : dv (q.set j t) = dv q + 2 ^ k := by
        have h1 : W32 ^ j * P = 2 ^ k := by rw [W32_pow, hP, ← Nat.pow_add]; congr 1; omega
        have h2 : W32 ^ j * t = W32 ^ j * P + W32 ^ j * T := by rw [ht, Nat.mul_add]
        omega
      obtain ⟨q', r', p1, p2, p3, p4, p5⟩ := div_loop_imm G ic n hC hS hH a b X E L (digs r) (1216208 :: 1216208 :: F) own reb (by simp [hF]) hX hE hL k m (r - D) (q.set j t) (by omega) (by omega) (by omega) (by omega) (by simpa using hq) (wf_set hw (by simp only [W32]; omega)) ⟨2 * Z + 1, by rw [hdq, hZ, Nat.pow_succ, Nat.mul_add, Nat.mul_one, Nat.mul_assoc]⟩ (by
        rw [hdq, Nat.mul_add, ← hD]; omega) (by omega)
      refine ⟨q', r', _, 1216208 :: 1216208 :: F, p1, p2, p3, p4, by simp [hF], .inl rfl, ?_⟩
      rw [← p5, ← hD]
      have ts := sub_digs G hS (lx := false) (ly := false) lr lD hc
      have hpos : 0 ≤ cmpI r D := cmp_ge.2 hc
      have f1 : IntKind.i64.wrap ((k : Int) / 32) = (j : Int) := by
        have : (k : Int) / 32 = (j : Int) := by omega
        rw [this]; exact wrap64_id _ (by omega) (by omega)
      have f2 : (k : Int).tmod 32 = (e : Int) := by rw [Int.tmod_eq_emod_of_nonneg (by omega)]; omega
      have f3 : IntKind.u64.wrap (e : Int) = (e : Int) := wrapu64_id _ (by omega) (by omega)
      have f0 : ¬ (e : Int) < 0 := by omega
      have f5 : min e 32 = e := by omega
      have f6 : IntKind.u32.wrap (2 ^ e : Int) = (P : Int) := by rw [show (2 ^ e : Int) = (P : Int) by rw [hP]; simp]; exact wrapu32_id _ (by omega) (by omega)
      have f7 : IntKind.u32.wrap ((T % 2 ^ IntKind.u32.bits ||| P % 2 ^ IntKind.u32.bits : Nat) : Int) = (t : Int) := by
        rw [Nat.or_comm, w32_or (i := e + 1) (z := z) (by rw [hP, Nat.pow_succ]; have := Nat.pow_pos (n := e) (show 0 < 2 by decide); omega) hz hPT, ht]
      have g5 : j < L := by omega
      simp [iterK_succ, tc, th, ts, hpos, w1, dA, f0, f1, f2, f3, f5, f6, f7, g5, hq, ← hT, dg_set, hF]
    · have hneg : ¬ (0 ≤ cmpI r D) := fun h => hc (cmp_ge.1 h)
      obtain ⟨q', r', R', F', p1, p2, p3, p4, p6, p7, p5⟩ := ih m r q (1216208 :: F) (by simp [hF]) (by omega) (by omega) hrX (by omega) hq hw ⟨2 * Z, by rw [hZ, Nat.pow_succ]; rw [Nat.mul_assoc]⟩ ha (by omega)
      refine ⟨q', r', R', F', p1, p2, p3, p4, p6, p7, ?_⟩
      rw [← p5, ← hD]
      simp [iterK_succ, tc, th, hneg, w1, dA]


def spDivDigits : List AV → Option PRes
  | [a, b] => match digOf a, digOf b with
    | some x, some y => if dv y ≠ 0 ∧ x.length + y.length < 90000000 then some { val := .tup [dA (digs (dv x / dv y)), dA (digs (dv x % dv y))] } else none
    | _, _ => none
  | _ => none

theorem divDigits_run (hT : G 74 = spTrim) (hB : G 88 = spBitLen) (hSh : G 89 = spShift) (hC : G 72 = spCompareDigits) (hS : G 73 = spSubDigits) (hH : G 90 = spHalf) :
    FSpec (fun args n => pureF G ic n c76F args) spDivDigits := by
  intro args r h
  unfold spDivDigits at h
  split at h
  case h_2 => cases h
  rename_i a b
  split at h
  case h_2 => cases h
  rename_i x y hx hy
  obtain ⟨⟨hy0, hxy⟩, h1⟩ := of_ite h
  clear h
  cases h1
  obtain ⟨la, rfl, hwa, hla⟩ := digOf_inv hx
  obtain ⟨lb, rfl, hwb, hlb⟩ := digOf_inv hy
  have t := trim_eq (nl := la) hwa hla
  have ba := bitLen_eq (nl := la) hwa hla
  have bb := bitLen_eq (nl := lb) hwb hlb
  rw [← hT] at t
  rw [← hB] at ba bb
  have lx := digs_length_dv hwa
  have Bx := bl_dv_le hwa
  have By := bl_dv_le hwb
  have w1 : IntKind.i64.wrap ((bl (dv x) : Int) - bl (dv y)) = (bl (dv x) : Int) - bl (dv y) := wrap64_id _ (by omega) (by omega)
  have hb4 : (digs (dv x)).length * 4 ≤ 140737488355328 := by omega
  by_cases hlt : bl (dv x) < bl (dv y)
  · have hxy2 := bl_mono hlt
    have hq : dv x / dv y = 0 := Nat.div_eq_of_lt hxy2
    have hr : dv x % dv y = dv x := Nat.mod_eq_of_lt hxy2
    have w2 : (bl (dv x) : Int) - bl (dv y) < 0 := by omega
    refine ⟨{ val := .tup [.imm true 1 (dg []), .imm false 1 (dg (digs (dv x)))] }, ⟨0, ?_⟩, rfl, ?_⟩
    · simp [pureF, runF, t, ba, bb, dA, w1, w2, hb4, dg_nil]
    · rw [hq, hr, digs_zero]; simp [AV.weak, AV.weakL, weakLL_dg, dA]
  · obtain ⟨N, hN⟩ : ∃ N, N + bl (dv y) = bl (dv x) := ⟨bl (dv x) - bl (dv y), by omega⟩
    obtain ⟨L, hL⟩ : ∃ L, L = N / 32 + 1 := ⟨_, rfl⟩
    obtain ⟨M, hM⟩ : ∃ M, M = N + 2 := ⟨_, rfl⟩
    have eN : (bl (dv x) : Int) - bl (dv y) = (N : Int) := by omega
    rw [eN] at w1
    have hX1 := lt_bl (dv x)
    have hY1 := lt_bl (dv y)
    have hY2 := bl_le hy0
    have hbY : bl (dv y) ≠ 0 := by rw [bl_pos hy0]; omega
    have hpow : 2 ^ bl (dv y) * 2 ^ (N + 1) = 2 ^ (bl (dv x) + 1) := by rw [← Nat.pow_add]; congr 1; omega
    have hXb : dv y * 2 ^ (N + 1) ≤ 2 ^ (bl (dv x) + 1) := by rw [← hpow]; exact Nat.mul_le_mul_right _ (Nat.le_of_lt hY1)
    have hrx : dv x < dv y * 2 ^ (N + 1) := by
      have h1 : 2 ^ (bl (dv y) - 1) * 2 ^ (N + 1) = 2 ^ bl (dv x) := by rw [← Nat.pow_add]; congr 1; omega
      have h2 : 2 ^ (bl (dv y) - 1) * 2 ^ (N + 1) ≤ dv y * 2 ^ (N + 1) := Nat.mul_le_mul_right _ hY2
      omega
    have hXE : 2 ^ (bl (dv x) + 1) < W32 ^ (x.length + 1) := by rw [W32_pow]; exact Nat.pow_lt_pow_of_lt (by decide) (by omega)
    have hrX : dv x ≤ 2 ^ (bl (dv x) + 1) := by
      have : 2 ^ bl (dv x) ≤ 2 ^ (bl (dv x) + 1) := Nat.pow_le_pow_right (by decide) (by omega)
      omega
    obtain ⟨q', r', R', F', p1, p2, p3, p4, p5, p6, p7⟩ := div_loop_sl G ic M hC hS hH (dv x) (dv y) (2 ^ (bl (dv x) + 1)) (x.length + 1) L [1216400, 1216208] [] hXE (by omega) (by omega)
      (N + 1) M (dv x) (List.replicate L 0) [] (by simp) (by omega) hrx hrX hXb (by simp) (wf_replicate _) ⟨0, by rw [dv_replicate]; rfl⟩ (by rw [dv_replicate]; omega) (by omega)
    have hdm : dv q' = dv x / dv y ∧ r' = dv x % dv y := by
      have h1 : dv x = r' + dv y * dv q' := by omega
      constructor
      · rw [h1, Nat.add_mul_div_left _ _ (by omega), Nat.div_eq_of_lt p3, Nat.zero_add]
      · rw [h1, Nat.add_mul_mod_self_left, Nat.mod_eq_of_lt p3]
    have tq := trim_eq (nl := false) p2 (by omega)
    rw [← hT] at tq
    have sh : spShift [.imm lb 1 (dg y), .int .i64 (N : Int)] = some { val := dA (digs (2 ^ N * dv y)) } := by
      simp only [spShift, digOf_dg hwb hlb]
      rw [if_pos ⟨by omega, by omega⟩]
      simp
    rw [← hSh] at sh
    have e9 : dv y * 2 ^ (N + 1) / 2 = 2 ^ N * dv y := by rw [Nat.pow_succ, ← Nat.mul_assoc, Nat.mul_div_cancel _ (by decide), Nat.mul_comm]
    have e := p7
    rw [e9] at e
    simp [c76_e0, c76_k0] at e
    have f0 : ¬ (N : Int) < 0 := by omega
    have f1 : IntKind.i64.wrap ((N : Int) / 32) = (N : Int) / 32 := wrap64_id _ (by omega) (by omega)
    have f2 : IntKind.i64.wrap ((N : Int) / 32 + 1) = (L : Int) := by rw [wrap64_id _ (by omega) (by omega)]; omega
    have f4 : (L : Int) * 4 ≤ 140737488355328 := by omega
    have hk2 : L ≤ q'.length := by omega
    have hk3 : (dg q').take L = dg q' := by rw [← p1, take_dg]
    refine ⟨{ val := .tup [dA (digs (dv q')), .imm false 1 (dg (digs r'))] }, ⟨M, ?_⟩, rfl, ?_⟩
    · rcases p6 with rfl | ⟨rfl, rfl⟩
      · simp [pureF, runF, t, ba, bb, dA, eN, w1, hb4, f0, f1, f2, f4, sh, dg_replicate, e, hk2, hk3, tq]
      · simp [pureF, runF, t, ba, bb, dA, eN, w1, hb4, f0, f1, f2, f4, sh, dg_replicate, e, hk2, hk3, tq]
    · rw [hdm.1, hdm.2]; simp [AV.weak, AV.weakL, weakLL_dg, dA]

end
end Go.Proofs.Ythlpmghodgiknaa.C
