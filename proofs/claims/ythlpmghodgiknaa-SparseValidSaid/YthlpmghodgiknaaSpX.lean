/-
  The program's integers: the subtraction of a multiple from a part of a row.
-/
import Derived.Test.YthlpmghodgiknaaSpW
namespace Go.Proofs.Ythlpmghodgiknaa.C
open Go Go.Ev

section
variable (G : Pure) (ic : Inl) (n : Nat)

theorem mid_get' (A R : List Nat) (y i : Nat) (h : A.length = i) : (dg (A ++ y :: R))[i]? = some [.int .u32 y] := by
  rw [dg, List.getElem?_map, ← h, mid_get]; rfl
theorem mid_set' (A R : List Nat) (y x i : Nat) (h : A.length = i) : (dg (A ++ y :: R)).set i [.int .u32 x] = dg (A ++ x :: R) := by rw [dg_set, ← h, set_mid]

theorem red_step {W p g q v u c b d c1 b' x y hi : Nat} (h : g + q * v = u + p * (c + b)) (hd : d + (q * x + c) + b = y + W * (hi + b')) : (g + p * d) + q * (v + p * x) = (u + p * y) + p * (W * (hi + b')) := by
  have e : p * (d + (q * x + c) + b) = p * (y + W * (hi + b')) := by rw [hd]
  simp only [Nat.mul_add] at e h ⊢
  rw [Nat.mul_left_comm q p x]
  omega

theorem reduce_loop1 (hS : G 104 = spSub32) (U v : List Nat) (at' q : Nat) (lv : Bool) (hU : Wf U) (hv : Wf v) (hq : q < 4294967296) (hat : at' + v.length < U.length) (hUl : U.length < 100000000) : ∀ d i g c b, i + d = v.length → g.length = i → Wf g → c < 4294967296 → b ≤ 1 →
    dv g + q * dv (v.take i) = dv ((U.drop at').take i) + W32 ^ i * (c + b) →
    ∃ (g' : List Nat) (c' b' : Nat), g'.length = v.length ∧ Wf g' ∧ c' < 4294967296 ∧ b' ≤ 1 ∧ dv g' + q * dv v = dv ((U.drop at').take v.length) + W32 ^ v.length * (c' + b') ∧ ∀ m, d < m →
      blockE (some c100_e0) 0 (iterK G ic n c100_k0 c100_b0Q m ⟨[(0, .sl 0 0 U.length), (1, .imm lv 1 (dg v)), (2, .int .i64 at'), (3, .int .u64 q), (9, .int .u64 c), (10, .int .u32 b), (16, .imm lv 1 (dg v)), (17, .int .i64 v.length), (18, .int .i64 i)],
        [(0, { sz := 1, ty := 88, es := dg (U.take at' ++ g ++ U.drop (at' + i)), refs := [] })], [], [], []⟩) =
        some (.normal, ⟨[(0, .sl 0 0 U.length), (1, .imm lv 1 (dg v)), (2, .int .i64 at'), (3, .int .u64 q), (9, .int .u64 c'), (10, .int .u32 b')], [(0, { sz := 1, ty := 88, es := dg (U.take at' ++ g' ++ U.drop (at' + v.length)), refs := [] })], [], [], []⟩) := by
  intro d
  induction d with
  | zero =>
    intro i g c b hi hg hw hc hb hinv
    have e : i = v.length := by omega
    subst e
    rw [List.take_length] at hinv
    refine ⟨g, c, b, hg, hw, hc, hb, hinv, fun m hm => ?_⟩
    obtain ⟨m, rfl⟩ : ∃ i, m = i + 1 := ⟨m - 1, by omega⟩
    simp [iterK_succ]
  | succ d ih =>
    intro i g c b hi hg hw hc hb hinv
    have hiv : i < v.length := by omega
    have hiU : at' + i < U.length := by omega
    have hX := wf_get hv hiv
    have hY := wf_get hU hiU
    simp only [W32] at hX hY
    obtain ⟨x, hx⟩ : ∃ x, x = v[i] := ⟨_, rfl⟩
    obtain ⟨y, hy⟩ : ∃ y, y = U[at' + i] := ⟨_, rfl⟩
    rw [← hx] at hX
    rw [← hy] at hY
    obtain ⟨M, hM⟩ : ∃ M, M = q * x := ⟨_, rfl⟩
    have hMb : M ≤ 4294967295 * 4294967295 := by rw [hM]; exact Nat.mul_le_mul (by omega) (by omega)
    obtain ⟨t, ht⟩ : ∃ t, t = c + M := ⟨_, rfl⟩
    obtain ⟨lo, hlo⟩ : ∃ lo, lo = t % 4294967296 := ⟨_, rfl⟩
    obtain ⟨hi', hhi⟩ : ∃ hi', hi' = t / 4294967296 := ⟨_, rfl⟩
    obtain ⟨dd, hdd⟩ : ∃ dd, dd = (y + 4294967296 - lo - b) % 4294967296 := ⟨_, rfl⟩
    obtain ⟨b', hb'⟩ : ∃ b', b' = if y < lo + b then 1 else 0 := ⟨_, rfl⟩
    have hb1 : b' ≤ 1 := by rw [hb']; split <;> omega
    have hsub : dd + lo + b = y + 4294967296 * b' := by rw [hb']; split <;> omega
    have hcall := sub32_at hS hY (show lo < 4294967296 by omega) hb hdd hb'
    have hstep : dd + (q * x + c) + b = y + W32 * (hi' + b') := by rw [← hM]; simp only [W32]; omega
    obtain ⟨g', c', b2, r1, r2, r3, r4, r5, r6⟩ := ih (i + 1) (g ++ [dd]) hi' b' (by omega) (by simp [hg]) (wf_append.2 ⟨hw, wf_cons.2 ⟨by simp only [W32]; omega, wf_nil⟩⟩) (by omega) hb1 (by
      rw [dv_append, hg, dv_take_succ hiv, ← hx]
      have hdt : dv ((U.drop at').take (i + 1)) = dv ((U.drop at').take i) + W32 ^ i * y := by
        rw [dv_take_succ (by rw [List.length_drop]; omega), List.getElem_drop, ← hy]
      rw [hdt, Nat.pow_succ, Nat.mul_assoc]
      simp only [dv, Nat.mul_zero, Nat.add_zero]
      exact red_step (c1 := 0) hinv hstep)
    refine ⟨g', c', b2, r1, r2, r3, r4, r5, fun m hm => ?_⟩
    obtain ⟨m, rfl⟩ : ∃ i, m = i + 1 := ⟨m - 1, by omega⟩
    rw [← r6 m (by omega)]
    obtain ⟨R, hR⟩ : ∃ R, R = U.drop (at' + i + 1) := ⟨_, rfl⟩
    have hdrop : U.drop (at' + i) = y :: R := by rw [drop_cons hiU, hR, hy]
    have hAl : (U.take at' ++ g).length = at' + i := by rw [List.length_append, List.length_take]; omega
    have e2 : U.take at' ++ (g ++ [dd]) ++ U.drop (at' + (i + 1)) = (U.take at' ++ g) ++ dd :: R := by rw [hR]; simp [Nat.add_assoc]
    rw [e2, hdrop]
    obtain ⟨A, hA⟩ : ∃ A, A = U.take at' ++ g := ⟨_, rfl⟩
    rw [← hA] at hAl ⊢
    have gy := mid_get' A R y (at' + i) hAl
    have hset := mid_set' A R y dd (at' + i) hAl
    have gx := dg_get v i hiv
    rw [← hx] at gx
    have w1 : IntKind.u64.wrap (x : Int) = (x : Int) := wrapu64_id _ (by omega) (by omega)
    have w2 : IntKind.u64.wrap ((q : Int) * x) = (M : Int) := w64_nat (by rw [hM]; simp) (by omega)
    have w3 : IntKind.u64.wrap ((c : Int) + M) = (t : Int) := w64_nat (by omega) (by omega)
    have w4 : IntKind.u32.wrap (t : Int) = (lo : Int) := w32_nat hlo
    have w5 : (t : Int).fdiv 4294967296 = (hi' : Int) := fdiv_nat hhi
    have w6 : IntKind.i64.wrap ((at' : Int) + i) = (at' : Int) + i := wrap64_id _ (by omega) (by omega)
    have w6' : ((at' : Int) + i).toNat = at' + i := by omega
    have w7 : IntKind.i64.wrap ((i : Int) + 1) = (i : Int) + 1 := wrap64_id _ (by omega) (by omega)
    have w8 : IntKind.u64.wrap (hi' : Int) = (hi' : Int) := wrapu64_id _ (by omega) (by omega)
    have p1 : 0 ≤ (at' : Int) + i := by omega
    have p2 : (at' : Int) + i < U.length := by omega
    simp [iterK_succ, hiv, gx, w1, w2, w3, w4, w5, w6, w6', w7, w8, p1, p2, gy, hcall, hset, ← hx]

theorem reduce_loop2 (hA : G 103 = spAdd32) (U v : List Nat) (at' : Nat) (v3 : AV) (lv : Bool) (hU : Wf U) (hv : Wf v) (hat : at' + v.length < U.length) (hUl : U.length < 100000000) : ∀ d i g c, i + d = v.length → g.length = i → Wf g → c ≤ 1 →
    dv g + W32 ^ i * c = dv ((U.drop at').take i) + dv (v.take i) →
    ∃ (g' : List Nat) (c' : Nat), g'.length = v.length ∧ Wf g' ∧ c' ≤ 1 ∧ dv g' + W32 ^ v.length * c' = dv ((U.drop at').take v.length) + dv v ∧ ∀ m, d < m →
      blockE (some c100_e1) 2 (iterK G ic n c100_k1 c100_b1Q m ⟨[(0, .sl 0 0 U.length), (1, .imm lv 1 (dg v)), (2, .int .i64 at'), (3, v3), (13, .int .u32 c), (74, .imm lv 1 (dg v)), (75, .int .i64 v.length), (76, .int .i64 i)],
        [(0, { sz := 1, ty := 88, es := dg (U.take at' ++ g ++ U.drop (at' + i)), refs := [] })], [], [], []⟩) =
        some (.normal, ⟨[(0, .sl 0 0 U.length), (1, .imm lv 1 (dg v)), (2, .int .i64 at'), (3, v3), (13, .int .u32 c')], [(0, { sz := 1, ty := 88, es := dg (U.take at' ++ g' ++ U.drop (at' + v.length)), refs := [] })], [], [], []⟩) := by
  intro d
  induction d with
  | zero =>
    intro i g c hi hg hw hc hinv
    have e : i = v.length := by omega
    subst e
    rw [List.take_length] at hinv
    refine ⟨g, c, hg, hw, hc, hinv, fun m hm => ?_⟩
    obtain ⟨m, rfl⟩ : ∃ i, m = i + 1 := ⟨m - 1, by omega⟩
    simp [iterK_succ]
  | succ d ih =>
    intro i g c hi hg hw hc hinv
    have hiv : i < v.length := by omega
    have hiU : at' + i < U.length := by omega
    have hX := wf_get hv hiv
    have hY := wf_get hU hiU
    simp only [W32] at hX hY
    obtain ⟨x, hx⟩ : ∃ x, x = v[i] := ⟨_, rfl⟩
    obtain ⟨y, hy⟩ : ∃ y, y = U[at' + i] := ⟨_, rfl⟩
    rw [← hx] at hX
    rw [← hy] at hY
    obtain ⟨q, hq⟩ : ∃ q, q = (y + x + c) % 4294967296 := ⟨_, rfl⟩
    obtain ⟨e, he⟩ : ∃ e, e = (y + x + c) / 4294967296 := ⟨_, rfl⟩
    have hcall := add32_at hA hY hX (by omega) hq he
    have hqe : q + W32 * e = c + y + x := by simp only [W32]; omega
    obtain ⟨g', c', r1, r2, r3, r4, r5⟩ := ih (i + 1) (g ++ [q]) e (by omega) (by simp [hg]) (wf_append.2 ⟨hw, wf_cons.2 ⟨by simp only [W32]; omega, wf_nil⟩⟩) (by omega) (by
      rw [dv_append, hg, dv_take_succ hiv, ← hx]
      have hdt : dv ((U.drop at').take (i + 1)) = dv ((U.drop at').take i) + W32 ^ i * y := by
        rw [dv_take_succ (by rw [List.length_drop]; omega), List.getElem_drop, ← hy]
      rw [hdt, Nat.pow_succ, Nat.mul_assoc]
      simp only [dv, Nat.mul_zero, Nat.add_zero]
      have e2 : W32 ^ i * q + W32 ^ i * (W32 * e) = W32 ^ i * (c + y + x) := by rw [← Nat.mul_add, hqe]
      rw [Nat.mul_add, Nat.mul_add] at e2
      omega)
    refine ⟨g', c', r1, r2, r3, r4, fun m hm => ?_⟩
    obtain ⟨m, rfl⟩ : ∃ i, m = i + 1 := ⟨m - 1, by omega⟩
    rw [← r5 m (by omega)]
    obtain ⟨R, hR⟩ : ∃ R, R = U.drop (at' + i + 1) := ⟨_, rfl⟩
    have hdrop : U.drop (at' + i) = y :: R := by rw [drop_cons hiU, hR, hy]
    have hAl : (U.take at' ++ g).length = at' + i := by rw [List.length_append, List.length_take]; omega
    have e2 : U.take at' ++ (g ++ [q]) ++ U.drop (at' + (i + 1)) = (U.take at' ++ g) ++ q :: R := by rw [hR]; simp [Nat.add_assoc]
    rw [e2, hdrop]
    obtain ⟨A, hA⟩ : ∃ A, A = U.take at' ++ g := ⟨_, rfl⟩
    rw [← hA] at hAl ⊢
    have gy := mid_get' A R y (at' + i) hAl
    have hset := mid_set' A R y q (at' + i) hAl
    have gx := dg_get v i hiv
    rw [← hx] at gx
    have w6 : IntKind.i64.wrap ((at' : Int) + i) = (at' : Int) + i := wrap64_id _ (by omega) (by omega)
    have w6' : ((at' : Int) + i).toNat = at' + i := by omega
    have w7 : IntKind.i64.wrap ((i : Int) + 1) = (i : Int) + 1 := wrap64_id _ (by omega) (by omega)
    have p1 : 0 ≤ (at' : Int) + i := by omega
    have p2 : (at' : Int) + i < U.length := by omega
    simp [iterK_succ, hiv, gx, w6, w6', w7, p1, p2, gy, hcall, hset, ← hx]

/-- The part of the row, and what becomes of it. -/
def spReduceP : List AV → Option PRes
  | [.imm false 1 es, v, .int .i64 a, .int .u64 q] => match digOf (.imm false 1 es), digOf v with
    | some U, some v =>
      if 0 ≤ a ∧ a.toNat + v.length < U.length ∧ 0 ≤ q ∧ q < 4294967296 ∧ (q.toNat * dv v ≤ dv ((U.drop a.toNat).take (v.length + 1)) ∨ (1 ≤ q.toNat ∧ (q.toNat - 1) * dv v ≤ dv ((U.drop a.toNat).take (v.length + 1)))) then
        let q' := if q.toNat * dv v ≤ dv ((U.drop a.toNat).take (v.length + 1)) then q.toNat else q.toNat - 1
        some { val := .int .u32 (q' : Nat), objs := [{ sz := 1, ty := 88, es := dg (U.take a.toNat ++ dpad (v.length + 1) (dv ((U.drop a.toNat).take (v.length + 1)) - q' * dv v) ++ U.drop (a.toNat + (v.length + 1))), refs := [] }] }
      else none
    | _, _ => none
  | _ => none

theorem reduceP_run (hS : G 104 = spSub32) (hA : G 103 = spAdd32) : ∀ args r, spReduceP args = some r → ∃ n, updF G ic n c100F 0 88 args = some r := by
  intro args r h
  unfold spReduceP at h
  split at h
  case h_2 => cases h
  rename_i es va a0 q0
  split at h
  case h_2 => cases h
  rename_i U v hd hdv
  obtain ⟨⟨ha0, hat, hq0, hq1, hcond⟩, h1⟩ := of_ite h
  obtain ⟨nl, he, hU, hUl⟩ := digOf_inv hd
  cases he
  obtain ⟨lv, rfl, hv, hvl⟩ := digOf_inv hdv
  obtain ⟨a, rfl⟩ : ∃ a : Nat, a0 = a := ⟨a0.toNat, by omega⟩
  obtain ⟨q, rfl⟩ : ∃ q : Nat, q0 = q := ⟨q0.toNat, by omega⟩
  simp only [Int.toNat_natCast] at hat hcond h1
  obtain ⟨m, hm⟩ : ∃ m, m = v.length := ⟨_, rfl⟩
  obtain ⟨N, hN⟩ : ∃ N, N = dv ((U.drop a).take (v.length + 1)) := ⟨_, rfl⟩
  rw [← hN] at hcond h1
  obtain ⟨V, hV⟩ : ∃ V, V = dv v := ⟨_, rfl⟩
  rw [← hV] at hcond h1
  obtain ⟨M, hM⟩ : ∃ M, M = v.length + 1 := ⟨_, rfl⟩
  obtain ⟨g, c, b, r1, r2, r3, r4, r5, r6⟩ := reduce_loop1 G ic M hS U v a q lv hU hv (by omega) hat hUl v.length 0 [] 0 0 (by omega) rfl wf_nil (by omega) (by omega) (by simp [dv])
  have e := r6 M (by omega)
  -- the last digit
  have hiU : a + v.length < U.length := hat
  obtain ⟨y, hy⟩ : ∃ y, y = U[a + v.length] := ⟨_, rfl⟩
  have hY := wf_get hU hiU
  rw [← hy] at hY
  simp only [W32] at hY
  obtain ⟨d, hd'⟩ : ∃ d, d = (y + 4294967296 - c - b) % 4294967296 := ⟨_, rfl⟩
  obtain ⟨b', hb'⟩ : ∃ b', b' = if y < c + b then 1 else 0 := ⟨_, rfl⟩
  have hcall := sub32_at hS hY r3 r4 hd' hb'
  have hb1 : b' ≤ 1 := by rw [hb']; split <;> omega
  have hsub : d + c + b = y + 4294967296 * b' := by rw [hb']; split <;> omega
  obtain ⟨R, hR⟩ : ∃ R, R = U.drop (a + v.length + 1) := ⟨_, rfl⟩
  have hdrop : U.drop (a + v.length) = y :: R := by rw [drop_cons hiU, hR, hy]
  have hAl : (U.take a ++ g).length = a + v.length := by rw [List.length_append, List.length_take]; omega
  obtain ⟨A, hAe⟩ : ∃ A, A = U.take a ++ g := ⟨_, rfl⟩
  rw [← hAe] at hAl
  have gy := mid_get' A R y (a + v.length) hAl
  have hset := mid_set' A R y d (a + v.length) hAl
  rw [hdrop, ← hAe] at e
  simp [c100_e0, c100_k0, -List.append_assoc] at e
  obtain ⟨Z, hZ⟩ : ∃ Z, Z = g ++ [d] := ⟨_, rfl⟩
  have hZw : Wf Z := by rw [hZ]; exact wf_append.2 ⟨r2, wf_cons.2 ⟨by simp only [W32]; omega, wf_nil⟩⟩
  have hZl : Z.length = v.length + 1 := by rw [hZ]; simp [r1]
  have hNe : N = dv ((U.drop a).take v.length) + W32 ^ v.length * y := by
    rw [hN, dv_take_succ (by rw [List.length_drop]; omega), List.getElem_drop, ← hy]
  have hZv : dv Z + q * V = N + W32 ^ (v.length + 1) * b' := by
    rw [hZ, dv_append, r1, hNe, hV]
    simp only [dv, Nat.mul_zero, Nat.add_zero]
    have e2 : W32 ^ v.length * (d + c + b) = W32 ^ v.length * (y + W32 * b') := by rw [hsub]
    rw [Nat.pow_succ, Nat.mul_assoc]
    simp only [Nat.mul_add] at e2 r5
    omega
  have w1 : IntKind.u32.wrap (c : Int) = (c : Int) := wrapu32_id _ (by omega) (by omega)
  have w6 : IntKind.i64.wrap ((a : Int) + v.length) = (a : Int) + v.length := wrap64_id _ (by omega) (by omega)
  have w6' : ((a : Int) + v.length).toNat = a + v.length := by omega
  have p1 : 0 ≤ (a : Int) + v.length := by omega
  have p2 : (a : Int) + v.length < U.length := by omega
  have e3 : A ++ d :: R = U.take a ++ Z ++ U.drop (a + (v.length + 1)) := by rw [hZ, hR, hAe]; simp [Nat.add_assoc]
  rw [e3] at hset
  refine ⟨M, ?_⟩
  have hZlt := dv_lt hZw
  rw [hZl] at hZlt
  by_cases hle : q * V ≤ N
  · rw [if_pos hle] at h1
    have hb0 : b' = 0 := borrow_zero hZlt hle hZv
    rw [hb0, Nat.mul_zero, Nat.add_zero] at hZv
    have hZp : Z = dpad (v.length + 1) (N - q * V) := dpad_of hZw hZl (by omega)
    rw [← hZp] at h1
    cases h1
    have w2 : IntKind.u32.wrap (q : Int) = (q : Int) := wrapu32_id _ (by omega) (by omega)
    rw [hb0] at hcall
    simp only [Int.natCast_zero] at hcall
    obtain ⟨X, hX⟩ : ∃ X, X = U.take a ++ Z ++ U.drop (a + (v.length + 1)) := ⟨_, rfl⟩
    have hXl : X.length = U.length := by rw [hX]; simp [hZl]; omega
    rw [← hX] at hset ⊢
    simp [updF, updO, runF, e, w1, w6, w6', p1, p2, gy, hcall, hset, w2, hXl, -dg_getElem]
  · rw [if_neg hle] at h1
    have hq1' : 1 ≤ q ∧ (q - 1) * V ≤ N := by
      rcases hcond with h | h
      · exact absurd h hle
      · exact h
    have hbe : b' = 1 := by
      rcases Nat.eq_zero_or_pos b' with h0 | h0
      · rw [h0, Nat.mul_zero, Nat.add_zero] at hZv; omega
      · omega
    rw [hbe, Nat.mul_one] at hZv
    obtain ⟨U2, hU2⟩ : ∃ U2, U2 = U.take a ++ Z ++ U.drop (a + (v.length + 1)) := ⟨_, rfl⟩
    have hU2w : Wf U2 := by rw [hU2]; exact wf_append.2 ⟨wf_append.2 ⟨wf_take hU _, hZw⟩, wf_drop hU _⟩
    have hU2l : U2.length = U.length := by rw [hU2]; simp [hZl]; omega
    have htl : (U.take a).length = a := by rw [List.length_take]; omega
    have hU2t : U2.take a = U.take a := by
      rw [hU2, List.append_assoc, List.take_append_of_le_length (by omega), List.take_of_length_le (by omega)]
    have hU2d : U2.drop a = Z ++ U.drop (a + (v.length + 1)) := by
      rw [hU2, List.append_assoc, List.drop_append, List.drop_of_length_le (by omega), htl, Nat.sub_self, List.drop_zero, List.nil_append]
    obtain ⟨g2, c2, s1, s2, s3, s4, s5⟩ := reduce_loop2 G ic M hA U2 v a (.int .u64 q) lv hU2w hv (by omega) (by omega) v.length 0 [] 0 (by omega) rfl wf_nil (by omega) (by simp [dv])
    have e4 := s5 M (by omega)
    rw [hU2l] at e4
    have hzi : a + v.length < U2.length := by omega
    obtain ⟨z, hz⟩ : ∃ z, z = U2[a + v.length] := ⟨_, rfl⟩
    have hzw := wf_get hU2w hzi
    rw [← hz] at hzw
    simp only [W32] at hzw
    obtain ⟨R2, hR2⟩ : ∃ R2, R2 = U2.drop (a + v.length + 1) := ⟨_, rfl⟩
    have hdrop2 : U2.drop (a + v.length) = z :: R2 := by rw [drop_cons hzi, hR2, hz]
    have hAl2 : (U.take a ++ g2).length = a + v.length := by rw [List.length_append, htl]; omega
    obtain ⟨A2, hA2⟩ : ∃ A2, A2 = U.take a ++ g2 := ⟨_, rfl⟩
    have hsame : U2.take a ++ [] ++ U2.drop (a + 0) = U2 := by simp
    rw [hdrop2, hU2t, ← hA2, ← hU2t, hsame] at e4
    rw [← hA2] at hAl2
    simp [c100_e1, c100_k1, -List.append_assoc] at e4
    have gz := mid_get' A2 R2 z (a + v.length) hAl2
    obtain ⟨d2, hd2⟩ : ∃ d2, d2 = (z + c2) % 4294967296 := ⟨_, rfl⟩
    have hset2 := mid_set' A2 R2 z d2 (a + v.length) hAl2
    have hZe : dv Z = dv ((U2.drop a).take v.length) + W32 ^ v.length * z := by
      have h5 : (U2.drop a).take (v.length + 1) = Z := by rw [hU2d, List.take_append_of_le_length (by omega), List.take_of_length_le (by omega)]
      have h6 : v.length < (U2.drop a).length := by rw [List.length_drop]; omega
      have := dv_take_succ h6
      rw [h5, List.getElem_drop, ← hz] at this
      exact this
    obtain ⟨T, hT⟩ : ∃ T, T = g2 ++ [d2] := ⟨_, rfl⟩
    have hTw : Wf T := by rw [hT]; exact wf_append.2 ⟨s2, wf_cons.2 ⟨by simp only [W32]; omega, wf_nil⟩⟩
    have hTl : T.length = v.length + 1 := by rw [hT]; simp [s1]
    have hTv : ∃ k, dv T + W32 ^ (v.length + 1) * k = dv Z + V := by
      refine ⟨(z + c2) / 4294967296, ?_⟩
      rw [hT, dv_append, s1, hZe, hV]
      simp only [dv, Nat.mul_zero, Nat.add_zero]
      rw [Nat.pow_succ, Nat.mul_assoc]
      have e5 : d2 + W32 * ((z + c2) / 4294967296) = z + c2 := by simp only [W32]; omega
      have e6 : W32 ^ v.length * (d2 + W32 * ((z + c2) / 4294967296)) = W32 ^ v.length * (z + c2) := by rw [e5]
      simp only [Nat.mul_add] at e6
      omega
    have hTlt := dv_lt hTw
    rw [hTl] at hTlt
    obtain ⟨k, hk⟩ := hTv
    obtain ⟨q1, hq1e⟩ : ∃ q1, q = q1 + 1 := ⟨q - 1, by omega⟩
    have hmul : q * V = q1 * V + V := by rw [hq1e, Nat.add_mul, Nat.one_mul]
    have hq1s : q - 1 = q1 := by omega
    rw [hq1s] at hq1' h1
    have hTval : dv T = N - q1 * V := by
      -- dv Z + q V = N + W^(m+1), so dv Z + V = W^(m+1) + (N - (q-1) V)
      obtain ⟨P, hP⟩ : ∃ P, P = W32 ^ (v.length + 1) := ⟨_, rfl⟩
      have hVP : V < P := by
        have h1 := dv_lt hv
        have h2 : W32 ^ v.length ≤ W32 ^ (v.length + 1) := Nat.pow_le_pow_right (by decide) (by omega)
        omega
      rw [← hP] at hZv hk hTlt hZlt
      have hNlt : N - q1 * V < P := by omega
      have h7 : dv Z + V = P + (N - q1 * V) := by omega
      rw [h7] at hk
      have hk1 : k = 1 := by
        rcases Nat.lt_trichotomy k 1 with h | h | h
        · have : k = 0 := by omega
          subst this; rw [Nat.mul_zero] at hk; omega
        · exact h
        · have : P * 2 ≤ P * k := Nat.mul_le_mul_left _ h
          omega
      rw [hk1, Nat.mul_one] at hk
      omega
    have hTp : T = dpad (v.length + 1) (N - q1 * V) := dpad_of hTw hTl hTval
    have hR2e : R2 = U.drop (a + (v.length + 1)) := by
      rw [hR2, Nat.add_assoc, ← List.drop_drop, hU2d, List.drop_append, List.drop_of_length_le (by omega), hZl, Nat.sub_self, List.drop_zero, List.nil_append]
    have e7 : A2 ++ d2 :: R2 = U.take a ++ T ++ U.drop (a + (v.length + 1)) := by rw [hT, hR2e, hA2]; simp
    rw [e7] at hset2
    rw [← hTp] at h1
    cases h1
    have w2 : IntKind.u64.wrap ((q : Int) - 1) = (q1 : Int) := w64_nat (by omega) (by omega)
    have w3 : IntKind.u32.wrap (q1 : Int) = (q1 : Int) := wrapu32_id _ (by omega) (by omega)
    have w4 : IntKind.u32.wrap ((z : Int) + c2) = (d2 : Int) := by rw [wrapu32]; omega
    rw [hbe] at hcall
    simp only [Int.natCast_one] at hcall
    rw [← hU2] at hset
    obtain ⟨X, hX⟩ : ∃ X, X = U.take a ++ T ++ U.drop (a + (v.length + 1)) := ⟨_, rfl⟩
    have hXl : X.length = U.length := by rw [hX]; simp [hTl]; omega
    rw [← hX] at hset2 ⊢
    clear hU2 hU2d hX hR2 hdrop2
    simp [updF, updO, runF, e, w1, w6, w6', p1, p2, gy, hcall, hset, e4, gz, w4, hset2, w2, w3, hXl, -dg_getElem]

end
end Go.Proofs.Ythlpmghodgiknaa.C
