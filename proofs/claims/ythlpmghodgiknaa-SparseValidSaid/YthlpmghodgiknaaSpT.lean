/-
  The program's integers: sums, differences, products.
-/
import Derived.Test.YthlpmghodgiknaaSpQ
import Derived.Test.YthlpmghodgiknaaNum2
namespace Go.Proofs.Ythlpmghodgiknaa.C
open Go Go.Ev

section
variable (G : Pure) (ic : Inl) (n : Nat)

theorem add32_at {G : Pure} (hA : G 103 = spAdd32) {x y c q e : Nat} (hx : x < 4294967296) (hy : y < 4294967296) (hc : c < 4294967296) (hq : q = (x + y + c) % 4294967296) (he : e = (x + y + c) / 4294967296) :
    G 103 [.int .u32 x, .int .u32 y, .int .u32 c] = some { val := .tup [.int .u32 q, .int .u32 e] } := by
  subst hq; subst he
  exact sp3_at hA (u32Of_mk hx) (u32Of_mk hy) (u32Of_mk hc) rfl

theorem sub32_at {G : Pure} (hA : G 104 = spSub32) {x y c q e : Nat} (hx : x < 4294967296) (hy : y < 4294967296) (hc : c ≤ 1) (hq : q = (x + 4294967296 - y - c) % 4294967296) (he : e = if x < y + c then 1 else 0) :
    G 104 [.int .u32 x, .int .u32 y, .int .u32 c] = some { val := .tup [.int .u32 q, .int .u32 e] } := by
  subst hq; subst he
  exact sp3_at hA (u32Of_mk hx) (u32Of_mk hy) (u32Of_mk (by omega)) (by rw [if_pos hc])

/-! ### plus -/

theorem plus_loop (hA : G 103 = spAdd32) (la lb : Bool) (a b : List Nat) (ha : Wf a) (hb : Wf b) (hla : a.length < 99999000) (L : Nat) (hL : L = a.length + 1) : ∀ d i s c, i + d = a.length → s.length = L → Wf s → c ≤ 1 → 
    dv (s.take i) + W32 ^ i * c = dv (a.take i) + dv (b.take i) →
    ∃ s' c', s'.length = L ∧ Wf s' ∧ c' ≤ 1 ∧ dv (s'.take a.length) + W32 ^ a.length * c' = dv a + dv (b.take a.length) ∧ ∀ m, d < m →
      blockE (some c94_e0) 0 (iterK G ic n c94_k0 c94_b0Q m ⟨[(0, .imm la 1 (dg a)), (1, .imm lb 1 (dg b)), (5, .sl 1504320 0 L), (6, .int .u32 c), (21, .imm la 1 (dg a)), (22, .int .i64 a.length), (23, .int .i64 i)],
        [(1504320, { sz := 1, ty := 88, es := dg s, refs := [] })], [], [1504320], []⟩) =
        some (.normal, ⟨[(0, .imm la 1 (dg a)), (5, .sl 1504320 0 L), (6, .int .u32 c')], [(1504320, { sz := 1, ty := 88, es := dg s', refs := [] })], [], [1504320], []⟩) := by
  intro d
  induction d with
  | zero =>
    intro i s c hi hs hw hc hv
    have e : i = a.length := by omega
    subst e
    rw [List.take_length] at hv
    refine ⟨s, c, hs, hw, hc, hv, fun m hm => ?_⟩
    obtain ⟨m, rfl⟩ : ∃ i, m = i + 1 := ⟨m - 1, by omega⟩
    simp [iterK_succ]
  | succ d ih =>
    intro i s c hi hs hw hc hv
    have hia : i < a.length := by omega
    have his : i < s.length := by omega
    have hA1 := wf_get ha hia
    have hB1 := dgt_lt hb i
    simp only [W32] at hA1 hB1
    obtain ⟨x, hx⟩ : ∃ x, x = a[i] := ⟨_, rfl⟩
    obtain ⟨y, hy⟩ : ∃ y, y = dgt b i := ⟨_, rfl⟩
    rw [← hx] at hA1
    rw [← hy] at hB1
    obtain ⟨q, hq⟩ : ∃ q, q = (x + y + c) % 4294967296 := ⟨_, rfl⟩
    obtain ⟨e, he⟩ : ∃ e, e = (x + y + c) / 4294967296 := ⟨_, rfl⟩
    have t := add32_at hA hA1 hB1 (by omega) hq he
    have hqe : q + W32 * e = c + x + y := by simp only [W32]; omega
    obtain ⟨s', c', r1, r2, r3, r4, r5⟩ := ih (i + 1) (s.set i q) e (by omega) (by simpa using hs) (wf_set hw (by simp only [W32]; omega)) (by omega) (by
      rw [dv_take_set his, dv_take_succ hia, dv_take_dgt b, Nat.pow_succ, Nat.mul_assoc, ← hx, ← hy]
      have e2 : W32 ^ i * q + W32 ^ i * (W32 * e) = W32 ^ i * (c + x + y) := by rw [← Nat.mul_add, hqe]
      rw [Nat.mul_add, Nat.mul_add] at e2
      omega)
    refine ⟨s', c', r1, r2, r3, r4, fun m hm => ?_⟩
    obtain ⟨m, rfl⟩ : ∃ i, m = i + 1 := ⟨m - 1, by omega⟩
    rw [← r5 m (by omega)]
    have ga := dg_get a i hia
    rw [← hx] at ga
    have hiL : i < L := by omega
    have w5 : IntKind.i64.wrap ((i : Int) + 1) = (i : Int) + 1 := wrap64_id _ (by omega) (by omega)
    by_cases hib : i < b.length
    · have gb := dg_get b i hib
      have hyb : y = b[i] := by rw [hy, dgt_get hib]
      rw [← hyb] at gb
      simp [iterK_succ, hia, hib, ga, gb, t, hiL, hs, w5, dg_set, ← hx, ← hyb]
    · rw [dgt_end (by omega)] at hy
      subst hy
      simp only [Int.natCast_zero] at t
      simp [iterK_succ, hia, hib, ga, t, hiL, hs, w5, dg_set, ← hx]

def spPlus : List AV → Option PRes := sp2 cOf cOf fun x y => if (digs x).length < 30000000 ∧ (digs y).length < 30000000 then some (dA (dpad (max (digs x).length (digs y).length + 1) (x + y))) else none

theorem plus_run (hA : G 103 = spAdd32) : FSpec (fun args n => pureF G ic n c94F args) spPlus := by
  intro args r h
  obtain ⟨a, b, x, y, v, rfl, hx, hy, hv, rfl⟩ := sp2_inv h
  obtain ⟨⟨lx, ly⟩, hv⟩ := of_ite hv
  cases hv
  obtain ⟨la, rfl, -⟩ := cOf_inv hx
  obtain ⟨lb, rfl, -⟩ := cOf_inv hy
  have main : ∀ (la lb : Bool) (x y : Nat), (digs x).length < 30000000 → (digs y).length < 30000000 → (digs y).length ≤ (digs x).length → ∃ (s' : List Nat) (c' : Nat), s'.length = (digs x).length + 1 ∧ (s'.set (digs x).length c') = dpad ((digs x).length + 1) (x + y) ∧
      ∀ N, N = (digs x).length + 1 → blockE (some c94_e0) 0 (iterK G ic N c94_k0 c94_b0Q N ⟨[(0, .imm la 1 (dg (digs x))), (1, .imm lb 1 (dg (digs y))), (5, .sl 1504320 0 ((digs x).length + 1)), (6, .int .u32 0), (21, .imm la 1 (dg (digs x))), (22, .int .i64 (digs x).length), (23, .int .i64 0)],
        [(1504320, { sz := 1, ty := 88, es := dg (List.replicate ((digs x).length + 1) 0), refs := [] })], [], [1504320], []⟩) =
        some (.normal, ⟨[(0, .imm la 1 (dg (digs x))), (5, .sl 1504320 0 ((digs x).length + 1)), (6, .int .u32 c')], [(1504320, { sz := 1, ty := 88, es := dg s', refs := [] })], [], [1504320], []⟩) := by
    intro la lb x y lx ly hxy
    have l := fun N => plus_loop G ic N hA la lb (digs x) (digs y) (wf_digs x) (wf_digs y) (by omega) ((digs x).length + 1) rfl (digs x).length 0 (List.replicate ((digs x).length + 1) 0) 0 (by omega) (by simp) (wf_replicate _) (by omega) (by simp [dv])
    obtain ⟨s', c', r1, r2, r3, r4, r5⟩ := l ((digs x).length + 1)
    have r4' : dv (s'.take (digs x).length) + W32 ^ (digs x).length * c' = x + y := by
      rw [dv_digs, List.take_of_length_le hxy, dv_digs] at r4; exact r4
    refine ⟨s', c', r1, ?_, fun N hN => ?_⟩
    · refine dpad_of (wf_set r2 (by simp only [W32]; omega)) (by simpa using r1) ?_
      have := dv_take_set (ds := s') (i := (digs x).length) (x := c') (by omega)
      rw [List.take_of_length_le (by simp; omega)] at this
      rw [this]; exact r4'
    · subst hN
      exact r5 _ (by omega)
  by_cases hlt : (digs x).length < (digs y).length
  · obtain ⟨s', c', r1, r2, r3⟩ := main lb la y x ly lx (by omega)
    obtain ⟨N, hN⟩ : ∃ N, N = (digs y).length + 1 := ⟨_, rfl⟩
    have e := r3 N hN
    simp [c94_e0, c94_k0] at e
    rw [Nat.max_eq_right (by omega), Nat.add_comm x y]
    obtain ⟨L, hL⟩ : ∃ L, L = (digs y).length := ⟨_, rfl⟩
    have w1 : IntKind.i64.wrap (((digs y).length : Int) + 1) = ((digs y).length : Int) + 1 := wrap64_id _ (by omega) (by omega)
    have w3 : (((digs y).length : Int) + 1) * 4 ≤ 140737488355328 := by omega
    have w4 : 0 ≤ ((digs y).length : Int) + 1 := by omega
    have w6 : (((digs y).length : Int) + 1).toNat = (digs y).length + 1 := by omega
    have w7 : (digs y).length < s'.length := by omega
    have w8 : ((digs y).length : Int) < (digs y).length + 1 := by omega
    have hk2 : (digs y).length + 1 ≤ s'.length := by omega
    have hk3 : (dg (dpad ((digs y).length + 1) (y + x))).take ((digs y).length + 1) = dg (dpad ((digs y).length + 1) (y + x)) := by
      have := take_dg (dpad ((digs y).length + 1) (y + x)); rwa [dpad_length] at this
    refine ⟨{ val := dA (dpad ((digs y).length + 1) (y + x)) }, ⟨N, ?_⟩, rfl, (weak_dA _ _).symm⟩
    simp [pureF, runF, hlt, w1, w3, w4, w6, w7, w8, dg_replicate, e, dg_set, r2, hk2, hk3, dA, dpad_length]
  · obtain ⟨s', c', r1, r2, r3⟩ := main la lb x y lx ly (by omega)
    obtain ⟨N, hN⟩ : ∃ N, N = (digs x).length + 1 := ⟨_, rfl⟩
    have e := r3 N hN
    simp [c94_e0, c94_k0] at e
    rw [Nat.max_eq_left (by omega)]
    have w1 : IntKind.i64.wrap (((digs x).length : Int) + 1) = ((digs x).length : Int) + 1 := wrap64_id _ (by omega) (by omega)
    have w3 : (((digs x).length : Int) + 1) * 4 ≤ 140737488355328 := by omega
    have w4 : 0 ≤ ((digs x).length : Int) + 1 := by omega
    have w6 : (((digs x).length : Int) + 1).toNat = (digs x).length + 1 := by omega
    have w7 : (digs x).length < s'.length := by omega
    have w8 : ((digs x).length : Int) < (digs x).length + 1 := by omega
    have hk2 : (digs x).length + 1 ≤ s'.length := by omega
    have hk3 : (dg (dpad ((digs x).length + 1) (x + y))).take ((digs x).length + 1) = dg (dpad ((digs x).length + 1) (x + y)) := by
      have := take_dg (dpad ((digs x).length + 1) (x + y)); rwa [dpad_length] at this
    refine ⟨{ val := dA (dpad ((digs x).length + 1) (x + y)) }, ⟨N, ?_⟩, rfl, (weak_dA _ _).symm⟩
    simp [pureF, runF, hlt, w1, w3, w4, w6, w7, w8, dg_replicate, e, dg_set, r2, hk2, hk3, dA, dpad_length]

/-! ### minus -/

theorem minus_loop (hA : G 104 = spSub32) (la lb : Bool) (a b : List Nat) (ha : Wf a) (hb : Wf b) (hla : a.length < 100000000) : ∀ d i s c, i + d = a.length → s.length = a.length → Wf s → c ≤ 1 →
    dv (s.take i) + dv (b.take i) = dv (a.take i) + W32 ^ i * c →
    ∃ (s' : List Nat) (c' : Nat), s'.length = a.length ∧ Wf s' ∧ dv s' + dv (b.take a.length) = dv a + W32 ^ a.length * c' ∧ ∀ m, d < m →
      blockE (some c96_e0) 0 (iterK G ic n c96_k0 c96_b0Q m ⟨[(1, .imm lb 1 (dg b)), (5, .sl 1536192 0 a.length), (6, .int .u32 c), (13, .imm la 1 (dg a)), (14, .int .i64 a.length), (15, .int .i64 i)],
        [(1536192, { sz := 1, ty := 88, es := dg s, refs := [] })], [], [1536192], []⟩) =
        some (.normal, ⟨[(5, .sl 1536192 0 a.length)], [(1536192, { sz := 1, ty := 88, es := dg s', refs := [] })], [], [1536192], []⟩) := by
  intro d
  induction d with
  | zero =>
    intro i s c hi hs hw hc hv
    have e : i = a.length := by omega
    subst e
    rw [List.take_length, List.take_of_length_le (by omega)] at hv
    refine ⟨s, c, hs, hw, hv, fun m hm => ?_⟩
    obtain ⟨m, rfl⟩ : ∃ i, m = i + 1 := ⟨m - 1, by omega⟩
    simp [iterK_succ]
  | succ d ih =>
    intro i s c hi hs hw hc hv
    have hia : i < a.length := by omega
    have his : i < s.length := by omega
    have hA1 := wf_get ha hia
    have hB1 := dgt_lt hb i
    simp only [W32] at hA1 hB1
    obtain ⟨x, hx⟩ : ∃ x, x = a[i] := ⟨_, rfl⟩
    obtain ⟨y, hy⟩ : ∃ y, y = dgt b i := ⟨_, rfl⟩
    rw [← hx] at hA1
    rw [← hy] at hB1
    obtain ⟨q, hq⟩ : ∃ q, q = (x + 4294967296 - y - c) % 4294967296 := ⟨_, rfl⟩
    obtain ⟨e, he⟩ : ∃ e, e = if x < y + c then 1 else 0 := ⟨_, rfl⟩
    have t := sub32_at hA hA1 hB1 hc hq he
    have he1 : e ≤ 1 := by rw [he]; split <;> omega
    have hqe : q + y + c = x + W32 * e := by simp only [W32]; rw [he]; split <;> omega
    obtain ⟨s', c', r1, r2, r4, r5⟩ := ih (i + 1) (s.set i q) e (by omega) (by simpa using hs) (wf_set hw (by simp only [W32]; omega)) he1 (by
      rw [dv_take_set his, dv_take_succ hia, dv_take_dgt b, Nat.pow_succ, Nat.mul_assoc, ← hx, ← hy]
      exact sub_step hv hqe)
    refine ⟨s', c', r1, r2, r4, fun m hm => ?_⟩
    obtain ⟨m, rfl⟩ : ∃ i, m = i + 1 := ⟨m - 1, by omega⟩
    rw [← r5 m (by omega)]
    have ga := dg_get a i hia
    rw [← hx] at ga
    have w5 : IntKind.i64.wrap ((i : Int) + 1) = (i : Int) + 1 := wrap64_id _ (by omega) (by omega)
    by_cases hib : i < b.length
    · have gb := dg_get b i hib
      have hyb : y = b[i] := by rw [hy, dgt_get hib]
      rw [← hyb] at gb
      simp [iterK_succ, hia, hib, ga, gb, t, hs, w5, dg_set, ← hx, ← hyb]
    · rw [dgt_end (by omega)] at hy
      subst hy
      simp only [Int.natCast_zero] at t
      simp [iterK_succ, hia, hib, ga, t, hs, w5, dg_set, ← hx]

def spMinus : List AV → Option PRes := sp2 cOf cOf fun x y => if y ≤ x then some (dA (dpad (digs x).length (x - y))) else none

theorem minus_run (hA : G 104 = spSub32) : FSpec (fun args n => pureF G ic n c96F args) spMinus := by
  intro args r h
  obtain ⟨a, b, x, y, v, rfl, hx, hy, hv, rfl⟩ := sp2_inv h
  obtain ⟨hyx, hv⟩ := of_ite hv
  cases hv
  obtain ⟨la, rfl, lx⟩ := cOf_inv hx
  obtain ⟨lb, rfl, ly⟩ := cOf_inv hy
  obtain ⟨N, hN⟩ : ∃ N, N = (digs x).length + 1 := ⟨_, rfl⟩
  obtain ⟨s', c', r1, r2, r4, r5⟩ := minus_loop G ic N hA la lb (digs x) (digs y) (wf_digs x) (wf_digs y) lx (digs x).length 0 (List.replicate (digs x).length 0) 0 (by omega) (by simp) (wf_replicate _) (by omega) (by simp [dv])
  have e := r5 N (by omega)
  simp [c96_e0, c96_k0] at e
  have hs : s' = dpad (digs x).length (x - y) := by
    rw [List.take_of_length_le (digs_len_mono hyx), dv_digs, dv_digs] at r4
    have hb := dv_lt r2
    rw [r1] at hb
    have hc := borrow_zero hb hyx r4
    rw [hc, Nat.mul_zero, Nat.add_zero] at r4
    exact dpad_of r2 r1 (by omega)
  have w3 : ((digs x).length : Int) * 4 ≤ 140737488355328 := by omega
  have hk2 : (digs x).length ≤ s'.length := by omega
  have hk3 : (dg s').take (digs x).length = dg s' := by rw [← r1, take_dg]
  refine ⟨{ val := dA s' }, ⟨N, ?_⟩, rfl, by rw [← hs]; exact (weak_dA _ _).symm⟩
  simp [pureF, runF, w3, dg_replicate, e, hk2, hk3, dA]


/-! ### sum, Add, Sub -/

def spSum : List AV → Option PRes := sp3 zOf zOf boolOf fun x y b => some (iV (x + sg b y.natAbs))

theorem plus_at {G : Pure} (hP : G 94 = spPlus) {la lb : Bool} {x y : Nat} (lx : (digs x).length < 30000000) (ly : (digs y).length < 30000000) :
    G 94 [.imm la 1 (dg (digs x)), .imm lb 1 (dg (digs y))] = some { val := .imm false 1 (dg (dpad (max (digs x).length (digs y).length + 1) (x + y))) } :=
  sp2_at hP (cOf_mk (by omega)) (cOf_mk (by omega)) (by rw [if_pos ⟨lx, ly⟩]; rfl)
theorem minus_at {G : Pure} (hP : G 96 = spMinus) {la lb : Bool} {x y : Nat} (lx : (digs x).length < 30000000) (ly : (digs y).length < 30000000) (h : y ≤ x) :
    G 96 [.imm la 1 (dg (digs x)), .imm lb 1 (dg (digs y))] = some { val := .imm false 1 (dg (dpad (digs x).length (x - y))) } :=
  sp2_at hP (cOf_mk (by omega)) (cOf_mk (by omega)) (by rw [if_pos h]; rfl)
theorem cmpP_at {G : Pure} (hP : G 95 = spCompareP) {la lb : Bool} {x y : Nat} (lx : (digs x).length < 100000000) (ly : (digs y).length < 100000000) :
    G 95 [.imm la 1 (dg (digs x)), .imm lb 1 (dg (digs y))] = some { val := .int .i64 (cmpI x y) } :=
  sp2_at hP (cOf_mk lx) (cOf_mk ly) rfl

theorem lt_pow_len (x : Nat) : x < W32 ^ (digs x).length := by have := dv_lt (wf_digs x); rwa [dv_digs] at this

theorem sumP_run (hMg : G 80 = spMagnitude) (hP : G 94 = spPlus) (hMi : G 96 = spMinus) (hC : G 95 = spCompareP) (hM : G 84 = spMake) :
    FSpec (fun args n => pureF G ic n c86F args) spSum := by
  intro args r h
  obtain ⟨a, b, c, x, y, s3, v, rfl, hx, hy, hz, hv, rfl⟩ := sp3_inv h
  cases hv
  obtain rfl := boolOf_inv hz
  have lx := zOf_zl hx
  have ly := zOf_zl hy
  simp only [zl] at lx ly
  have t1 := magnitude_at hMg hx
  have t2 := magnitude_at hMg hy
  obtain ⟨s1, l1, d1, rfl, w1, k1, ex⟩ := zOf_inv hx
  obtain ⟨s2, l2, d2, rfl, w2, k2, ey⟩ := zOf_inv hy
  obtain ⟨X, hX⟩ : ∃ X, X = x.natAbs := ⟨_, rfl⟩
  obtain ⟨Y, hY⟩ : ∃ Y, Y = y.natAbs := ⟨_, rfl⟩
  have exX : x = sg s1 X := by rw [hX, ex, sg_natAbs]
  rw [← hX] at t1 lx
  rw [← hY] at t2 ly ⊢
  obtain ⟨z, hz⟩ : ∃ z, z = x + sg s3 Y := ⟨_, rfl⟩
  rw [← hz]
  refine ⟨{ val := iV z }, ⟨0, ?_⟩, rfl, (weak_iV _).symm⟩
  by_cases hs : s1 = s3
  · subst hs
    have t3 := plus_at hP (la := false) (lb := false) lx ly
    have hlt : X + Y < W32 ^ (max (digs X).length (digs Y).length + 1) := by
      have h1 := lt_pow_len X
      have h2 := lt_pow_len Y
      have h3 : W32 ^ (digs X).length ≤ W32 ^ max (digs X).length (digs Y).length := Nat.pow_le_pow_right (by decide) (by omega)
      have h4 : W32 ^ (digs Y).length ≤ W32 ^ max (digs X).length (digs Y).length := Nat.pow_le_pow_right (by decide) (by omega)
      have h5 : W32 ^ max (digs X).length (digs Y).length * 2 ≤ W32 ^ max (digs X).length (digs Y).length * W32 := Nat.mul_le_mul_left _ (by decide)
      rw [Nat.pow_succ]
      omega
    have t4 := makeP_at' hM (b := s1) (nl := false) (z := z) (wf_dpad (max (digs X).length (digs Y).length + 1) (X + Y)) (by rw [dpad_length]; omega) (by rw [dv_dpad hlt, sg_add_same, hz, exX])
    clear hz ex ey exX hX hY
    simp [pureF, runF, t1, t2, t3, t4, iV_agg]
  · have t0 := cmpP_at hC (la := false) (lb := false) (x := X) (y := Y) (by omega) (by omega)
    by_cases hle : Y ≤ X
    · have hc : 0 ≤ cmpI X Y := cmp_ge.2 hle
      have t3 := minus_at hMi (la := false) (lb := false) lx ly hle
      have t4 := makeP_at' hM (b := s1) (nl := false) (z := z) (wf_dpad (digs X).length (X - Y)) (by rw [dpad_length]; omega) (by rw [dv_dpad (by have := lt_pow_len X; omega), sg_sub_same hle hs, hz, exX])
      clear hz ex ey exX hX hY
      simp [pureF, runF, t1, t2, hs, t0, hc, t3, t4, iV_agg]
    · have hc : ¬ 0 ≤ cmpI X Y := fun h => hle (cmp_ge.1 h)
      have t3 := minus_at hMi (la := false) (lb := false) ly lx (by omega)
      have t4 := makeP_at' hM (b := s3) (nl := false) (z := z) (wf_dpad (digs Y).length (Y - X)) (by rw [dpad_length]; omega) (by rw [dv_dpad (by have := lt_pow_len Y; omega), sg_sub_same (by omega) (Ne.symm hs), hz, exX, Int.add_comm])
      clear hz ex ey exX hX hY
      simp [pureF, runF, t1, t2, hs, t0, hc, t3, t4, iV_agg]

theorem addP_run (hS : G 86 = spSum) : FSpec (fun args n => pureF G ic n c67F args) spAdd := by
  intro args r h
  obtain ⟨a, b, x, y, v, rfl, hx, hy, hv, rfl⟩ := sp2_inv h
  cases hv
  obtain ⟨s1, l1, d1, rfl, w1, k1, -⟩ := zOf_inv hx
  obtain ⟨s2, l2, d2, rfl, w2, k2, ey⟩ := zOf_inv hy
  have t := sp3_at hS hx hy (show boolOf (.bool s2) = some s2 from rfl) rfl
  rw [show sg s2 y.natAbs = y by rw [ey, sg_natAbs]] at t
  obtain ⟨z, hz⟩ : ∃ z, z = x + y := ⟨_, rfl⟩
  rw [← hz] at t ⊢
  clear hz
  refine ⟨{ val := iV z }, ⟨0, ?_⟩, rfl, (weak_iV _).symm⟩
  simp only [iV_agg] at t
  simp [pureF, runF, t, iV_agg]

theorem subP_run (hS : G 86 = spSum) : FSpec (fun args n => pureF G ic n c93F args) spSub := by
  intro args r h
  obtain ⟨a, b, x, y, v, rfl, hx, hy, hv, rfl⟩ := sp2_inv h
  cases hv
  obtain ⟨s1, l1, d1, rfl, w1, k1, -⟩ := zOf_inv hx
  obtain ⟨s2, l2, d2, rfl, w2, k2, ey⟩ := zOf_inv hy
  have t := sp3_at hS hx hy (show boolOf (.bool !s2) = some (!s2) from rfl) rfl
  rw [show sg (!s2) y.natAbs = -y by rw [sg_not, ey, sg_natAbs], ← Int.sub_eq_add_neg] at t
  obtain ⟨z, hz⟩ : ∃ z, z = x - y := ⟨_, rfl⟩
  rw [← hz] at t ⊢
  clear hz
  refine ⟨{ val := iV z }, ⟨0, ?_⟩, rfl, (weak_iV _).symm⟩
  simp only [iV_agg] at t
  simp [pureF, runF, t, iV_agg]

/-! ### times, Mul -/

theorem times_inner (la lb : Bool) (a b : List Nat) (i : Nat) (ha : Wf a) (hb : Wf b) (hab : a.length + b.length < 100000000) (hi : i < a.length) (x : Nat) (hx : x = a[i]) (s0 : List Nat) : ∀ d k s c, k + d = b.length → s.length = a.length + b.length → Wf s → c < W32 →
    dv s + W32 ^ (i + k) * c = dv s0 + W32 ^ i * (x * dv (b.take k)) → (∀ j, i + b.length ≤ j → dgt s j = dgt s0 j) →
    ∃ (s' : List Nat) (c' : Nat), s'.length = a.length + b.length ∧ Wf s' ∧ c' < W32 ∧ dv s' + W32 ^ (i + b.length) * c' = dv s0 + W32 ^ i * (x * dv b) ∧ (∀ j, i + b.length ≤ j → dgt s' j = dgt s0 j) ∧ ∀ m, d < m →
      blockE (some c85_e0) 2 (iterK G ic n c85_k0 c85_b0Q m ⟨[(1, .imm lb 1 (dg b)), (5, .sl 1360256 0 (a.length + b.length)), (6, .int .i64 i), (7, .int .u32 x), (8, .int .u64 c), (17, .imm la 1 (dg a)), (18, .int .i64 a.length), (19, .int .i64 i), (24, .imm lb 1 (dg b)), (25, .int .i64 b.length), (26, .int .i64 k)],
        [(1360256, { sz := 1, ty := 88, es := dg s, refs := [] })], [], [1360256], []⟩) =
        some (.normal, ⟨[(1, .imm lb 1 (dg b)), (5, .sl 1360256 0 (a.length + b.length)), (6, .int .i64 i), (8, .int .u64 c'), (17, .imm la 1 (dg a)), (18, .int .i64 a.length), (19, .int .i64 i)],
          [(1360256, { sz := 1, ty := 88, es := dg s', refs := [] })], [], [1360256], []⟩) := by
  intro d
  induction d with
  | zero =>
    intro k s c hk hs hw hc hv hz
    have e : k = b.length := by omega
    subst e
    rw [List.take_length] at hv
    refine ⟨s, c, hs, hw, hc, hv, hz, fun m hm => ?_⟩
    obtain ⟨m, rfl⟩ : ∃ i, m = i + 1 := ⟨m - 1, by omega⟩
    simp [iterK_succ]
  | succ d ih =>
    intro k s c hk hs hw hc hv hz
    have hkb : k < b.length := by omega
    have hik : i + k < s.length := by omega
    have hA := wf_get ha hi
    have hB := wf_get hb hkb
    have hS := wf_get hw hik
    obtain ⟨hb1, hb2⟩ := mul_bound hc hS hA hB
    simp only [W32] at hA hB hS hc hb1 hb2
    obtain ⟨B, hBe⟩ : ∃ B, B = b[k] := ⟨_, rfl⟩
    obtain ⟨S, hSe⟩ : ∃ S, S = s[i + k] := ⟨_, rfl⟩
    rw [← hx] at hA hb1 hb2
    rw [← hBe] at hB hb1 hb2
    rw [← hSe] at hS hb1
    obtain ⟨M, hM⟩ : ∃ M, M = x * B := ⟨_, rfl⟩
    rw [← hM] at hb1 hb2
    obtain ⟨t, ht⟩ : ∃ t, t = c + (M + S) := ⟨_, rfl⟩
    obtain ⟨q, hq⟩ : ∃ q, q = t % 4294967296 := ⟨_, rfl⟩
    obtain ⟨e, he⟩ : ∃ e, e = t / 4294967296 := ⟨_, rfl⟩
    have hqe : q + W32 * e = c + S + x * B := by rw [← hM]; simp only [W32]; omega
    have hset := dv_set (ds := s) (j := i + k) (q := q) hik
    rw [← hSe] at hset
    obtain ⟨s', c', r1, r2, r3, r4, r5, r6⟩ := ih (k + 1) (s.set (i + k) q) e (by omega) (by simpa using hs) (wf_set hw (by simp only [W32]; omega)) (by simp only [W32]; omega) (by
      have := mul_step hv hset hqe
      rw [← Nat.add_assoc, Nat.pow_succ, Nat.mul_assoc, this, dv_take_succ hkb, ← hBe, Nat.pow_add, Nat.mul_assoc]
      congr 1
      rw [Nat.mul_add x, Nat.mul_add (W32 ^ i)]
      congr 2
      rw [Nat.mul_left_comm]) (fun j hj => by rw [dgt_set_ne (by omega)]; exact hz j hj)
    refine ⟨s', c', r1, r2, r3, r4, r5, fun m hm => ?_⟩
    obtain ⟨m, rfl⟩ : ∃ i, m = i + 1 := ⟨m - 1, by omega⟩
    rw [← r6 m (by omega)]
    have gb := dg_get b k hkb
    have gs := dg_get s (i + k) hik
    rw [← hBe] at gb
    rw [← hSe] at gs
    have hikl : i + k < a.length + b.length := by omega
    have w0 : IntKind.i64.wrap ((i : Int) + k) = (i : Int) + k := wrap64_id _ (by omega) (by omega)
    have w0' : ((i : Int) + k).toNat = i + k := by omega
    have w1 : IntKind.u64.wrap (S : Int) = (S : Int) := wrapu64_id _ (by omega) (by omega)
    have w2 : IntKind.u64.wrap (x : Int) = (x : Int) := wrapu64_id _ (by omega) (by omega)
    have w3 : IntKind.u64.wrap (B : Int) = (B : Int) := wrapu64_id _ (by omega) (by omega)
    have w5 : IntKind.u64.wrap ((x : Int) * B) = (M : Int) := w64_nat (by rw [hM]; simp) (by omega)
    have w4 : IntKind.u64.wrap ((M : Int) + S) = (M : Int) + S := wrapu64_id _ (by omega) (by omega)
    have w6 : IntKind.u64.wrap ((c : Int) + ((M : Int) + S)) = (t : Int) := w64_nat (by omega) (by omega)
    have w7 : IntKind.i64.wrap ((k : Int) + 1) = (k : Int) + 1 := wrap64_id _ (by omega) (by omega)
    have hp : 0 ≤ (i : Int) + k := by omega
    have hp2 : (i : Int) + k < (a.length : Int) + b.length := by omega
    simp [iterK_succ, hkb, w0, w0', w1, w2, w3, w4, w5, w6, w7, w32_nat hq, fdiv_nat he, dg_set, gb, gs, hp, hp2, ← hBe, ← hSe, hs, hikl]

theorem times_outer (la lb : Bool) (a b : List Nat) (ha : Wf a) (hb : Wf b) (hab : a.length + b.length < 100000000) (hn : b.length < n) : ∀ d i s, i + d = a.length → s.length = a.length + b.length → Wf s → dv s = dv (a.take i) * dv b → (∀ j, i + b.length ≤ j → dgt s j = 0) →
    ∃ s' : List Nat, s'.length = a.length + b.length ∧ Wf s' ∧ dv s' = dv a * dv b ∧ ∀ m, d < m →
      blockE (some c85_e1) 0 (iterK G ic n c85_k1 c85_b1Q m ⟨[(1, .imm lb 1 (dg b)), (5, .sl 1360256 0 (a.length + b.length)), (17, .imm la 1 (dg a)), (18, .int .i64 a.length), (19, .int .i64 i)],
        [(1360256, { sz := 1, ty := 88, es := dg s, refs := [] })], [], [1360256], []⟩) =
        some (.normal, ⟨[(5, .sl 1360256 0 (a.length + b.length))], [(1360256, { sz := 1, ty := 88, es := dg s', refs := [] })], [], [1360256], []⟩) := by
  intro d
  induction d with
  | zero =>
    intro i s hi hs hw hv hz
    have e : i = a.length := by omega
    subst e
    rw [List.take_length] at hv
    refine ⟨s, hs, hw, hv, fun m hm => ?_⟩
    obtain ⟨m, rfl⟩ : ∃ i, m = i + 1 := ⟨m - 1, by omega⟩
    simp [iterK_succ]
  | succ d ih =>
    intro i s hi hs hw hv hz
    have hia : i < a.length := by omega
    obtain ⟨x, hx⟩ : ∃ x, x = a[i] := ⟨_, rfl⟩
    obtain ⟨s1, c, p1, p2, p3, p4, p5, p6⟩ := times_inner G ic n la lb a b i ha hb hab hia x hx s b.length 0 s 0 (by omega) hs hw (by decide) (by simp [dv]) (fun _ _ => rfl)
    have hil : i + b.length < s1.length := by omega
    have hzero : s1[i + b.length] = 0 := by
      have h1 := p5 (i + b.length) (Nat.le_refl _)
      rw [hz _ (Nat.le_refl _), dgt_get hil] at h1
      exact h1
    have hset := dv_set (ds := s1) (j := i + b.length) (q := c) hil
    rw [hzero, Nat.mul_zero, Nat.add_zero] at hset
    obtain ⟨s', r1, r2, r3, r4⟩ := ih (i + 1) (s1.set (i + b.length) c) (by omega) (by simpa using p1) (wf_set p2 p3) (by
      rw [hset, p4, hv, dv_take_succ hia, Nat.add_mul, Nat.mul_assoc, ← hx]) (fun j hj => by rw [dgt_set_ne (by omega), p5 j (by omega)]; exact hz j (by omega))
    refine ⟨s', r1, r2, r3, fun m hm => ?_⟩
    obtain ⟨m, rfl⟩ : ∃ i, m = i + 1 := ⟨m - 1, by omega⟩
    rw [← r4 m (by omega)]
    have e := p6 n hn
    simp [c85_e0, c85_k0] at e
    have ga := dg_get a i hia
    rw [← hx] at ga
    have gs := dg_get s1 (i + b.length) hil
    have hib : i + b.length < a.length + b.length := by omega
    have hp : 0 ≤ (i : Int) + b.length := by omega
    have hp2 : (i : Int) + b.length < (a.length : Int) + b.length := by omega
    have w0 : IntKind.i64.wrap ((i : Int) + b.length) = (i : Int) + b.length := wrap64_id _ (by omega) (by omega)
    have w0' : ((i : Int) + b.length).toNat = i + b.length := by omega
    have w1 : IntKind.u32.wrap (c : Int) = (c : Int) := wrapu32_id _ (by omega) (by simp only [W32] at p3; omega)
    have w7 : IntKind.i64.wrap ((i : Int) + 1) = (i : Int) + 1 := wrap64_id _ (by omega) (by omega)
    simp [iterK_succ, hia, ga, e, gs, w0, w0', w1, w7, dg_set, hp, hp2, p1, hib, ← hx]

def spTimes : List AV → Option PRes := sp2 cOf cOf fun x y => if (digs x).length + (digs y).length < 100000000 then some (dA (dpad ((digs x).length + (digs y).length) (x * y))) else none

theorem times_run : FSpec (fun args n => pureF G ic n c85F args) spTimes := by
  intro args r h
  obtain ⟨a, b, x, y, v, rfl, hx, hy, hv, rfl⟩ := sp2_inv h
  obtain ⟨hxy, hv⟩ := of_ite hv
  cases hv
  obtain ⟨la, rfl, lx⟩ := cOf_inv hx
  obtain ⟨lb, rfl, ly⟩ := cOf_inv hy
  obtain ⟨N, hN⟩ : ∃ N, N = (digs x).length + (digs y).length + 1 := ⟨_, rfl⟩
  obtain ⟨s', r1, r2, r3, r4⟩ := times_outer G ic N la lb (digs x) (digs y) (wf_digs x) (wf_digs y) hxy (by omega) (digs x).length 0 (List.replicate ((digs x).length + (digs y).length) 0) (by omega) (by simp) (wf_replicate _) (by rw [dv_replicate]; simp [dv]) (fun j _ => dgt_replicate _ j)
  have e := r4 N (by omega)
  simp [c85_e1, c85_k1] at e
  rw [dv_digs, dv_digs] at r3
  have hs := dpad_of r2 r1 r3
  refine ⟨{ val := dA s' }, ⟨N, ?_⟩, rfl, by rw [← hs]; exact (weak_dA _ _).symm⟩
  have w0 : IntKind.i64.wrap (((digs x).length : Int) + (digs y).length) = ((digs x).length : Int) + (digs y).length := wrap64_id _ (by omega) (by omega)
  have w1 : 0 ≤ ((digs x).length : Int) + (digs y).length := by omega
  have w3 : (((digs x).length : Int) + (digs y).length) * 4 ≤ 140737488355328 := by omega
  have w4 : (((digs x).length : Int) + (digs y).length).toNat = (digs x).length + (digs y).length := by omega
  have hk2 : (digs x).length + (digs y).length ≤ s'.length := by omega
  have hk3 : (dg s').take ((digs x).length + (digs y).length) = dg s' := by rw [← r1, take_dg]
  simp [pureF, runF, w0, w1, w3, w4, dg_replicate, e, hk2, hk3, dA]

theorem mulP_run (hMg : G 80 = spMagnitude) (hT : G 85 = spTimes) (hM : G 84 = spMake) : FSpec (fun args n => pureF G ic n c66F args) spMul := by
  intro args r h
  obtain ⟨a, b, x, y, v, rfl, hx, hy, hv, rfl⟩ := sp2_inv h
  cases hv
  have lx := zOf_zl hx
  have ly := zOf_zl hy
  simp only [zl] at lx ly
  have t1 := magnitude_at hMg hx
  have t2 := magnitude_at hMg hy
  obtain ⟨s1, l1, d1, rfl, w1, k1, ex⟩ := zOf_inv hx
  obtain ⟨s2, l2, d2, rfl, w2, k2, ey⟩ := zOf_inv hy
  obtain ⟨X, hX⟩ : ∃ X, X = x.natAbs := ⟨_, rfl⟩
  obtain ⟨Y, hY⟩ : ∃ Y, Y = y.natAbs := ⟨_, rfl⟩
  have exX : x = sg s1 X := by rw [hX, ex, sg_natAbs]
  have eyY : y = sg s2 Y := by rw [hY, ey, sg_natAbs]
  rw [← hX] at t1 lx
  rw [← hY] at t2 ly
  obtain ⟨z, hz⟩ : ∃ z, z = x * y := ⟨_, rfl⟩
  rw [← hz]
  have t3 : G 85 [.imm false 1 (dg (digs X)), .imm false 1 (dg (digs Y))] = some { val := .imm false 1 (dg (dpad ((digs X).length + (digs Y).length) (X * Y))) } :=
    sp2_at hT (cOf_mk (by omega)) (cOf_mk (by omega)) (by rw [if_pos (by omega)]; rfl)
  have hlt : X * Y < W32 ^ ((digs X).length + (digs Y).length) := by rw [Nat.pow_add]; exact Nat.mul_lt_mul'' (lt_pow_len X) (lt_pow_len Y)
  have t4 := makeP_at' hM (b := s1 != s2) (nl := false) (z := z) (wf_dpad ((digs X).length + (digs Y).length) (X * Y)) (by rw [dpad_length]; omega) (by rw [dv_dpad hlt, sg_mul, hz, exX, eyY])
  clear hz ex ey exX eyY hX hY
  refine ⟨{ val := iV z }, ⟨0, ?_⟩, rfl, (weak_iV _).symm⟩
  simp only [bne] at t4
  simp [pureF, runF, t1, t2, t3, t4, iV_agg]

end
end Go.Proofs.Ythlpmghodgiknaa.C
