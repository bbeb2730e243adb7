/-
  The program's integers: division of digits, division with remainder, greatest common divisor.
-/
import Derived.Test.YthlpmghodgiknaaSpY
namespace Go.Proofs.Ythlpmghodgiknaa.C
open Go Go.Ev

section
variable (G : Pure) (ic : Inl) (n : Nat)

/-- The digits that a division gives. -/
def divRes (x y : Nat) : List Nat × List Nat :=
  if x < y then ([], digs x)
  else if (digs y).length = 1 then (dpad (digs x).length (x / y), dpad 1 (x % y))
  else (dpad ((digs x).length - (digs y).length + 1) (x / y), dpad (digs y).length (x % y))

def spDivide : List AV → Option PRes := sp2 cOf cOf fun x y => if y ≠ 0 ∧ (digs x).length < 40000000 ∧ (digs y).length < 40000000 then some (.tup [dA (divRes x y).1, dA (divRes x y).2]) else none

theorem weak_tup2 (l1 l2 : Bool) (a b : List Nat) : AV.weak (.tup [.imm l1 1 (dg a), .imm l2 1 (dg b)]) = .tup [dA a, dA b] := by simp [AV.weak, AV.weakL, weakLL_dg, dA]

theorem one_digit {y : Nat} (h : (digs y).length = 1) : digs y = [y] ∧ y < 4294967296 := by
  have h1 := dv_digs y
  match hd : digs y, h with
  | [d], _ =>
    rw [hd] at h1
    simp only [dv, Nat.mul_zero, Nat.add_zero] at h1
    have := wf_digs y d (by rw [hd]; simp)
    subst h1
    exact ⟨rfl, by simpa [W32] using this⟩

/-- The shift that makes the highest digit great. -/
theorem norm_shift {y m : Nat} (hy : y ≠ 0) (hm : (digs y).length = m + 1) : ∃ r, bl (dgt (digs y) m) + r = 32 ∧ r < 32 ∧ 2 ^ r * y < W32 ^ (m + 1) ∧ W32 ^ m * 2147483648 ≤ 2 ^ r * y := by
  have hg : dgt (digs y) m = (digs y)[m]'(by omega) := dgt_get (by omega)
  have htop : (digs y)[m]'(by omega) ≠ 0 := digs_last (by omega)
  have hb := bl_dv (wf_digs y) hm htop
  rw [dv_digs, ← hg] at hb
  have hd := bl_digit (dgt_lt (wf_digs y) m)
  have hpos : bl (dgt (digs y) m) ≠ 0 := by rw [bl_pos (by rw [hg]; exact htop)]; omega
  refine ⟨32 - bl (dgt (digs y) m), by omega, by omega, ?_, ?_⟩
  · have h1 := lt_bl y
    have h2 : 2 ^ (32 - bl (dgt (digs y) m)) * y < 2 ^ (32 - bl (dgt (digs y) m)) * 2 ^ bl y := Nat.mul_lt_mul_of_pos_left h1 (Nat.pow_pos (by decide))
    rw [← Nat.pow_add] at h2
    rw [W32_pow]
    rwa [show 32 - bl (dgt (digs y) m) + bl y = 32 * (m + 1) by omega] at h2
  · have h1 := bl_le hy
    have h2 : 2 ^ (32 - bl (dgt (digs y) m)) * 2 ^ (bl y - 1) ≤ 2 ^ (32 - bl (dgt (digs y) m)) * y := Nat.mul_le_mul_left _ h1
    rw [← Nat.pow_add] at h2
    rw [W32_pow, show 2147483648 = 2 ^ 31 by decide, ← Nat.pow_add]
    rwa [show 32 - bl (dgt (digs y) m) + (bl y - 1) = 32 * m + 31 by omega] at h2

theorem divide_run (hC : G 95 = spCompareP) (hCl : G 91 = spClone) (hSk : G 97 = spShrunk) (hL : G 98 = spLZ) (hSf : G 99 = spShifted)
    (hD : G 101 = spDigitP) (hR : G 100 = spReduceP) (hU : G 102 = spUnshifted) : FSpec (fun args n => pureF G ic n c92F args) spDivide := by
  intro args r h
  obtain ⟨a, b, x, y, v, rfl, hx, hy, hv, rfl⟩ := sp2_inv h
  obtain ⟨⟨hy0, lx, ly⟩, hv⟩ := of_ite hv
  cases hv
  obtain ⟨la, rfl, -⟩ := cOf_inv hx
  obtain ⟨lb, rfl, -⟩ := cOf_inv hy
  have tc := cmpP_at hC (la := la) (lb := lb) (x := x) (y := y) (by omega) (by omega)
  have tcl := clone_at hCl (nl := la) (wf_digs x) (by omega)
  by_cases hxy : x < y
  · have hc : cmpI x y = -1 := by simp [cmpI, hxy]
    rw [hc] at tc
    have e : divRes x y = ([], digs x) := by unfold divRes; rw [if_pos hxy]
    rw [e]
    refine ⟨{ val := .tup [.imm true 1 (dg []), .imm false 1 (dg (digs x))] }, ⟨0, ?_⟩, rfl, (weak_tup2 _ _ _ _).symm⟩
    simp [pureF, runF, tc, tcl, dg_nil]
  · have hc : ¬ cmpI x y < 0 := by unfold cmpI; rw [if_neg hxy]; split <;> omega
    have hlen : (digs y).length ≤ (digs x).length := digs_len_mono (by omega)
    have hx0 : x ≠ 0 := by omega
    by_cases h1 : (digs y).length = 1
    · have e : divRes x y = (dpad (digs x).length (x / y), dpad 1 (x % y)) := by unfold divRes; rw [if_neg hxy, if_pos h1]
      rw [e]
      obtain ⟨e1, hyb⟩ := one_digit h1
      have ts := shrunk_at hSk (wf_digs x) (by omega) hyb hy0
      rw [dv_digs] at ts
      have hml := Nat.mod_lt x (show 0 < y by omega)
      have e2 : dpad 1 (x % y) = [x % y] := by simp only [dpad]; rw [Nat.mod_eq_of_lt (by simp only [W32]; omega)]
      obtain ⟨R, hRe⟩ : ∃ R, R = x % y := ⟨_, rfl⟩
      obtain ⟨Qd, hQd⟩ : ∃ Qd, Qd = dpad (digs x).length (x / y) := ⟨_, rfl⟩
      have hQl : Qd.length = (digs x).length := by rw [hQd, dpad_length]
      rw [← hRe] at e2 ts ⊢
      rw [← hQd] at ts ⊢
      rw [e2]
      have hne : digs x ≠ [] := fun h => hx0 (digs_eq_nil.1 h)
      have hne2 : dg (digs x) ≠ [] := fun h => hne (dg_eq_nil.1 h)
      refine ⟨{ val := .tup [.imm false 1 (dg Qd), .imm false 1 (dg [R])] }, ⟨0, ?_⟩, rfl, (weak_tup2 _ _ _ _).symm⟩
      rw [e1] at tc ⊢
      have ed : dg [y] = [[.int .u32 (y : Int)]] := rfl
      have ed2 : dg [R] = [[.int .u32 (R : Int)]] := rfl
      rw [ed] at tc ⊢
      rw [ed2]
      have hk3 : (dg Qd).take (digs x).length = dg Qd := by rw [← hQl, take_dg]
      have hk2 : (digs x).length ≤ Qd.length := by omega
      simp [pureF, runF, tc, hc, tcl, hne, hne2, ts, hk3, hk2, -dg_getElem]
    · have e : divRes x y = (dpad ((digs x).length - (digs y).length + 1) (x / y), dpad (digs y).length (x % y)) := by unfold divRes; rw [if_neg hxy, if_neg h1]
      rw [e]
      have hyl := digs_pos_len hy0
      obtain ⟨mm, hmm⟩ : ∃ mm, (digs y).length = mm + 2 := ⟨(digs y).length - 2, by omega⟩
      obtain ⟨r, hr1, hr2, hr3, hr4⟩ := norm_shift hy0 (m := mm + 1) (by omega)
      obtain ⟨lx', hlx⟩ : ∃ lx', lx' = (digs x).length := ⟨_, rfl⟩
      obtain ⟨V, hV⟩ : ∃ V, V = 2 ^ r * y := ⟨_, rfl⟩
      rw [← hV] at hr3 hr4
      have h31 : 2 ^ r ≤ 2147483648 := by
        have : 2 ^ r ≤ 2 ^ 31 := Nat.pow_le_pow_right (by decide) (by omega)
        simpa using this
      have hp : 0 < 2 ^ r := Nat.pow_pos (by decide)
      have hxb := lt_pow_len x
      have hUb : 2 ^ r * x < W32 ^ ((digs x).length + 1) := by
        rw [Nat.pow_succ, Nat.mul_comm]
        exact Nat.mul_lt_mul'' hxb (by simp only [W32]; omega)
      obtain ⟨nq, hnq⟩ : ∃ nq, nq = (digs x).length - (digs y).length + 1 := ⟨_, rfl⟩
      obtain ⟨vs, hvs⟩ : ∃ vs, vs = dpad (mm + 2) V := ⟨_, rfl⟩
      have hvsl : vs.length = mm + 2 := by rw [hvs, dpad_length]
      have hvsw : Wf vs := by rw [hvs]; exact wf_dpad _ _
      have hvsv : dv vs = V := by rw [hvs]; exact dv_dpad hr3
      have hT : 2147483648 ≤ dgt vs (mm + 1) := by
        have h4 : dv (vs.take (mm + 1 + 1)) = V := by rw [List.take_of_length_le (by omega), hvsv]
        rw [dv_take_dgt] at h4
        have h5 := dv_lt (wf_take hvsw (mm + 1))
        rw [List.length_take, Nat.min_eq_left (by omega)] at h5
        have h6 : W32 ^ (mm + 1) * 2147483648 < W32 ^ (mm + 1) * (dgt vs (mm + 1) + 1) := by
          refine Nat.lt_of_le_of_lt hr4 ?_
          rw [Nat.mul_add, Nat.mul_one]
          omega
        have := Nat.lt_of_mul_lt_mul_left h6
        omega
      have hve : (dpad ((digs y).length + 1) V).take (mm + 2) = vs := by rw [hvs]; exact dpad_take (by omega)
      obtain ⟨N, hN⟩ : ∃ N, N = nq + 1 := ⟨_, rfl⟩
      have hstart : dv ((dpad ((digs x).length + 1) (2 ^ r * x)).drop nq) < V := by
        rw [dv_drop_div (wf_dpad _ _), dv_dpad hUb]
        refine Nat.div_lt_of_lt_mul ?_
        have h6 : 2 ^ r * x < 2147483648 * W32 ^ (digs x).length := by
          refine Nat.lt_of_lt_of_le (Nat.mul_lt_mul_of_pos_left hxb hp) (Nat.mul_le_mul_right _ h31)
        have h7 : W32 ^ nq * (W32 ^ (mm + 1) * 2147483648) ≤ W32 ^ nq * V := Nat.mul_le_mul_left _ hr4
        rw [← Nat.mul_assoc, ← Nat.pow_add, show nq + (mm + 1) = (digs x).length by omega] at h7
        refine Nat.lt_of_lt_of_le h6 ?_
        rw [Nat.mul_comm 2147483648]
        exact h7
      obtain ⟨U', Q', F', r1, r2, r3, r4, r5, r6, r7, r8, r9⟩ := divide_loop G ic N hD hR (.imm lb 1 (dg (digs y))) (.int .i64 r) vs (dpad ((digs y).length + 1) V) mm V ((digs x).length + 1) nq (2 ^ r * x) [1472880, 1472720, 1472672] hvsw hvsl (by omega) hve (by rw [dpad_length]; omega) hvsv hT (by omega) (by omega)
        nq N (dpad ((digs x).length + 1) (2 ^ r * x)) (List.replicate nq 0) [] (by simp) (by simp) (wf_dpad _ _) (dpad_length _ _) (wf_replicate _) (by simp) (Nat.le_refl _) hstart (fun j _ => dgt_replicate _ j) (by rw [dv_replicate, dv_dpad hUb, Nat.mul_zero, Nat.add_zero]) (by omega)
      have hdiv : dv Q' = x / y ∧ dv U' = 2 ^ r * (x % y) := by
        have e1 : (2 ^ r * x) / V = dv Q' := by
          rw [← r8, Nat.add_mul_div_left _ _ (by omega), Nat.div_eq_of_lt r7, Nat.zero_add]
        have e2 : (2 ^ r * x) % V = dv U' := by rw [← r8, Nat.add_mul_mod_self_left, Nat.mod_eq_of_lt r7]
        rw [hV, Nat.mul_div_mul_left _ _ hp] at e1
        rw [hV, Nat.mul_mod_mul_left] at e2
        exact ⟨e1.symm, e2.symm⟩
      have hQ' : Q' = dpad nq (x / y) := dpad_of r5 r6 hdiv.1
      have hU'n : U' ≠ [] := fun h => by rw [h] at r4; simp at r4
      have hU'n2 : dg U' ≠ [] := fun h => hU'n (dg_eq_nil.1 h)
      have tu := unshifted_at hU (r := r) r3 (by omega) hr2
      rw [hdiv.2, Nat.mul_div_cancel_left _ hp, r4] at tu
      have gtop := dg_get (digs y) (mm + 1) (by omega)
      obtain ⟨T, hTe⟩ : ∃ T, T = dgt (digs y) (mm + 1) := ⟨_, rfl⟩
      have hTy : (digs y)[mm + 1]'(by omega) = T := by rw [hTe]; exact (dgt_get (by omega)).symm
      rw [hTy] at gtop
      have hTb := dgt_lt (wf_digs y) (mm + 1)
      rw [← hTe] at hr1 hTb
      have tl : G 98 [.int .u32 (T : Int)] = some { val := .int .i64 (r : Nat) } := by
        have := sp1_at hL (u32Of_mk (n := T) (by simpa [W32] using hTb)) rfl
        rw [this, show (32 : Int) - (bl T : Int) = (r : Int) by omega]
      have tsx := shifted_at hSf (la := la) (r := r) (wf_digs x) (by omega) hr2
      have tsy := shifted_at hSf (la := lb) (r := r) (wf_digs y) (by omega) hr2
      rw [dv_digs] at tsx tsy
      rw [← hV] at tsy
      have ee := r9
      simp [c92_e0, c92_k0] at ee
      rw [← hnq, ← hQ']
      obtain ⟨Z, hZ⟩ : ∃ Z, Z = dpad ((digs x).length + 1) (x % y) := ⟨_, rfl⟩
      have hZt : dpad (digs y).length (x % y) = Z.take (mm + 2) := by rw [hZ, dpad_take (by omega), hmm]
      have hZl : Z.length = (digs x).length + 1 := by rw [hZ, dpad_length]
      rw [hZt]
      rw [← hZ] at tu
      refine ⟨{ val := .tup [.imm false 1 (dg Q'), .imm false 1 (dg (Z.take (mm + 2)))] }, ⟨N, ?_⟩, rfl, (weak_tup2 _ _ _ _).symm⟩
      have hmm1 : ¬ ((mm : Int) + 2 = 1) := by omega
      have w1 : IntKind.i64.wrap ((mm : Int) + 2 - 1) = (mm : Int) + 1 := by rw [show (mm : Int) + 2 - 1 = mm + 1 by omega]; exact wrap64_id _ (by omega) (by omega)
      have x1 : ((mm : Int) + 1).toNat = mm + 1 := by omega
      have y1 : (0 : Int) ≤ (mm : Int) + 1 := by omega
      have w2 : IntKind.i64.wrap (((digs x).length : Int) - (mm + 2)) = ((digs x).length : Int) - (mm + 2) := wrap64_id _ (by omega) (by omega)
      have w3 : IntKind.i64.wrap (((digs x).length : Int) - (mm + 2) + 1) = (nq : Int) := by rw [show ((digs x).length : Int) - (mm + 2) + 1 = nq by omega]; exact wrap64_id _ (by omega) (by omega)
      have w4 : (nq : Int) * 4 ≤ 140737488355328 := by omega
      have w5 : IntKind.i64.wrap ((nq : Int) - 1) = (nq : Int) - 1 := wrap64_id _ (by omega) (by omega)
      have z1 : ((mm : Int) + 2) ≤ (mm : Int) + 2 + 1 := by omega
      have z2 : ((mm : Int) + 2) ≤ ((digs x).length : Int) + 1 := by omega
      have z3 : (0 : Int) ≤ (mm : Int) + 2 := by omega
      have z4 : (0 : Int) < (mm : Int) + 2 := by omega
      have z5 : ((mm : Int) + 2).toNat = mm + 2 := by omega
      have hk2 : nq ≤ Q'.length := by omega
      have hk3 : (dg Q').take nq = dg Q' := by rw [← r6, take_dg]
      have hk4 : mm + 2 ≤ Z.length := by omega
      have hk6 : mm + 1 ≤ (digs x).length := by omega
      have hk5 : (dg Z).take (mm + 2) = dg (Z.take (mm + 2)) := dg_take _ _
      rw [hmm] at tsy ee
      simp [pureF, runF, tc, hc, hmm, hmm1, w1, x1, y1, gtop, tl, tsx, tsy, w2, w3, w4, w5, z1, z2, z3, z4, z5, dg_replicate, ee, r1, r2, r4, hU'n, hU'n2, tu, hZl, hk2, hk3, hk4, hk5, hk6, dpad_length, hTy]

theorem divRes_spec {x y : Nat} (hy : y ≠ 0) : Wf (divRes x y).1 ∧ dv (divRes x y).1 = x / y ∧ (divRes x y).1.length ≤ (digs x).length + 1 ∧ Wf (divRes x y).2 ∧ dv (divRes x y).2 = x % y ∧ (divRes x y).2.length ≤ (digs x).length + (digs y).length + 1 := by
  have hX := lt_pow_len x
  have hY := lt_pow_len y
  have hm := Nat.mod_lt x (show 0 < y by omega)
  unfold divRes
  by_cases h : x < y
  · rw [if_pos h]
    exact ⟨wf_nil, by rw [Nat.div_eq_of_lt h]; rfl, by simp, wf_digs x, by rw [dv_digs, Nat.mod_eq_of_lt h], by simp only; omega⟩
  · rw [if_neg h]
    by_cases h1 : (digs y).length = 1
    · rw [if_pos h1]
      obtain ⟨_, hyb⟩ := one_digit h1
      refine ⟨wf_dpad _ _, dv_dpad (Nat.lt_of_le_of_lt (Nat.div_le_self _ _) hX), by rw [dpad_length]; omega, wf_dpad _ _, dv_dpad (by rw [Nat.pow_one]; simp only [W32]; omega), by rw [dpad_length]; omega⟩
    · rw [if_neg h1]
      have hl : (digs y).length ≤ (digs x).length := digs_len_mono (by omega)
      have hyl := digs_pos_len hy
      refine ⟨wf_dpad _ _, dv_dpad ?_, by rw [dpad_length]; omega, wf_dpad _ _, dv_dpad (Nat.lt_trans hm hY), by rw [dpad_length]; omega⟩
      refine Nat.div_lt_of_lt_mul ?_
      obtain ⟨m, hmm⟩ : ∃ m, (digs y).length = m + 1 := ⟨(digs y).length - 1, by omega⟩
      have h2 : W32 ^ m ≤ y := by
        rcases Nat.lt_or_ge y (W32 ^ m) with lt | ge
        · have := digs_length_le lt; omega
        · exact ge
      have h3 : W32 ^ m * W32 ^ ((digs x).length - (digs y).length + 1) ≤ y * W32 ^ ((digs x).length - (digs y).length + 1) := Nat.mul_le_mul_right _ h2
      rw [← Nat.pow_add, show m + ((digs x).length - (digs y).length + 1) = (digs x).length by omega] at h3
      omega

theorem divide_at {G : Pure} (hD : G 92 = spDivide) {la lb : Bool} {x y : Nat} (lx : (digs x).length < 30000000) (ly : (digs y).length < 30000000) (hy : y ≠ 0) :
    G 92 [.imm la 1 (dg (digs x)), .imm lb 1 (dg (digs y))] = some { val := .tup [.imm false 1 (dg (divRes x y).1), .imm false 1 (dg (divRes x y).2)] } :=
  sp2_at hD (cOf_mk (by omega)) (cOf_mk (by omega)) (by rw [if_pos ⟨hy, by omega, by omega⟩]; rfl)

/-! ### DivMod -/

theorem fdiv_signs {s1 s2 : Bool} {X Y : Nat} (hY : Y ≠ 0) :
    (s1 = s2 → (sg s1 X).fdiv (sg s2 Y) = ((X / Y : Nat) : Int) ∧ (sg s1 X).fmod (sg s2 Y) = sg s2 (X % Y)) ∧
    (s1 ≠ s2 → X % Y = 0 → (sg s1 X).fdiv (sg s2 Y) = -((X / Y : Nat) : Int) ∧ (sg s1 X).fmod (sg s2 Y) = 0) ∧
    (s1 ≠ s2 → X % Y ≠ 0 → (sg s1 X).fdiv (sg s2 Y) = -((X / Y : Nat) : Int) - 1 ∧ (sg s1 X).fmod (sg s2 Y) = sg s1 (X % Y) + sg s2 Y) := by
  obtain ⟨Q, hQ⟩ : ∃ Q, Q = X / Y := ⟨_, rfl⟩
  obtain ⟨R, hR⟩ : ∃ R, R = X % Y := ⟨_, rfl⟩
  have h1 := Nat.div_add_mod X Y
  have h2 := Nat.mod_lt X (show 0 < Y by omega)
  rw [← hQ, ← hR] at h1
  rw [← hR] at h2
  rw [← hQ, ← hR]
  have h3 : (Y : Int) * Q + R = X := by exact_mod_cast h1
  refine ⟨fun hs => ?_, fun hs h0 => ?_, fun hs h0 => ?_⟩
  · subst hs
    refine fdiv_unique ?_ ?_ <;> cases s1 <;> simp [sg, Int.neg_mul] <;> omega
  · rw [h0] at h3
    refine fdiv_unique ?_ ?_ <;> cases s1 <;> cases s2 <;> simp [sg, Int.neg_mul, Int.mul_neg] at * <;> omega
  · refine fdiv_unique ?_ ?_ <;> cases s1 <;> cases s2 <;> simp [sg, Int.neg_mul, Int.mul_neg, Int.mul_sub] at * <;> omega

theorem divmodP_run (hSg : G 63 = spSign) (hMg : G 80 = spMagnitude) (hD : G 92 = spDivide) (hM : G 84 = spMake) (hF : G 69 = spFromInt64) (hS : G 93 = spSub) (hA : G 67 = spAdd) :
    FSpec (fun args n => pureF G ic n c83F args) spDivMod := by
  intro args r h
  obtain ⟨a, b, x, y, v, rfl, hx, hy, hv, rfl⟩ := sp2_inv h
  cases hv
  have lx := zOf_zl hx
  have ly := zOf_zl hy
  have t0 := sp1_at hSg hy rfl
  have t1 := magnitude_at hMg hx
  have t2 := magnitude_at hMg hy
  simp only [zl] at lx ly
  obtain ⟨s1, l1, d1, rfl, w1, k1, ex⟩ := zOf_inv hx
  obtain ⟨s2, l2, d2, rfl, w2, k2, ey⟩ := zOf_inv hy
  by_cases h0 : y = 0
  · rw [if_pos h0]
    rw [h0] at t0
    have hc : cmpZ 0 0 = 0 := rfl
    rw [hc] at t0
    refine ⟨{ val := .tup [.agg [.bool false, .imm true 1 []], .agg [.bool false, .imm true 1 []], .int .i64 11] }, ⟨0, ?_⟩, rfl, by simp [AV.weak, AV.weakL, AV.weakLL, iV_zero, iA, dg]⟩
    simp [pureF, runF, t0]
  · rw [if_neg h0]
    have hc : ¬ cmpZ y 0 = 0 := by unfold cmpZ; split <;> (try split) <;> omega
    obtain ⟨X, hX⟩ : ∃ X, X = x.natAbs := ⟨_, rfl⟩
    obtain ⟨Y, hY⟩ : ∃ Y, Y = y.natAbs := ⟨_, rfl⟩
    have exX : x = sg s1 X := by rw [hX, ex, sg_natAbs]
    have eyY : y = sg s2 Y := by rw [hY, ey, sg_natAbs]
    rw [← hX] at t1 lx
    rw [← hY] at t2 ly
    have hY0 : Y ≠ 0 := by omega
    obtain ⟨p1, p2, p3⟩ := fdiv_signs (s1 := s1) (s2 := s2) (X := X) hY0
    rw [← exX, ← eyY] at p1 p2 p3
    have t3 := divide_at hD (la := false) (lb := false) lx ly hY0
    obtain ⟨q1, q2, q3, q4, q5, q6⟩ := divRes_spec (x := X) hY0
    obtain ⟨D1, hD1⟩ : ∃ D1, D1 = (divRes X Y).1 := ⟨_, rfl⟩
    obtain ⟨D2, hD2⟩ : ∃ D2, D2 = (divRes X Y).2 := ⟨_, rfl⟩
    rw [← hD1, ← hD2] at t3
    rw [← hD1] at q1 q2 q3
    rw [← hD2] at q4 q5 q6
    obtain ⟨Q, hQ⟩ : ∃ Q, Q = X / Y := ⟨_, rfl⟩
    obtain ⟨R, hR⟩ : ∃ R, R = X % Y := ⟨_, rfl⟩
    rw [← hQ, ← hR] at p1 p2 p3
    rw [← hQ] at q2
    rw [← hR] at q5
    have hQl : (digs Q).length ≤ (digs X).length := digs_len_mono (by rw [hQ]; exact Nat.div_le_self _ _)
    have hRl : (digs R).length ≤ (digs Y).length := digs_len_mono (by rw [hR]; exact Nat.le_of_lt (Nat.mod_lt _ (by omega)))
    refine ⟨{ val := .tup [iV (x.fdiv y), iV (x.fmod y), .int .i64 0] }, ⟨0, ?_⟩, rfl, by simp only [weak_tup3]; rfl⟩
    by_cases hs : s1 = s2
    · obtain ⟨e1, e2⟩ := p1 hs
      have t4 := makeP_at' hM (b := false) (nl := false) (z := x.fdiv y) q1 (by omega) (by rw [q2, e1]; rfl)
      have t5 := makeP_at' hM (b := s2) (nl := false) (z := x.fmod y) q4 (by omega) (by rw [q5, e2])
      subst hs
      clear e1 e2 p1 p2 p3 exX eyY ex ey hX hY
      simp [pureF, runF, t0, hc, t1, t2, t3, t4, t5, iV_agg]
    · by_cases hR0 : R = 0
      · obtain ⟨e1, e2⟩ := p2 hs hR0
        have t4 := makeP_at' hM (b := true) (nl := false) (z := x.fdiv y) q1 (by omega) (by rw [q2, e1]; rfl)
        have t5 := makeP_at' hM (b := s1) (nl := false) (z := x.fmod y) q4 (by omega) (by rw [q5, e2, hR0]; cases s1 <;> rfl)
        rw [e2] at t5 ⊢
        have t6 := sp1_at hSg (zOf_iV (z := 0) (Nat.lt_of_le_of_lt (zl_small (z := 0) (by decide)) (by decide))) rfl
        have hc0 : cmpZ 0 0 = 0 := rfl
        rw [hc0] at t6
        simp only [iV_agg] at t6
        clear e1 e2 p1 p2 p3 exX eyY ex ey hX hY
        simp only [Int.natAbs_zero, digs_zero, dg_nil, Int.lt_irrefl, decide_false] at t5 t6
        simp [pureF, runF, t0, hc, t1, t2, t3, t4, t5, t6, iV_agg, hs, digs_zero, dg_nil]
      · obtain ⟨e1, e2⟩ := p3 hs hR0
        obtain ⟨q, hq⟩ : ∃ q, q = -(Q : Int) := ⟨_, rfl⟩
        obtain ⟨r, hr⟩ : ∃ r, r = sg s1 R := ⟨_, rfl⟩
        rw [← hq] at e1
        rw [← hr] at e2
        have hql : zl q < 30000000 := by rw [hq, zl_neg]; simpa [zl] using Nat.lt_of_le_of_lt hQl lx
        have hrl : zl r < 30000000 := by rw [hr, zl_sg]; omega
        have t4 := makeP_at' hM (b := true) (nl := false) (z := q) q1 (by omega) (by rw [q2, hq]; rfl)
        have t5 := makeP_at' hM (b := s1) (nl := false) (z := r) q4 (by omega) (by rw [q5, hr])
        have t6 := sp1_at hSg (zOf_iV hrl) rfl
        have hr0 : r ≠ 0 := by rw [hr]; cases s1 <;> simp [sg] <;> omega
        have hcr : ¬ cmpZ r 0 = 0 := by unfold cmpZ; split <;> (try split) <;> omega
        obtain ⟨one, hone⟩ : ∃ o : Int, o = 1 := ⟨_, rfl⟩
        have f1 : G 69 [.int .i64 1] = some { val := iV one } := by rw [hone]; exact sp1_at hF (i64Of_mk (n := 1) (by decide) (by decide)) rfl
        have f2 := sp2_at hS (zOf_iV hql) (zOf_iV (z := 1) (Nat.lt_of_le_of_lt (zl_small (by decide)) (by decide))) rfl
        have f3 := sp2_at hA (zOf_iV hrl) hy rfl
        rw [← e1, ← hone] at f2
        rw [← e2] at f3
        obtain ⟨D, hDD⟩ : ∃ D, D = x.fdiv y := ⟨_, rfl⟩
        obtain ⟨M, hMM⟩ : ∃ M, M = x.fmod y := ⟨_, rfl⟩
        rw [← hDD] at f2 ⊢
        rw [← hMM] at f3 ⊢
        simp only [iV_agg] at t6 f1 f2 f3
        clear hone e1 e2 p1 p2 p3 exX eyY ex ey hX hY hDD hMM hq hr
        simp [pureF, runF, t0, hc, t1, t2, t3, t4, t5, t6, hcr, f1, f2, f3, iV_agg, hs]

/-! ### GCD -/

theorem gcdStep_at {G : Pure} (hD : G 92 = spDivide) (hMg : G 80 = spMagnitude) {x y : Nat} (lx : (digs x).length < 10000000) (ly : (digs y).length < 10000000) (hy : y ≠ 0) : ∃ D1 D2 : List Nat,
    G 92 [.imm false 1 (dg (digs x)), .imm false 1 (dg (digs y))] = some { val := .tup [.imm false 1 (dg D1), .imm false 1 (dg D2)] } ∧ G 80 [.agg [.bool false, .imm false 1 (dg D2)]] = some { val := .imm false 1 (dg (digs (x % y))) } := by
  obtain ⟨_, _, _, q4, q5, q6⟩ := divRes_spec (x := x) hy
  refine ⟨_, _, divide_at hD (by omega) (by omega) hy, ?_⟩
  have := magnitude_at hMg (zOf_mk (b := false) (nl := false) q4 (by omega))
  rw [q5, sg_natAbs] at this
  exact this

theorem gcdP_loop (hD : G 92 = spDivide) (hMg : G 80 = spMagnitude) (v4 : AV) (H : List (Nat × Ev.Obj)) (F own reb : List Nat) : ∀ (y x m : Nat), (digs x).length < 10000000 → (digs y).length < 10000000 → y < m →
    blockE (some c82_e0) 0 (iterK G ic n c82_k0 c82_b0Q m ⟨[(4, v4), (5, .imm false 1 (dg (digs x))), (6, .imm false 1 (dg (digs y)))], H, F, own, reb⟩) =
      some (.normal, ⟨[(4, v4), (5, .imm false 1 (dg (digs (x.gcd y))))], H, F, own, reb⟩) := by
  intro y
  induction y using Nat.strongRecOn with
  | _ y ih =>
    intro x m hx hy hm
    obtain ⟨m, rfl⟩ : ∃ i, m = i + 1 := ⟨m - 1, by omega⟩
    by_cases h : y = 0
    · subst h
      simp [iterK_succ, digs_zero]
    · have hr := Nat.mod_lt x (y := y) (by omega)
      have hrl : (digs (x % y)).length ≤ (digs y).length := digs_len_mono (Nat.le_of_lt hr)
      have e := ih (x % y) hr y m hy (by omega) (by omega)
      have eg : y.gcd (x % y) = x.gcd y := by rw [Nat.gcd_comm x y, Nat.gcd_rec y x, Nat.gcd_comm]
      rw [eg] at e
      rw [← e]
      obtain ⟨D1, D2, t, t'⟩ := gcdStep_at hD hMg hx hy h
      have hpos := digs_pos_len h
      simp [iterK_succ, t, t', hpos]

theorem gcdP_start (hD : G 92 = spDivide) (hMg : G 80 = spMagnitude) (v4 : AV) (X Y : Nat) (hX : (digs X).length < 10000000) (hY : (digs Y).length < 10000000) (o1 o2 o3 : Nat × Ev.Obj) (own reb : List Nat)
    (k1 : o1.1 < 1312176) (k2 : o2.1 < 1312176) (k3 : o3.1 < 1312176) (m : Nat) (hm : Y + 2 < m) :
    ∃ R F', 1312064 ∉ F' ∧ (R = .imm false 1 (dg (digs (X.gcd Y))) ∨ (R = .sl 1312176 0 (digs X).length ∧ X.gcd Y = X) ∨ (R = .sl 1312224 0 (digs Y).length ∧ X.gcd Y = Y)) ∧
    blockE (some c82_e0) 0 (iterK G ic n c82_k0 c82_b0Q m ⟨[(4, v4), (5, .sl 1312176 0 (digs X).length), (6, .sl 1312224 0 (digs Y).length)],
        [o1, o2, o3, (1312176, { sz := 1, ty := 88, es := dg (digs X), refs := [] }), (1312224, { sz := 1, ty := 88, es := dg (digs Y), refs := [] })], [], own, reb⟩) =
      some (.normal, ⟨[(4, v4), (5, R)], [o1, o2, o3, (1312176, { sz := 1, ty := 88, es := dg (digs X), refs := [] }), (1312224, { sz := 1, ty := 88, es := dg (digs Y), refs := [] })], F', own, reb⟩) := by
  obtain ⟨x1, y1⟩ := o1
  obtain ⟨x2, y2⟩ := o2
  obtain ⟨x3, y3⟩ := o3
  simp only at k1 k2 k3
  have n1 : x1 ≠ 1312176 := by omega
  have n2 : x2 ≠ 1312176 := by omega
  have n3 : x3 ≠ 1312176 := by omega
  have m1 : x1 ≠ 1312224 := by omega
  have m2 : x2 ≠ 1312224 := by omega
  have m3 : x3 ≠ 1312224 := by omega
  obtain ⟨m, rfl⟩ : ∃ i, m = i + 1 := ⟨m - 1, by omega⟩
  by_cases hY0 : Y = 0
  · subst hY0
    refine ⟨_, [], by simp, .inr (.inl ⟨rfl, Nat.gcd_zero_right _⟩), ?_⟩
    simp [iterK_succ, digs_zero]
  · have hpos := digs_pos_len hY0
    obtain ⟨D1, D2, d1, d2⟩ := gcdStep_at hD hMg hX hY hY0
    obtain ⟨R, hR⟩ : ∃ R, R = X % Y := ⟨_, rfl⟩
    rw [← hR] at d2
    have hRlt : R < Y := by rw [hR]; exact Nat.mod_lt _ (by omega)
    have hRl : (digs R).length ≤ (digs Y).length := digs_len_mono (Nat.le_of_lt hRlt)
    have eg2 : X.gcd Y = Y.gcd R := by rw [hR, Nat.gcd_comm X Y, Nat.gcd_rec Y X, Nat.gcd_comm]
    obtain ⟨m, rfl⟩ : ∃ i, m = i + 1 := ⟨m - 1, by omega⟩
    by_cases hR0 : R = 0
    · have hgY : X.gcd Y = Y := by rw [eg2, hR0, Nat.gcd_zero_right]
      rw [hR0, digs_zero] at d2
      refine ⟨_, [1312176, 1312224], by simp, .inr (.inr ⟨rfl, hgY⟩), ?_⟩
      simp [iterK_succ, hpos, d1, d2, dg_nil, n1, n2, n3, m1, m2, m3]
    · have hpos' := digs_pos_len hR0
      obtain ⟨D3, D4, d3, d4⟩ := gcdStep_at hD hMg hY (show (digs R).length < 10000000 by omega) hR0
      have hSlt : Y % R < R := Nat.mod_lt _ (by omega)
      have hSl : (digs (Y % R)).length ≤ (digs R).length := digs_len_mono (Nat.le_of_lt hSlt)
      have e := fun v4 H F own reb => gcdP_loop G ic n hD hMg v4 H F own reb (Y % R) R m (by omega) (by omega) (by omega)
      have eg3 : R.gcd (Y % R) = X.gcd Y := by rw [eg2, Nat.gcd_comm Y R, Nat.gcd_rec R Y, Nat.gcd_comm]
      rw [eg3] at e
      refine ⟨_, [1312224, 1312176, 1312224], by simp, .inl rfl, ?_⟩
      rw [← e]
      simp [iterK_succ, hpos, hpos', d1, d2, d3, d4, n1, n2, n3, m1, m2, m3]

/-- Integers of fewer than 10000000 digits. -/
def zOfS (a : AV) : Option Int := match intOf a with | some x => if x.2.length < 10000000 then some (sg x.1 (dv x.2)) else none | none => none
theorem zOfS_inv {a : AV} {z : Int} (h : zOfS a = some z) : ∃ b nl ds, a = .agg [.bool b, .imm nl 1 (dg ds)] ∧ Wf ds ∧ ds.length < 10000000 ∧ z = sg b (dv ds) := by
  unfold zOfS at h
  split at h
  · rename_i x hx
    obtain ⟨h1, h2⟩ := of_ite h
    cases h2
    obtain ⟨b, ds⟩ := x
    obtain ⟨nl, rfl, hw, hl⟩ := intOf_inv hx
    exact ⟨b, nl, ds, rfl, hw, h1, rfl⟩
  · cases h
theorem zOfS_mk {b nl : Bool} {ds : List Nat} (h : Wf ds) (hl : ds.length < 10000000) : zOfS (.agg [.bool b, .imm nl 1 (dg ds)]) = some (sg b (dv ds)) := by
  simp [zOfS, intOf_iA h (show ds.length < 30000000 by omega), hl]
theorem zOfS_zOf {a : AV} {z : Int} (h : zOfS a = some z) : zOf a = some z := by
  obtain ⟨b, nl, ds, rfl, hw, hl, rfl⟩ := zOfS_inv h
  exact zOf_mk hw (by omega)
theorem zOfS_zl {a : AV} {z : Int} (h : zOfS a = some z) : zl z < 10000000 := by
  obtain ⟨b, nl, ds, rfl, hw, hl, rfl⟩ := zOfS_inv h
  rw [zl_sg]
  have := digs_length_dv hw
  omega
theorem zOfS_iV {z : Int} (h : zl z < 10000000) : zOfS (.agg [.bool (decide (z < 0)), .imm false 1 (dg (digs z.natAbs))]) = some z := by
  rw [zOfS_mk (wf_digs _) h, dv_digs, sg_self]

def spGCDS : List AV → Option PRes := sp2 zOfS zOfS fun x y => some (iV (Int.gcd x y : Nat))

theorem gcdP_run (hMg : G 80 = spMagnitude) (hCl : G 91 = spClone) (hD : G 92 = spDivide) (hM : G 84 = spMake) : FSpec (fun args n => pureF G ic n c82F args) spGCDS := by
  intro args r h
  obtain ⟨a, b, x, y, v, rfl, hx, hy, hv, rfl⟩ := sp2_inv h
  cases hv
  have t1 := magnitude_at hMg (zOfS_zOf hx)
  have t2 := magnitude_at hMg (zOfS_zOf hy)
  have q1 := zOfS_zl hx
  have q2 := zOfS_zl hy
  simp only [zl] at q1 q2
  obtain ⟨s1, l1, d1, rfl, w1, k1, -⟩ := zOfS_inv hx
  obtain ⟨s2, l2, d2, rfl, w2, k2, -⟩ := zOfS_inv hy
  obtain ⟨X, hX⟩ : ∃ X, X = x.natAbs := ⟨_, rfl⟩
  obtain ⟨Y, hY⟩ : ∃ Y, Y = y.natAbs := ⟨_, rfl⟩
  have eg : Int.gcd x y = X.gcd Y := by rw [Int.gcd, hX, hY]
  rw [eg]
  rw [← hX] at t1 q1
  rw [← hY] at t2 q2
  have c1 := clone_at hCl (nl := false) (wf_digs X) (by omega)
  have c2 := clone_at hCl (nl := false) (wf_digs Y) (by omega)
  have hgl : (digs (X.gcd Y)).length < 30000000 := by
    rcases Nat.eq_zero_or_pos X with h0 | h0
    · rw [h0, Nat.gcd_zero_left]; omega
    · have : (digs (X.gcd Y)).length ≤ (digs X).length := digs_len_mono (Nat.gcd_le_left _ h0)
      omega
  obtain ⟨N, hN⟩ : ∃ N, N = Y + 3 := ⟨_, rfl⟩
  have e := fun v4 o1 o2 o3 own reb k1 k2 k3 => gcdP_start G ic N hD hMg v4 X Y (by omega) (by omega) o1 o2 o3 own reb k1 k2 k3 N (by omega)
  obtain ⟨g, hg⟩ : ∃ g, g = X.gcd Y := ⟨_, rfl⟩
  rw [← hg] at hgl e
  rw [← hg]
  have t3 := makeP_at' hM (b := false) (nl := false) (z := (g : Int)) (wf_digs g) (by omega) (by rw [dv_digs]; rfl)
  refine ⟨{ val := iV (g : Nat) }, ⟨N, ?_⟩, rfl, (weak_iV _).symm⟩
  obtain ⟨R, F', hF, hR, e⟩ := e (.ptr 1312064 0 0) (1312032, { sz := 2, ty := 31, es := [[.bool s1, .imm l1 1 (dg d1)]], refs := [] }) (1312048, { sz := 2, ty := 31, es := [[.bool s2, .imm l2 1 (dg d2)]], refs := [] }) (1312064, { sz := 2, ty := 31, es := [[.bool false, .imm true 1 []]], refs := [] }) [1312224, 1312176, 1312064, 1312048, 1312032] [] (by simp) (by simp) (by simp)
  simp [c82_e0, c82_k0] at e
  rcases hR with rfl | ⟨rfl, hgX⟩ | ⟨rfl, hgY⟩
  · simp [pureF, runF, t1, t2, c1, c2, e, t3, iV_agg, hF]
  · subst hgX
    simp [pureF, runF, t1, t2, c1, c2, e, t3, iV_agg, hF]
  · subst hgY
    simp [pureF, runF, t1, t2, c1, c2, e, t3, iV_agg, hF]

end
end Go.Proofs.Ythlpmghodgiknaa.C
