/-
  The reference's integers: division with remainder, greatest common divisor, equality.
-/
import Derived.Test.YthlpmghodgiknaaSpI
namespace Go.Proofs.Ythlpmghodgiknaa.C
open Go Go.Ev

section
variable (G : Pure) (ic : Inl) (n : Nat)

/-! ### DivMod -/

theorem fdiv_unique {x y q r : Int} (h : x = y * q + r) (hr : (0 ≤ r ∧ r < y) ∨ (y < r ∧ r ≤ 0)) : x.fdiv y = q ∧ x.fmod y = r := by
  have key : x.fdiv y = q := by
    rcases hr with hr | hr
    · rw [Int.fdiv_eq_ediv_of_nonneg _ (by omega)]
      have := (Int.ediv_emod_unique (a := x) (b := y) (r := r) (q := q) (by omega)).2 ⟨by rw [h, Int.add_comm], by omega, by omega⟩
      exact this.1
    · rw [← Int.neg_fdiv_neg, Int.fdiv_eq_ediv_of_nonneg _ (by omega)]
      have := (Int.ediv_emod_unique (a := -x) (b := -y) (r := -r) (q := q) (by omega)).2 ⟨by rw [h, Int.neg_mul]; omega, by omega, by omega⟩
      exact this.1
  refine ⟨key, ?_⟩
  have := Int.mul_fdiv_add_fmod x y
  rw [key] at this
  omega

theorem sg_decide (x : Int) : sg (decide (x < 0)) x.natAbs = x := by by_cases h : x < 0 <;> simp [sg, h] <;> omega

/-- Quotient and remainder by sign and magnitude. -/
theorem fdiv_parts {x y : Int} (hy : y ≠ 0) :
    (decide (x < 0) = decide (y < 0) → x.fdiv y = ((x.natAbs / y.natAbs : Nat) : Int) ∧ x.fmod y = sg (decide (x < 0)) (x.natAbs % y.natAbs)) ∧
    (decide (x < 0) ≠ decide (y < 0) → x.natAbs % y.natAbs = 0 → x.fdiv y = -((x.natAbs / y.natAbs : Nat) : Int) ∧ x.fmod y = 0) ∧
    (decide (x < 0) ≠ decide (y < 0) → x.natAbs % y.natAbs ≠ 0 → x.fdiv y = -((x.natAbs / y.natAbs : Nat) : Int) - 1 ∧ x.fmod y = sg (decide (x < 0)) (x.natAbs % y.natAbs) + y) := by
  obtain ⟨Q, hQ⟩ : ∃ Q, Q = x.natAbs / y.natAbs := ⟨_, rfl⟩
  obtain ⟨R, hR⟩ : ∃ R, R = x.natAbs % y.natAbs := ⟨_, rfl⟩
  have h1 := Nat.div_add_mod x.natAbs y.natAbs
  have h2 := Nat.mod_lt x.natAbs (y := y.natAbs) (by omega)
  rw [← hQ, ← hR] at h1
  rw [← hR] at h2
  rw [← hQ, ← hR]
  have h3 : (y.natAbs : Int) * Q + R = x.natAbs := by exact_mod_cast h1
  refine ⟨fun hs => ?_, fun hs h0 => ?_, fun hs h0 => ?_⟩
  · by_cases hx : x < 0
    · have hy2 : y < 0 := by simpa [hx] using hs.symm
      refine fdiv_unique ?_ ?_
      · have e1 : (y.natAbs : Int) = -y := by omega
        have e2 : (x.natAbs : Int) = -x := by omega
        rw [e1, e2, Int.neg_mul] at h3
        simp [sg, hx]; omega
      · right; simp [sg, hx]; omega
    · have hy2 : ¬ y < 0 := by simpa [hx] using hs.symm
      refine fdiv_unique ?_ ?_
      · have e1 : (y.natAbs : Int) = y := by omega
        have e2 : (x.natAbs : Int) = x := by omega
        rw [e1, e2] at h3
        simp [sg, hx]; omega
      · left; simp [sg, hx]; omega
  · rw [h0] at h3
    refine fdiv_unique ?_ ?_
    · by_cases hx : x < 0
      · have hy2 : ¬ y < 0 := by simpa [hx] using hs
        have e1 : (y.natAbs : Int) = y := by omega
        have e2 : (x.natAbs : Int) = -x := by omega
        rw [e1, e2] at h3
        rw [Int.mul_neg]; omega
      · have hy2 : y < 0 := by simpa [hx] using hs
        have e1 : (y.natAbs : Int) = -y := by omega
        have e2 : (x.natAbs : Int) = x := by omega
        rw [e1, e2, Int.neg_mul] at h3
        rw [Int.mul_neg]; omega
    · omega
  · by_cases hx : x < 0
    · have hy2 : ¬ y < 0 := by simpa [hx] using hs
      have e1 : (y.natAbs : Int) = y := by omega
      have e2 : (x.natAbs : Int) = -x := by omega
      rw [e1, e2] at h3
      refine fdiv_unique ?_ ?_
      · rw [Int.mul_sub, Int.mul_neg, Int.mul_one]; simp [sg, hx]; omega
      · left; simp [sg, hx]; omega
    · have hy2 : y < 0 := by simpa [hx] using hs
      have e1 : (y.natAbs : Int) = -y := by omega
      have e2 : (x.natAbs : Int) = x := by omega
      rw [e1, e2, Int.neg_mul] at h3
      refine fdiv_unique ?_ ?_
      · rw [Int.mul_sub, Int.mul_neg, Int.mul_one]; simp [sg, hx]; omega
      · right; simp [sg, hx]; omega

def spDivMod : List AV → Option PRes := sp2 zOf zOf fun x y => some (if y = 0 then .tup [iV 0, iV 0, .int .i64 11] else .tup [iV (x.fdiv y), iV (x.fmod y), .int .i64 0])

theorem divDigits_at {G : Pure} (hD : G 76 = spDivDigits) {la lb : Bool} {a b : Nat} (hl : (digs a).length < 30000000) (hl2 : (digs b).length < 30000000) (hb : b ≠ 0) :
    G 76 [.imm la 1 (dg (digs a)), .imm lb 1 (dg (digs b))] = some { val := .tup [.imm false 1 (dg (digs (a / b))), .imm false 1 (dg (digs (a % b)))] } := by
  rw [hD]
  simp only [spDivDigits, digOf_dg (wf_digs a) (show (digs a).length < 100000000 by omega), digOf_dg (wf_digs b) (show (digs b).length < 100000000 by omega), dv_digs]
  rw [if_pos ⟨hb, by omega⟩]
  rfl

theorem zOf_zero (nl : Bool) : zOf (.agg [.bool false, .imm nl 1 []]) = some 0 := by
  have := zOf_mk (b := false) (nl := nl) wf_nil (by simp)
  simpa [dg, dv, sg] using this

theorem weak_tup3 (x y : Int) (v : AV) : AV.weak (.tup [iV x, iV y, v]) = .tup [iV x, iV y, v.weak] := by simp [AV.weak, AV.weakL, weak_iV]

theorem divmod_run (hCn : G 55 = spCanon) (hD : G 76 = spDivDigits) (hM : G 70 = spMake) (hF : G 61 = spFromInt64) (hS : G 77 = spSub) (hA : G 49 = spAdd) :
    FSpec (fun args n => pureF G ic n c59F args) spDivMod := by
  intro args r h
  obtain ⟨a, b, x, y, v, rfl, hx, hy, hv, rfl⟩ := sp2_inv h
  cases hv
  have lx := zOf_zl hx
  have ly := zOf_zl hy
  have t1 := sp1_at hCn hx rfl
  have t2 := sp1_at hCn hy rfl
  have zy := zOf_iV ly
  simp only [iV_agg] at t1 t2 zy
  simp only [zl] at lx ly
  obtain ⟨s1, l1, d1, rfl, w1, k1, -⟩ := zOf_inv hx
  obtain ⟨s2, l2, d2, rfl, w2, k2, -⟩ := zOf_inv hy
  by_cases h0 : y = 0
  · subst h0
    rw [if_pos rfl]
    refine ⟨{ val := .tup [.agg [.bool false, .imm true 1 []], .agg [.bool false, .imm true 1 []], .int .i64 11] }, ⟨0, ?_⟩, rfl, by simp [AV.weak, AV.weakL, AV.weakLL, iV_zero, iA, dg]⟩
    simp only [Int.natAbs_zero, digs_zero] at t2
    simp [pureF, runF, t1, t2, dg_nil]
  · rw [if_neg h0]
    obtain ⟨p1, p2, p3⟩ := fdiv_parts (x := x) h0
    have hyn : y.natAbs ≠ 0 := by omega
    have t3 := divDigits_at hD (la := false) (lb := false) lx ly hyn
    have hne : digs y.natAbs ≠ [] := fun e => hyn (digs_eq_nil.1 e)
    obtain ⟨Q, hQ⟩ : ∃ Q, Q = x.natAbs / y.natAbs := ⟨_, rfl⟩
    obtain ⟨R, hR⟩ : ∃ R, R = x.natAbs % y.natAbs := ⟨_, rfl⟩
    rw [← hQ, ← hR] at p1 p2 p3 t3
    have hQl : (digs Q).length ≤ (digs x.natAbs).length := digs_len_mono (by rw [hQ]; exact Nat.div_le_self _ _)
    have hRl : (digs R).length ≤ (digs y.natAbs).length := digs_len_mono (by rw [hR]; exact Nat.le_of_lt (Nat.mod_lt _ (by omega)))
    have t4 := make_at hM (b := decide (x < 0) != decide (y < 0)) (nl := false) (wf_digs Q) (by omega)
    have t5 := make_at hM (b := decide (x < 0)) (nl := false) (wf_digs R) (by omega)
    rw [dv_digs] at t4 t5
    obtain ⟨B1, hB1⟩ : ∃ B1, B1 = decide (x < 0) := ⟨_, rfl⟩
    obtain ⟨B2, hB2⟩ : ∃ B2, B2 = decide (y < 0) := ⟨_, rfl⟩
    rw [← hB1] at t1 t4 t5 p1 p3
    rw [← hB1, ← hB2] at p2
    rw [← hB2] at t2 t4 p1 p3 zy
    refine ⟨{ val := .tup [iV (x.fdiv y), iV (x.fmod y), .int .i64 0] }, ⟨0, ?_⟩, rfl, by simp only [weak_tup3]; rfl⟩
    by_cases hs : B1 = B2
    · subst hs
      obtain ⟨e1, e2⟩ := p1 rfl
      have e4 : sg (B1 != B1) Q = x.fdiv y := by rw [e1]; simp [sg]
      rw [e4] at t4
      rw [← e2] at t5
      simp only [iV_agg, bne_self_eq_false] at t4 t5
      by_cases hp : 0 < (digs (x.fmod y).natAbs).length <;> simp [pureF, runF, t1, t2, hne, t3, t4, t5, iV_agg, hp]
    · have e4 : sg (B1 != B2) Q = -(Q : Int) := by cases B1 <;> cases B2 <;> simp_all [sg]
      rw [e4] at t4
      by_cases hR0 : R = 0
      · obtain ⟨e1, e2⟩ := p2 hs hR0
        rw [hR0, digs_zero] at t3
        rw [hR0, digs_zero] at t5
        have e5 : sg B1 0 = 0 := by cases B1 <;> simp [sg]
        rw [e5, ← e2] at t5
        rw [← e1] at t4
        simp only [iV_agg, bne] at t4
        simp only [iV_agg, e2, Int.natAbs_zero, digs_zero] at t5
        simp [pureF, runF, t1, t2, hne, t3, t4, t5, iV_agg, hs, e2, digs_zero]
      · obtain ⟨e1, e2⟩ := p3 hs hR0
        obtain ⟨q, hq⟩ : ∃ q, q = -(Q : Int) := ⟨_, rfl⟩
        obtain ⟨r, hr⟩ : ∃ r, r = sg B1 R := ⟨_, rfl⟩
        have hql : zl q < 30000000 := by rw [hq, zl_neg]; simpa [zl] using Nat.lt_of_le_of_lt hQl lx
        have hrl : zl r < 30000000 := by rw [hr, zl_sg]; omega
        have hrn : 0 < (digs r.natAbs).length := by rw [hr, sg_natAbs]; exact List.length_pos_iff.2 fun e => hR0 (digs_eq_nil.1 e)
        have zq := zOf_iV hql
        have zr := zOf_iV hrl
        rw [← hq] at t4 e1
        rw [← hr] at t5 e2
        have zy' : zOf (.agg [.bool B2, .imm false 1 (dg (digs y.natAbs))]) = some y := zy
        obtain ⟨one, hone⟩ : ∃ o : Int, o = 1 := ⟨_, rfl⟩
        have f1 : G 61 [.int .i64 1] = some { val := iV one } := by rw [hone]; exact sp1_at hF (i64Of_mk (n := 1) (by decide) (by decide)) rfl
        have f2 := sp2_at hS zq (zOf_iV (z := 1) (Nat.lt_of_le_of_lt (zl_small (by decide)) (by decide))) rfl
        have f3 := sp2_at hA zr zy' rfl
        rw [← e1] at f2
        rw [← e2] at f3
        obtain ⟨D, hD⟩ : ∃ D, D = x.fdiv y := ⟨_, rfl⟩
        obtain ⟨M, hM⟩ : ∃ M, M = x.fmod y := ⟨_, rfl⟩
        rw [← hone] at f2
        rw [← hD] at f2
        rw [← hM] at f3
        rw [← hD, ← hM]
        simp only [iV_agg, bne] at t4 t5 f1 f2 f3
        clear hone e1 e2 hD hM hq hr
        simp [pureF, runF, t1, t2, hne, t3, t4, t5, iV_agg, hs, hrn, f1, f2, f3]

/-! ### GCD -/

theorem digs_pos_len {y : Nat} (h : y ≠ 0) : 0 < (digs y).length := by
  have : (digs y).length ≠ 0 := fun e => h (digs_eq_nil.1 (List.eq_nil_of_length_eq_zero e))
  omega

theorem gcd_loop (hD : G 76 = spDivDigits) (v4 : AV) (H : List (Nat × Ev.Obj)) (F own reb : List Nat) : ∀ (y x m : Nat), (digs x).length < 30000000 → (digs y).length < 30000000 → y < m →
    blockE (some c58_e0) 0 (iterK G ic n c58_k0 c58_b0Q m ⟨[(4, v4), (5, .imm false 1 (dg (digs x))), (6, .imm false 1 (dg (digs y)))], H, F, own, reb⟩) =
      some (.normal, ⟨[(4, v4), (5, .imm false 1 (dg (digs (x.gcd y))))], H, F, own, reb⟩) := by
  intro y
  induction y using Nat.strongRecOn with
  | _ y ih =>
    intro x m hx hy hm
    obtain ⟨m, rfl⟩ : ∃ i, m = i + 1 := ⟨m - 1, by omega⟩
    by_cases h : y = 0
    · subst h
      simp [iterK_succ, digs_zero]
    · have hr := Nat.mod_lt x (y := y) (by omega)
      have hrl : (digs (x % y)).length ≤ (digs y).length := digs_len_mono (Nat.le_of_lt hr)
      have e := ih (x % y) hr y m hy (by omega) (by omega)
      have eg : y.gcd (x % y) = x.gcd y := by rw [Nat.gcd_comm x y, Nat.gcd_rec y x, Nat.gcd_comm]
      rw [eg] at e
      rw [← e]
      have t := divDigits_at hD (la := false) (lb := false) hx hy h
      have hpos := digs_pos_len h
      simp [iterK_succ, t, hpos]

theorem gcd_start (hD : G 76 = spDivDigits) (v4 : AV) (X Y : Nat) (hX : (digs X).length < 30000000) (hY : (digs Y).length < 30000000) (o1 o2 o3 : Nat × Ev.Obj) (own reb : List Nat)
    (k1 : o1.1 < 928192) (k2 : o2.1 < 928192) (k3 : o3.1 < 928192) (m : Nat) (hm : Y + 2 < m) :
    ∃ R F', 928064 ∉ F' ∧ (R = .imm false 1 (dg (digs (X.gcd Y))) ∨ (R = .sl 928192 0 (digs X).length ∧ X.gcd Y = X) ∨ (R = .sl 928256 0 (digs Y).length ∧ X.gcd Y = Y)) ∧
    blockE (some c58_e0) 0 (iterK G ic n c58_k0 c58_b0Q m ⟨[(4, v4), (5, .sl 928192 0 (digs X).length), (6, .sl 928256 0 (digs Y).length)],
        [o1, o2, o3, (928192, { sz := 1, ty := 88, es := dg (digs X), refs := [] }), (928256, { sz := 1, ty := 88, es := dg (digs Y), refs := [] })], [], own, reb⟩) =
      some (.normal, ⟨[(4, v4), (5, R)], [o1, o2, o3, (928192, { sz := 1, ty := 88, es := dg (digs X), refs := [] }), (928256, { sz := 1, ty := 88, es := dg (digs Y), refs := [] })], F', own, reb⟩) := by
  obtain ⟨x1, y1⟩ := o1
  obtain ⟨x2, y2⟩ := o2
  obtain ⟨x3, y3⟩ := o3
  simp only at k1 k2 k3
  have n1 : x1 ≠ 928192 := by omega
  have n2 : x2 ≠ 928192 := by omega
  have n3 : x3 ≠ 928192 := by omega
  have m1 : x1 ≠ 928256 := by omega
  have m2 : x2 ≠ 928256 := by omega
  have m3 : x3 ≠ 928256 := by omega
  obtain ⟨m, rfl⟩ : ∃ i, m = i + 1 := ⟨m - 1, by omega⟩
  by_cases hY0 : Y = 0
  · subst hY0
    refine ⟨_, [], by simp, .inr (.inl ⟨rfl, Nat.gcd_zero_right _⟩), ?_⟩
    simp [iterK_succ, digs_zero]
  · have hpos := digs_pos_len hY0
    have d1' := divDigits_at hD (a := X) (b := Y) (la := false) (lb := false) (by omega) (by omega) hY0
    obtain ⟨R, hR⟩ : ∃ R, R = X % Y := ⟨_, rfl⟩
    rw [← hR] at d1'
    have hRlt : R < Y := by rw [hR]; exact Nat.mod_lt _ (by omega)
    have hRl : (digs R).length ≤ (digs Y).length := digs_len_mono (Nat.le_of_lt hRlt)
    have eg2 : X.gcd Y = Y.gcd R := by rw [hR, Nat.gcd_comm X Y, Nat.gcd_rec Y X, Nat.gcd_comm]
    obtain ⟨m, rfl⟩ : ∃ i, m = i + 1 := ⟨m - 1, by omega⟩
    by_cases hR0 : R = 0
    · have hgY : X.gcd Y = Y := by rw [eg2, hR0, Nat.gcd_zero_right]
      rw [hR0, digs_zero] at d1'
      refine ⟨_, [928192, 928256], by simp, .inr (.inr ⟨rfl, hgY⟩), ?_⟩
      simp [iterK_succ, hpos, d1', dg_nil, n1, n2, n3, m1, m2, m3]
    · have hpos' := digs_pos_len hR0
      have d2' := divDigits_at hD (a := Y) (b := R) (la := false) (lb := false) (by omega) (by omega) hR0
      have hSlt : Y % R < R := Nat.mod_lt _ (by omega)
      have hSl : (digs (Y % R)).length ≤ (digs R).length := digs_len_mono (Nat.le_of_lt hSlt)
      have e := fun v4 H F own reb => gcd_loop G ic n hD v4 H F own reb (Y % R) R m (by omega) (by omega) (by omega)
      have eg3 : R.gcd (Y % R) = X.gcd Y := by rw [eg2, Nat.gcd_comm Y R, Nat.gcd_rec R Y, Nat.gcd_comm]
      rw [eg3] at e
      refine ⟨_, [928256, 928192, 928256], by simp, .inl rfl, ?_⟩
      rw [← e]
      simp [iterK_succ, hpos, hpos', d1', d2', n1, n2, n3, m1, m2, m3]

def spGCD : List AV → Option PRes := sp2 zOf zOf fun x y => some (iV (Int.gcd x y : Nat))

theorem gcd_run (hT : G 74 = spTrim) (hD : G 76 = spDivDigits) (hM : G 70 = spMake) : FSpec (fun args n => pureF G ic n c58F args) spGCD := by
  intro args r h
  obtain ⟨a, b, x, y, v, rfl, hx, hy, hv, rfl⟩ := sp2_inv h
  cases hv
  obtain ⟨s1, l1, d1, rfl, w1, k1, rfl⟩ := zOf_inv hx
  obtain ⟨s2, l2, d2, rfl, w2, k2, rfl⟩ := zOf_inv hy
  have q1 := digs_length_dv w1
  have q2 := digs_length_dv w2
  have t1 := trim_at hT (nl := l1) w1 (by omega)
  have t2 := trim_at hT (nl := l2) w2 (by omega)
  obtain ⟨X, hX⟩ : ∃ X, X = dv d1 := ⟨_, rfl⟩
  obtain ⟨Y, hY⟩ : ∃ Y, Y = dv d2 := ⟨_, rfl⟩
  have eg : Int.gcd (sg s1 (dv d1)) (sg s2 (dv d2)) = X.gcd Y := by rw [Int.gcd, sg_natAbs, sg_natAbs, hX, hY]
  rw [eg]
  rw [← hX] at t1 q1
  rw [← hY] at t2 q2
  have hgl : (digs (X.gcd Y)).length < 30000000 := by
    rcases Nat.eq_zero_or_pos X with h0 | h0
    · rw [h0, Nat.gcd_zero_left]; omega
    · have : (digs (X.gcd Y)).length ≤ (digs X).length := digs_len_mono (Nat.gcd_le_left _ h0)
      omega
  obtain ⟨N, hN⟩ : ∃ N, N = Y + 3 := ⟨_, rfl⟩
  have e := fun v4 o1 o2 o3 own reb k1 k2 k3 => gcd_start G ic N hD v4 X Y (by omega) (by omega) o1 o2 o3 own reb k1 k2 k3 N (by omega)
  obtain ⟨g, hg⟩ : ∃ g, g = X.gcd Y := ⟨_, rfl⟩
  rw [← hg] at hgl e
  rw [← hg]
  have t3 := make_at hM (b := false) (nl := false) (wf_digs g) (by omega)
  rw [dv_digs] at t3
  simp only [sg, Bool.false_eq_true, if_false] at t3
  have b1 : (digs X).length * 4 ≤ 140737488355328 := by omega
  have b2 : (digs Y).length * 4 ≤ 140737488355328 := by omega
  refine ⟨{ val := iV (g : Nat) }, ⟨N, ?_⟩, rfl, (weak_iV _).symm⟩
  simp only [iV_agg] at t3
  obtain ⟨R, F', hF, hR, e⟩ := e (.ptr 928064 0 0) (928032, { sz := 2, ty := 31, es := [[.bool s1, .imm l1 1 (dg d1)]], refs := [] }) (928048, { sz := 2, ty := 31, es := [[.bool s2, .imm l2 1 (dg d2)]], refs := [] }) (928064, { sz := 2, ty := 31, es := [[.bool false, .imm true 1 []]], refs := [] }) [928256, 928192, 928064, 928048, 928032] [] (by simp) (by simp) (by simp)
  simp [c58_e0, c58_k0] at e
  rcases hR with rfl | ⟨rfl, hgX⟩ | ⟨rfl, hgY⟩
  · simp [pureF, runF, t1, t2, b1, b2, e, t3, iV_agg, hF]
  · subst hgX
    simp [pureF, runF, t1, t2, b1, b2, e, t3, iV_agg, hF]
  · subst hgY
    simp [pureF, runF, t1, t2, b1, b2, e, t3, iV_agg, hF]

end
end Go.Proofs.Ythlpmghodgiknaa.C
