/- A part of the verified evaluator and of what the functions compute (joined by program). -/
import Derived.Test.YthlpmghodgiknaaPn5
import Derived.Test.YthlpmghodgiknaaPn4
import Derived.Test.YthlpmghodgiknaaPn3
import Derived.Test.YthlpmghodgiknaaPn2
import Derived.ChangeArms
import Derived.OpenShut
import Derived.Deep.Slices
import Derived.WalkKit
import Derived.ProofKit
import Derived.ChangeOld
import Derived.SizedLaws
set_option linter.unusedVariables false
set_option linter.unusedSimpArgs false
/-
  The reference's integers: division with remainder, greatest common divisor, equality.
-/
namespace Go.Proofs.Ythlpmghodgiknaa.C
open Go Go.Ev

section
variable (G : Pure) (ic : Inl) (n : Nat)

/-! ### DivMod -/

theorem fdiv_unique {x y q r : Int} (h : x = y * q + r) (hr : (0 ≤ r ∧ r < y) ∨ (y < r ∧ r ≤ 0)) : x.fdiv y = q ∧ x.fmod y = r := by
  have key : x.fdiv y = q := by
    rcases hr with hr | hr
    · rw [Int.fdiv_eq_ediv_of_nonneg _ (by omega)]
      have := (Int.ediv_emod_unique (a := x) (b := y) (r := r) (q := q) (by omega)).2 ⟨by rw [h, Int.add_comm], by omega, by omega⟩
      exact this.1
    · rw [← Int.neg_fdiv_neg, Int.fdiv_eq_ediv_of_nonneg _ (by omega)]
      have := (Int.ediv_emod_unique (a := -x) (b := -y) (r := -r) (q := q) (by omega)).2 ⟨by rw [h, Int.neg_mul]; omega, by omega, by omega⟩
      exact this.1
  refine ⟨key, ?_⟩
  have := Int.mul_fdiv_add_fmod x y
  rw [key] at this
  omega

/-- Quotient and remainder by sign and magnitude. -/
theorem fdiv_parts {x y : Int} (hy : y ≠ 0) :
    (decide (x < 0) = decide (y < 0) → x.fdiv y = ((x.natAbs / y.natAbs : Nat) : Int) ∧ x.fmod y = sg (decide (x < 0)) (x.natAbs % y.natAbs)) ∧
    (decide (x < 0) ≠ decide (y < 0) → x.natAbs % y.natAbs = 0 → x.fdiv y = -((x.natAbs / y.natAbs : Nat) : Int) ∧ x.fmod y = 0) ∧
    (decide (x < 0) ≠ decide (y < 0) → x.natAbs % y.natAbs ≠ 0 → x.fdiv y = -((x.natAbs / y.natAbs : Nat) : Int) - 1 ∧ x.fmod y = sg (decide (x < 0)) (x.natAbs % y.natAbs) + y) := by
  obtain ⟨Q, hQ⟩ : ∃ Q, Q = x.natAbs / y.natAbs := ⟨_, rfl⟩
  obtain ⟨R, hR⟩ : ∃ R, R = x.natAbs % y.natAbs := ⟨_, rfl⟩
  have h1 := Nat.div_add_mod x.natAbs y.natAbs
  have h2 := Nat.mod_lt x.natAbs (y := y.natAbs) (by omega)
  rw [← hQ, ← hR] at h1
  rw [← hR] at h2
  rw [← hQ, ← hR]
  have h3 : (y.natAbs : Int) * Q + R = x.natAbs := by exact_mod_cast h1
  refine ⟨fun hs => ?_, fun hs h0 => ?_, fun hs h0 => ?_⟩
  · by_cases hx : x < 0
    · have hy2 : y < 0 := by simpa [hx] using hs.symm
      refine fdiv_unique ?_ ?_
      · have e1 : (y.natAbs : Int) = -y := by omega
        have e2 : (x.natAbs : Int) = -x := by omega
        rw [e1, e2, Int.neg_mul] at h3
        simp [sg, hx]; omega
      · right; simp [sg, hx]; omega
    · have hy2 : ¬ y < 0 := by simpa [hx] using hs.symm
      refine fdiv_unique ?_ ?_
      · have e1 : (y.natAbs : Int) = y := by omega
        have e2 : (x.natAbs : Int) = x := by omega
        rw [e1, e2] at h3
        simp [sg, hx]; omega
      · left; simp [sg, hx]; omega
  · rw [h0] at h3
    refine fdiv_unique ?_ ?_
    · by_cases hx : x < 0
      · have hy2 : ¬ y < 0 := by simpa [hx] using hs
        have e1 : (y.natAbs : Int) = y := by omega
        have e2 : (x.natAbs : Int) = -x := by omega
        rw [e1, e2] at h3
        rw [Int.mul_neg]; omega
      · have hy2 : y < 0 := by simpa [hx] using hs
        have e1 : (y.natAbs : Int) = -y := by omega
        have e2 : (x.natAbs : Int) = x := by omega
        rw [e1, e2, Int.neg_mul] at h3
        rw [Int.mul_neg]; omega
    · omega
  · by_cases hx : x < 0
    · have hy2 : ¬ y < 0 := by simpa [hx] using hs
      have e1 : (y.natAbs : Int) = y := by omega
      have e2 : (x.natAbs : Int) = -x := by omega
      rw [e1, e2] at h3
      refine fdiv_unique ?_ ?_
      · rw [Int.mul_sub, Int.mul_neg, Int.mul_one]; simp [sg, hx]; omega
      · left; simp [sg, hx]; omega
    · have hy2 : y < 0 := by simpa [hx] using hs
      have e1 : (y.natAbs : Int) = -y := by omega
      have e2 : (x.natAbs : Int) = x := by omega
      rw [e1, e2, Int.neg_mul] at h3
      refine fdiv_unique ?_ ?_
      · rw [Int.mul_sub, Int.mul_neg, Int.mul_one]; simp [sg, hx]; omega
      · right; simp [sg, hx]; omega

def spDivMod : List AV → Option PRes := sp2 zOf zOf fun x y => some (if y = 0 then .tup [iV 0, iV 0, .int .i64 11] else .tup [iV (x.fdiv y), iV (x.fmod y), .int .i64 0])

theorem divDigits_at {G : Pure} (hD : G 76 = spDivDigits) {la lb : Bool} {a b : Nat} (hl : (digs a).length < 30000000) (hl2 : (digs b).length < 30000000) (hb : b ≠ 0) :
    G 76 [.imm la 1 (dg (digs a)), .imm lb 1 (dg (digs b))] = some { val := .tup [.imm false 1 (dg (digs (a / b))), .imm false 1 (dg (digs (a % b)))] } := by
  rw [hD]
  simp only [spDivDigits, digOf_dg (wf_digs a) (show (digs a).length < 100000000 by omega), digOf_dg (wf_digs b) (show (digs b).length < 100000000 by omega), dv_digs]
  rw [if_pos ⟨hb, by omega⟩]
  rfl

theorem weak_tup3 (x y : Int) (v : AV) : AV.weak (.tup [iV x, iV y, v]) = .tup [iV x, iV y, v.weak] := by simp [AV.weak, AV.weakL, weak_iV]

theorem divmod_run (hCn : G 55 = spCanon) (hD : G 76 = spDivDigits) (hM : G 70 = spMake) (hF : G 61 = spFromInt64) (hS : G 77 = spSub) (hA : G 49 = spAdd) :
    FSpec (fun args n => pureF G ic n c59F args) spDivMod := by
  intro args r h
  obtain ⟨a, b, x, y, v, rfl, hx, hy, hv, rfl⟩ := sp2_inv h
  cases hv
  have lx := zOf_zl hx
  have ly := zOf_zl hy
  have t1 := sp1_at hCn hx rfl
  have t2 := sp1_at hCn hy rfl
  have zy := zOf_iV ly
  simp only [iV_agg] at t1 t2 zy
  simp only [zl] at lx ly
  obtain ⟨s1, l1, d1, rfl, w1, k1, -⟩ := zOf_inv hx
  obtain ⟨s2, l2, d2, rfl, w2, k2, -⟩ := zOf_inv hy
  by_cases h0 : y = 0
  · subst h0
    rw [if_pos rfl]
    refine ⟨{ val := .tup [.agg [.bool false, .imm true 1 []], .agg [.bool false, .imm true 1 []], .int .i64 11] }, ⟨0, ?_⟩, rfl, by simp [AV.weak, AV.weakL, AV.weakLL, iV_zero, iA, dg]⟩
    simp only [Int.natAbs_zero, digs_zero] at t2
    simp [pureF, runF, t1, t2, dg_nil]
  · rw [if_neg h0]
    obtain ⟨p1, p2, p3⟩ := fdiv_parts (x := x) h0
    have hyn : y.natAbs ≠ 0 := by omega
    have t3 := divDigits_at hD (la := false) (lb := false) lx ly hyn
    have hne : digs y.natAbs ≠ [] := fun e => hyn (digs_eq_nil.1 e)
    obtain ⟨Q, hQ⟩ : ∃ Q, Q = x.natAbs / y.natAbs := ⟨_, rfl⟩
    obtain ⟨R, hR⟩ : ∃ R, R = x.natAbs % y.natAbs := ⟨_, rfl⟩
    rw [← hQ, ← hR] at p1 p2 p3 t3
    have hQl : (digs Q).length ≤ (digs x.natAbs).length := digs_len_mono (by rw [hQ]; exact Nat.div_le_self _ _)
    have hRl : (digs R).length ≤ (digs y.natAbs).length := digs_len_mono (by rw [hR]; exact Nat.le_of_lt (Nat.mod_lt _ (by omega)))
    have t4 := make_at hM (b := decide (x < 0) != decide (y < 0)) (nl := false) (wf_digs Q) (by omega)
    have t5 := make_at hM (b := decide (x < 0)) (nl := false) (wf_digs R) (by omega)
    rw [dv_digs] at t4 t5
    obtain ⟨B1, hB1⟩ : ∃ B1, B1 = decide (x < 0) := ⟨_, rfl⟩
    obtain ⟨B2, hB2⟩ : ∃ B2, B2 = decide (y < 0) := ⟨_, rfl⟩
    rw [← hB1] at t1 t4 t5 p1 p3
    rw [← hB1, ← hB2] at p2
    rw [← hB2] at t2 t4 p1 p3 zy
    refine ⟨{ val := .tup [iV (x.fdiv y), iV (x.fmod y), .int .i64 0] }, ⟨0, ?_⟩, rfl, by simp only [weak_tup3]; rfl⟩
    by_cases hs : B1 = B2
    · subst hs
      obtain ⟨e1, e2⟩ := p1 rfl
      have e4 : sg (B1 != B1) Q = x.fdiv y := by rw [e1]; simp [sg]
      rw [e4] at t4
      rw [← e2] at t5
      simp only [iV_agg, bne_self_eq_false] at t4 t5
      by_cases hp : 0 < (digs (x.fmod y).natAbs).length <;> simp [pureF, runF, t1, t2, hne, t3, t4, t5, iV_agg, hp]
    · have e4 : sg (B1 != B2) Q = -(Q : Int) := by cases B1 <;> cases B2 <;> simp_all [sg]
      rw [e4] at t4
      by_cases hR0 : R = 0
      · obtain ⟨e1, e2⟩ := p2 hs hR0
        rw [hR0, digs_zero] at t3
        rw [hR0, digs_zero] at t5
        have e5 : sg B1 0 = 0 := by cases B1 <;> simp [sg]
        rw [e5, ← e2] at t5
        rw [← e1] at t4
        simp only [iV_agg, bne] at t4
        simp only [iV_agg, e2, Int.natAbs_zero, digs_zero] at t5
        simp [pureF, runF, t1, t2, hne, t3, t4, t5, iV_agg, hs, e2, digs_zero]
      · obtain ⟨e1, e2⟩ := p3 hs hR0
        obtain ⟨q, hq⟩ : ∃ q, q = -(Q : Int) := ⟨_, rfl⟩
        obtain ⟨r, hr⟩ : ∃ r, r = sg B1 R := ⟨_, rfl⟩
        have hql : zl q < 30000000 := by rw [hq, zl_neg]; simpa [zl] using Nat.lt_of_le_of_lt hQl lx
        have hrl : zl r < 30000000 := by rw [hr, zl_sg]; omega
        have hrn : 0 < (digs r.natAbs).length := by rw [hr, sg_natAbs]; exact List.length_pos_iff.2 fun e => hR0 (digs_eq_nil.1 e)
        have zq := zOf_iV hql
        have zr := zOf_iV hrl
        rw [← hq] at t4 e1
        rw [← hr] at t5 e2
        have zy' : zOf (.agg [.bool B2, .imm false 1 (dg (digs y.natAbs))]) = some y := zy
        obtain ⟨one, hone⟩ : ∃ o : Int, o = 1 := ⟨_, rfl⟩
        have f1 : G 61 [.int .i64 1] = some { val := iV one } := by rw [hone]; exact sp1_at hF (i64Of_mk (n := 1) (by decide) (by decide)) rfl
        have f2 := sp2_at hS zq (zOf_iV (z := 1) (Nat.lt_of_le_of_lt (zl_small (by decide)) (by decide))) rfl
        have f3 := sp2_at hA zr zy' rfl
        rw [← e1] at f2
        rw [← e2] at f3
        obtain ⟨D, hD⟩ : ∃ D, D = x.fdiv y := ⟨_, rfl⟩
        obtain ⟨M, hM⟩ : ∃ M, M = x.fmod y := ⟨_, rfl⟩
        rw [← hone] at f2
        rw [← hD] at f2
        rw [← hM] at f3
        rw [← hD, ← hM]
        simp only [iV_agg, bne] at t4 t5 f1 f2 f3
        clear hone e1 e2 hD hM hq hr
        simp [pureF, runF, t1, t2, hne, t3, t4, t5, iV_agg, hs, hrn, f1, f2, f3]

/-! ### GCD -/

theorem digs_pos_len {y : Nat} (h : y ≠ 0) : 0 < (digs y).length := by
  have : (digs y).length ≠ 0 := fun e => h (digs_eq_nil.1 (List.eq_nil_of_length_eq_zero e))
  omega

theorem gcd_loop (hD : G 76 = spDivDigits) (v4 : AV) (H : List (Nat × Ev.Obj)) (F own reb : List Nat) : ∀ (y x m : Nat), (digs x).length < 30000000 → (digs y).length < 30000000 → y < m →
    blockE (some c58_e0) 0 (iterK G ic n c58_k0 c58_b0Q m ⟨[(4, v4), (5, .imm false 1 (dg (digs x))), (6, .imm false 1 (dg (digs y)))], H, F, own, reb⟩) =
      some (.normal, ⟨[(4, v4), (5, .imm false 1 (dg (digs (x.gcd y))))], H, F, own, reb⟩) := by
  intro y
  induction y using Nat.strongRecOn with
  | _ y ih =>
    intro x m hx hy hm
    obtain ⟨m, rfl⟩ : ∃ i, m = i + 1 := ⟨m - 1, by omega⟩
    by_cases h : y = 0
    · subst h
      simp [iterK_succ, digs_zero]
    · have hr := Nat.mod_lt x (y := y) (by omega)
      have hrl : (digs (x % y)).length ≤ (digs y).length := digs_len_mono (Nat.le_of_lt hr)
      have e := ih (x % y) hr y m hy (by omega) (by omega)
      have eg : y.gcd (x % y) = x.gcd y := by rw [Nat.gcd_comm x y, Nat.gcd_rec y x, Nat.gcd_comm]
      rw [eg] at e
      rw [← e]
      have t := divDigits_at hD (la := false) (lb := false) hx hy h
      have hpos := digs_pos_len h
      simp [iterK_succ, t, hpos]

theorem gcd_start (hD : G 76 = spDivDigits) (v4 : AV) (X Y : Nat) (hX : (digs X).length < 30000000) (hY : (digs Y).length < 30000000) (o1 o2 o3 : Nat × Ev.Obj) (own reb : List Nat)
    (k1 : o1.1 < 928192) (k2 : o2.1 < 928192) (k3 : o3.1 < 928192) (m : Nat) (hm : Y + 2 < m) :
    ∃ R F', 928064 ∉ F' ∧ (R = .imm false 1 (dg (digs (X.gcd Y))) ∨ (R = .sl 928192 0 (digs X).length ∧ X.gcd Y = X) ∨ (R = .sl 928256 0 (digs Y).length ∧ X.gcd Y = Y)) ∧
    blockE (some c58_e0) 0 (iterK G ic n c58_k0 c58_b0Q m ⟨[(4, v4), (5, .sl 928192 0 (digs X).length), (6, .sl 928256 0 (digs Y).length)],
        [o1, o2, o3, (928192, { sz := 1, ty := 88, es := dg (digs X), refs := [] }), (928256, { sz := 1, ty := 88, es := dg (digs Y), refs := [] })], [], own, reb⟩) =
      some (.normal, ⟨[(4, v4), (5, R)], [o1, o2, o3, (928192, { sz := 1, ty := 88, es := dg (digs X), refs := [] }), (928256, { sz := 1, ty := 88, es := dg (digs Y), refs := [] })], F', own, reb⟩) := by
  obtain ⟨x1, y1⟩ := o1
  obtain ⟨x2, y2⟩ := o2
  obtain ⟨x3, y3⟩ := o3
  simp only at k1 k2 k3
  have n1 : x1 ≠ 928192 := by omega
  have n2 : x2 ≠ 928192 := by omega
  have n3 : x3 ≠ 928192 := by omega
  have m1 : x1 ≠ 928256 := by omega
  have m2 : x2 ≠ 928256 := by omega
  have m3 : x3 ≠ 928256 := by omega
  obtain ⟨m, rfl⟩ : ∃ i, m = i + 1 := ⟨m - 1, by omega⟩
  by_cases hY0 : Y = 0
  · subst hY0
    refine ⟨_, [], by simp, .inr (.inl ⟨rfl, Nat.gcd_zero_right _⟩), ?_⟩
    simp [iterK_succ, digs_zero]
  · have hpos := digs_pos_len hY0
    have d1' := divDigits_at hD (a := X) (b := Y) (la := false) (lb := false) (by omega) (by omega) hY0
    obtain ⟨R, hR⟩ : ∃ R, R = X % Y := ⟨_, rfl⟩
    rw [← hR] at d1'
    have hRlt : R < Y := by rw [hR]; exact Nat.mod_lt _ (by omega)
    have hRl : (digs R).length ≤ (digs Y).length := digs_len_mono (Nat.le_of_lt hRlt)
    have eg2 : X.gcd Y = Y.gcd R := by rw [hR, Nat.gcd_comm X Y, Nat.gcd_rec Y X, Nat.gcd_comm]
    obtain ⟨m, rfl⟩ : ∃ i, m = i + 1 := ⟨m - 1, by omega⟩
    by_cases hR0 : R = 0
    · have hgY : X.gcd Y = Y := by rw [eg2, hR0, Nat.gcd_zero_right]
      rw [hR0, digs_zero] at d1'
      refine ⟨_, [928192, 928256], by simp, .inr (.inr ⟨rfl, hgY⟩), ?_⟩
      simp [iterK_succ, hpos, d1', dg_nil, n1, n2, n3, m1, m2, m3]
    · have hpos' := digs_pos_len hR0
      have d2' := divDigits_at hD (a := Y) (b := R) (la := false) (lb := false) (by omega) (by omega) hR0
      have hSlt : Y % R < R := Nat.mod_lt _ (by omega)
      have hSl : (digs (Y % R)).length ≤ (digs R).length := digs_len_mono (Nat.le_of_lt hSlt)
      have e := fun v4 H F own reb => gcd_loop G ic n hD v4 H F own reb (Y % R) R m (by omega) (by omega) (by omega)
      have eg3 : R.gcd (Y % R) = X.gcd Y := by rw [eg2, Nat.gcd_comm Y R, Nat.gcd_rec R Y, Nat.gcd_comm]
      rw [eg3] at e
      refine ⟨_, [928256, 928192, 928256], by simp, .inl rfl, ?_⟩
      rw [← e]
      simp [iterK_succ, hpos, hpos', d1', d2', n1, n2, n3, m1, m2, m3]

def spGCD : List AV → Option PRes := sp2 zOf zOf fun x y => some (iV (Int.gcd x y : Nat))

theorem gcd_run (hT : G 74 = spTrim) (hD : G 76 = spDivDigits) (hM : G 70 = spMake) : FSpec (fun args n => pureF G ic n c58F args) spGCD := by
  intro args r h
  obtain ⟨a, b, x, y, v, rfl, hx, hy, hv, rfl⟩ := sp2_inv h
  cases hv
  obtain ⟨s1, l1, d1, rfl, w1, k1, rfl⟩ := zOf_inv hx
  obtain ⟨s2, l2, d2, rfl, w2, k2, rfl⟩ := zOf_inv hy
  have q1 := digs_length_dv w1
  have q2 := digs_length_dv w2
  have t1 := trim_at hT (nl := l1) w1 (by omega)
  have t2 := trim_at hT (nl := l2) w2 (by omega)
  obtain ⟨X, hX⟩ : ∃ X, X = dv d1 := ⟨_, rfl⟩
  obtain ⟨Y, hY⟩ : ∃ Y, Y = dv d2 := ⟨_, rfl⟩
  have eg : Int.gcd (sg s1 (dv d1)) (sg s2 (dv d2)) = X.gcd Y := by rw [Int.gcd, sg_natAbs, sg_natAbs, hX, hY]
  rw [eg]
  rw [← hX] at t1 q1
  rw [← hY] at t2 q2
  have hgl : (digs (X.gcd Y)).length < 30000000 := by
    rcases Nat.eq_zero_or_pos X with h0 | h0
    · rw [h0, Nat.gcd_zero_left]; omega
    · have : (digs (X.gcd Y)).length ≤ (digs X).length := digs_len_mono (Nat.gcd_le_left _ h0)
      omega
  obtain ⟨N, hN⟩ : ∃ N, N = Y + 3 := ⟨_, rfl⟩
  have e := fun v4 o1 o2 o3 own reb k1 k2 k3 => gcd_start G ic N hD v4 X Y (by omega) (by omega) o1 o2 o3 own reb k1 k2 k3 N (by omega)
  obtain ⟨g, hg⟩ : ∃ g, g = X.gcd Y := ⟨_, rfl⟩
  rw [← hg] at hgl e
  rw [← hg]
  have t3 := make_at hM (b := false) (nl := false) (wf_digs g) (by omega)
  rw [dv_digs] at t3
  simp only [sg, Bool.false_eq_true, if_false] at t3
  have b1 : (digs X).length * 4 ≤ 140737488355328 := by omega
  have b2 : (digs Y).length * 4 ≤ 140737488355328 := by omega
  refine ⟨{ val := iV (g : Nat) }, ⟨N, ?_⟩, rfl, (weak_iV _).symm⟩
  simp only [iV_agg] at t3
  obtain ⟨R, F', hF, hR, e⟩ := e (.ptr 928064 0 0) (928032, { sz := 2, ty := 31, es := [[.bool s1, .imm l1 1 (dg d1)]], refs := [] }) (928048, { sz := 2, ty := 31, es := [[.bool s2, .imm l2 1 (dg d2)]], refs := [] }) (928064, { sz := 2, ty := 31, es := [[.bool false, .imm true 1 []]], refs := [] }) [928256, 928192, 928064, 928048, 928032] [] (by simp) (by simp) (by simp)
  simp [c58_e0, c58_k0] at e
  rcases hR with rfl | ⟨rfl, hgX⟩ | ⟨rfl, hgY⟩
  · simp [pureF, runF, t1, t2, b1, b2, e, t3, iV_agg, hF]
  · subst hgX
    simp [pureF, runF, t1, t2, b1, b2, e, t3, iV_agg, hF]
  · subst hgY
    simp [pureF, runF, t1, t2, b1, b2, e, t3, iV_agg, hF]

end
end Go.Proofs.Ythlpmghodgiknaa.C

/-
  The reference's integers: equality; fractions.
-/
namespace Go.Proofs.Ythlpmghodgiknaa.C
open Go Go.Ev

section
variable (G : Pure) (ic : Inl) (n : Nat)

/-! ### SameInt -/

theorem sameInt_loop (s1 s2 l1 l2 : Bool) (a b : List Nat) (hl : a.length = b.length) (hb : a.length < 30000000) (reb : List Nat) : ∀ d i m, i + d = a.length → a.take i = b.take i → d < m →
    blockE (some c51_e0) 0 (iterK G ic n c51_k0 c51_b0Q m ⟨[(2, .ptr 816032 0 0), (3, .ptr 816048 0 0), (5, .int .i64 i)],
        [(816032, { sz := 2, ty := 31, es := [[.bool s1, .imm l1 1 (dg a)]], refs := [] }), (816048, { sz := 2, ty := 31, es := [[.bool s2, .imm l2 1 (dg b)]], refs := [] })], [], [816048, 816032], reb⟩) =
      if a = b then some (.normal, ⟨[], [(816032, { sz := 2, ty := 31, es := [[.bool s1, .imm l1 1 (dg a)]], refs := [] }), (816048, { sz := 2, ty := 31, es := [[.bool s2, .imm l2 1 (dg b)]], refs := [] })], [], [816048, 816032], reb⟩)
      else some (.ret, ⟨[(4, .bool false)], [], [], [], reb⟩) := by
  intro d
  induction d with
  | zero =>
    intro i m hi ht hm
    obtain ⟨m, rfl⟩ : ∃ i, m = i + 1 := ⟨m - 1, by omega⟩
    have e : a = b := by rw [List.take_of_length_le (by omega), List.take_of_length_le (by omega)] at ht; exact ht
    simp [iterK_succ, e, show i = b.length by omega]
  | succ d ih =>
    intro i m hi ht hm
    obtain ⟨m, rfl⟩ : ∃ i, m = i + 1 := ⟨m - 1, by omega⟩
    have hia : i < a.length := by omega
    have hib : i < b.length := by omega
    have ga := dg_get a i hia
    have gb := dg_get b i hib
    by_cases he : a[i] = b[i]
    · have := ih (i + 1) m (by omega) (by rw [List.take_succ_eq_append_getElem hia, List.take_succ_eq_append_getElem hib, ht, he]) (by omega)
      rw [← this]
      have w : IntKind.i64.wrap ((i : Int) + 1) = (i : Int) + 1 := wrap64_id _ (by omega) (by omega)
      simp [iterK_succ, hia, hib, ga, gb, he, w, bne]
    · have hne : a ≠ b := fun h => he (by subst h; rfl)
      rw [if_neg hne]
      have he2 : ¬ ((a[i] : Int) = b[i]) := by omega
      simp [iterK_succ, hia, hib, ga, gb, bne, he2]

def spSameInt : List AV → Option PRes := sp2 intOf intOf fun x y => some (.bool (decide (x = y)))

theorem sameInt_run : FSpec (fun args n => pureF G ic n c51F args) spSameInt := by
  intro args r h
  obtain ⟨a, b, ⟨s1, d1⟩, ⟨s2, d2⟩, v, rfl, hx, hy, hv, rfl⟩ := sp2_inv h
  cases hv
  obtain ⟨l1, rfl, w1, k1⟩ := intOf_inv hx
  obtain ⟨l2, rfl, w2, k2⟩ := intOf_inv hy
  obtain ⟨N, hN⟩ : ∃ N, N = d1.length + 1 := ⟨_, rfl⟩
  refine ⟨{ val := .bool (decide ((s1, d1) = (s2, d2))) }, ⟨N, ?_⟩, rfl, rfl⟩
  by_cases hs : s1 = s2
  · subst hs
    by_cases hl : d1.length = d2.length
    · have e := sameInt_loop G ic N s1 s1 l1 l2 d1 d2 hl k1 [] d1.length 0 N (by omega) rfl (by omega)
      simp [c51_e0, c51_k0] at e
      by_cases hd : d1 = d2
      · rw [if_pos hd] at e
        subst hd
        simp [pureF, runF, e, bne]
      · rw [if_neg hd] at e
        simp [pureF, runF, hl, e, bne, hd]
    · have hd : d1 ≠ d2 := fun h => hl (by rw [h])
      have hl2 : ¬ ((d1.length : Int) = d2.length) := by omega
      simp [pureF, runF, hl2, bne, hd]
  · simp [pureF, runF, hs, bne]

end
end Go.Proofs.Ythlpmghodgiknaa.C

/-
  Fractions as the evaluator has them.
-/
namespace Go.Ev
open Go

/-- Numerator and denominator as they are written. -/
def rawOf : AV → Option ((Bool × List Nat) × (Bool × List Nat))
  | .agg [b1, d1, b2, d2] => match intOf (.agg [b1, d1]), intOf (.agg [b2, d2]) with | some x, some y => some (x, y) | _, _ => none
  | _ => none

theorem rawOf_inv {a : AV} {s1 s2 : Bool} {d1 d2 : List Nat} (h : rawOf a = some ((s1, d1), (s2, d2))) :
    ∃ l1 l2, a = .agg [.bool s1, .imm l1 1 (dg d1), .bool s2, .imm l2 1 (dg d2)] ∧ Wf d1 ∧ d1.length < 30000000 ∧ Wf d2 ∧ d2.length < 30000000 := by
  unfold rawOf at h
  split at h
  · split at h
    · rename_i hx hy
      cases h
      obtain ⟨l1, e1, w1, k1⟩ := intOf_inv hx
      obtain ⟨l2, e2, w2, k2⟩ := intOf_inv hy
      simp only [AV.agg.injEq, List.cons.injEq, and_true] at e1 e2
      obtain ⟨rfl, rfl⟩ := e1
      obtain ⟨rfl, rfl⟩ := e2
      exact ⟨l1, l2, rfl, w1, k1, w2, k2⟩
    · cases h
  · cases h

theorem rawOf_mk {s1 s2 l1 l2 : Bool} {d1 d2 : List Nat} (w1 : Wf d1) (k1 : d1.length < 30000000) (w2 : Wf d2) (k2 : d2.length < 30000000) :
    rawOf (.agg [.bool s1, .imm l1 1 (dg d1), .bool s2, .imm l2 1 (dg d2)]) = some ((s1, d1), (s2, d2)) := by
  simp [rawOf, intOf_iA w1 k1, intOf_iA w2 k2]

def vOf (x : Bool × List Nat) : Int := sg x.1 (dv x.2)

/-- The number that a fraction stands for; a denominator 0 gives 0. -/
def qOf (a : AV) : Option Rat :=
  match rawOf a with
  | some (x, y) => if x.2.length < 2000000 ∧ y.2.length < 2000000 then some (Rat.divInt (vOf x) (vOf y)) else none
  | none => none

theorem qOf_inv {a : AV} {q : Rat} (h : qOf a = some q) : ∃ s1 l1 d1 s2 l2 d2, a = .agg [.bool s1, .imm l1 1 (dg d1), .bool s2, .imm l2 1 (dg d2)] ∧ Wf d1 ∧ d1.length < 2000000 ∧ Wf d2 ∧ d2.length < 2000000 ∧ q = Rat.divInt (sg s1 (dv d1)) (sg s2 (dv d2)) := by
  unfold qOf at h
  split at h
  · rename_i x y hr
    obtain ⟨s1, d1⟩ := x
    obtain ⟨s2, d2⟩ := y
    obtain ⟨hc, he⟩ := of_ite h
    cases he
    obtain ⟨l1, l2, rfl, w1, _, w2, _⟩ := rawOf_inv hr
    exact ⟨s1, l1, d1, s2, l2, d2, rfl, w1, hc.1, w2, hc.2, rfl⟩
  · cases h

theorem qOf_mk {s1 s2 l1 l2 : Bool} {d1 d2 : List Nat} (w1 : Wf d1) (k1 : d1.length < 2000000) (w2 : Wf d2) (k2 : d2.length < 2000000) :
    qOf (.agg [.bool s1, .imm l1 1 (dg d1), .bool s2, .imm l2 1 (dg d2)]) = some (Rat.divInt (sg s1 (dv d1)) (sg s2 (dv d2))) := by
  simp [qOf, rawOf_mk w1 (show d1.length < 30000000 by omega) w2 (show d2.length < 30000000 by omega), k1, k2, vOf]

/-- A fraction in canonical form. -/
def fV (q : Rat) : AV := .agg [.bool (decide (q.num < 0)), .imm false 1 (dg (digs q.num.natAbs)), .bool false, .imm false 1 (dg (digs q.den))]

theorem fV_agg (q : Rat) : fV q = .agg [.bool (decide (q.num < 0)), .imm false 1 (dg (digs q.num.natAbs)), .bool false, .imm false 1 (dg (digs q.den))] := rfl

theorem weak_raw (s1 s2 l1 l2 : Bool) (d1 d2 : List Nat) : AV.weak (.agg [.bool s1, .imm l1 1 (dg d1), .bool s2, .imm l2 1 (dg d2)]) = .agg [.bool s1, .imm false 1 (dg d1), .bool s2, .imm false 1 (dg d2)] := by simp [AV.weak, AV.weakL, weakLL_dg]
theorem weak_fV (q : Rat) : (fV q).weak = fV q := by unfold fV; rw [weak_raw]

theorem sg_self (z : Int) : sg (decide (z < 0)) z.natAbs = z := by by_cases h : z < 0 <;> simp [sg, h] <;> omega

/-- How long numerator and denominator are. -/
def Sz (k : Nat) (q : Rat) : Prop := zl q.num ≤ k ∧ (digs q.den).length ≤ k

theorem Sz.mono {k k' : Nat} {q : Rat} (h : Sz k q) (hk : k ≤ k') : Sz k' q := ⟨Nat.le_trans h.1 hk, Nat.le_trans h.2 hk⟩

theorem divInt_nd (q : Rat) : Rat.divInt q.num (q.den : Int) = q := Rat.num_divInt_den q

theorem qOf_fV {k : Nat} {q : Rat} (h : Sz k q) (hk : k < 2000000) : qOf (fV q) = some q := by
  obtain ⟨h1, h2⟩ := h
  simp only [zl] at h1
  rw [fV, qOf_mk (wf_digs _) (by omega) (wf_digs _) (by omega), dv_digs, dv_digs, sg_self]
  simp only [sg, Bool.false_eq_true, if_false]
  rw [divInt_nd]

theorem rawOf_fV {q : Rat} (h : Sz 29999999 q) : rawOf (fV q) = some ((decide (q.num < 0), digs q.num.natAbs), (false, digs q.den)) := by
  obtain ⟨h1, h2⟩ := h
  simp only [zl] at h1
  exact rawOf_mk (wf_digs _) (by omega) (wf_digs _) (by omega)

/-- Numerator and denominator in lowest terms. -/
theorem divInt_parts {n d : Int} (hd : 0 < d) : n.fdiv (Int.gcd n d : Nat) = (Rat.divInt n d).num ∧ d.fdiv (Int.gcd n d : Nat) = ((Rat.divInt n d).den : Int) := by
  rw [Int.fdiv_eq_ediv_of_nonneg _ (by omega), Int.fdiv_eq_ediv_of_nonneg _ (by omega)]
  rw [Rat.num_divInt, Rat.den_divInt, if_neg (by omega), Int.sign_eq_one_of_pos hd, Int.one_mul, Int.gcd_comm n d]
  refine ⟨rfl, ?_⟩
  have : (d.natAbs : Int) = d := by omega
  rw [Int.natCast_ediv, this]

theorem divInt_num_le (n d : Int) : (Rat.divInt n d).num.natAbs ≤ n.natAbs := by
  rw [Rat.num_divInt]
  have h1 := Int.natAbs_ediv_le_natAbs (d.sign * n) (d.gcd n : Nat)
  refine Nat.le_trans h1 ?_
  rw [Int.natAbs_mul]
  have : d.sign.natAbs ≤ 1 := by rw [Int.natAbs_sign]; split <;> omega
  calc d.sign.natAbs * n.natAbs ≤ 1 * n.natAbs := Nat.mul_le_mul_right _ this
    _ = n.natAbs := Nat.one_mul _

theorem divInt_den_le (n d : Int) : (Rat.divInt n d).den ≤ max 1 d.natAbs := by
  rw [Rat.den_divInt]
  split
  · omega
  · exact Nat.le_trans (Nat.div_le_self _ _) (by omega)

theorem Sz_divInt {n d : Int} {k : Nat} (hn : zl n ≤ k) (hd : zl d ≤ k) (hk : 1 ≤ k) : Sz k (Rat.divInt n d) := by
  refine ⟨Nat.le_trans (digs_len_mono (divInt_num_le n d)) hn, ?_⟩
  refine Nat.le_trans (digs_len_mono (divInt_den_le n d)) ?_
  rcases Nat.le_total 1 d.natAbs with h | h
  · rw [Nat.max_eq_right h]; exact hd
  · rw [Nat.max_eq_left h]; exact Nat.le_trans (zl_small (z := 1) (by decide)) hk

theorem Sz_qOf {a : AV} {q : Rat} (h : qOf a = some q) : Sz 1999999 q := by
  obtain ⟨s1, l1, d1, s2, l2, d2, rfl, w1, k1, w2, k2, rfl⟩ := qOf_inv h
  have q1 := digs_length_dv w1
  have q2 := digs_length_dv w2
  exact Sz_divInt (by rw [zl_sg]; omega) (by rw [zl_sg]; omega) (by decide)

theorem Sz_add {j k : Nat} {p q : Rat} (hp : Sz j p) (hq : Sz k q) (h1 : 1 ≤ j) : Sz (j + k + 1) (p + q) := by
  obtain ⟨a1, a2⟩ := hp
  obtain ⟨b1, b2⟩ := hq
  have a2' : zl (p.den : Int) ≤ j := by simpa [zl] using a2
  have b2' : zl (q.den : Int) ≤ k := by simpa [zl] using b2
  rw [Rat.add_def', ← Rat.divInt_ofNat, Int.natCast_mul]
  refine Sz_divInt ?_ ?_ (by omega)
  · have := zl_add' (p.num * q.den) (q.num * p.den)
    have := zl_mul p.num q.den
    have := zl_mul q.num p.den
    omega
  · have := zl_mul p.den q.den
    omega

theorem Sz_mul {j k : Nat} {p q : Rat} (hp : Sz j p) (hq : Sz k q) (h1 : 1 ≤ j) : Sz (j + k) (p * q) := by
  obtain ⟨a1, a2⟩ := hp
  obtain ⟨b1, b2⟩ := hq
  have a2' : zl (p.den : Int) ≤ j := by simpa [zl] using a2
  have b2' : zl (q.den : Int) ≤ k := by simpa [zl] using b2
  rw [Rat.mul_def', ← Rat.divInt_ofNat, Int.natCast_mul]
  refine Sz_divInt ?_ ?_ (by omega)
  · have := zl_mul p.num q.num; omega
  · have := zl_mul p.den q.den; omega

theorem Sz_int {z : Int} {k : Nat} (h : zl z ≤ k) (hk : 1 ≤ k) : Sz k (z : Rat) := by
  refine ⟨by simpa using h, ?_⟩
  rw [Rat.den_intCast]
  exact Nat.le_trans (zl_small (z := 1) (by decide)) hk

theorem Sz_zero : Sz 1 (0 : Rat) := Sz_int (z := 0) (by rw [zl_le]; decide) (by decide)

end Go.Ev

/-
  The reference's fractions.
-/
namespace Go.Proofs.Ythlpmghodgiknaa.C
open Go Go.Ev

section
variable (G : Pure) (ic : Inl) (n : Nat)

/-! ### Reduce -/

def spReduce : List AV → Option PRes := sp1 rawOf fun x => some (fV (Rat.divInt (vOf x.1) (vOf x.2)))

theorem fV_zero : fV 0 = .agg [.bool false, .imm false 1 [], .bool false, .imm false 1 (dg (digs 1))] := by
  have h1 : (0 : Rat).num = 0 := rfl
  have h2 : (0 : Rat).den = 1 := rfl
  simp [fV, h1, h2, digs_zero, dg_nil]

theorem reduce_run (hCn : G 55 = spCanon) (hN : G 57 = spNegate) (hO : G 56 = spOne) (hGc : G 58 = spGCD) (hD : G 59 = spDivMod) :
    FSpec (fun args n => pureF G ic n c28F args) spReduce := by
  intro args r h
  obtain ⟨a, ⟨⟨s1, d1⟩, ⟨s2, d2⟩⟩, v, rfl, hx, hv, rfl⟩ := sp1_inv h
  cases hv
  obtain ⟨l1, l2, rfl, w1, k1, w2, k2⟩ := rawOf_inv hx
  have z1 := zOf_mk (b := s1) (nl := l1) w1 k1
  have z2 := zOf_mk (b := s2) (nl := l2) w2 k2
  simp only [vOf]
  obtain ⟨x, hxe⟩ : ∃ x, x = sg s1 (dv d1) := ⟨_, rfl⟩
  obtain ⟨y, hye⟩ : ∃ y, y = sg s2 (dv d2) := ⟨_, rfl⟩
  rw [← hxe] at z1 ⊢
  rw [← hye] at z2 ⊢
  have lx := zOf_zl z1
  have ly := zOf_zl z2
  have t1 := sp1_at hCn z1 rfl
  have t2 := sp1_at hCn z2 rfl
  have t0 := sp0_at hO
  simp only [iV_agg] at t1 t2 t0
  have w0 : ∀ nl : Bool, fV 0 = AV.weak (.agg [.bool false, .imm nl 1 [], .bool false, .imm false 1 (dg (digs 1))]) := fun nl => by
    rw [fV_zero, ← dg_nil, weak_raw]
  by_cases hx0 : x = 0
  · refine ⟨{ val := .agg [.bool false, .imm true 1 [], .bool false, .imm false 1 (dg (digs 1))] }, ⟨0, ?_⟩, rfl, by rw [hx0, Rat.zero_divInt]; exact w0 true⟩
    rw [hx0, Int.natAbs_zero, digs_zero, dg_nil] at t1
    simp [pureF, runF, t1, t2, t0]
  by_cases hy0 : y = 0
  · refine ⟨{ val := .agg [.bool false, .imm true 1 [], .bool false, .imm false 1 (dg (digs 1))] }, ⟨0, ?_⟩, rfl, by rw [hy0, Rat.divInt_zero]; exact w0 true⟩
    rw [hy0, Int.natAbs_zero, digs_zero, dg_nil] at t2
    by_cases hp : digs x.natAbs = [] <;> simp [pureF, runF, t1, t2, t0, hp]
  refine ⟨{ val := fV (Rat.divInt x y) }, ⟨0, ?_⟩, rfl, (weak_fV _).symm⟩
  have hpx : digs x.natAbs ≠ [] := fun e => by have := digs_eq_nil.1 e; omega
  have hpy : digs y.natAbs ≠ [] := fun e => by have := digs_eq_nil.1 e; omega
  obtain ⟨g, hg⟩ : ∃ g : Int, g = ((Int.gcd x y : Nat) : Int) := ⟨_, rfl⟩
  have hg0 : g ≠ 0 := by rw [hg]; have := Int.gcd_pos_of_ne_zero_left y hx0; omega
  have hgl : zl g < 30000000 := by
    refine Nat.lt_of_le_of_lt (zl_mono (y := x) ?_) lx
    rw [hg]
    show Nat.gcd x.natAbs y.natAbs ≤ x.natAbs
    exact Nat.gcd_le_left _ (by omega)
  have zg := zOf_iV hgl
  by_cases hyn : y < 0
  · -- both turned
    have t3 := sp1_at hN (zOf_iV lx) rfl
    have t4 := sp1_at hN (zOf_iV ly) rfl
    have zx := zOf_iV (z := -x) (by rw [← zl_neg] at lx; exact lx)
    have zy := zOf_iV (z := -y) (by rw [← zl_neg] at ly; exact ly)
    have t5 := sp2_at hGc zx zy rfl
    rw [Int.gcd_neg, Int.neg_gcd, ← hg] at t5
    have t6 := sp2_at hD zx zg rfl
    have t7 := sp2_at hD zy zg rfl
    rw [if_neg hg0] at t6 t7
    obtain ⟨p1, p2⟩ := divInt_parts (n := -x) (d := -y) (by omega)
    rw [Int.gcd_neg, Int.neg_gcd, ← hg] at p1 p2
    rw [Rat.neg_divInt_neg] at p1 p2
    rw [p1] at t6
    rw [p2] at t7
    obtain ⟨q, hq⟩ : ∃ q, q = Rat.divInt x y := ⟨_, rfl⟩
    rw [← hq] at t6 t7 ⊢
    obtain ⟨X, hX⟩ : ∃ X, X = -x := ⟨_, rfl⟩
    obtain ⟨Y, hY⟩ : ∃ Y, Y = -y := ⟨_, rfl⟩
    obtain ⟨M1, hM1⟩ : ∃ M, M = (-x).fmod g := ⟨_, rfl⟩
    obtain ⟨M2, hM2⟩ : ∃ M, M = (-y).fmod g := ⟨_, rfl⟩
    rw [← hM1] at t6
    rw [← hM2] at t7
    rw [← hX] at t3 t5 t6
    rw [← hY] at t4 t5 t7
    simp only [iV_agg] at t3 t4 t5 t6 t7
    clear hX hY hM1 hM2 hq p1 p2 hg
    simp only [hyn, decide_true] at t2 t4
    simp [pureF, runF, t1, t2, hpx, hpy, t3, t4, t5, t6, t7, fV_agg]
  · have t5 := sp2_at hGc (zOf_iV lx) (zOf_iV ly) rfl
    rw [← hg] at t5
    have t6 := sp2_at hD (zOf_iV lx) zg rfl
    have t7 := sp2_at hD (zOf_iV ly) zg rfl
    rw [if_neg hg0] at t6 t7
    obtain ⟨p1, p2⟩ := divInt_parts (n := x) (d := y) (by omega)
    rw [← hg] at p1 p2
    rw [p1] at t6
    rw [p2] at t7
    obtain ⟨q, hq⟩ : ∃ q, q = Rat.divInt x y := ⟨_, rfl⟩
    rw [← hq] at t6 t7 ⊢
    obtain ⟨M1, hM1⟩ : ∃ M, M = x.fmod g := ⟨_, rfl⟩
    obtain ⟨M2, hM2⟩ : ∃ M, M = y.fmod g := ⟨_, rfl⟩
    rw [← hM1] at t6
    rw [← hM2] at t7
    simp only [iV_agg] at t5 t6 t7
    clear hM1 hM2 hq p1 p2 hg
    simp only [hyn, decide_false] at t2 t5 t7
    simp [pureF, runF, t1, t2, hpx, hpy, t5, t6, t7, fV_agg]

theorem reduce_at {G : Pure} (hR : G 28 = spReduce) {x y : Int} {b1 l1 b2 l2 : Bool} {d1 d2 : List Nat} (w1 : Wf d1) (k1 : d1.length < 30000000) (w2 : Wf d2) (k2 : d2.length < 30000000) (hx : sg b1 (dv d1) = x) (hy : sg b2 (dv d2) = y) :
    G 28 [.agg [.bool b1, .imm l1 1 (dg d1), .bool b2, .imm l2 1 (dg d2)]] = some { val := fV (Rat.divInt x y) } :=
  sp1_at hR (rawOf_mk w1 k1 w2 k2) (by simp only [vOf, hx, hy])

/-! ### FromInt, Whole, SignFrac -/

def spFromInt : List AV → Option PRes := sp1 zOf fun z => some (fV (z : Rat))

theorem divInt_one (z : Int) : Rat.divInt z 1 = (z : Rat) := by
  have := Rat.num_divInt_den (z : Rat)
  rw [Rat.num_intCast, Rat.den_intCast] at this
  exact this

theorem fromInt_run (hO : G 56 = spOne) (hR : G 28 = spReduce) : FSpec (fun args n => pureF G ic n c60F args) spFromInt := by
  intro args r h
  obtain ⟨a, z, v, rfl, hx, hv, rfl⟩ := sp1_inv h
  cases hv
  obtain ⟨s1, l1, d1, rfl, w1, k1, ez⟩ := zOf_inv hx
  have t0 := sp0_at hO
  have l1' : (digs 1).length < 30000000 := Nat.lt_of_le_of_lt (zl_small (z := 1) (by decide)) (by decide)
  have t1 := reduce_at hR (b1 := s1) (l1 := l1) (b2 := false) (l2 := false) w1 k1 (wf_digs 1) l1' ez.symm (y := 1) (by rw [dv_digs]; rfl)
  rw [divInt_one] at t1
  obtain ⟨q, hq⟩ : ∃ q : Rat, q = (z : Rat) := ⟨_, rfl⟩
  rw [← hq] at t1 ⊢
  refine ⟨{ val := fV q }, ⟨0, ?_⟩, rfl, (weak_fV _).symm⟩
  simp only [iV_agg] at t0
  simp only [fV_agg] at t1
  simp [pureF, runF, t0, t1, fV_agg]

def spWhole : List AV → Option PRes := sp1 i64Of fun z => some (fV (z : Rat))

theorem zl_i64 {z : Int} (h0 : -9223372036854775808 ≤ z) (h1 : z < 9223372036854775808) : zl z ≤ 2 := by
  rw [zl_le]
  simp only [W32]
  omega

theorem whole_run (hF : G 61 = spFromInt64) (hI : G 60 = spFromInt) : FSpec (fun args n => pureF G ic n c39F args) spWhole := by
  intro args r h
  obtain ⟨a, z, v, rfl, hx, hv, rfl⟩ := sp1_inv h
  cases hv
  obtain ⟨rfl, h0, h1⟩ := i64Of_inv hx
  have t1 := sp1_at hF hx rfl
  have t2 := sp1_at hI (zOf_iV (z := z) (by have := zl_i64 h0 h1; simp only [zl] at this; omega)) rfl
  obtain ⟨q, hq⟩ : ∃ q : Rat, q = (z : Rat) := ⟨_, rfl⟩
  rw [← hq] at t2 ⊢
  refine ⟨{ val := fV q }, ⟨0, ?_⟩, rfl, (weak_fV _).symm⟩
  simp only [iV_agg] at t1 t2
  simp only [fV_agg] at t2
  simp [pureF, runF, t1, t2, fV_agg]

def spSignFrac : List AV → Option PRes := sp1 qOf fun q => some (.int .i64 (cmpZ q.num 0))

theorem qOf_raw {a : AV} {q : Rat} (h : qOf a = some q) : ∃ x, rawOf a = some x ∧ q = Rat.divInt (vOf x.1) (vOf x.2) := by
  unfold qOf at h
  split at h
  · rename_i x y hr
    obtain ⟨_, he⟩ := of_ite h
    cases he
    exact ⟨_, hr, rfl⟩
  · cases h

theorem reduceQ_at {G : Pure} (hR : G 28 = spReduce) {a : AV} {q : Rat} (h : qOf a = some q) : G 28 [a] = some { val := fV q } := by
  obtain ⟨x, hr, rfl⟩ := qOf_raw h
  exact sp1_at hR hr rfl

theorem signFrac_run (hR : G 28 = spReduce) (hS : G 64 = spSign) : FSpec (fun args n => pureF G ic n c41F args) spSignFrac := by
  intro args r h
  obtain ⟨a, q, v, rfl, hx, hv, rfl⟩ := sp1_inv h
  cases hv
  have hz := Sz_qOf hx
  have t1 := reduceQ_at hR hx
  have t2 := sp1_at hS (zOf_iV (z := q.num) (by have := hz.1; simp only [zl] at *; omega)) rfl
  obtain ⟨s1, l1, d1, s2, l2, d2, rfl, w1, k1, w2, k2, -⟩ := qOf_inv hx
  refine ⟨{ val := .int .i64 (cmpZ q.num 0) }, ⟨0, ?_⟩, rfl, rfl⟩
  simp only [iV_agg] at t2
  simp only [fV_agg] at t1
  simp [pureF, runF, t1, t2]

/-! ### AddFrac, MulFrac, SameFrac -/

def spAddFrac : List AV → Option PRes := sp2 qOf qOf fun x y => some (fV (x + y))
def spMulFrac : List AV → Option PRes := sp2 qOf qOf fun x y => some (fV (x * y))

def spSameFrac : List AV → Option PRes := sp2 rawOf rawOf fun x y => some (.bool (decide (x = y)))

theorem sameFrac_run (hS : G 51 = spSameInt) : FSpec (fun args n => pureF G ic n c20F args) spSameFrac := by
  intro args r h
  obtain ⟨a, b, ⟨⟨s1, d1⟩, ⟨s2, d2⟩⟩, ⟨⟨s3, d3⟩, ⟨s4, d4⟩⟩, v, rfl, hx, hy, hv, rfl⟩ := sp2_inv h
  cases hv
  obtain ⟨l1, l2, rfl, w1, k1, w2, k2⟩ := rawOf_inv hx
  obtain ⟨l3, l4, rfl, w3, k3, w4, k4⟩ := rawOf_inv hy
  have t1 := sp2_at hS (intOf_iA (b := s1) (nl := l1) w1 k1) (intOf_iA (b := s3) (nl := l3) w3 k3) rfl
  have t2 := sp2_at hS (intOf_iA (b := s2) (nl := l2) w2 k2) (intOf_iA (b := s4) (nl := l4) w4 k4) rfl
  refine ⟨{ val := _ }, ⟨0, ?_⟩, rfl, rfl⟩
  by_cases h1 : (s1, d1) = (s3, d3)
  · by_cases h2 : (s2, d2) = (s4, d4)
    · simp only [h1, h2, decide_true] at t1 t2
      simp only [h1, h2, decide_true]
      simp [pureF, runF, t1, t2]
    · have h3 : ¬ (((s1, d1), (s2, d2)) = ((s3, d3), (s4, d4))) := fun e => h2 (by cases e; rfl)
      simp only [decide_eq_false h2] at t2
      simp only [decide_eq_true h1] at t1
      simp only [decide_eq_false h3]
      simp [pureF, runF, t1, t2]
  · have h3 : ¬ (((s1, d1), (s2, d2)) = ((s3, d3), (s4, d4))) := fun e => h1 (by cases e; rfl)
    simp only [decide_eq_false h1] at t1
    simp only [decide_eq_false h3]
    simp [pureF, runF, t1]

end
end Go.Proofs.Ythlpmghodgiknaa.C

/-
  The program's integers: copies, leading zeros, sums and differences of digits.
-/
namespace Go.Proofs.Ythlpmghodgiknaa.C
open Go Go.Ev

section
variable (G : Pure) (ic : Inl) (n : Nat)

/-! ### Add32, Sub32 -/

theorem u32Of_inv {a : AV} {n : Nat} (h : u32Of a = some n) : a = .int .u32 n ∧ n < 4294967296 := by
  unfold u32Of at h
  split at h
  · obtain ⟨h1, h2⟩ := of_ite h
    cases h2
    exact ⟨by congr 1; omega, by omega⟩
  · cases h
theorem u32Of_mk {n : Nat} (h : n < 4294967296) : u32Of (.int .u32 n) = some n := by
  have : (0 : Int) ≤ n ∧ (n : Int) < 4294967296 := by omega
  simp [u32Of, this]

def spAdd32 : List AV → Option PRes := sp3 u32Of u32Of u32Of fun x y c => some (.tup [.int .u32 ((x + y + c) % 4294967296 : Nat), .int .u32 ((x + y + c) / 4294967296 : Nat)])

theorem add32_run : FSpec (fun args n => pureF G ic n c103F args) spAdd32 := by
  intro args r h
  obtain ⟨a, b, c, x, y, z, v, rfl, hx, hy, hz, hv, rfl⟩ := sp3_inv h
  cases hv
  obtain ⟨rfl, hx⟩ := u32Of_inv hx
  obtain ⟨rfl, hy⟩ := u32Of_inv hy
  obtain ⟨rfl, hz⟩ := u32Of_inv hz
  have w1 : IntKind.u64.wrap (x : Int) = (x : Int) := wrapu64_id _ (by omega) (by omega)
  have w2 : IntKind.u64.wrap (y : Int) = (y : Int) := wrapu64_id _ (by omega) (by omega)
  have w3 : IntKind.u64.wrap (z : Int) = (z : Int) := wrapu64_id _ (by omega) (by omega)
  have w4 : IntKind.u64.wrap ((x : Int) + y) = (x : Int) + y := wrapu64_id _ (by omega) (by omega)
  obtain ⟨t, ht⟩ : ∃ t, t = x + y + z := ⟨_, rfl⟩
  have w5 : IntKind.u64.wrap ((x : Int) + y + z) = (t : Int) := w64_nat (by omega) (by omega)
  rw [← ht]
  obtain ⟨q, hq⟩ : ∃ q, q = t % 4294967296 := ⟨_, rfl⟩
  obtain ⟨e, he⟩ : ∃ e, e = t / 4294967296 := ⟨_, rfl⟩
  rw [← hq, ← he]
  have w6 : IntKind.u32.wrap (t : Int) = (q : Int) := w32_nat hq
  have w7 : (t : Int).fdiv 4294967296 = (e : Int) := fdiv_nat he
  have w8 : IntKind.u32.wrap (e : Int) = (e : Int) := wrapu32_id _ (by omega) (by omega)
  refine ⟨{ val := .tup [.int .u32 q, .int .u32 e] }, ⟨0, ?_⟩, rfl, by simp [AV.weak, AV.weakL]⟩
  simp [pureF, runF, w1, w2, w3, w4, w5, w6, w7, w8]

theorem not_u32 {x : Nat} (hx : x < 4294967296) : (((if IntKind.u32.signed = true then -1 else IntKind.u32.max) % 2 ^ IntKind.u32.bits).toNat ^^^ x % 2 ^ IntKind.u32.bits) = 4294967295 - x := by
  show (4294967295 ^^^ x % 4294967296) = _
  rw [Nat.mod_eq_of_lt hx]
  have e1 : 4294967295 = 2 ^ 32 - 1 := by decide
  have e2 : 4294967295 - x = 2 ^ 32 - (x + 1) := by omega
  refine Nat.eq_of_testBit_eq fun i => ?_
  rw [Nat.testBit_xor, e2, Nat.testBit_two_pow_sub_succ (by omega), e1, Nat.testBit_two_pow_sub_one]
  by_cases hi : i < 32
  · simp [hi]
  · have : x.testBit i = false := Nat.testBit_lt_two_pow (Nat.lt_of_lt_of_le (show x < 2 ^ 32 by omega) (Nat.pow_le_pow_right (by decide) (by omega)))
    simp [hi, this]

theorem top_bit {v : Nat} (h : v < 4294967296) : v.testBit 31 = decide (2147483648 ≤ v) := by
  rw [Nat.testBit_eq_decide_div_mod_eq]
  simp only [Nat.reducePow]
  congr 1
  simp only [eq_iff_iff]
  omega

theorem borrow_eq {x y z d : Nat} (hx : x < 4294967296) (hy : y < 4294967296) (hz : z ≤ 1) (hd : d = (x + 4294967296 - y - z) % 4294967296) :
    ((4294967295 - x) &&& y ||| ((4294967295 - (x ^^^ y)) &&& d)) / 2147483648 = if x < y + z then 1 else 0 := by
  have hxy : x ^^^ y < 4294967296 := Nat.xor_lt_two_pow (n := 32) hx hy
  have hdl : d < 4294967296 := by omega
  have k1 : ((4294967295 - x) &&& y) < 4294967296 := Nat.and_lt_two_pow (n := 32) _ hy
  have k2 : ((4294967295 - (x ^^^ y)) &&& d) < 4294967296 := Nat.and_lt_two_pow (n := 32) _ hdl
  obtain ⟨v, hv⟩ : ∃ v, v = ((4294967295 - x) &&& y ||| ((4294967295 - (x ^^^ y)) &&& d)) := ⟨_, rfl⟩
  have hvl : v < 4294967296 := by rw [hv]; exact Nat.or_lt_two_pow (n := 32) k1 k2
  have ht := top_bit hvl
  have t1 := top_bit hx
  have t2 := top_bit hy
  have t3 := top_bit hdl
  have t4 := top_bit (show 4294967295 - x < 4294967296 by omega)
  have t5 := top_bit (show 4294967295 - (x ^^^ y) < 4294967296 by omega)
  have t6 := top_bit hxy
  rw [Nat.testBit_xor, t1, t2] at t6
  have t7 := ht
  rw [hv, Nat.testBit_or, Nat.testBit_and, Nat.testBit_and, t2, t3, t4, t5] at t7
  rw [← hv] at t7 ⊢
  by_cases a1 : 2147483648 ≤ x <;> by_cases a2 : 2147483648 ≤ y <;> by_cases a3 : 2147483648 ≤ x ^^^ y <;> by_cases a4 : 2147483648 ≤ d <;> by_cases a5 : 2147483648 ≤ v <;> by_cases a6 : 2147483648 ≤ 4294967295 - (x ^^^ y) <;> by_cases a7 : 2147483648 ≤ 4294967295 - x <;>
    simp [a1, a2, a3, a4, a5, a6, a7] at t6 t7 <;> split <;> omega

def spSub32 : List AV → Option PRes := sp3 u32Of u32Of u32Of fun x y c => if c ≤ 1 then some (.tup [.int .u32 ((x + 4294967296 - y - c) % 4294967296 : Nat), .int .u32 (if x < y + c then 1 else 0 : Nat)]) else none

theorem sub32_run : FSpec (fun args n => pureF G ic n c104F args) spSub32 := by
  intro args r h
  obtain ⟨a, b, c, x, y, z, v, rfl, ux, uy, uz, hv, rfl⟩ := sp3_inv h
  obtain ⟨hz1, hv⟩ := of_ite hv
  cases hv
  obtain ⟨rfl, hx⟩ := u32Of_inv ux
  obtain ⟨rfl, hy⟩ := u32Of_inv uy
  obtain ⟨rfl, hz⟩ := u32Of_inv uz
  obtain ⟨d, hd⟩ : ∃ d, d = (x + 4294967296 - y - z) % 4294967296 := ⟨_, rfl⟩
  obtain ⟨e, he⟩ : ∃ e, e = if x < y + z then 1 else 0 := ⟨_, rfl⟩
  have hb := borrow_eq hx hy hz1 hd
  rw [← he] at hb
  rw [← hd, ← he]
  have hxy : x ^^^ y < 4294967296 := Nat.xor_lt_two_pow (n := 32) hx hy
  have hdl : d < 4294967296 := by omega
  have n1 := not_u32 hx
  have n2 := not_u32 hxy
  obtain ⟨X, hX⟩ : ∃ X, X = x ^^^ y := ⟨_, rfl⟩
  rw [← hX] at n2 hb hxy
  obtain ⟨A, hA⟩ : ∃ A, A = 4294967295 - x := ⟨_, rfl⟩
  obtain ⟨B, hB⟩ : ∃ B, B = 4294967295 - X := ⟨_, rfl⟩
  rw [← hA, ← hB] at hb
  rw [← hA] at n1
  rw [← hB] at n2
  have k1 : (A &&& y) < 4294967296 := Nat.and_lt_two_pow (n := 32) _ hy
  have k2 : (B &&& d) < 4294967296 := Nat.and_lt_two_pow (n := 32) _ hdl
  have k3 : (A &&& y ||| B &&& d) < 4294967296 := Nat.or_lt_two_pow (n := 32) k1 k2
  have m : ∀ v : Nat, v < 4294967296 → IntKind.u32.wrap (v : Int) = v := fun v hv => wrapu32_id _ (by omega) (by omega)
  have md : ∀ v : Nat, v < 4294967296 → v % 2 ^ IntKind.u32.bits = v := fun v hv => Nat.mod_eq_of_lt hv
  have mi : ∀ v : Nat, v < 4294967296 → ((v : Int) % 2 ^ IntKind.u32.bits).toNat = v := fun v hv => by
    show ((v : Int) % 4294967296).toNat = v
    omega
  have w1 : IntKind.u32.wrap (IntKind.u32.wrap ((x : Int) - y) - z) = (d : Int) := by rw [wrapu32, wrapu32]; omega
  have f : ((A &&& y ||| B &&& d : Nat) : Int).fdiv 2147483648 = (e : Int) := by rw [Int.fdiv_eq_ediv_of_nonneg _ (by decide)]; omega
  have x1 : (x % 2 ^ IntKind.u32.bits ^^^ y % 2 ^ IntKind.u32.bits) = X := by rw [md x hx, md y hy, hX]
  rw [md X hxy] at n2
  rw [md x hx] at n1 x1
  rw [md y hy] at x1
  refine ⟨{ val := .tup [.int .u32 d, .int .u32 e] }, ⟨0, ?_⟩, rfl, by simp [AV.weak, AV.weakL]⟩
  have lA : A < 4294967296 := by omega
  have lB : B < 4294967296 := by omega
  clear hX hA hB
  have mA := m A lA
  have mB := m B lB
  have e1 := m (A &&& y) k1
  have e2 := m (B &&& d) k2
  have e3 := m (A &&& y ||| B &&& d) k3
  have e4 := m X hxy
  have i1 := mi A lA
  have i2 := mi B lB
  have i3 := mi X hxy
  have i4 := mi d hdl
  have i5 := mi _ k1
  have i6 := mi _ k2
  have i7 := md y hy
  have j1 := md x hx
  have j2 := md A lA
  have j3 := md B lB
  have j4 := md X hxy
  have j5 := md d hdl
  have j6 := md _ k1
  have j7 := md _ k2
  simp [pureF, runF, w1, n1, x1, mA, e4, i3, n2, mB, i1, i2, i7, e1, i4, e2, i5, i6, e3, f, j1, j2, j3, j4, j5, j6, j7]

end
end Go.Proofs.Ythlpmghodgiknaa.C

/-
  The program's integers: magnitudes, comparison, sums, differences, products.
-/
namespace Go.Proofs.Ythlpmghodgiknaa.C
open Go Go.Ev

section
variable (G : Pure) (ic : Inl) (n : Nat)

/-! ### clone, magnitude, canonical -/

def spClone : List AV → Option PRes
  | [a] => (digOf a).map fun ds => { val := .sl 0 0 ds.length, objs := [{ sz := 1, ty := 88, es := dg ds, refs := [] }] }
  | _ => none

theorem clone_run : FSpec (fun args n => freshF G ic n c91F args) spClone := by
  intro args r h
  unfold spClone at h
  split at h
  case h_2 => cases h
  rename_i a
  rw [Option.map_eq_some_iff] at h
  obtain ⟨ds, hd, rfl⟩ := h
  obtain ⟨nl, rfl, hw, hl⟩ := digOf_inv hd
  have b1 : ds.length * 4 ≤ 140737488355328 := by omega
  refine ⟨_, ⟨0, ?_⟩, rfl, rfl⟩
  simp [freshF, freshO, runF, b1, AV.dn]

theorem clone_at {G : Pure} (hC : G 91 = spClone) {nl : Bool} {ds : List Nat} (h : Wf ds) (hl : ds.length < 100000000) : G 91 [.imm nl 1 (dg ds)] = some { val := .sl 0 0 ds.length, objs := [{ sz := 1, ty := 88, es := dg ds, refs := [] }] } := by
  rw [hC]; simp [spClone, digOf_dg h hl]

theorem dg_take_take (ds : List Nat) (k : Nat) (h : k + 1 ≤ ds.length) : (dg (ds.take (k + 1))).take k = dg (ds.take k) := by rw [dg_take, List.take_take]; congr 2; omega

theorem magnitude_loop (nl : Bool) (H : List (Nat × Ev.Obj)) (F own reb : List Nat) (ds : List Nat) (hw : Wf ds) (h : ds.length < 100000000) : ∀ k m, k ≤ ds.length → k < m →
    ∃ j, j ≤ k ∧ digs (dv (ds.take k)) = ds.take j ∧ blockE (some c80_e0) 0 (iterK G ic n c80_k0 c80_b0Q m ⟨[(3, .imm nl 1 (dg (ds.take k)))], H, F, own, reb⟩) =
      some (.normal, ⟨[(3, .imm nl 1 (dg (ds.take j)))], H, F, own, reb⟩) := by
  intro k
  induction k with
  | zero =>
    intro m hk hm
    obtain ⟨m, rfl⟩ : ∃ i, m = i + 1 := ⟨m - 1, by omega⟩
    refine ⟨0, by omega, by simp [dv, digs_zero], ?_⟩
    simp [iterK_succ, dg_nil]
  | succ k ih =>
    intro m hk hm
    obtain ⟨m, rfl⟩ : ∃ i, m = i + 1 := ⟨m - 1, by omega⟩
    have hlen : (ds.take (k + 1)).length = k + 1 := by rw [List.length_take]; omega
    have g := dg_get (ds.take (k + 1)) k (by omega)
    rw [List.getElem_take] at g
    have w1 : IntKind.i64.wrap (k : Int) = (k : Int) := wrap64_id _ (by omega) (by omega)
    have hp : (0 : Int) < (k : Int) + 1 := by omega
    have w2 : (k : Int) ≤ (k : Int) + 1 := by omega
    by_cases h0 : ds[k] = 0
    · obtain ⟨j, hj, e1, e⟩ := ih m (by omega) (by omega)
      refine ⟨j, by omega, by rw [dv_take_zero (by omega) h0]; exact e1, ?_⟩
      rw [← e]
      have h0' : ((ds[k] : Nat) : Int) = 0 := by omega
      simp only [h0'] at g
      simp [iterK_succ, hlen, g, w1, hp, h0, dg_take_take ds k (by omega), w2, -List.length_take]
    · refine ⟨k + 1, by omega, digs_take hw (by omega) h0, ?_⟩
      have h0' : ¬ ((ds[k] : Nat) : Int) = 0 := by omega
      simp [iterK_succ, hlen, g, w1, hp, h0, -List.length_take]

def spMagnitude : List AV → Option PRes := sp1 zOf fun z => some (dA (digs z.natAbs))

theorem magnitude_run : FSpec (fun args n => pureF G ic n c80F args) spMagnitude := by
  intro args r h
  obtain ⟨a, z, v, rfl, hd, hv, rfl⟩ := sp1_inv h
  cases hv
  obtain ⟨b, nl, ds, rfl, hw, hl, rfl⟩ := zOf_inv hd
  obtain ⟨N, hN⟩ : ∃ N, N = ds.length + 1 := ⟨_, rfl⟩
  obtain ⟨j, hj, e1, e⟩ := magnitude_loop G ic N nl [(1280016, { sz := 2, ty := 31, es := [[.bool b, .imm nl 1 (dg ds)]], refs := [] })] [] [1280016] [] ds hw (by omega) ds.length N (Nat.le_refl _) (by omega)
  rw [List.take_length] at e1 e
  simp [c80_e0, c80_k0] at e
  refine ⟨{ val := .imm nl 1 (dg (ds.take j)) }, ⟨N, ?_⟩, rfl, ?_⟩
  · simp [pureF, runF, e]
  · rw [sg_natAbs, e1, weak_dA]

theorem magnitude_at {G : Pure} (hM : G 80 = spMagnitude) {a : AV} {z : Int} (h : zOf a = some z) : G 80 [a] = some { val := .imm false 1 (dg (digs z.natAbs)) } := sp1_at hM h rfl

theorem canonical_loop (nl : Bool) (v0 v4 : AV) (H : List (Nat × Ev.Obj)) (F own reb : List Nat) (ds : List Nat) (hw : Wf ds) (h : ds.length < 100000000) : ∀ k m, k ≤ ds.length → k < m →
    ∃ j, j ≤ k ∧ digs (dv (ds.take k)) = ds.take j ∧ blockE (some c84_e0) 0 (iterK G ic n c84_k0 c84_b0Q m ⟨[(0, v0), (1, .imm nl 1 (dg (ds.take k))), (4, v4)], H, F, own, reb⟩) =
      some (.normal, ⟨[(0, v0), (1, .imm nl 1 (dg (ds.take j))), (4, v4)], H, F, own, reb⟩) := by
  intro k
  induction k with
  | zero =>
    intro m hk hm
    obtain ⟨m, rfl⟩ : ∃ i, m = i + 1 := ⟨m - 1, by omega⟩
    refine ⟨0, by omega, by simp [dv, digs_zero], ?_⟩
    simp [iterK_succ, dg_nil]
  | succ k ih =>
    intro m hk hm
    obtain ⟨m, rfl⟩ : ∃ i, m = i + 1 := ⟨m - 1, by omega⟩
    have hlen : (ds.take (k + 1)).length = k + 1 := by rw [List.length_take]; omega
    have g := dg_get (ds.take (k + 1)) k (by omega)
    rw [List.getElem_take] at g
    have w1 : IntKind.i64.wrap (k : Int) = (k : Int) := wrap64_id _ (by omega) (by omega)
    have hp : (0 : Int) < (k : Int) + 1 := by omega
    have w2 : (k : Int) ≤ (k : Int) + 1 := by omega
    by_cases h0 : ds[k] = 0
    · obtain ⟨j, hj, e1, e⟩ := ih m (by omega) (by omega)
      refine ⟨j, by omega, by rw [dv_take_zero (by omega) h0]; exact e1, ?_⟩
      rw [← e]
      have h0' : ((ds[k] : Nat) : Int) = 0 := by omega
      simp only [h0'] at g
      simp [iterK_succ, hlen, g, w1, hp, h0, dg_take_take ds k (by omega), w2, -List.length_take]
    · refine ⟨k + 1, by omega, digs_take hw (by omega) h0, ?_⟩
      have h0' : ¬ ((ds[k] : Nat) : Int) = 0 := by omega
      simp [iterK_succ, hlen, g, w1, hp, h0, -List.length_take]

theorem canonical_run : FSpec (fun args n => pureF G ic n c84F args) spMake := by
  intro args r h
  unfold spMake at h
  split at h
  case h_2 => cases h
  rename_i b a
  rw [Option.map_eq_some_iff] at h
  obtain ⟨ds, hd, rfl⟩ := h
  obtain ⟨nl, rfl, hw, hl⟩ := digOf_inv hd
  obtain ⟨N, hN⟩ : ∃ N, N = ds.length + 1 := ⟨_, rfl⟩
  obtain ⟨j, hj, e1, e⟩ := canonical_loop G ic N nl (.bool b) (.ptr 1344064 0 0) [(1344064, { sz := 2, ty := 31, es := [[.bool false, .imm true 1 []]], refs := [] })] [] [1344064] [] ds hw (by omega) ds.length N (Nat.le_refl _) (by omega)
  rw [List.take_length] at e1 e
  simp [c84_e0, c84_k0] at e
  rw [← e1] at e
  by_cases h0 : dv ds = 0
  · refine ⟨{ val := .agg [.bool false, .imm true 1 (dg [])] }, ⟨N, ?_⟩, rfl, by rw [weak_iA, h0, iV_sg_zero]⟩
    rw [h0, digs_zero, dg_nil] at e
    simp [pureF, runF, e, dg_nil]
  · refine ⟨{ val := .agg [.bool b, .imm nl 1 (dg (digs (dv ds)))] }, ⟨N, ?_⟩, rfl, by rw [weak_iA, iV_sg h0]⟩
    have hne : digs (dv ds) ≠ [] := fun e => h0 (digs_eq_nil.1 e)
    have hne2 : ¬ (((digs (dv ds)).length : Int) = 0) := by have := List.length_pos_iff.2 hne; omega
    simp [pureF, runF, e, hne, hne2]

theorem makeP_at {G : Pure} (hM : G 84 = spMake) {b nl : Bool} {ds : List Nat} (h : Wf ds) (hl : ds.length < 100000000) : G 84 [.bool b, .imm nl 1 (dg ds)] = some { val := .agg [.bool (decide (sg b (dv ds) < 0)), .imm false 1 (dg (digs (sg b (dv ds)).natAbs))] } := by
  rw [hM]; exact make_eq h hl

theorem makeP_at' {G : Pure} (hM : G 84 = spMake) {b nl : Bool} {ds : List Nat} {z : Int} (h : Wf ds) (hl : ds.length < 100000000) (hz : sg b (dv ds) = z) : G 84 [.bool b, .imm nl 1 (dg ds)] = some { val := .agg [.bool (decide (z < 0)), .imm false 1 (dg (digs z.natAbs))] } := by
  subst hz; exact makeP_at hM h hl

/-! ### FromInt64, Sign, Negate -/

theorem fromInt64P_run (hM : G 84 = spMake) : FSpec (fun args n => pureF G ic n c69F args) spFromInt64 := by
  intro args r h
  obtain ⟨a, z, v, rfl, hd, hv, rfl⟩ := sp1_inv h
  cases hv
  obtain ⟨rfl, h0, h1⟩ := i64Of_inv hd
  obtain ⟨u, hu⟩ : ∃ u, u = z.natAbs := ⟨_, rfl⟩
  obtain ⟨k1, k2⟩ := two_digits (u := u) (by omega)
  have e : sg (decide (z < 0)) u = z := by by_cases hz : z < 0 <;> simp [sg, hz] <;> omega
  have t := makeP_at' hM (b := decide (z < 0)) (nl := false) (z := z) k1 (by simp) (by rw [k2, e])
  simp only [dg, List.map_cons, List.map_nil] at t
  refine ⟨{ val := iV z }, ⟨0, ?_⟩, rfl, (weak_iV _).symm⟩
  by_cases hz : z < 0
  · have w1 : IntKind.u64.wrap (-(IntKind.u64.wrap z)) = (u : Int) := by rw [wrapu64, wrapu64]; omega
    have w2 : IntKind.u32.wrap (u : Int) = ((u % 4294967296 : Nat) : Int) := w32_nat rfl
    have w3 : (u : Int).fdiv 4294967296 = ((u / 4294967296 : Nat) : Int) := fdiv_nat rfl
    have w4 : IntKind.u32.wrap ((u / 4294967296 : Nat) : Int) = ((u / 4294967296 : Nat) : Int) := wrapu32_id _ (by omega) (by omega)
    have w5 : IntKind.u64.wrap (u : Int) = (u : Int) := wrapu64_id _ (by omega) (by omega)
    simp [hz] at t
    simp only [Int.natCast_emod, Int.natCast_ediv, Int.cast_ofNat_Int] at w2 w3 w4
    simp [pureF, runF, hz, w1, w2, w3, w4, w5, t, iV, iA, dg]
  · have w1 : IntKind.u64.wrap z = (u : Int) := by rw [wrapu64]; omega
    have w2 : IntKind.u32.wrap (u : Int) = ((u % 4294967296 : Nat) : Int) := w32_nat rfl
    have w3 : (u : Int).fdiv 4294967296 = ((u / 4294967296 : Nat) : Int) := fdiv_nat rfl
    have w4 : IntKind.u32.wrap ((u / 4294967296 : Nat) : Int) = ((u / 4294967296 : Nat) : Int) := wrapu32_id _ (by omega) (by omega)
    have w5 : IntKind.u64.wrap (u : Int) = (u : Int) := wrapu64_id _ (by omega) (by omega)
    simp [hz] at t
    simp only [Int.natCast_emod, Int.natCast_ediv, Int.cast_ofNat_Int] at w2 w3 w4
    simp [pureF, runF, hz, w1, w2, w3, w4, w5, t, iV, iA, dg]

theorem signP_run (hM : G 80 = spMagnitude) : FSpec (fun args n => pureF G ic n c63F args) spSign := by
  intro args r h
  obtain ⟨a, x, v, rfl, hx, hv, rfl⟩ := sp1_inv h
  cases hv
  have t := magnitude_at hM hx
  obtain ⟨s1, l1, d1, rfl, w1, k1, ex⟩ := zOf_inv hx
  refine ⟨{ val := .int .i64 (cmpZ x 0) }, ⟨0, ?_⟩, rfl, rfl⟩
  by_cases h0 : x = 0
  · rw [h0, Int.natAbs_zero, digs_zero, dg_nil] at t
    simp [pureF, runF, t, h0, cmpZ]
  · have hne : digs x.natAbs ≠ [] := fun e => by have := digs_eq_nil.1 e; omega
    cases s1 with
    | true =>
      have : cmpZ x 0 = -1 := by unfold cmpZ; rw [if_pos]; simp only [sg] at ex; simp at ex; omega
      simp [pureF, runF, t, hne, this]
    | false =>
      have : cmpZ x 0 = 1 := by
        simp only [sg] at ex; simp at ex
        unfold cmpZ; rw [if_neg (by omega), if_pos (by omega)]
      simp [pureF, runF, t, hne, this]

theorem negateP_run (hMg : G 80 = spMagnitude) (hC : G 91 = spClone) (hM : G 84 = spMake) : FSpec (fun args n => pureF G ic n c79F args) spNegate := by
  intro args r h
  obtain ⟨a, z, v, rfl, hd, hv, rfl⟩ := sp1_inv h
  cases hv
  have lz := zOf_zl hd
  simp only [zl] at lz
  have t1 := magnitude_at hMg hd
  have t2 := clone_at hC (nl := false) (wf_digs z.natAbs) (by omega)
  obtain ⟨s1, l1, d1, rfl, w1, k1, ex⟩ := zOf_inv hd
  have t3 := makeP_at' hM (b := !s1) (nl := false) (z := -z) (wf_digs z.natAbs) (by omega) (by rw [dv_digs, sg_not, ex, sg_natAbs])
  obtain ⟨m, hm⟩ : ∃ m, m = -z := ⟨_, rfl⟩
  rw [← hm] at t3 ⊢
  clear hm
  refine ⟨{ val := iV m }, ⟨0, ?_⟩, rfl, (weak_iV _).symm⟩
  simp [pureF, runF, t1, t2, t3, iV_agg]

/-! ### compare -/

theorem compareP_loop (la lb : Bool) (a b : List Nat) (ha : Wf a) (hb : Wf b) (hl : a.length = b.length) (hbd : a.length < 100000000) : ∀ k m, k ≤ a.length → k < m → a.drop k = b.drop k →
    blockE (some c95_e0) 0 (iterK G ic n c95_k0 c95_b0Q m ⟨[(0, .imm la 1 (dg a)), (1, .imm lb 1 (dg b)), (5, .int .i64 ((k : Int) - 1))], [], [], [], []⟩) =
      if dv a = dv b then some (.normal, ⟨[], [], [], [], []⟩) else some (.ret, ⟨[(4, .int .i64 (cmpI (dv a) (dv b)))], [], [], [], []⟩) := by
  intro k
  induction k with
  | zero =>
    intro m hk hm hd
    obtain ⟨m, rfl⟩ : ∃ i, m = i + 1 := ⟨m - 1, by omega⟩
    have e : dv a = dv b := by simp at hd; rw [hd]
    simp [iterK_succ, e]
  | succ k ih =>
    intro m hk hm hd
    obtain ⟨m, rfl⟩ : ∃ i, m = i + 1 := ⟨m - 1, by omega⟩
    have hka : k < a.length := by omega
    have hkb : k < b.length := by omega
    have ga := dg_get a k hka
    have gb := dg_get b k hkb
    have e1 : ((k + 1 : Nat) : Int) - 1 = k := by omega
    rcases Nat.lt_trichotomy a[k] b[k] with h | h | h
    · have h1 := dv_lt_at ha hb hka hkb hd h
      have h2 : ¬ dv a = dv b := by omega
      have h5 : ¬ ((a[k] : Int) = b[k]) := by omega
      rw [e1]
      simp [iterK_succ, ga, gb, h, h2, cmpI, h1, bne, h5]
    · have e2 : a.drop k = b.drop k := by rw [List.drop_eq_getElem_cons hka, List.drop_eq_getElem_cons hkb, h, hd]
      have := ih m (by omega) (by omega) e2
      rw [← this, e1]
      have hw : IntKind.i64.wrap ((k : Int) - 1) = (k : Int) - 1 := wrap64_id _ (by omega) (by omega)
      simp [iterK_succ, ga, gb, h, hw, bne]
    · have h1 := dv_lt_at hb ha hkb hka hd.symm h
      have h2 : ¬ dv a = dv b := by omega
      have h3 : ¬ dv a < dv b := by omega
      have h4 : ¬ a[k] < b[k] := by omega
      have h5 : ¬ ((a[k] : Int) = b[k]) := by omega
      rw [e1]
      simp [iterK_succ, ga, gb, h2, cmpI, h1, h3, h4, bne, h5]

/-- Digits that are the digits of their number. -/
def cOf (a : AV) : Option Nat := match digOf a with | some ds => if ds = digs (dv ds) then some (dv ds) else none | none => none
theorem cOf_inv {a : AV} {x : Nat} (h : cOf a = some x) : ∃ nl, a = .imm nl 1 (dg (digs x)) ∧ (digs x).length < 100000000 := by
  unfold cOf at h
  split at h
  · rename_i ds hd
    obtain ⟨h1, h2⟩ := of_ite h
    cases h2
    obtain ⟨nl, rfl, hw, hl⟩ := digOf_inv hd
    exact ⟨nl, by rw [← h1], by rw [← h1]; exact hl⟩
  · cases h
theorem cOf_mk {nl : Bool} {x : Nat} (h : (digs x).length < 100000000) : cOf (.imm nl 1 (dg (digs x))) = some x := by
  simp [cOf, digOf_dg (wf_digs x) h, dv_digs]

def spCompareP : List AV → Option PRes := sp2 cOf cOf fun x y => some (.int .i64 (cmpI x y))

theorem compareP_run : FSpec (fun args n => pureF G ic n c95F args) spCompareP := by
  intro args r h
  obtain ⟨a, b, x, y, v, rfl, hx, hy, hv, rfl⟩ := sp2_inv h
  cases hv
  obtain ⟨la, rfl, hla⟩ := cOf_inv hx
  obtain ⟨lb, rfl, hlb⟩ := cOf_inv hy
  obtain ⟨N, hN⟩ : ∃ N, N = (digs x).length + 1 := ⟨_, rfl⟩
  refine ⟨{ val := .int .i64 (cmpI x y) }, ⟨N, ?_⟩, rfl, rfl⟩
  rcases Nat.lt_trichotomy (digs x).length (digs y).length with h | h | h
  · have h1 := lt_of_len h
    have h2 : ¬ ((digs x).length : Int) = (digs y).length := by omega
    simp [pureF, runF, h, h2, cmpI, h1, bne]
  · have e := compareP_loop G ic N la lb (digs x) (digs y) (wf_digs _) (wf_digs _) h (by omega) (digs x).length N (Nat.le_refl _) (by omega) (by rw [List.drop_length, h, List.drop_length])
    simp only [c95_e0, c95_k0, dv_digs] at e
    have hw : IntKind.i64.wrap (((digs y).length : Int) - 1) = ((digs y).length : Int) - 1 := wrap64_id _ (by omega) (by omega)
    rw [h] at e
    by_cases hxy : x = y
    · rw [if_pos hxy] at e
      have hc : cmpI x y = 0 := by simp [cmpI, hxy]
      simp [pureF, runF, h, bne, hw, e, hc]
    · rw [if_neg hxy] at e
      simp [pureF, runF, h, bne, hw, e]
  · have h1 := lt_of_len h
    have h2 : ¬ ((digs x).length : Int) = (digs y).length := by omega
    have h3 : ¬ x < y := by omega
    have h4 : ¬ (digs x).length < (digs y).length := by omega
    simp [pureF, runF, h4, h2, cmpI, h1, h3, bne]

end
end Go.Proofs.Ythlpmghodgiknaa.C

/-
  The program's integers: sums, differences, products.
-/
namespace Go.Proofs.Ythlpmghodgiknaa.C
open Go Go.Ev

section
variable (G : Pure) (ic : Inl) (n : Nat)

theorem add32_at {G : Pure} (hA : G 103 = spAdd32) {x y c q e : Nat} (hx : x < 4294967296) (hy : y < 4294967296) (hc : c < 4294967296) (hq : q = (x + y + c) % 4294967296) (he : e = (x + y + c) / 4294967296) :
    G 103 [.int .u32 x, .int .u32 y, .int .u32 c] = some { val := .tup [.int .u32 q, .int .u32 e] } := by
  subst hq; subst he
  exact sp3_at hA (u32Of_mk hx) (u32Of_mk hy) (u32Of_mk hc) rfl

theorem sub32_at {G : Pure} (hA : G 104 = spSub32) {x y c q e : Nat} (hx : x < 4294967296) (hy : y < 4294967296) (hc : c ≤ 1) (hq : q = (x + 4294967296 - y - c) % 4294967296) (he : e = if x < y + c then 1 else 0) :
    G 104 [.int .u32 x, .int .u32 y, .int .u32 c] = some { val := .tup [.int .u32 q, .int .u32 e] } := by
  subst hq; subst he
  exact sp3_at hA (u32Of_mk hx) (u32Of_mk hy) (u32Of_mk (by omega)) (by rw [if_pos hc])

/-! ### plus -/

theorem plus_loop (hA : G 103 = spAdd32) (la lb : Bool) (a b : List Nat) (ha : Wf a) (hb : Wf b) (hla : a.length < 99999000) (L : Nat) (hL : L = a.length + 1) : ∀ d i s c, i + d = a.length → s.length = L → Wf s → c ≤ 1 → 
    dv (s.take i) + W32 ^ i * c = dv (a.take i) + dv (b.take i) →
    ∃ s' c', s'.length = L ∧ Wf s' ∧ c' ≤ 1 ∧ dv (s'.take a.length) + W32 ^ a.length * c' = dv a + dv (b.take a.length) ∧ ∀ m, d < m →
      blockE (some c94_e0) 0 (iterK G ic n c94_k0 c94_b0Q m ⟨[(0, .imm la 1 (dg a)), (1, .imm lb 1 (dg b)), (5, .sl 1504320 0 L), (6, .int .u32 c), (21, .imm la 1 (dg a)), (22, .int .i64 a.length), (23, .int .i64 i)],
        [(1504320, { sz := 1, ty := 88, es := dg s, refs := [] })], [], [1504320], []⟩) =
        some (.normal, ⟨[(0, .imm la 1 (dg a)), (5, .sl 1504320 0 L), (6, .int .u32 c')], [(1504320, { sz := 1, ty := 88, es := dg s', refs := [] })], [], [1504320], []⟩) := by
  intro d
  induction d with
  | zero =>
    intro i s c hi hs hw hc hv
    have e : i = a.length := by omega
    subst e
    rw [List.take_length] at hv
    refine ⟨s, c, hs, hw, hc, hv, fun m hm => ?_⟩
    obtain ⟨m, rfl⟩ : ∃ i, m = i + 1 := ⟨m - 1, by omega⟩
    simp [iterK_succ]
  | succ d ih =>
    intro i s c hi hs hw hc hv
    have hia : i < a.length := by omega
    have his : i < s.length := by omega
    have hA1 := wf_get ha hia
    have hB1 := dgt_lt hb i
    simp only [W32] at hA1 hB1
    obtain ⟨x, hx⟩ : ∃ x, x = a[i] := ⟨_, rfl⟩
    obtain ⟨y, hy⟩ : ∃ y, y = dgt b i := ⟨_, rfl⟩
    rw [← hx] at hA1
    rw [← hy] at hB1
    obtain ⟨q, hq⟩ : ∃ q, q = (x + y + c) % 4294967296 := ⟨_, rfl⟩
    obtain ⟨e, he⟩ : ∃ e, e = (x + y + c) / 4294967296 := ⟨_, rfl⟩
    have t := add32_at hA hA1 hB1 (by omega) hq he
    have hqe : q + W32 * e = c + x + y := by simp only [W32]; omega
    obtain ⟨s', c', r1, r2, r3, r4, r5⟩ := ih (i + 1) (s.set i q) e (by omega) (by simpa using hs) (wf_set hw (by simp only [W32]; omega)) (by omega) (by
      rw [dv_take_set his, dv_take_succ hia, dv_take_dgt b, Nat.pow_succ, Nat.mul_assoc, ← hx, ← hy]
      have e2 : W32 ^ i * q + W32 ^ i * (W32 * e) = W32 ^ i * (c + x + y) := by rw [← Nat.mul_add, hqe]
      rw [Nat.mul_add, Nat.mul_add] at e2
      omega)
    refine ⟨s', c', r1, r2, r3, r4, fun m hm => ?_⟩
    obtain ⟨m, rfl⟩ : ∃ i, m = i + 1 := ⟨m - 1, by omega⟩
    rw [← r5 m (by omega)]
    have ga := dg_get a i hia
    rw [← hx] at ga
    have hiL : i < L := by omega
    have w5 : IntKind.i64.wrap ((i : Int) + 1) = (i : Int) + 1 := wrap64_id _ (by omega) (by omega)
    by_cases hib : i < b.length
    · have gb := dg_get b i hib
      have hyb : y = b[i] := by rw [hy, dgt_get hib]
      rw [← hyb] at gb
      simp [iterK_succ, hia, hib, ga, gb, t, hiL, hs, w5, dg_set, ← hx, ← hyb]
    · rw [dgt_end (by omega)] at hy
      subst hy
      simp only [Int.natCast_zero] at t
      simp [iterK_succ, hia, hib, ga, t, hiL, hs, w5, dg_set, ← hx]

def spPlus : List AV → Option PRes := sp2 cOf cOf fun x y => if (digs x).length < 30000000 ∧ (digs y).length < 30000000 then some (dA (dpad (max (digs x).length (digs y).length + 1) (x + y))) else none

theorem plus_run (hA : G 103 = spAdd32) : FSpec (fun args n => pureF G ic n c94F args) spPlus := by
  intro args r h
  obtain ⟨a, b, x, y, v, rfl, hx, hy, hv, rfl⟩ := sp2_inv h
  obtain ⟨⟨lx, ly⟩, hv⟩ := of_ite hv
  cases hv
  obtain ⟨la, rfl, -⟩ := cOf_inv hx
  obtain ⟨lb, rfl, -⟩ := cOf_inv hy
  have main : ∀ (la lb : Bool) (x y : Nat), (digs x).length < 30000000 → (digs y).length < 30000000 → (digs y).length ≤ (digs x).length → ∃ (s' : List Nat) (c' : Nat), s'.length = (digs x).length + 1 ∧ (s'.set (digs x).length c') = dpad ((digs x).length + 1) (x + y) ∧
      ∀ N, N = (digs x).length + 1 → blockE (some c94_e0) 0 (iterK G ic N c94_k0 c94_b0Q N ⟨[(0, .imm la 1 (dg (digs x))), (1, .imm lb 1 (dg (digs y))), (5, .sl 1504320 0 ((digs x).length + 1)), (6, .int .u32 0), (21, .imm la 1 (dg (digs x))), (22, .int .i64 (digs x).length), (23, .int .i64 0)],
        [(1504320, { sz := 1, ty := 88, es := dg (List.replicate ((digs x).length + 1) 0), refs := [] })], [], [1504320], []⟩) =
        some (.normal, ⟨[(0, .imm la 1 (dg (digs x))), (5, .sl 1504320 0 ((digs x).length + 1)), (6, .int .u32 c')], [(1504320, { sz := 1, ty := 88, es := dg s', refs := [] })], [], [1504320], []⟩) := by
    intro la lb x y lx ly hxy
    have l := fun N => plus_loop G ic N hA la lb (digs x) (digs y) (wf_digs x) (wf_digs y) (by omega) ((digs x).length + 1) rfl (digs x).length 0 (List.replicate ((digs x).length + 1) 0) 0 (by omega) (by simp) (wf_replicate _) (by omega) (by simp [dv])
    obtain ⟨s', c', r1, r2, r3, r4, r5⟩ := l ((digs x).length + 1)
    have r4' : dv (s'.take (digs x).length) + W32 ^ (digs x).length * c' = x + y := by
      rw [dv_digs, List.take_of_length_le hxy, dv_digs] at r4; exact r4
    refine ⟨s', c', r1, ?_, fun N hN => ?_⟩
    · refine dpad_of (wf_set r2 (by simp only [W32]; omega)) (by simpa using r1) ?_
      have := dv_take_set (ds := s') (i := (digs x).length) (x := c') (by omega)
      rw [List.take_of_length_le (by simp; omega)] at this
      rw [this]; exact r4'
    · subst hN
      exact r5 _ (by omega)
  by_cases hlt : (digs x).length < (digs y).length
  · obtain ⟨s', c', r1, r2, r3⟩ := main lb la y x ly lx (by omega)
    obtain ⟨N, hN⟩ : ∃ N, N = (digs y).length + 1 := ⟨_, rfl⟩
    have e := r3 N hN
    simp [c94_e0, c94_k0] at e
    rw [Nat.max_eq_right (by omega), Nat.add_comm x y]
    obtain ⟨L, hL⟩ : ∃ L, L = (digs y).length := ⟨_, rfl⟩
    have w1 : IntKind.i64.wrap (((digs y).length : Int) + 1) = ((digs y).length : Int) + 1 := wrap64_id _ (by omega) (by omega)
    have w3 : (((digs y).length : Int) + 1) * 4 ≤ 140737488355328 := by omega
    have w4 : 0 ≤ ((digs y).length : Int) + 1 := by omega
    have w6 : (((digs y).length : Int) + 1).toNat = (digs y).length + 1 := by omega
    have w7 : (digs y).length < s'.length := by omega
    have w8 : ((digs y).length : Int) < (digs y).length + 1 := by omega
    have hk2 : (digs y).length + 1 ≤ s'.length := by omega
    have hk3 : (dg (dpad ((digs y).length + 1) (y + x))).take ((digs y).length + 1) = dg (dpad ((digs y).length + 1) (y + x)) := by
      have := take_dg (dpad ((digs y).length + 1) (y + x)); rwa [dpad_length] at this
    refine ⟨{ val := dA (dpad ((digs y).length + 1) (y + x)) }, ⟨N, ?_⟩, rfl, (weak_dA _ _).symm⟩
    simp [pureF, runF, hlt, w1, w3, w4, w6, w7, w8, dg_replicate, e, dg_set, r2, hk2, hk3, dA, dpad_length]
  · obtain ⟨s', c', r1, r2, r3⟩ := main la lb x y lx ly (by omega)
    obtain ⟨N, hN⟩ : ∃ N, N = (digs x).length + 1 := ⟨_, rfl⟩
    have e := r3 N hN
    simp [c94_e0, c94_k0] at e
    rw [Nat.max_eq_left (by omega)]
    have w1 : IntKind.i64.wrap (((digs x).length : Int) + 1) = ((digs x).length : Int) + 1 := wrap64_id _ (by omega) (by omega)
    have w3 : (((digs x).length : Int) + 1) * 4 ≤ 140737488355328 := by omega
    have w4 : 0 ≤ ((digs x).length : Int) + 1 := by omega
    have w6 : (((digs x).length : Int) + 1).toNat = (digs x).length + 1 := by omega
    have w7 : (digs x).length < s'.length := by omega
    have w8 : ((digs x).length : Int) < (digs x).length + 1 := by omega
    have hk2 : (digs x).length + 1 ≤ s'.length := by omega
    have hk3 : (dg (dpad ((digs x).length + 1) (x + y))).take ((digs x).length + 1) = dg (dpad ((digs x).length + 1) (x + y)) := by
      have := take_dg (dpad ((digs x).length + 1) (x + y)); rwa [dpad_length] at this
    refine ⟨{ val := dA (dpad ((digs x).length + 1) (x + y)) }, ⟨N, ?_⟩, rfl, (weak_dA _ _).symm⟩
    simp [pureF, runF, hlt, w1, w3, w4, w6, w7, w8, dg_replicate, e, dg_set, r2, hk2, hk3, dA, dpad_length]

/-! ### minus -/

theorem minus_loop (hA : G 104 = spSub32) (la lb : Bool) (a b : List Nat) (ha : Wf a) (hb : Wf b) (hla : a.length < 100000000) : ∀ d i s c, i + d = a.length → s.length = a.length → Wf s → c ≤ 1 →
    dv (s.take i) + dv (b.take i) = dv (a.take i) + W32 ^ i * c →
    ∃ (s' : List Nat) (c' : Nat), s'.length = a.length ∧ Wf s' ∧ dv s' + dv (b.take a.length) = dv a + W32 ^ a.length * c' ∧ ∀ m, d < m →
      blockE (some c96_e0) 0 (iterK G ic n c96_k0 c96_b0Q m ⟨[(1, .imm lb 1 (dg b)), (5, .sl 1536192 0 a.length), (6, .int .u32 c), (13, .imm la 1 (dg a)), (14, .int .i64 a.length), (15, .int .i64 i)],
        [(1536192, { sz := 1, ty := 88, es := dg s, refs := [] })], [], [1536192], []⟩) =
        some (.normal, ⟨[(5, .sl 1536192 0 a.length)], [(1536192, { sz := 1, ty := 88, es := dg s', refs := [] })], [], [1536192], []⟩) := by
  intro d
  induction d with
  | zero =>
    intro i s c hi hs hw hc hv
    have e : i = a.length := by omega
    subst e
    rw [List.take_length, List.take_of_length_le (by omega)] at hv
    refine ⟨s, c, hs, hw, hv, fun m hm => ?_⟩
    obtain ⟨m, rfl⟩ : ∃ i, m = i + 1 := ⟨m - 1, by omega⟩
    simp [iterK_succ]
  | succ d ih =>
    intro i s c hi hs hw hc hv
    have hia : i < a.length := by omega
    have his : i < s.length := by omega
    have hA1 := wf_get ha hia
    have hB1 := dgt_lt hb i
    simp only [W32] at hA1 hB1
    obtain ⟨x, hx⟩ : ∃ x, x = a[i] := ⟨_, rfl⟩
    obtain ⟨y, hy⟩ : ∃ y, y = dgt b i := ⟨_, rfl⟩
    rw [← hx] at hA1
    rw [← hy] at hB1
    obtain ⟨q, hq⟩ : ∃ q, q = (x + 4294967296 - y - c) % 4294967296 := ⟨_, rfl⟩
    obtain ⟨e, he⟩ : ∃ e, e = if x < y + c then 1 else 0 := ⟨_, rfl⟩
    have t := sub32_at hA hA1 hB1 hc hq he
    have he1 : e ≤ 1 := by rw [he]; split <;> omega
    have hqe : q + y + c = x + W32 * e := by simp only [W32]; rw [he]; split <;> omega
    obtain ⟨s', c', r1, r2, r4, r5⟩ := ih (i + 1) (s.set i q) e (by omega) (by simpa using hs) (wf_set hw (by simp only [W32]; omega)) he1 (by
      rw [dv_take_set his, dv_take_succ hia, dv_take_dgt b, Nat.pow_succ, Nat.mul_assoc, ← hx, ← hy]
      exact sub_step hv hqe)
    refine ⟨s', c', r1, r2, r4, fun m hm => ?_⟩
    obtain ⟨m, rfl⟩ : ∃ i, m = i + 1 := ⟨m - 1, by omega⟩
    rw [← r5 m (by omega)]
    have ga := dg_get a i hia
    rw [← hx] at ga
    have w5 : IntKind.i64.wrap ((i : Int) + 1) = (i : Int) + 1 := wrap64_id _ (by omega) (by omega)
    by_cases hib : i < b.length
    · have gb := dg_get b i hib
      have hyb : y = b[i] := by rw [hy, dgt_get hib]
      rw [← hyb] at gb
      simp [iterK_succ, hia, hib, ga, gb, t, hs, w5, dg_set, ← hx, ← hyb]
    · rw [dgt_end (by omega)] at hy
      subst hy
      simp only [Int.natCast_zero] at t
      simp [iterK_succ, hia, hib, ga, t, hs, w5, dg_set, ← hx]

def spMinus : List AV → Option PRes := sp2 cOf cOf fun x y => if y ≤ x then some (dA (dpad (digs x).length (x - y))) else none

theorem minus_run (hA : G 104 = spSub32) : FSpec (fun args n => pureF G ic n c96F args) spMinus := by
  intro args r h
  obtain ⟨a, b, x, y, v, rfl, hx, hy, hv, rfl⟩ := sp2_inv h
  obtain ⟨hyx, hv⟩ := of_ite hv
  cases hv
  obtain ⟨la, rfl, lx⟩ := cOf_inv hx
  obtain ⟨lb, rfl, ly⟩ := cOf_inv hy
  obtain ⟨N, hN⟩ : ∃ N, N = (digs x).length + 1 := ⟨_, rfl⟩
  obtain ⟨s', c', r1, r2, r4, r5⟩ := minus_loop G ic N hA la lb (digs x) (digs y) (wf_digs x) (wf_digs y) lx (digs x).length 0 (List.replicate (digs x).length 0) 0 (by omega) (by simp) (wf_replicate _) (by omega) (by simp [dv])
  have e := r5 N (by omega)
  simp [c96_e0, c96_k0] at e
  have hs : s' = dpad (digs x).length (x - y) := by
    rw [List.take_of_length_le (digs_len_mono hyx), dv_digs, dv_digs] at r4
    have hb := dv_lt r2
    rw [r1] at hb
    have hc := borrow_zero hb hyx r4
    rw [hc, Nat.mul_zero, Nat.add_zero] at r4
    exact dpad_of r2 r1 (by omega)
  have w3 : ((digs x).length : Int) * 4 ≤ 140737488355328 := by omega
  have hk2 : (digs x).length ≤ s'.length := by omega
  have hk3 : (dg s').take (digs x).length = dg s' := by rw [← r1, take_dg]
  refine ⟨{ val := dA s' }, ⟨N, ?_⟩, rfl, by rw [← hs]; exact (weak_dA _ _).symm⟩
  simp [pureF, runF, w3, dg_replicate, e, hk2, hk3, dA]


/-! ### sum, Add, Sub -/

def spSum : List AV → Option PRes := sp3 zOf zOf boolOf fun x y b => some (iV (x + sg b y.natAbs))

theorem plus_at {G : Pure} (hP : G 94 = spPlus) {la lb : Bool} {x y : Nat} (lx : (digs x).length < 30000000) (ly : (digs y).length < 30000000) :
    G 94 [.imm la 1 (dg (digs x)), .imm lb 1 (dg (digs y))] = some { val := .imm false 1 (dg (dpad (max (digs x).length (digs y).length + 1) (x + y))) } :=
  sp2_at hP (cOf_mk (by omega)) (cOf_mk (by omega)) (by rw [if_pos ⟨lx, ly⟩]; rfl)
theorem minus_at {G : Pure} (hP : G 96 = spMinus) {la lb : Bool} {x y : Nat} (lx : (digs x).length < 30000000) (ly : (digs y).length < 30000000) (h : y ≤ x) :
    G 96 [.imm la 1 (dg (digs x)), .imm lb 1 (dg (digs y))] = some { val := .imm false 1 (dg (dpad (digs x).length (x - y))) } :=
  sp2_at hP (cOf_mk (by omega)) (cOf_mk (by omega)) (by rw [if_pos h]; rfl)
theorem cmpP_at {G : Pure} (hP : G 95 = spCompareP) {la lb : Bool} {x y : Nat} (lx : (digs x).length < 100000000) (ly : (digs y).length < 100000000) :
    G 95 [.imm la 1 (dg (digs x)), .imm lb 1 (dg (digs y))] = some { val := .int .i64 (cmpI x y) } :=
  sp2_at hP (cOf_mk lx) (cOf_mk ly) rfl

theorem lt_pow_len (x : Nat) : x < W32 ^ (digs x).length := by have := dv_lt (wf_digs x); rwa [dv_digs] at this

theorem sumP_run (hMg : G 80 = spMagnitude) (hP : G 94 = spPlus) (hMi : G 96 = spMinus) (hC : G 95 = spCompareP) (hM : G 84 = spMake) :
    FSpec (fun args n => pureF G ic n c86F args) spSum := by
  intro args r h
  obtain ⟨a, b, c, x, y, s3, v, rfl, hx, hy, hz, hv, rfl⟩ := sp3_inv h
  cases hv
  obtain rfl := boolOf_inv hz
  have lx := zOf_zl hx
  have ly := zOf_zl hy
  simp only [zl] at lx ly
  have t1 := magnitude_at hMg hx
  have t2 := magnitude_at hMg hy
  obtain ⟨s1, l1, d1, rfl, w1, k1, ex⟩ := zOf_inv hx
  obtain ⟨s2, l2, d2, rfl, w2, k2, ey⟩ := zOf_inv hy
  obtain ⟨X, hX⟩ : ∃ X, X = x.natAbs := ⟨_, rfl⟩
  obtain ⟨Y, hY⟩ : ∃ Y, Y = y.natAbs := ⟨_, rfl⟩
  have exX : x = sg s1 X := by rw [hX, ex, sg_natAbs]
  rw [← hX] at t1 lx
  rw [← hY] at t2 ly ⊢
  obtain ⟨z, hz⟩ : ∃ z, z = x + sg s3 Y := ⟨_, rfl⟩
  rw [← hz]
  refine ⟨{ val := iV z }, ⟨0, ?_⟩, rfl, (weak_iV _).symm⟩
  by_cases hs : s1 = s3
  · subst hs
    have t3 := plus_at hP (la := false) (lb := false) lx ly
    have hlt : X + Y < W32 ^ (max (digs X).length (digs Y).length + 1) := by
      have h1 := lt_pow_len X
      have h2 := lt_pow_len Y
      have h3 : W32 ^ (digs X).length ≤ W32 ^ max (digs X).length (digs Y).length := Nat.pow_le_pow_right (by decide) (by omega)
      have h4 : W32 ^ (digs Y).length ≤ W32 ^ max (digs X).length (digs Y).length := Nat.pow_le_pow_right (by decide) (by omega)
      have h5 : W32 ^ max (digs X).length (digs Y).length * 2 ≤ W32 ^ max (digs X).length (digs Y).length * W32 := Nat.mul_le_mul_left _ (by decide)
      rw [Nat.pow_succ]
      omega
    have t4 := makeP_at' hM (b := s1) (nl := false) (z := z) (wf_dpad (max (digs X).length (digs Y).length + 1) (X + Y)) (by rw [dpad_length]; omega) (by rw [dv_dpad hlt, sg_add_same, hz, exX])
    clear hz ex ey exX hX hY
    simp [pureF, runF, t1, t2, t3, t4, iV_agg]
  · have t0 := cmpP_at hC (la := false) (lb := false) (x := X) (y := Y) (by omega) (by omega)
    by_cases hle : Y ≤ X
    · have hc : 0 ≤ cmpI X Y := cmp_ge.2 hle
      have t3 := minus_at hMi (la := false) (lb := false) lx ly hle
      have t4 := makeP_at' hM (b := s1) (nl := false) (z := z) (wf_dpad (digs X).length (X - Y)) (by rw [dpad_length]; omega) (by rw [dv_dpad (by have := lt_pow_len X; omega), sg_sub_same hle hs, hz, exX])
      clear hz ex ey exX hX hY
      simp [pureF, runF, t1, t2, hs, t0, hc, t3, t4, iV_agg]
    · have hc : ¬ 0 ≤ cmpI X Y := fun h => hle (cmp_ge.1 h)
      have t3 := minus_at hMi (la := false) (lb := false) ly lx (by omega)
      have t4 := makeP_at' hM (b := s3) (nl := false) (z := z) (wf_dpad (digs Y).length (Y - X)) (by rw [dpad_length]; omega) (by rw [dv_dpad (by have := lt_pow_len Y; omega), sg_sub_same (by omega) (Ne.symm hs), hz, exX, Int.add_comm])
      clear hz ex ey exX hX hY
      simp [pureF, runF, t1, t2, hs, t0, hc, t3, t4, iV_agg]

theorem addP_run (hS : G 86 = spSum) : FSpec (fun args n => pureF G ic n c67F args) spAdd := by
  intro args r h
  obtain ⟨a, b, x, y, v, rfl, hx, hy, hv, rfl⟩ := sp2_inv h
  cases hv
  obtain ⟨s1, l1, d1, rfl, w1, k1, -⟩ := zOf_inv hx
  obtain ⟨s2, l2, d2, rfl, w2, k2, ey⟩ := zOf_inv hy
  have t := sp3_at hS hx hy (show boolOf (.bool s2) = some s2 from rfl) rfl
  rw [show sg s2 y.natAbs = y by rw [ey, sg_natAbs]] at t
  obtain ⟨z, hz⟩ : ∃ z, z = x + y := ⟨_, rfl⟩
  rw [← hz] at t ⊢
  clear hz
  refine ⟨{ val := iV z }, ⟨0, ?_⟩, rfl, (weak_iV _).symm⟩
  simp only [iV_agg] at t
  simp [pureF, runF, t, iV_agg]

theorem subP_run (hS : G 86 = spSum) : FSpec (fun args n => pureF G ic n c93F args) spSub := by
  intro args r h
  obtain ⟨a, b, x, y, v, rfl, hx, hy, hv, rfl⟩ := sp2_inv h
  cases hv
  obtain ⟨s1, l1, d1, rfl, w1, k1, -⟩ := zOf_inv hx
  obtain ⟨s2, l2, d2, rfl, w2, k2, ey⟩ := zOf_inv hy
  have t := sp3_at hS hx hy (show boolOf (.bool !s2) = some (!s2) from rfl) rfl
  rw [show sg (!s2) y.natAbs = -y by rw [sg_not, ey, sg_natAbs], ← Int.sub_eq_add_neg] at t
  obtain ⟨z, hz⟩ : ∃ z, z = x - y := ⟨_, rfl⟩
  rw [← hz] at t ⊢
  clear hz
  refine ⟨{ val := iV z }, ⟨0, ?_⟩, rfl, (weak_iV _).symm⟩
  simp only [iV_agg] at t
  simp [pureF, runF, t, iV_agg]

/-! ### times, Mul -/

theorem times_inner (la lb : Bool) (a b : List Nat) (i : Nat) (ha : Wf a) (hb : Wf b) (hab : a.length + b.length < 100000000) (hi : i < a.length) (x : Nat) (hx : x = a[i]) (s0 : List Nat) : ∀ d k s c, k + d = b.length → s.length = a.length + b.length → Wf s → c < W32 →
    dv s + W32 ^ (i + k) * c = dv s0 + W32 ^ i * (x * dv (b.take k)) → (∀ j, i + b.length ≤ j → dgt s j = dgt s0 j) →
    ∃ (s' : List Nat) (c' : Nat), s'.length = a.length + b.length ∧ Wf s' ∧ c' < W32 ∧ dv s' + W32 ^ (i + b.length) * c' = dv s0 + W32 ^ i * (x * dv b) ∧ (∀ j, i + b.length ≤ j → dgt s' j = dgt s0 j) ∧ ∀ m, d < m →
      blockE (some c85_e0) 2 (iterK G ic n c85_k0 c85_b0Q m ⟨[(1, .imm lb 1 (dg b)), (5, .sl 1360256 0 (a.length + b.length)), (6, .int .i64 i), (7, .int .u32 x), (8, .int .u64 c), (17, .imm la 1 (dg a)), (18, .int .i64 a.length), (19, .int .i64 i), (24, .imm lb 1 (dg b)), (25, .int .i64 b.length), (26, .int .i64 k)],
        [(1360256, { sz := 1, ty := 88, es := dg s, refs := [] })], [], [1360256], []⟩) =
        some (.normal, ⟨[(1, .imm lb 1 (dg b)), (5, .sl 1360256 0 (a.length + b.length)), (6, .int .i64 i), (8, .int .u64 c'), (17, .imm la 1 (dg a)), (18, .int .i64 a.length), (19, .int .i64 i)],
          [(1360256, { sz := 1, ty := 88, es := dg s', refs := [] })], [], [1360256], []⟩) := by
  intro d
  induction d with
  | zero =>
    intro k s c hk hs hw hc hv hz
    have e : k = b.length := by omega
    subst e
    rw [List.take_length] at hv
    refine ⟨s, c, hs, hw, hc, hv, hz, fun m hm => ?_⟩
    obtain ⟨m, rfl⟩ : ∃ i, m = i + 1 := ⟨m - 1, by omega⟩
    simp [iterK_succ]
  | succ d ih =>
    intro k s c hk hs hw hc hv hz
    have hkb : k < b.length := by omega
    have hik : i + k < s.length := by omega
    have hA := wf_get ha hi
    have hB := wf_get hb hkb
    have hS := wf_get hw hik
    obtain ⟨hb1, hb2⟩ := mul_bound hc hS hA hB
    simp only [W32] at hA hB hS hc hb1 hb2
    obtain ⟨B, hBe⟩ : ∃ B, B = b[k] := ⟨_, rfl⟩
    obtain ⟨S, hSe⟩ : ∃ S, S = s[i + k] := ⟨_, rfl⟩
    rw [← hx] at hA hb1 hb2
    rw [← hBe] at hB hb1 hb2
    rw [← hSe] at hS hb1
    obtain ⟨M, hM⟩ : ∃ M, M = x * B := ⟨_, rfl⟩
    rw [← hM] at hb1 hb2
    obtain ⟨t, ht⟩ : ∃ t, t = c + (M + S) := ⟨_, rfl⟩
    obtain ⟨q, hq⟩ : ∃ q, q = t % 4294967296 := ⟨_, rfl⟩
    obtain ⟨e, he⟩ : ∃ e, e = t / 4294967296 := ⟨_, rfl⟩
    have hqe : q + W32 * e = c + S + x * B := by rw [← hM]; simp only [W32]; omega
    have hset := dv_set (ds := s) (j := i + k) (q := q) hik
    rw [← hSe] at hset
    obtain ⟨s', c', r1, r2, r3, r4, r5, r6⟩ := ih (k + 1) (s.set (i + k) q) e (by omega) (by simpa using hs) (wf_set hw (by simp only [W32]; omega)) (by simp only [W32]; omega) (by
      have := mul_step hv hset hqe
      rw [← Nat.add_assoc, Nat.pow_succ, Nat.mul_assoc, this, dv_take_succ hkb, ← hBe, Nat.pow_add, Nat.mul_assoc]
      congr 1
      rw [Nat.mul_add x, Nat.mul_add (W32 ^ i)]
      congr 2
      rw [Nat.mul_left_comm]) (fun j hj => by rw [dgt_set_ne (by omega)]; exact hz j hj)
    refine ⟨s', c', r1, r2, r3, r4, r5, fun m hm => ?_⟩
    obtain ⟨m, rfl⟩ : ∃ i, m = i + 1 := ⟨m - 1, by omega⟩
    rw [← r6 m (by omega)]
    have gb := dg_get b k hkb
    have gs := dg_get s (i + k) hik
    rw [← hBe] at gb
    rw [← hSe] at gs
    have hikl : i + k < a.length + b.length := by omega
    have w0 : IntKind.i64.wrap ((i : Int) + k) = (i : Int) + k := wrap64_id _ (by omega) (by omega)
    have w0' : ((i : Int) + k).toNat = i + k := by omega
    have w1 : IntKind.u64.wrap (S : Int) = (S : Int) := wrapu64_id _ (by omega) (by omega)
    have w2 : IntKind.u64.wrap (x : Int) = (x : Int) := wrapu64_id _ (by omega) (by omega)
    have w3 : IntKind.u64.wrap (B : Int) = (B : Int) := wrapu64_id _ (by omega) (by omega)
    have w5 : IntKind.u64.wrap ((x : Int) * B) = (M : Int) := w64_nat (by rw [hM]; simp) (by omega)
    have w4 : IntKind.u64.wrap ((M : Int) + S) = (M : Int) + S := wrapu64_id _ (by omega) (by omega)
    have w6 : IntKind.u64.wrap ((c : Int) + ((M : Int) + S)) = (t : Int) := w64_nat (by omega) (by omega)
    have w7 : IntKind.i64.wrap ((k : Int) + 1) = (k : Int) + 1 := wrap64_id _ (by omega) (by omega)
    have hp : 0 ≤ (i : Int) + k := by omega
    have hp2 : (i : Int) + k < (a.length : Int) + b.length := by omega
    simp [iterK_succ, hkb, w0, w0', w1, w2, w3, w4, w5, w6, w7, w32_nat hq, fdiv_nat he, dg_set, gb, gs, hp, hp2, ← hBe, ← hSe, hs, hikl]

theorem times_outer (la lb : Bool) (a b : List Nat) (ha : Wf a) (hb : Wf b) (hab : a.length + b.length < 100000000) (hn : b.length < n) : ∀ d i s, i + d = a.length → s.length = a.length + b.length → Wf s → dv s = dv (a.take i) * dv b → (∀ j, i + b.length ≤ j → dgt s j = 0) →
    ∃ s' : List Nat, s'.length = a.length + b.length ∧ Wf s' ∧ dv s' = dv a * dv b ∧ ∀ m, d < m →
      blockE (some c85_e1) 0 (iterK G ic n c85_k1 c85_b1Q m ⟨[(1, .imm lb 1 (dg b)), (5, .sl 1360256 0 (a.length + b.length)), (17, .imm la 1 (dg a)), (18, .int .i64 a.length), (19, .int .i64 i)],
        [(1360256, { sz := 1, ty := 88, es := dg s, refs := [] })], [], [1360256], []⟩) =
        some (.normal, ⟨[(5, .sl 1360256 0 (a.length + b.length))], [(1360256, { sz := 1, ty := 88, es := dg s', refs := [] })], [], [1360256], []⟩) := by
  intro d
  induction d with
  | zero =>
    intro i s hi hs hw hv hz
    have e : i = a.length := by omega
    subst e
    rw [List.take_length] at hv
    refine ⟨s, hs, hw, hv, fun m hm => ?_⟩
    obtain ⟨m, rfl⟩ : ∃ i, m = i + 1 := ⟨m - 1, by omega⟩
    simp [iterK_succ]
  | succ d ih =>
    intro i s hi hs hw hv hz
    have hia : i < a.length := by omega
    obtain ⟨x, hx⟩ : ∃ x, x = a[i] := ⟨_, rfl⟩
    obtain ⟨s1, c, p1, p2, p3, p4, p5, p6⟩ := times_inner G ic n la lb a b i ha hb hab hia x hx s b.length 0 s 0 (by omega) hs hw (by decide) (by simp [dv]) (fun _ _ => rfl)
    have hil : i + b.length < s1.length := by omega
    have hzero : s1[i + b.length] = 0 := by
      have h1 := p5 (i + b.length) (Nat.le_refl _)
      rw [hz _ (Nat.le_refl _), dgt_get hil] at h1
      exact h1
    have hset := dv_set (ds := s1) (j := i + b.length) (q := c) hil
    rw [hzero, Nat.mul_zero, Nat.add_zero] at hset
    obtain ⟨s', r1, r2, r3, r4⟩ := ih (i + 1) (s1.set (i + b.length) c) (by omega) (by simpa using p1) (wf_set p2 p3) (by
      rw [hset, p4, hv, dv_take_succ hia, Nat.add_mul, Nat.mul_assoc, ← hx]) (fun j hj => by rw [dgt_set_ne (by omega), p5 j (by omega)]; exact hz j (by omega))
    refine ⟨s', r1, r2, r3, fun m hm => ?_⟩
    obtain ⟨m, rfl⟩ : ∃ i, m = i + 1 := ⟨m - 1, by omega⟩
    rw [← r4 m (by omega)]
    have e := p6 n hn
    simp [c85_e0, c85_k0] at e
    have ga := dg_get a i hia
    rw [← hx] at ga
    have gs := dg_get s1 (i + b.length) hil
    have hib : i + b.length < a.length + b.length := by omega
    have hp : 0 ≤ (i : Int) + b.length := by omega
    have hp2 : (i : Int) + b.length < (a.length : Int) + b.length := by omega
    have w0 : IntKind.i64.wrap ((i : Int) + b.length) = (i : Int) + b.length := wrap64_id _ (by omega) (by omega)
    have w0' : ((i : Int) + b.length).toNat = i + b.length := by omega
    have w1 : IntKind.u32.wrap (c : Int) = (c : Int) := wrapu32_id _ (by omega) (by simp only [W32] at p3; omega)
    have w7 : IntKind.i64.wrap ((i : Int) + 1) = (i : Int) + 1 := wrap64_id _ (by omega) (by omega)
    simp [iterK_succ, hia, ga, e, gs, w0, w0', w1, w7, dg_set, hp, hp2, p1, hib, ← hx]

def spTimes : List AV → Option PRes := sp2 cOf cOf fun x y => if (digs x).length + (digs y).length < 100000000 then some (dA (dpad ((digs x).length + (digs y).length) (x * y))) else none

theorem times_run : FSpec (fun args n => pureF G ic n c85F args) spTimes := by
  intro args r h
  obtain ⟨a, b, x, y, v, rfl, hx, hy, hv, rfl⟩ := sp2_inv h
  obtain ⟨hxy, hv⟩ := of_ite hv
  cases hv
  obtain ⟨la, rfl, lx⟩ := cOf_inv hx
  obtain ⟨lb, rfl, ly⟩ := cOf_inv hy
  obtain ⟨N, hN⟩ : ∃ N, N = (digs x).length + (digs y).length + 1 := ⟨_, rfl⟩
  obtain ⟨s', r1, r2, r3, r4⟩ := times_outer G ic N la lb (digs x) (digs y) (wf_digs x) (wf_digs y) hxy (by omega) (digs x).length 0 (List.replicate ((digs x).length + (digs y).length) 0) (by omega) (by simp) (wf_replicate _) (by rw [dv_replicate]; simp [dv]) (fun j _ => dgt_replicate _ j)
  have e := r4 N (by omega)
  simp [c85_e1, c85_k1] at e
  rw [dv_digs, dv_digs] at r3
  have hs := dpad_of r2 r1 r3
  refine ⟨{ val := dA s' }, ⟨N, ?_⟩, rfl, by rw [← hs]; exact (weak_dA _ _).symm⟩
  have w0 : IntKind.i64.wrap (((digs x).length : Int) + (digs y).length) = ((digs x).length : Int) + (digs y).length := wrap64_id _ (by omega) (by omega)
  have w1 : 0 ≤ ((digs x).length : Int) + (digs y).length := by omega
  have w3 : (((digs x).length : Int) + (digs y).length) * 4 ≤ 140737488355328 := by omega
  have w4 : (((digs x).length : Int) + (digs y).length).toNat = (digs x).length + (digs y).length := by omega
  have hk2 : (digs x).length + (digs y).length ≤ s'.length := by omega
  have hk3 : (dg s').take ((digs x).length + (digs y).length) = dg s' := by rw [← r1, take_dg]
  simp [pureF, runF, w0, w1, w3, w4, dg_replicate, e, hk2, hk3, dA]

theorem mulP_run (hMg : G 80 = spMagnitude) (hT : G 85 = spTimes) (hM : G 84 = spMake) : FSpec (fun args n => pureF G ic n c66F args) spMul := by
  intro args r h
  obtain ⟨a, b, x, y, v, rfl, hx, hy, hv, rfl⟩ := sp2_inv h
  cases hv
  have lx := zOf_zl hx
  have ly := zOf_zl hy
  simp only [zl] at lx ly
  have t1 := magnitude_at hMg hx
  have t2 := magnitude_at hMg hy
  obtain ⟨s1, l1, d1, rfl, w1, k1, ex⟩ := zOf_inv hx
  obtain ⟨s2, l2, d2, rfl, w2, k2, ey⟩ := zOf_inv hy
  obtain ⟨X, hX⟩ : ∃ X, X = x.natAbs := ⟨_, rfl⟩
  obtain ⟨Y, hY⟩ : ∃ Y, Y = y.natAbs := ⟨_, rfl⟩
  have exX : x = sg s1 X := by rw [hX, ex, sg_natAbs]
  have eyY : y = sg s2 Y := by rw [hY, ey, sg_natAbs]
  rw [← hX] at t1 lx
  rw [← hY] at t2 ly
  obtain ⟨z, hz⟩ : ∃ z, z = x * y := ⟨_, rfl⟩
  rw [← hz]
  have t3 : G 85 [.imm false 1 (dg (digs X)), .imm false 1 (dg (digs Y))] = some { val := .imm false 1 (dg (dpad ((digs X).length + (digs Y).length) (X * Y))) } :=
    sp2_at hT (cOf_mk (by omega)) (cOf_mk (by omega)) (by rw [if_pos (by omega)]; rfl)
  have hlt : X * Y < W32 ^ ((digs X).length + (digs Y).length) := by rw [Nat.pow_add]; exact Nat.mul_lt_mul'' (lt_pow_len X) (lt_pow_len Y)
  have t4 := makeP_at' hM (b := s1 != s2) (nl := false) (z := z) (wf_dpad ((digs X).length + (digs Y).length) (X * Y)) (by rw [dpad_length]; omega) (by rw [dv_dpad hlt, sg_mul, hz, exX, eyY])
  clear hz ex ey exX eyY hX hY
  refine ⟨{ val := iV z }, ⟨0, ?_⟩, rfl, (weak_iV _).symm⟩
  simp only [bne] at t4
  simp [pureF, runF, t1, t2, t3, t4, iV_agg]

end
end Go.Proofs.Ythlpmghodgiknaa.C

/-
  Long division by estimated digits (plain numbers).
-/
namespace Go.Ev

theorem dpad_get {l n i : Nat} (h : i < l) : (dpad l n)[i]? = some (n / W32 ^ i % W32) := by
  induction l generalizing n i with
  | zero => omega
  | succ l ih =>
    cases i with
    | zero => simp [dpad]
    | succ i =>
      simp only [dpad, List.getElem?_cons_succ]
      rw [ih (by omega), Nat.div_div_eq_div_mul, Nat.pow_succ, Nat.mul_comm (W32 ^ i)]

theorem dpad_take {l n i : Nat} (h : i ≤ l) : (dpad l n).take i = dpad i n := by
  induction l generalizing n i with
  | zero => have : i = 0 := by omega
            subst this; rfl
  | succ l ih =>
    cases i with
    | zero => rfl
    | succ i => simp only [dpad, List.take_succ_cons]; rw [ih (by omega)]

theorem dpad_snoc (i n : Nat) : dpad (i + 1) n = dpad i n ++ [n / W32 ^ i % W32] := by
  have h := dpad_take (l := i + 1) (n := n) (i := i) (by omega)
  have e := List.take_append_drop i (dpad (i + 1) n)
  rw [h] at e
  have hd : (dpad (i + 1) n).drop i = [n / W32 ^ i % W32] := by
    have hl := dpad_length (i + 1) n
    have hg := dpad_get (l := i + 1) (n := n) (i := i) (by omega)
    rw [List.getElem?_eq_getElem (by omega)] at hg
    rw [List.drop_eq_getElem_cons (by omega), List.drop_eq_nil_of_le (by omega)]
    injection hg with hg
    rw [hg]
  rw [hd] at e
  exact e.symm

/-- Digits in the middle of a list. -/
theorem set_mid {α : Type} (A : List α) (y x : α) (R : List α) : (A ++ y :: R).set A.length x = A ++ x :: R := by
  rw [List.set_append_right _ _ (Nat.le_refl _), Nat.sub_self, List.set_cons_zero]

theorem drop_cons {ds : List Nat} {i : Nat} (h : i < ds.length) : ds.drop i = ds[i] :: ds.drop (i + 1) := List.drop_eq_getElem_cons h

theorem dv_drop_div {ds : List Nat} (h : Wf ds) (i : Nat) : dv (ds.drop i) = dv ds / W32 ^ i := by
  rcases Nat.lt_or_ge ds.length i with lt | ge
  · rw [List.drop_eq_nil_of_le (by omega)]
    have := dv_lt_of_le h (k := i) (by omega)
    rw [Nat.div_eq_of_lt this]; rfl
  · have e := dv_split' ge
    have h1 := dv_lt (wf_take h i)
    rw [List.length_take, Nat.min_eq_left ge] at h1
    rw [e, Nat.add_mul_div_left _ _ (Nat.pow_pos (by decide)), Nat.div_eq_of_lt h1, Nat.zero_add]

/-- One digit of a division by a small number. -/
theorem short_step {k d M' : Nat} (hd : d < W32) (hk : k < W32) (hk0 : k ≠ 0) (l : Nat) :
    dpad (l + 1) ((d + W32 * M') / k) = ((M' % k) * W32 + d) / k :: dpad l (M' / k) ∧ (d + W32 * M') % k = ((M' % k) * W32 + d) % k ∧ ((M' % k) * W32 + d) / k < W32 := by
  have hr := Nat.mod_lt M' (show 0 < k by omega)
  have hm := Nat.div_add_mod M' k
  obtain ⟨q, hq⟩ : ∃ q, q = M' / k := ⟨_, rfl⟩
  obtain ⟨r, hrr⟩ : ∃ r, r = M' % k := ⟨_, rfl⟩
  rw [← hq, ← hrr] at hm
  rw [← hrr] at hr ⊢
  rw [← hq]
  have e : d + W32 * M' = (r * W32 + d) + k * (W32 * q) := by
    rw [← hm, Nat.mul_add]
    rw [show W32 * (k * q) = k * (W32 * q) by rw [Nat.mul_left_comm], Nat.mul_comm r W32]
    omega
  have hlt : (r * W32 + d) / k < W32 := by
    refine Nat.div_lt_of_lt_mul ?_
    have : (r + 1) * W32 ≤ k * W32 := Nat.mul_le_mul_right _ hr
    rw [Nat.add_mul] at this
    omega
  have e1 : (d + W32 * M') / k = (r * W32 + d) / k + W32 * q := by
    rw [e, Nat.add_mul_div_left _ _ (by omega)]
  refine ⟨?_, ?_, hlt⟩
  · rw [e1, dpad, Nat.add_mul_mod_self_left, Nat.mod_eq_of_lt hlt, Nat.add_mul_div_left _ _ (by decide), Nat.div_eq_of_lt hlt, Nat.zero_add]
  · rw [e, Nat.add_mul_mod_self_left]

/-! ### The estimated digit -/

/-- The state of the correction: the estimate is never below the quotient's digit. -/
structure Est (W T S h n t q r : Nat) : Prop where
  sum : q * T + r = h * W + n
  up : ∀ p, p < W → p * (T * W + S) ≤ (h * W + n) * W + t → p ≤ q

theorem est_start {W T S h n t : Nat} (hT : 0 < T) (ht : t < W) : Est W T S h n t ((h * W + n) / T) ((h * W + n) % T) := by
  refine ⟨by rw [Nat.mul_comm]; exact Nat.div_add_mod _ _, fun p _ hp => ?_⟩
  rw [Nat.le_div_iff_mul_le hT]
  rw [Nat.mul_add, ← Nat.mul_assoc] at hp
  have h1 : p * T * W < (h * W + n + 1) * W := by rw [Nat.add_mul (h * W + n)]; omega
  have := Nat.lt_of_mul_lt_mul_right h1
  omega

theorem est_step {W T S h n t q r : Nat} (hW : 1 ≤ W) (e : Est W T S h n t q r) (hc : W ≤ q ∨ r * W + t < q * S) : Est W T S h n t (q - 1) (r + T) ∧ 1 ≤ q := by
  have hq : 1 ≤ q := by
    rcases hc with hc | hc
    · omega
    · rcases Nat.eq_zero_or_pos q with h0 | h0
      · subst h0; rw [Nat.zero_mul] at hc; omega
      · exact h0
  refine ⟨⟨?_, fun p hp hpl => ?_⟩, hq⟩
  · have h1 := e.sum
    obtain ⟨k, rfl⟩ : ∃ k, q = k + 1 := ⟨q - 1, by omega⟩
    rw [Nat.add_mul] at h1
    rw [Nat.add_sub_cancel]
    omega
  · have h1 := e.up p hp hpl
    rcases hc with hc | hc
    · omega
    · rcases Nat.lt_or_ge p q with lt | ge
      · omega
      · exfalso
        have hpq : p = q := by omega
        subst hpq
        have h2 := e.sum
        rw [← h2, Nat.mul_add, Nat.add_mul, ← Nat.mul_assoc] at hpl
        omega

theorem est_end {W T S h n t q r : Nat} (hW : 1 ≤ W) (e : Est W T S h n t q r) (hq : q < W) (hc : q * S ≤ r * W + t) : q = min (((h * W + n) * W + t) / (T * W + S)) (W - 1) ∨ T * W + S = 0 := by
  rcases Nat.eq_zero_or_pos (T * W + S) with h0 | h0
  · exact .inr h0
  · left
    have h2 : q * (T * W + S) ≤ (h * W + n) * W + t := by rw [← e.sum, Nat.mul_add, Nat.add_mul, ← Nat.mul_assoc]; omega
    have h3 : q ≤ ((h * W + n) * W + t) / (T * W + S) := (Nat.le_div_iff_mul_le h0).2 h2
    have h4 := e.up (min (((h * W + n) * W + t) / (T * W + S)) (W - 1)) (by omega) (by
      refine Nat.le_trans (Nat.mul_le_mul_right _ (Nat.min_le_left _ _)) ?_
      exact Nat.div_mul_le_self _ _)
    omega

/-- The estimated digit is the quotient's, or one more. -/
theorem knuth {W N V W3 V2 P low lowv q : Nat} (hW : 1 ≤ W) (hN : N = W3 * P + low) (hlow : low < P) (hV : V = V2 * P + lowv) (hlowv : lowv < P) (hV2 : W ≤ V2) (hNV : N < W * V) (hq : q = min (W3 / V2) (W - 1)) :
    (q * V ≤ N ∧ N / V = q) ∨ (1 ≤ q ∧ (q - 1) * V ≤ N ∧ N < q * V ∧ N / V = q - 1) := by
  have hP : 0 < P := by omega
  have hVpos : 0 < V := by
    have : V2 * P ≥ 1 * 1 := Nat.mul_le_mul (by omega) hP
    omega
  have hle : N / V ≤ q := by
    have h1 : N / V < W := Nat.div_lt_of_lt_mul (by rw [Nat.mul_comm]; exact hNV)
    have h2 : N / V * V ≤ N := Nat.div_mul_le_self _ _
    have h3 : N / V * V2 ≤ W3 := by
      have h4 : N / V * V2 * P < (W3 + 1) * P := by
        have : N / V * (V2 * P) ≤ N / V * V := Nat.mul_le_mul_left _ (by omega)
        rw [← Nat.mul_assoc] at this
        rw [Nat.add_mul]
        omega
      have := Nat.lt_of_mul_lt_mul_right h4
      omega
    have h5 : N / V ≤ W3 / V2 := (Nat.le_div_iff_mul_le (by omega)).2 h3
    omega
  rcases Nat.lt_or_ge N (q * V) with hlt | hge
  · right
    have hq1 : 1 ≤ q := by
      rcases Nat.eq_zero_or_pos q with h0 | h0
      · subst h0; rw [Nat.zero_mul] at hlt; omega
      · exact h0
    have hdown : (q - 1) * V ≤ N := by
      obtain ⟨k, rfl⟩ : ∃ k, q = k + 1 := ⟨q - 1, by omega⟩
      rw [Nat.add_sub_cancel]
      have h1 : (k + 1) * V2 ≤ W3 := by
        refine Nat.le_trans (Nat.mul_le_mul_right V2 (show k + 1 ≤ W3 / V2 by omega)) (Nat.div_mul_le_self _ _)
      have h2 : k < W := by omega
      have h3 : k * V ≤ k * (V2 * P + P) := Nat.mul_le_mul_left _ (by omega)
      have h4 : k * (V2 * P + P) = (k * V2 + k) * P := by rw [Nat.mul_add, Nat.add_mul, Nat.mul_assoc]
      have h5 : k * V2 + k ≤ W3 := by rw [Nat.add_mul] at h1; omega
      have h6 : (k * V2 + k) * P ≤ W3 * P := Nat.mul_le_mul_right _ h5
      omega
    refine ⟨hq1, hdown, hlt, ?_⟩
    have h1 : N / V < q := Nat.div_lt_of_lt_mul (by rw [Nat.mul_comm]; exact hlt)
    have h2 : q - 1 ≤ N / V := (Nat.le_div_iff_mul_le hVpos).2 hdown
    omega
  · left
    refine ⟨hge, ?_⟩
    have h2 : q ≤ N / V := (Nat.le_div_iff_mul_le hVpos).2 hge
    omega

/-- The estimate. -/
def estD (T S h n t : Nat) : Nat := min (((h * W32 + n) * W32 + t) / (T * W32 + S)) (W32 - 1)

theorem estD_lt (T S h n t : Nat) : estD T S h n t < W32 := by
  unfold estD
  exact Nat.lt_of_le_of_lt (Nat.min_le_right _ _) (by decide)

theorem alg3 (P W a b c L : Nat) : L + P * c + (P * W) * b + (P * W * W) * a = ((a * W + b) * W + c) * P + L := by grind
theorem alg2 (P W a b L : Nat) : L + P * b + (P * W) * a = (a * W + b) * P + L := by grind

theorem top3 (ds : List Nat) (j : Nat) : dv (ds.take (j + 1 + 1 + 1)) = ((dgt ds (j + 1 + 1) * W32 + dgt ds (j + 1)) * W32 + dgt ds j) * W32 ^ j + dv (ds.take j) := by
  rw [dv_take_dgt, dv_take_dgt, dv_take_dgt, Nat.pow_succ, Nat.pow_succ]
  exact alg3 _ _ _ _ _ _

theorem top2 (ds : List Nat) (j : Nat) : dv (ds.take (j + 1 + 1)) = (dgt ds (j + 1) * W32 + dgt ds j) * W32 ^ j + dv (ds.take j) := by
  rw [dv_take_dgt, dv_take_dgt, Nat.pow_succ]
  exact alg2 _ _ _ _ _

theorem dgt_drop (ds : List Nat) (a i : Nat) : dgt (ds.drop a) i = dgt ds (a + i) := by
  unfold dgt
  rw [List.getD_eq_getElem?_getD, List.getD_eq_getElem?_getD, List.getElem?_drop]

theorem lt_mul_of {W a D V : Nat} (ha : a < W) (hD : D < V) : a + W * D < W * V := by
  have : W * (D + 1) ≤ W * V := Nat.mul_le_mul_left _ hD
  rw [Nat.mul_add] at this
  omega

/-- The highest digit of what is left is not above the divisor's. -/
theorem high_le {P h T D V : Nat} (h1 : P * h ≤ D) (hDV : D < V) (h2 : V < P * (T + 1)) : h ≤ T := by
  have e3 : P * h < P * (T + 1) := by omega
  have := Nat.lt_of_mul_lt_mul_left e3
  omega

theorem set_alg {p V q' r N a b s s' : Nat} (hdm : V * q' + r = N) (hs : s' = s + p * q') : a + p * r + V * s' = a + p * N + V * s := by
  subst hdm; subst hs; grind

/-- One digit of the long division, in plain numbers. -/
theorem long_step {U vs Q : List Nat} {k mm V : Nat} (hU : Wf U) (hvs : Wf vs) (hm : vs.length = mm + 2) (hV : dv vs = V) (hT : 2147483648 ≤ dgt vs (mm + 1)) (hk : k + (mm + 2) < U.length) (hinv : dv (U.drop (k + 1)) < V) (hkQ : k < Q.length) (hQ0 : dgt Q k = 0) :
    ∃ N q', dgt U (k + (mm + 2)) ≤ dgt vs (mm + 1) ∧ dv ((U.drop k).take (mm + 2 + 1)) = N ∧
      ((estD (dgt vs (mm + 1)) (dgt vs mm) (dgt U (k + (mm + 2))) (dgt U (k + (mm + 1))) (dgt U (k + mm)) * V ≤ N ∧ q' = estD (dgt vs (mm + 1)) (dgt vs mm) (dgt U (k + (mm + 2))) (dgt U (k + (mm + 1))) (dgt U (k + mm))) ∨
        (1 ≤ estD (dgt vs (mm + 1)) (dgt vs mm) (dgt U (k + (mm + 2))) (dgt U (k + (mm + 1))) (dgt U (k + mm)) ∧ (estD (dgt vs (mm + 1)) (dgt vs mm) (dgt U (k + (mm + 2))) (dgt U (k + (mm + 1))) (dgt U (k + mm)) - 1) * V ≤ N ∧ N < estD (dgt vs (mm + 1)) (dgt vs mm) (dgt U (k + (mm + 2))) (dgt U (k + (mm + 1))) (dgt U (k + mm)) * V ∧ q' = estD (dgt vs (mm + 1)) (dgt vs mm) (dgt U (k + (mm + 2))) (dgt U (k + (mm + 1))) (dgt U (k + mm)) - 1)) ∧ q' < W32 ∧
      Wf (U.take k ++ dpad (mm + 2 + 1) (N - q' * V) ++ U.drop (k + (mm + 2 + 1))) ∧ (U.take k ++ dpad (mm + 2 + 1) (N - q' * V) ++ U.drop (k + (mm + 2 + 1))).length = U.length ∧
      dv ((U.take k ++ dpad (mm + 2 + 1) (N - q' * V) ++ U.drop (k + (mm + 2 + 1))).drop k) < V ∧
      dv (U.take k ++ dpad (mm + 2 + 1) (N - q' * V) ++ U.drop (k + (mm + 2 + 1))) + V * dv (Q.set k q') = dv U + V * dv Q := by
  have hVlt : V < W32 ^ (mm + 2) := by rw [← hV, ← hm]; exact dv_lt hvs
  have hVpos : 0 < V := by omega
  obtain ⟨D, hD⟩ : ∃ D, D = dv (U.drop (k + 1)) := ⟨_, rfl⟩
  rw [← hD] at hinv
  have hdrop : dv (U.drop k) = dgt U k + W32 * D := by rw [hD]; exact dv_drop_dgt U k
  have hNlt : dv (U.drop k) < W32 * V := by rw [hdrop]; exact lt_mul_of (dgt_lt hU k) hinv
  have hNlt2 : dv (U.drop k) < W32 ^ (mm + 2 + 1) := by
    refine Nat.lt_trans hNlt ?_
    rw [Nat.pow_succ, Nat.mul_comm]
    exact Nat.mul_lt_mul_of_pos_right hVlt (by decide)
  have hN : dv ((U.drop k).take (mm + 2 + 1)) = dv (U.drop k) := dv_take_of_lt hNlt2
  obtain ⟨N, hNe⟩ : ∃ N, N = dv (U.drop k) := ⟨_, rfl⟩
  rw [← hNe] at hN hNlt hNlt2
  have h3 := top3 (U.drop k) mm
  rw [show mm + 1 + 1 + 1 = mm + 2 + 1 by omega, hN, dgt_drop, dgt_drop, dgt_drop] at h3
  have hlow := dv_lt (wf_take (wf_drop hU k) mm)
  have hlow2 : dv ((U.drop k).take mm) < W32 ^ mm := Nat.lt_of_lt_of_le hlow (Nat.pow_le_pow_right (by decide) (by rw [List.length_take]; omega))
  have h2 := top2 vs mm
  rw [List.take_of_length_le (by omega), hV] at h2
  have hlv := dv_lt (wf_take hvs mm)
  have hlv2 : dv (vs.take mm) < W32 ^ mm := Nat.lt_of_lt_of_le hlv (Nat.pow_le_pow_right (by decide) (by rw [List.length_take]; omega))
  -- the highest digit
  have hh : dgt U (k + (mm + 2)) ≤ dgt vs (mm + 1) := by
    refine high_le (P := W32 ^ (mm + 1)) (D := D) (V := V) ?_ hinv ?_
    · have h4 : dv ((U.drop (k + 1)).take (mm + 1 + 1)) = D := by rw [hD]; exact dv_take_of_lt (by rw [← hD]; exact Nat.lt_trans hinv hVlt)
      rw [dv_take_dgt, dgt_drop, show k + 1 + (mm + 1) = k + (mm + 2) by omega] at h4
      rw [← h4]; exact Nat.le_add_left _ _
    · have h4 : dv (vs.take (mm + 1 + 1)) = V := by rw [List.take_of_length_le (by omega), hV]
      rw [dv_take_dgt] at h4
      have h5 := dv_lt (wf_take hvs (mm + 1))
      rw [List.length_take, Nat.min_eq_left (by omega)] at h5
      rw [Nat.mul_add, Nat.mul_one, ← h4, Nat.add_comm]
      exact Nat.add_lt_add_left h5 _
  obtain ⟨h, hhe⟩ : ∃ h, h = dgt U (k + (mm + 2)) := ⟨_, rfl⟩
  obtain ⟨n1, hn1e⟩ : ∃ n1, n1 = dgt U (k + (mm + 1)) := ⟨_, rfl⟩
  obtain ⟨t, hte⟩ : ∃ t, t = dgt U (k + mm) := ⟨_, rfl⟩
  obtain ⟨T, hTe⟩ : ∃ T, T = dgt vs (mm + 1) := ⟨_, rfl⟩
  obtain ⟨S, hSe⟩ : ∃ S, S = dgt vs mm := ⟨_, rfl⟩
  have h3' : N = ((h * W32 + n1) * W32 + t) * W32 ^ mm + dv ((U.drop k).take mm) := by rw [h3, hhe, hn1e, hte]
  have h2' : V = (T * W32 + S) * W32 ^ mm + dv (vs.take mm) := by rw [h2, hTe, hSe]
  rw [← hhe, ← hn1e, ← hte, ← hTe, ← hSe]
  rw [← hhe, ← hTe] at hh
  rw [← hTe] at hT
  have hV2 : W32 ≤ T * W32 + S := by
    have : 1 * W32 ≤ T * W32 := Nat.mul_le_mul_right _ (by omega)
    rw [Nat.one_mul] at this
    exact Nat.le_trans this (Nat.le_add_right _ _)
  have hkn := knuth (W := W32) (by decide) h3' hlow2 h2' hlv2 hV2 hNlt (q := estD T S h n1 t) rfl
  have hq4 := estD_lt T S h n1 t
  obtain ⟨q, hq⟩ : ∃ q, q = estD T S h n1 t := ⟨_, rfl⟩
  rw [← hq] at hkn hq4 ⊢
  obtain ⟨q', hq'⟩ : ∃ q', q' = N / V := ⟨_, rfl⟩
  have hq4' : q' < W32 := by rw [hq']; exact Nat.div_lt_of_lt_mul (by rw [Nat.mul_comm]; exact hNlt)
  have hrem : N - q' * V = N % V := by rw [hq']; have := Nat.div_add_mod N V; rw [Nat.mul_comm] at this; omega
  have hreml : N % V < V := Nat.mod_lt _ hVpos
  have hz : dv (U.drop (k + (mm + 2 + 1))) = 0 := by
    have e := dv_split' (ds := U.drop k) (k := mm + 2 + 1) (by rw [List.length_drop]; omega)
    rw [hN, List.drop_drop, ← hNe] at e
    have hp : 0 < W32 ^ (mm + 2 + 1) := Nat.pow_pos (by decide)
    rcases Nat.eq_zero_or_pos (dv (U.drop (k + (mm + 2 + 1)))) with h0 | h0
    · exact h0
    · have : 0 < W32 ^ (mm + 2 + 1) * dv (U.drop (k + (mm + 2 + 1))) := Nat.mul_pos hp h0
      omega
  have hdp : dv (dpad (mm + 2 + 1) (N % V)) = N % V := dv_dpad (Nat.lt_trans hreml (Nat.lt_of_lt_of_le hVlt (Nat.pow_le_pow_right (by decide) (by omega))))
  have htk : (U.take k).length = k := by rw [List.length_take]; omega
  have hUd : dv U = dv (U.take k) + W32 ^ k * N := by rw [hNe]; exact dv_split' (by omega)
  refine ⟨N, q', hh, hN, ?_, hq4', ?_, ?_, ?_, ?_⟩
  · rcases hkn with ⟨h5, h6⟩ | ⟨h5, h6, h7, h8⟩
    · exact .inl ⟨h5, by rw [hq']; exact h6⟩
    · exact .inr ⟨h5, h6, h7, by rw [hq']; exact h8⟩
  · exact wf_append.2 ⟨wf_append.2 ⟨wf_take hU _, wf_dpad _ _⟩, wf_drop hU _⟩
  · simp [dpad_length]; omega
  · rw [hrem, List.append_assoc, List.drop_append, List.drop_of_length_le (by omega), htk, Nat.sub_self, List.drop_zero, List.nil_append, dv_append, hz, hdp, Nat.mul_zero, Nat.add_zero]
    exact hreml
  · have hset := dv_set (ds := Q) (j := k) (q := q') hkQ
    rw [← dgt_get hkQ, hQ0, Nat.mul_zero, Nat.add_zero] at hset
    rw [hrem, List.append_assoc, dv_append, dv_append, hz, hdp, htk, Nat.mul_zero, Nat.add_zero, hUd]
    have hdm := Nat.div_add_mod N V
    rw [← hq'] at hdm
    exact set_alg (b := 0) hdm hset

end Go.Ev

/-
  The program's integers: division by one digit, shifts, the estimated digit.
-/
namespace Go.Proofs.Ythlpmghodgiknaa.C
open Go Go.Ev

section
variable (G : Pure) (ic : Inl) (n : Nat)

theorem w64_or {a b i z : Nat} (ha : a < 2 ^ i) (hb : b = 2 ^ i * z) (hs : a + b < 18446744073709551616) : IntKind.u64.wrap ((b % 2 ^ IntKind.u64.bits ||| a % 2 ^ IntKind.u64.bits : Nat) : Int) = ((b + a : Nat) : Int) := by
  show IntKind.u64.wrap ((b % 18446744073709551616 ||| a % 18446744073709551616 : Nat) : Int) = ((b + a : Nat) : Int)
  have h3 : b ||| a = b + a := by rw [hb, ← Nat.two_pow_add_eq_or_of_lt ha]
  rw [Nat.mod_eq_of_lt (by omega), Nat.mod_eq_of_lt (by omega), h3]
  exact wrapu64_id _ (by omega) (by omega)

theorem mid_get {α : Type} (A : List α) (y : α) (R : List α) : (A ++ y :: R)[A.length]? = some y := by
  rw [List.getElem?_append_right (Nat.le_refl _), Nat.sub_self]; rfl

/-! ### shrunk -/

theorem shrunk_loop (k : Nat) (hk : k < W32) (hk0 : k ≠ 0) (ds : List Nat) (hw : Wf ds) (hl : ds.length < 100000000) (reb own : List Nat) : ∀ i m, i ≤ ds.length → i < m →
    blockE (some c97_e0) 0 (iterK G ic n c97_k0 c97_b0Q m ⟨[(0, .sl 0 0 ds.length), (1, .int .u32 k), (5, .int .u64 (dv (ds.drop i) % k : Nat)), (6, .int .i64 ((i : Int) - 1))],
        [(0, { sz := 1, ty := 88, es := dg (ds.take i ++ dpad (ds.length - i) (dv (ds.drop i) / k)), refs := [] })], [], own, reb⟩) =
      some (.normal, ⟨[(5, .int .u64 (dv ds % k : Nat))], [(0, { sz := 1, ty := 88, es := dg (dpad ds.length (dv ds / k)), refs := [] })], [], own, reb⟩) := by
  intro i
  induction i with
  | zero =>
    intro m hi hm
    obtain ⟨m, rfl⟩ : ∃ i, m = i + 1 := ⟨m - 1, by omega⟩
    simp [iterK_succ]
  | succ i ih =>
    intro m hi hm
    obtain ⟨m, rfl⟩ : ∃ i, m = i + 1 := ⟨m - 1, by omega⟩
    have hil : i < ds.length := by omega
    have hd := wf_get hw hil
    obtain ⟨d, hde⟩ : ∃ d, d = ds[i] := ⟨_, rfl⟩
    rw [← hde] at hd
    obtain ⟨M', hM'⟩ : ∃ M', M' = dv (ds.drop (i + 1)) := ⟨_, rfl⟩
    have hM : dv (ds.drop i) = d + W32 * M' := by rw [drop_cons hil, dv, hde, hM']
    obtain ⟨s1, s2, s3⟩ := short_step (M' := M') hd hk hk0 (ds.length - (i + 1))
    have hr := Nat.mod_lt M' (show 0 < k by omega)
    obtain ⟨r, hrr⟩ : ∃ r, r = M' % k := ⟨_, rfl⟩
    rw [← hrr] at s1 s2 s3 hr
    obtain ⟨x, hx⟩ : ∃ x, x = (r * W32 + d) / k := ⟨_, rfl⟩
    obtain ⟨r', hr'⟩ : ∃ r', r' = (r * W32 + d) % k := ⟨_, rfl⟩
    rw [← hx] at s1 s3
    rw [← hr'] at s2
    have hr'k : r' < k := by rw [hr']; exact Nat.mod_lt _ (by omega)
    have e := ih m (by omega) (by omega)
    rw [hM, s2, show ds.length - i = ds.length - (i + 1) + 1 by omega, s1] at e
    rw [← hM', ← hrr]
    rw [← e]
    obtain ⟨T, hT⟩ : ∃ T, T = dpad (ds.length - (i + 1)) (M' / k) := ⟨_, rfl⟩
    rw [← hT]
    have hTl : T.length = ds.length - (i + 1) := by rw [hT, dpad_length]
    have htake : ds.take (i + 1) = ds.take i ++ [d] := by rw [List.take_succ_eq_append_getElem hil, ← hde]
    have hA : (ds.take i).length = i := by rw [List.length_take]; omega
    obtain ⟨A, hAe⟩ : ∃ A, A = ds.take i := ⟨_, rfl⟩
    rw [htake, ← hAe, List.append_assoc, List.singleton_append]
    rw [← hAe] at hA
    have gd : (dg (A ++ d :: T))[i]? = some [.int .u32 d] := by
      rw [dg, List.getElem?_map, ← hA, mid_get]; rfl
    have hset : (dg (A ++ d :: T)).set i [.int .u32 x] = dg (A ++ x :: T) := by rw [dg_set, ← hA, set_mid]
    obtain ⟨v, hv⟩ : ∃ v, v = r * W32 := ⟨_, rfl⟩
    have hvb : v ≤ 4294967294 * 4294967296 := by rw [hv]; exact Nat.mul_le_mul_right _ (by simp only [W32] at hk; omega)
    simp only [W32] at hd hk
    have w1 : IntKind.u64.wrap ((r : Int) * 4294967296) = (v : Int) := w64_nat (by rw [hv]; simp) (by omega)
    have w2 : IntKind.u64.wrap (d : Int) = (d : Int) := wrapu64_id _ (by omega) (by omega)
    have w3 := w64_or (a := d) (b := v) (i := 32) (z := r) (by simpa using hd) (by rw [hv, Nat.mul_comm]) (by omega)
    have w4 : IntKind.u64.wrap (k : Int) = (k : Int) := wrapu64_id _ (by omega) (by omega)
    have w5 : IntKind.u64.wrap (((v + d : Nat) : Int) / k) = (x : Int) := by
      have : ((v + d : Nat) : Int) / k = (x : Int) := by rw [hx, ← hv, Int.natCast_ediv]
      rw [this]; exact wrapu64_id _ (by omega) (by simp only [W32] at s3; omega)
    have w6 : IntKind.u32.wrap (x : Int) = (x : Int) := wrapu32_id _ (by omega) (by simp only [W32] at s3; omega)
    have w7 : ((v + d : Nat) : Int).tmod k = (r' : Int) := by
      rw [Int.tmod_eq_emod_of_nonneg (by omega), hr', ← hv, Int.natCast_emod]
    have w8 : IntKind.i64.wrap ((i : Int) - 1) = (i : Int) - 1 := wrap64_id _ (by omega) (by omega)
    have e1 : ((i + 1 : Nat) : Int) - 1 = i := by omega
    have k0 : ¬ (k : Int) = 0 := by omega
    have hlen : i < (dg (A ++ d :: T)).length := by simp; omega
    have hi2 : (i : Int) < ds.length := by omega
    rw [e1]
    simp only [Int.natCast_add] at w5 w7 w3
    have td : ((v : Int) + d).tdiv k = ((v : Int) + d) / k := Int.tdiv_eq_ediv_of_nonneg (by omega)
    have hget : (A ++ d :: T)[i]? = some d := by rw [← hA]; exact mid_get A d T
    simp [iterK_succ, gd, w1, w2, w3, w4, td, w5, w6, w7, w8, hk0, hset, hil, -dg_getElem]


def spShrunk : List AV → Option PRes
  | [.imm false 1 es, k] => match digOf (.imm false 1 es), u32Of k with
    | some ds, some k => if k ≠ 0 then some { val := .int .u32 (dv ds % k : Nat), objs := [{ sz := 1, ty := 88, es := dg (dpad ds.length (dv ds / k)), refs := [] }] } else none
    | _, _ => none
  | _ => none

theorem shrunk_run : ∀ args r, spShrunk args = some r → ∃ n, updF G ic n c97F 0 88 args = some r := by
  intro args r h
  unfold spShrunk at h
  split at h
  case h_2 => cases h
  rename_i es ka
  split at h
  case h_2 => cases h
  rename_i ds k hd hk
  obtain ⟨hk0, h1⟩ := of_ite h
  cases h1
  obtain ⟨nl, he, hw, hl⟩ := digOf_inv hd
  cases he
  obtain ⟨rfl, hkb⟩ := u32Of_inv hk
  obtain ⟨N, hN⟩ : ∃ N, N = ds.length + 1 := ⟨_, rfl⟩
  have e := shrunk_loop G ic N k (by simpa [W32] using hkb) hk0 ds hw hl [] [] ds.length N (Nat.le_refl _) (by omega)
  rw [List.drop_length, List.take_length, Nat.sub_self] at e
  simp [c97_e0, c97_k0, dv, dpad] at e
  have hm := Nat.mod_lt (dv ds) (show 0 < k by omega)
  have w1 : IntKind.i64.wrap ((ds.length : Int) - 1) = (ds.length : Int) - 1 := wrap64_id _ (by omega) (by omega)
  obtain ⟨r, hr⟩ : ∃ r, r = dv ds % k := ⟨_, rfl⟩
  rw [← hr] at hm ⊢
  have hr2 : (dv ds : Int) % k = (r : Int) := by rw [hr, Int.natCast_emod]
  rw [hr2] at e
  have w2 : IntKind.u32.wrap (r : Int) = (r : Int) := wrapu32_id _ (by omega) (by omega)
  refine ⟨N, ?_⟩
  simp [updF, updO, runF, w1, e, w2, dpad_length]

theorem shrunk_at {G : Pure} (hS : G 97 = spShrunk) {ds : List Nat} {k : Nat} (hw : Wf ds) (hl : ds.length < 100000000) (hk : k < 4294967296) (hk0 : k ≠ 0) :
    G 97 [.imm false 1 (dg ds), .int .u32 k] = some { val := .int .u32 (dv ds % k : Nat), objs := [{ sz := 1, ty := 88, es := dg (dpad ds.length (dv ds / k)), refs := [] }] } := by
  rw [hS]; simp only [spShrunk, digOf_dg hw hl, u32Of_mk hk]; rw [if_pos hk0]

/-! ### shifted -/

theorem shifted_loop (la : Bool) (a : List Nat) (r : Nat) (ha : Wf a) (hla : a.length < 99999000) (hr : r < 32) : ∀ d i s, i + d = a.length → s.length = a.length + 1 → Wf s → dv s = 2 ^ r * dv (a.take i) → dgt s i < 2 ^ r → (∀ j, i < j → dgt s j = 0) →
    ∃ s' : List Nat, s'.length = a.length + 1 ∧ Wf s' ∧ dv s' = 2 ^ r * dv a ∧ ∀ m, d < m →
      blockE (some c99_e0) 0 (iterK G ic n c99_k0 c99_b0Q m ⟨[(1, .int .i64 r), (5, .sl 1584192 0 (a.length + 1)), (13, .imm la 1 (dg a)), (14, .int .i64 a.length), (15, .int .i64 i)],
        [(1584192, { sz := 1, ty := 88, es := dg s, refs := [] })], [], [1584192], []⟩) =
        some (.normal, ⟨[(5, .sl 1584192 0 (a.length + 1))], [(1584192, { sz := 1, ty := 88, es := dg s', refs := [] })], [], [1584192], []⟩) := by
  intro d
  induction d with
  | zero =>
    intro i s hi hs hw hv _ _
    have e : i = a.length := by omega
    subst e
    rw [List.take_length] at hv
    refine ⟨s, hs, hw, hv, fun m hm => ?_⟩
    obtain ⟨m, rfl⟩ : ∃ i, m = i + 1 := ⟨m - 1, by omega⟩
    simp [iterK_succ]
  | succ d ih =>
    intro i s hi hs hw hv htop hz
    have hia : i < a.length := by omega
    have hA := wf_get ha hia
    obtain ⟨A, hAe⟩ : ∃ A, A = a[i] := ⟨_, rfl⟩
    rw [← hAe] at hA
    obtain ⟨z, p1, p2, p3, p4⟩ := shl_parts hr hA
    obtain ⟨x, hx⟩ : ∃ x, x = A * 2 ^ r := ⟨_, rfl⟩
    rw [← hx] at p1 p2 p4
    obtain ⟨q, hq⟩ : ∃ q, q = x % 4294967296 := ⟨_, rfl⟩
    obtain ⟨e, he⟩ : ∃ e, e = x / 4294967296 := ⟨_, rfl⟩
    have hq2 : q = 2 ^ r * z := by rw [hq]; exact p1
    have he2 : e < 2 ^ r := by rw [he]; exact p2
    have hiw : i < s.length := by omega
    have hiw1 : i + 1 < s.length := by omega
    obtain ⟨T, hT⟩ : ∃ T, T = s[i] := ⟨_, rfl⟩
    have hT2 : T < 2 ^ r := by rw [hT, ← dgt_get hiw]; exact htop
    have h31 : 2 ^ r ≤ 2147483648 := by
      have : 2 ^ r ≤ 2 ^ 31 := Nat.pow_le_pow_right (by decide) (by omega)
      simpa using this
    have hzero : s[i + 1] = 0 := by rw [← dgt_get hiw1]; exact hz _ (by omega)
    have hsum : T + q < 4294967296 := by rw [hq2]; simp only [W32] at p3; omega
    obtain ⟨t, ht⟩ : ∃ t, t = T + q := ⟨_, rfl⟩
    have hset1 := dv_set (ds := s) (j := i) (q := t) hiw
    have hset2 := dv_set (ds := s.set i t) (j := i + 1) (q := e) (by simpa using hiw1)
    have hz2 : (s.set i t)[i + 1]'(by simpa using hiw1) = 0 := by rw [List.getElem_set_ne (by omega)]; exact hzero
    rw [hz2, Nat.mul_zero, Nat.add_zero] at hset2
    rw [← hT] at hset1
    have hwt : Wf (s.set i t) := wf_set hw (by simp only [W32]; omega)
    have hwe : Wf ((s.set i t).set (i + 1) e) := wf_set hwt (by simp only [W32]; omega)
    have hqe : q + W32 * e = x := by simp only [W32]; omega
    obtain ⟨s', r1, r2, r3, r4⟩ := ih (i + 1) ((s.set i t).set (i + 1) e) (by omega) (by simpa using hs) hwe (by
      rw [hset2, dv_take_succ hia, ← hAe]
      have := shift_step (i := i) (w := 0) (r := r) (S := dv s) (S1 := dv (s.set i t)) (D := dv (a.take i)) (A := A) (T := T) (t := t) (q := q) (e := e) (x := x) (by rw [Nat.pow_zero, Nat.one_mul]; exact hv) hset1 (by omega) hqe hx
      rw [Nat.pow_zero, Nat.one_mul] at this
      exact this) (by
      rw [dgt_get (by simpa using hiw1), List.getElem_set_self]; exact he2) (fun j hj => by
      rw [dgt_set_ne (by omega), dgt_set_ne (by omega)]; exact hz j (by omega))
    refine ⟨s', r1, r2, r3, fun m hm => ?_⟩
    obtain ⟨m, rfl⟩ : ∃ i, m = i + 1 := ⟨m - 1, by omega⟩
    rw [← r4 m (by omega)]
    have ga := dg_get a i hia
    rw [← hAe] at ga
    have f4 : IntKind.u64.wrap (A : Int) = (A : Int) := wrapu64_id _ (by omega) (by simp only [W32] at hA; omega)
    have f5 : min r 64 = r := by omega
    have f6 : IntKind.u64.wrap ((A : Int) * 2 ^ r) = (x : Int) := w64_nat (by rw [hx]; simp) (by simp only [W32] at p4; omega)
    have f7 : IntKind.i64.wrap ((i : Int) + 1) = (i : Int) + 1 := wrap64_id _ (by omega) (by omega)
    have f10 : ((i : Int) + 1).toNat = i + 1 := by omega
    have f11 := w32_or hT2 hq2 hsum
    rw [← ht] at f11
    have f12 : IntKind.u32.wrap (e : Int) = (e : Int) := wrapu32_id _ (by omega) (by omega)
    have g2 : 0 ≤ (i : Int) + 1 := by omega
    have g3 : (i : Int) < (a.length : Int) + 1 := by omega
    have g4 : (i : Int) + 1 < (a.length : Int) + 1 := by omega
    have g5 : i < a.length + 1 := by omega
    have f0 : ¬ (r : Int) < 0 := by omega
    simp [iterK_succ, hia, ga, f0, f4, f5, f6, f7, f10, f11, f12, g2, g3, g4, g5, hs, ← hAe, ← hT, w32_nat hq, fdiv_nat he, dg_set]

def spShifted : List AV → Option PRes
  | [a, .int .i64 r] => match digOf a with
    | some ds => if 0 ≤ r ∧ r < 32 ∧ ds.length < 99999000 then some { val := .sl 0 0 (ds.length + 1), objs := [{ sz := 1, ty := 88, es := dg (dpad (ds.length + 1) (2 ^ r.toNat * dv ds)), refs := [] }] } else none
    | none => none
  | _ => none

theorem shifted_run : FSpec (fun args n => freshF G ic n c99F args) spShifted := by
  intro args r h
  unfold spShifted at h
  split at h
  case h_2 => cases h
  rename_i a r0
  split at h
  case h_2 => cases h
  rename_i ds hd
  obtain ⟨⟨hr0, hr1, hl⟩, h1⟩ := of_ite h
  cases h1
  obtain ⟨la, rfl, hw, _⟩ := digOf_inv hd
  obtain ⟨r, rfl⟩ : ∃ r : Nat, r0 = r := ⟨r0.toNat, by omega⟩
  obtain ⟨N, hN⟩ : ∃ N, N = ds.length + 1 := ⟨_, rfl⟩
  have hp : 0 < 2 ^ r := Nat.pow_pos (by decide)
  obtain ⟨s', r1, r2, r3, r4⟩ := shifted_loop G ic N la ds r hw hl (by omega) ds.length 0 (List.replicate (ds.length + 1) 0) (by omega) (by simp) (wf_replicate _) (by rw [dv_replicate]; simp [dv]) (by rw [dgt_replicate]; exact hp) (fun j _ => dgt_replicate _ j)
  have e := r4 N (by omega)
  simp [c99_e0, c99_k0] at e
  have hs := dpad_of r2 r1 r3
  have w1 : IntKind.i64.wrap ((ds.length : Int) + 1) = (ds.length : Int) + 1 := wrap64_id _ (by omega) (by omega)
  have w3 : ((ds.length : Int) + 1) * 4 ≤ 140737488355328 := by omega
  have w4 : 0 ≤ (ds.length : Int) + 1 := by omega
  have w6 : ((ds.length : Int) + 1).toNat = ds.length + 1 := by omega
  refine ⟨_, ⟨N, ?_⟩, rfl, rfl⟩
  simp only [Int.toNat_natCast]
  rw [← hs]
  simp [freshF, freshO, runF, w1, w3, w4, w6, dg_replicate, e, AV.dn]

theorem shifted_at {G : Pure} (hS : G 99 = spShifted) {la : Bool} {ds : List Nat} {r : Nat} (hw : Wf ds) (hl : ds.length < 99999000) (hr : r < 32) :
    G 99 [.imm la 1 (dg ds), .int .i64 r] = some { val := .sl 0 0 (ds.length + 1), objs := [{ sz := 1, ty := 88, es := dg (dpad (ds.length + 1) (2 ^ r * dv ds)), refs := [] }] } := by
  rw [hS]; simp only [spShifted, digOf_dg hw (show ds.length < 100000000 by omega)]; rw [if_pos ⟨by omega, by omega, hl⟩]; simp

/-! ### unshifted -/

theorem unshift_digit {ds : List Nat} (hw : Wf ds) {r : Nat} (hr : r < 32) (i : Nat) : dv ds / 2 ^ r / W32 ^ i % W32 = (dgt ds i + W32 * dgt ds (i + 1)) / 2 ^ r % W32 := by
  have e1 : dv ds / 2 ^ r / W32 ^ i = dv (ds.drop i) / 2 ^ r := by rw [dv_drop_div hw, Nat.div_div_eq_div_mul, Nat.div_div_eq_div_mul, Nat.mul_comm]
  rw [e1, dv_drop_dgt, dv_drop_dgt]
  obtain ⟨Y, hY⟩ : ∃ Y, Y = dv (ds.drop (i + 1 + 1)) := ⟨_, rfl⟩
  rw [← hY]
  have hp : 0 < 2 ^ r := Nat.pow_pos (by decide)
  have hW : W32 = 2 ^ r * 2 ^ (32 - r) := by rw [← Nat.pow_add, show r + (32 - r) = 32 by omega]
  have e2 : dgt ds i + W32 * (dgt ds (i + 1) + W32 * Y) = (dgt ds i + W32 * dgt ds (i + 1)) + 2 ^ r * (2 ^ (32 - r) * (W32 * Y)) := by
    rw [← Nat.mul_assoc (2 ^ r), ← hW, Nat.mul_add]; omega
  rw [e2, Nat.add_mul_div_left _ _ hp]
  rw [Nat.mul_left_comm, Nat.add_mul_mod_self_left]

theorem unshifted_loop (r : Nat) (hr : r < 32) (ds : List Nat) (hw : Wf ds) (hl : ds.length < 100000000) (own reb : List Nat) : ∀ d i m, i + d = ds.length → d < m →
    blockE (some c102_e0) 0 (iterK G ic n c102_k0 c102_b0Q m ⟨[(0, .sl 0 0 ds.length), (1, .int .i64 r), (7, .int .i64 ds.length), (8, .int .i64 i)],
        [(0, { sz := 1, ty := 88, es := dg (dpad i (dv ds / 2 ^ r) ++ ds.drop i), refs := [] })], [], own, reb⟩) =
      some (.normal, ⟨[], [(0, { sz := 1, ty := 88, es := dg (dpad ds.length (dv ds / 2 ^ r)), refs := [] })], [], own, reb⟩) := by
  intro d
  induction d with
  | zero =>
    intro i m hi hm
    obtain ⟨m, rfl⟩ : ∃ i, m = i + 1 := ⟨m - 1, by omega⟩
    have e : i = ds.length := by omega
    subst e
    simp [iterK_succ]
  | succ d ih =>
    intro i m hi hm
    obtain ⟨m, rfl⟩ : ∃ i, m = i + 1 := ⟨m - 1, by omega⟩
    have hil : i < ds.length := by omega
    have e := ih (i + 1) m (by omega) (by omega)
    rw [dpad_snoc, unshift_digit hw hr] at e
    obtain ⟨y, hy⟩ : ∃ y, y = dgt ds (i + 1) := ⟨_, rfl⟩
    obtain ⟨x, hx⟩ : ∃ x, x = dgt ds i := ⟨_, rfl⟩
    have hxb := dgt_lt hw i
    have hyb := dgt_lt hw (i + 1)
    rw [← hx] at hxb
    rw [← hy] at hyb
    rw [← hx, ← hy] at e
    obtain ⟨V, hV⟩ : ∃ V, V = x + W32 * y := ⟨_, rfl⟩
    rw [← hV] at e
    obtain ⟨q, hq⟩ : ∃ q, q = V / 2 ^ r % W32 := ⟨_, rfl⟩
    rw [← hq] at e
    rw [← e]
    obtain ⟨A, hA⟩ : ∃ A, A = dpad i (dv ds / 2 ^ r) := ⟨_, rfl⟩
    have hAl : A.length = i := by rw [hA, dpad_length]
    obtain ⟨R, hR⟩ : ∃ R, R = ds.drop (i + 1) := ⟨_, rfl⟩
    rw [← hA, ← hR, drop_cons hil, ← dgt_get hil, ← hx, ← hR, List.append_assoc, List.singleton_append]
    have gx : (dg (A ++ x :: R))[i]? = some [.int .u32 x] := by rw [dg, List.getElem?_map, ← hAl, mid_get]; rfl
    have hset : (dg (A ++ x :: R)).set i [.int .u32 q] = dg (A ++ q :: R) := by rw [dg_set, ← hAl, set_mid]
    have hRl : R.length = ds.length - (i + 1) := by rw [hR, List.length_drop]
    simp only [W32] at hxb hyb
    have w1 : IntKind.u64.wrap (x : Int) = (x : Int) := wrapu64_id _ (by omega) (by omega)
    have w2 : IntKind.i64.wrap ((i : Int) + 1) = (i : Int) + 1 := wrap64_id _ (by omega) (by omega)
    have f0 : ¬ (r : Int) < 0 := by omega
    have f5 : min r 64 = r := by omega
    have f10 : ((i : Int) + 1).toNat = i + 1 := by omega
    have g2 : 0 ≤ (i : Int) + 1 := by omega
    have hp : 0 < 2 ^ r := Nat.pow_pos (by decide)
    obtain ⟨D, hD⟩ : ∃ D, D = V / 2 ^ r := ⟨_, rfl⟩
    have fd : (V : Int).fdiv (2 ^ r) = (D : Int) := by
      rw [Int.fdiv_eq_ediv_of_nonneg _ (by exact_mod_cast Nat.zero_le _), hD]; simp
    have fq : IntKind.u32.wrap (D : Int) = (q : Int) := w32_nat (by rw [hq, ← hD])
    by_cases hlast : i + 1 < ds.length
    · have gy : (dg (A ++ x :: R))[i + 1]? = some [.int .u32 y] := by
        have : (A ++ x :: R)[i + 1]? = some y := by
          rw [List.getElem?_append_right (by omega), hAl, show i + 1 - i = 1 by omega, List.getElem?_cons_succ, hR, List.getElem?_drop, List.getElem?_eq_getElem (by omega), hy, dgt_get hlast]
        rw [dg, List.getElem?_map, this]; rfl
      have hl2 : (i : Int) + 1 < ds.length := by omega
      have w3 : IntKind.u64.wrap (y : Int) = (y : Int) := wrapu64_id _ (by omega) (by omega)
      obtain ⟨Y, hY⟩ : ∃ Y, Y = W32 * y := ⟨_, rfl⟩
      have w4 : IntKind.u64.wrap ((y : Int) * 4294967296) = (Y : Int) := w64_nat (by rw [hY]; simp only [W32]; omega) (by rw [hY]; simp only [W32]; omega)
      have w5 : IntKind.u64.wrap ((x % 2 ^ IntKind.u64.bits ||| Y % 2 ^ IntKind.u64.bits : Nat) : Int) = (V : Int) := by
        rw [Nat.or_comm, w64_or (i := 32) (z := y) (by simpa using hxb) (by rw [hY]) (by rw [hY]; simp only [W32]; omega), hV, hY, Nat.add_comm]
      simp [iterK_succ, hil, gx, gy, w1, w2, w3, w4, w5, f0, f5, f10, g2, hl2, hlast, fd, fq, hset, -dg_getElem]
    · have hl2 : ¬ ((i : Int) + 1 < ds.length) := by omega
      have hy0 : y = 0 := by rw [hy, dgt_end (by omega)]
      have hVx : V = x := by rw [hV, hy0, Nat.mul_zero, Nat.add_zero]
      rw [hVx] at fd
      simp [iterK_succ, hil, gx, w1, w2, f0, f5, f10, g2, hl2, fd, fq, hset, -dg_getElem]

def spUnshifted : List AV → Option PRes
  | [.imm false 1 es, .int .i64 r] => match digOf (.imm false 1 es) with
    | some ds => if 0 ≤ r ∧ r < 32 then some { val := .tup [], objs := [{ sz := 1, ty := 88, es := dg (dpad ds.length (dv ds / 2 ^ r.toNat)), refs := [] }] } else none
    | none => none
  | _ => none

theorem unshifted_run : ∀ args r, spUnshifted args = some r → ∃ n, updF G ic n c102F 0 88 args = some r := by
  intro args r h
  unfold spUnshifted at h
  split at h
  case h_2 => cases h
  rename_i es r0
  split at h
  case h_2 => cases h
  rename_i ds hd
  obtain ⟨⟨hr0, hr1⟩, h1⟩ := of_ite h
  cases h1
  obtain ⟨nl, he, hw, hl⟩ := digOf_inv hd
  cases he
  obtain ⟨r, rfl⟩ : ∃ r : Nat, r0 = r := ⟨r0.toNat, by omega⟩
  obtain ⟨N, hN⟩ : ∃ N, N = ds.length + 1 := ⟨_, rfl⟩
  have e := unshifted_loop G ic N r (by omega) ds hw hl [] [] ds.length 0 N (by omega) (by omega)
  simp [c102_e0, c102_k0, dpad] at e
  refine ⟨N, ?_⟩
  simp only [Int.toNat_natCast]
  simp [updF, updO, runF, e, dpad_length]

theorem unshifted_at {G : Pure} (hS : G 102 = spUnshifted) {ds : List Nat} {r : Nat} (hw : Wf ds) (hl : ds.length < 100000000) (hr : r < 32) :
    G 102 [.imm false 1 (dg ds), .int .i64 r] = some { val := .tup [], objs := [{ sz := 1, ty := 88, es := dg (dpad ds.length (dv ds / 2 ^ r)), refs := [] }] } := by
  rw [hS]; simp only [spUnshifted, digOf_dg hw hl]; rw [if_pos ⟨by omega, by omega⟩]; simp

end
end Go.Proofs.Ythlpmghodgiknaa.C

/-
  The program's integers: the estimated digit, and the subtraction of its multiple.
-/
namespace Go.Proofs.Ythlpmghodgiknaa.C
open Go Go.Ev

section
variable (G : Pure) (ic : Inl) (n : Nat)

/-! ### digit -/

theorem digit_loop (T S h n1 t : Nat) (hT : 2147483648 ≤ T) (hTW : T < 4294967296) (hS : S < 4294967296) (hh : h ≤ T) (hn1 : n1 < 4294967296) (ht : t < 4294967296) : ∀ j q r m, Est 4294967296 T S h n1 t q r → r < 4294967296 → q ≤ 4294967297 → 4294967296 ≤ r + j * T → j < m →
    blockE (some c101_e0) 0 (iterK G ic n c101_k0 c101_b0Q m ⟨[(2, .int .u32 t), (9, .int .u64 T), (10, .int .u64 S), (12, .int .u64 q), (13, .int .u64 r)], [], [], [], []⟩) =
      some (.normal, ⟨[(12, .int .u64 (min (((h * 4294967296 + n1) * 4294967296 + t) / (T * 4294967296 + S)) (4294967296 - 1) : Nat))], [], [], [], []⟩) := by
  intro j
  induction j with
  | zero => intro q r m _ hr _ hj; omega
  | succ j ih =>
    intro q r m hE hr hq hj hm
    obtain ⟨m, rfl⟩ : ∃ i, m = i + 1 := ⟨m - 1, by omega⟩
    obtain ⟨A, hA⟩ : ∃ A, A = min (((h * 4294967296 + n1) * 4294967296 + t) / (T * 4294967296 + S)) (4294967296 - 1) := ⟨_, rfl⟩
    rw [← hA]
    simp only [← hA] at ih
    have hend : ∀ q r, Est 4294967296 T S h n1 t q r → q < 4294967296 → q * S ≤ r * 4294967296 + t → q = A := fun q r e h1 h2 => by
      rcases est_end (by omega) e h1 h2 with h3 | h3
      · rw [hA]; exact h3
      · omega
    obtain ⟨R, hR⟩ : ∃ R, R = r * 4294967296 := ⟨_, rfl⟩
    have hRb : R ≤ 4294967295 * 4294967296 := by rw [hR]; exact Nat.mul_le_mul_right _ (by omega)
    have w1 : IntKind.u64.wrap ((r : Int) * 4294967296) = (R : Int) := w64_nat (by rw [hR]; simp) (by omega)
    have w2 : IntKind.u64.wrap (t : Int) = (t : Int) := wrapu64_id _ (by omega) (by omega)
    have w3 := w64_or (a := t) (b := R) (i := 32) (z := r) (by simpa using ht) (by rw [hR, Nat.mul_comm]) (by omega)
    simp only [Int.natCast_add] at w3
    -- the next state
    have next : (4294967296 ≤ q ∨ r * 4294967296 + t < q * S) → blockE (some c101_e0) 0 (iterO G ic n c101_k0 c101_b0Q m
        (blockE none 1 (evalC G ic n (.seq (.reg [] c101_r5aQ []) (.seq (.reg [] c101_r6aQ []) (.seq (.reg [] c101_r7aQ []) (.cond (.t 59) (.exit 0) .skip)))) ⟨[(2, .int .u32 t), (9, .int .u64 T), (10, .int .u64 S), (12, .int .u64 q), (13, .int .u64 r)], [], [], [], []⟩))) =
        some (.normal, ⟨[(12, .int .u64 A)], [], [], [], []⟩) := by
      intro hc
      obtain ⟨e2, hq1⟩ := est_step (by omega) hE hc
      have f1 : IntKind.u64.wrap ((q : Int) - 1) = ((q - 1 : Nat) : Int) := w64_nat (by omega) (by omega)
      have f2 : IntKind.u64.wrap ((r : Int) + T) = ((r + T : Nat) : Int) := w64_nat (by omega) (by omega)
      obtain ⟨q', hq'⟩ : ∃ q', q' = q - 1 := ⟨_, rfl⟩
      obtain ⟨r', hr'⟩ : ∃ r', r' = r + T := ⟨_, rfl⟩
      rw [← hq'] at f1
      rw [← hr'] at f2
      rw [← hq', ← hr'] at e2
      by_cases hb : 4294967296 ≤ r'
      · have hqW : q' < 4294967296 := by
          rcases Nat.lt_or_ge q 4294967297 with lt | ge
          · omega
          · exfalso
            have h1 := hE.sum
            have h2 : 4294967297 * T ≤ q * T := Nat.mul_le_mul_right _ ge
            have h3 : h * 4294967296 ≤ T * 4294967296 := Nat.mul_le_mul_right _ hh
            omega
        have hA2 := hend q' r' e2 hqW (by
          have h1 : q' * S ≤ 4294967295 * 4294967295 := Nat.mul_le_mul (by omega) (by omega)
          omega)
        have hb2 : (4294967296 : Int) ≤ r' := by omega
        rw [← hA2]
        clear hA2 hend ih hA hE e2 hc hj
        simp [f1, f2]
        intro hlt
        omega
      · have hb2 : ¬ (4294967296 : Int) ≤ r' := by omega
        rw [Nat.add_mul, Nat.one_mul] at hj
        have e := ih q' r' m e2 (by omega) (by omega) (by omega) (by omega)
        rw [← e]
        simp [f1, f2]
        intro hlt
        omega
    by_cases hq2 : 4294967296 ≤ q
    · have e := next (.inl hq2)
      rw [← e]
      have hq3 : (4294967296 : Int) ≤ q := by omega
      simp [iterK_succ, hq3]
    · obtain ⟨M, hM⟩ : ∃ M, M = q * S := ⟨_, rfl⟩
      have hMb : M ≤ 4294967295 * 4294967295 := by rw [hM]; exact Nat.mul_le_mul (by omega) (by omega)
      have w4 : IntKind.u64.wrap ((q : Int) * S) = (M : Int) := w64_nat (by rw [hM]; simp) (by omega)
      have hq3 : ¬ (4294967296 : Int) ≤ q := by omega
      by_cases hc : r * 4294967296 + t < q * S
      · have e := next (.inr hc)
        rw [← e]
        have hc2 : (R : Int) + t < M := by omega
        simp [iterK_succ, hq3, w1, w2, w3, w4, hc2]
      · have hA2 := hend q r hE (by omega) (by omega)
        have hc2 : ¬ (R : Int) + t < M := by omega
        rw [← hA2]
        clear hA2 hA hend ih next
        simp [iterK_succ, hq3, w1, w2, w3, w4, hc2]

def spDigitP : List AV → Option PRes
  | [a, b, c, v] => match u32Of a, u32Of b, u32Of c, digOf v with
    | some h, some n1, some t, some vs =>
      if 2 ≤ vs.length ∧ 2147483648 ≤ dgt vs (vs.length - 1) ∧ h ≤ dgt vs (vs.length - 1) then
        some { val := .int .u64 (estD (dgt vs (vs.length - 1)) (dgt vs (vs.length - 2)) h n1 t : Nat) }
      else none
    | _, _, _, _ => none
  | _ => none

theorem digitP_run : FSpec (fun args n => pureF G ic n c101F args) spDigitP := by
  intro args r h
  unfold spDigitP at h
  split at h
  case h_2 => cases h
  rename_i a b c v
  split at h
  case h_2 => cases h
  rename_i hh n1 t vs ua ub uc hv
  obtain ⟨⟨hl2, hT, hhT⟩, h1⟩ := of_ite h
  cases h1
  obtain ⟨rfl, ba⟩ := u32Of_inv ua
  obtain ⟨rfl, bb⟩ := u32Of_inv ub
  obtain ⟨rfl, bc⟩ := u32Of_inv uc
  obtain ⟨nl, rfl, hw, hl⟩ := digOf_inv hv
  have hTW := dgt_lt hw (vs.length - 1)
  have hSW := dgt_lt hw (vs.length - 2)
  have gT := dg_get vs (vs.length - 1) (by omega)
  have gS := dg_get vs (vs.length - 2) (by omega)
  rw [← dgt_get] at gT gS
  obtain ⟨T, hTe⟩ : ∃ T, T = dgt vs (vs.length - 1) := ⟨_, rfl⟩
  obtain ⟨S, hSe⟩ : ∃ S, S = dgt vs (vs.length - 2) := ⟨_, rfl⟩
  rw [← hTe] at hT hhT hTW gT ⊢
  rw [← hSe] at hSW gS ⊢
  simp only [W32] at hTW hSW
  have hEst : estD T S hh n1 t = min (((hh * 4294967296 + n1) * 4294967296 + t) / (T * 4294967296 + S)) (4294967296 - 1) := rfl
  rw [hEst]
  obtain ⟨nn, hnn⟩ : ∃ nn, nn = hh * 4294967296 + n1 := ⟨_, rfl⟩
  have hE := est_start (W := 4294967296) (T := T) (S := S) (h := hh) (n := n1) (t := t) (by omega) bc
  have hr0 := Nat.mod_lt nn (show 0 < T by omega)
  obtain ⟨q, hq⟩ : ∃ q, q = nn / T := ⟨_, rfl⟩
  obtain ⟨r0, hr0e⟩ : ∃ r0, r0 = nn % T := ⟨_, rfl⟩
  rw [← hr0e] at hr0
  rw [← hnn, ← hq, ← hr0e] at hE
  have hqb : q ≤ 4294967297 := by
    have h1 := hE.sum
    rcases Nat.lt_or_ge q 4294967298 with lt | ge
    · omega
    · exfalso
      have h2 : 4294967298 * T ≤ q * T := Nat.mul_le_mul_right _ ge
      have h3 : hh * 4294967296 ≤ T * 4294967296 := Nat.mul_le_mul_right _ hhT
      omega
  obtain ⟨N, hN⟩ : ∃ N, N = 4 := ⟨_, rfl⟩
  have e := digit_loop G ic N T S hh n1 t hT hTW hSW hhT bb bc 2 q r0 N hE (by omega) hqb (by omega) (by omega)
  rw [← hnn] at e ⊢
  obtain ⟨A, hA⟩ : ∃ A, A = min ((nn * 4294967296 + t) / (T * 4294967296 + S)) (4294967296 - 1) := ⟨_, rfl⟩
  rw [← hA] at e ⊢
  simp [c101_e0, c101_k0] at e
  refine ⟨{ val := .int .u64 A }, ⟨N, ?_⟩, rfl, rfl⟩
  obtain ⟨H, hH⟩ : ∃ H, H = hh * 4294967296 := ⟨_, rfl⟩
  have hHb : H ≤ 4294967295 * 4294967296 := by rw [hH]; exact Nat.mul_le_mul_right _ (by omega)
  have w1 : IntKind.i64.wrap ((vs.length : Int) - 1) = (vs.length : Int) - 1 := wrap64_id _ (by omega) (by omega)
  have w2 : IntKind.i64.wrap ((vs.length : Int) - 2) = (vs.length : Int) - 2 := wrap64_id _ (by omega) (by omega)
  have t1 : ((vs.length : Int) - 1).toNat = vs.length - 1 := by omega
  have t2 : ((vs.length : Int) - 2).toNat = vs.length - 2 := by omega
  have p1 : (1 : Int) ≤ vs.length := by omega
  have p2 : (2 : Int) ≤ vs.length := by omega
  have p3 : (0 : Int) ≤ (vs.length : Int) - 1 := by omega
  have p4 : (0 : Int) ≤ (vs.length : Int) - 2 := by omega
  have w3 : IntKind.u64.wrap (T : Int) = (T : Int) := wrapu64_id _ (by omega) (by omega)
  have w4 : IntKind.u64.wrap (S : Int) = (S : Int) := wrapu64_id _ (by omega) (by omega)
  have w5 : IntKind.u64.wrap (hh : Int) = (hh : Int) := wrapu64_id _ (by omega) (by omega)
  have w6 : IntKind.u64.wrap (n1 : Int) = (n1 : Int) := wrapu64_id _ (by omega) (by omega)
  have w7 : IntKind.u64.wrap ((hh : Int) * 4294967296) = (H : Int) := w64_nat (by rw [hH]; simp) (by omega)
  have w8 := w64_or (a := n1) (b := H) (i := 32) (z := hh) (by simpa using bb) (by rw [hH, Nat.mul_comm]) (by omega)
  rw [hH, ← hnn, ← hH] at w8
  have hT0 : ¬ T = 0 := by omega
  have td : ((nn : Nat) : Int).tdiv T = (q : Int) := by rw [Int.tdiv_eq_ediv_of_nonneg (by omega), hq, Int.natCast_ediv]
  have tm : ((nn : Nat) : Int).tmod T = (r0 : Int) := by rw [Int.tmod_eq_emod_of_nonneg (by omega), hr0e, Int.natCast_emod]
  have w9 : IntKind.u64.wrap (q : Int) = (q : Int) := wrapu64_id _ (by omega) (by omega)
  have td2 : ((nn : Nat) : Int) / T = (q : Int) := by rw [hq, Int.natCast_ediv]
  simp [pureF, runF, w1, w2, t1, t2, p1, p2, p3, p4, gT, gS, w3, w4, w5, w6, w7, w8, hT0, td, tm, td2, w9, e, -dg_getElem]

end
end Go.Proofs.Ythlpmghodgiknaa.C

/-
  The program's integers: the subtraction of a multiple from a part of a row.
-/
namespace Go.Proofs.Ythlpmghodgiknaa.C
open Go Go.Ev

section
variable (G : Pure) (ic : Inl) (n : Nat)

theorem mid_get' (A R : List Nat) (y i : Nat) (h : A.length = i) : (dg (A ++ y :: R))[i]? = some [.int .u32 y] := by
  rw [dg, List.getElem?_map, ← h, mid_get]; rfl
theorem mid_set' (A R : List Nat) (y x i : Nat) (h : A.length = i) : (dg (A ++ y :: R)).set i [.int .u32 x] = dg (A ++ x :: R) := by rw [dg_set, ← h, set_mid]

theorem red_step {W p g q v u c b d c1 b' x y hi : Nat} (h : g + q * v = u + p * (c + b)) (hd : d + (q * x + c) + b = y + W * (hi + b')) : (g + p * d) + q * (v + p * x) = (u + p * y) + p * (W * (hi + b')) := by
  have e : p * (d + (q * x + c) + b) = p * (y + W * (hi + b')) := by rw [hd]
  simp only [Nat.mul_add] at e h ⊢
  rw [Nat.mul_left_comm q p x]
  omega

theorem reduce_loop1 (hS : G 104 = spSub32) (U v : List Nat) (at' q : Nat) (lv : Bool) (hU : Wf U) (hv : Wf v) (hq : q < 4294967296) (hat : at' + v.length < U.length) (hUl : U.length < 100000000) : ∀ d i g c b, i + d = v.length → g.length = i → Wf g → c < 4294967296 → b ≤ 1 →
    dv g + q * dv (v.take i) = dv ((U.drop at').take i) + W32 ^ i * (c + b) →
    ∃ (g' : List Nat) (c' b' : Nat), g'.length = v.length ∧ Wf g' ∧ c' < 4294967296 ∧ b' ≤ 1 ∧ dv g' + q * dv v = dv ((U.drop at').take v.length) + W32 ^ v.length * (c' + b') ∧ ∀ m, d < m →
      blockE (some c100_e0) 0 (iterK G ic n c100_k0 c100_b0Q m ⟨[(0, .sl 0 0 U.length), (1, .imm lv 1 (dg v)), (2, .int .i64 at'), (3, .int .u64 q), (9, .int .u64 c), (10, .int .u32 b), (16, .imm lv 1 (dg v)), (17, .int .i64 v.length), (18, .int .i64 i)],
        [(0, { sz := 1, ty := 88, es := dg (U.take at' ++ g ++ U.drop (at' + i)), refs := [] })], [], [], []⟩) =
        some (.normal, ⟨[(0, .sl 0 0 U.length), (1, .imm lv 1 (dg v)), (2, .int .i64 at'), (3, .int .u64 q), (9, .int .u64 c'), (10, .int .u32 b')], [(0, { sz := 1, ty := 88, es := dg (U.take at' ++ g' ++ U.drop (at' + v.length)), refs := [] })], [], [], []⟩) := by
  intro d
  induction d with
  | zero =>
    intro i g c b hi hg hw hc hb hinv
    have e : i = v.length := by omega
    subst e
    rw [List.take_length] at hinv
    refine ⟨g, c, b, hg, hw, hc, hb, hinv, fun m hm => ?_⟩
    obtain ⟨m, rfl⟩ : ∃ i, m = i + 1 := ⟨m - 1, by omega⟩
    simp [iterK_succ]
  | succ d ih =>
    intro i g c b hi hg hw hc hb hinv
    have hiv : i < v.length := by omega
    have hiU : at' + i < U.length := by omega
    have hX := wf_get hv hiv
    have hY := wf_get hU hiU
    simp only [W32] at hX hY
    obtain ⟨x, hx⟩ : ∃ x, x = v[i] := ⟨_, rfl⟩
    obtain ⟨y, hy⟩ : ∃ y, y = U[at' + i] := ⟨_, rfl⟩
    rw [← hx] at hX
    rw [← hy] at hY
    obtain ⟨M, hM⟩ : ∃ M, M = q * x := ⟨_, rfl⟩
    have hMb : M ≤ 4294967295 * 4294967295 := by rw [hM]; exact Nat.mul_le_mul (by omega) (by omega)
    obtain ⟨t, ht⟩ : ∃ t, t = c + M := ⟨_, rfl⟩
    obtain ⟨lo, hlo⟩ : ∃ lo, lo = t % 4294967296 := ⟨_, rfl⟩
    obtain ⟨hi', hhi⟩ : ∃ hi', hi' = t / 4294967296 := ⟨_, rfl⟩
    obtain ⟨dd, hdd⟩ : ∃ dd, dd = (y + 4294967296 - lo - b) % 4294967296 := ⟨_, rfl⟩
    obtain ⟨b', hb'⟩ : ∃ b', b' = if y < lo + b then 1 else 0 := ⟨_, rfl⟩
    have hb1 : b' ≤ 1 := by rw [hb']; split <;> omega
    have hsub : dd + lo + b = y + 4294967296 * b' := by rw [hb']; split <;> omega
    have hcall := sub32_at hS hY (show lo < 4294967296 by omega) hb hdd hb'
    have hstep : dd + (q * x + c) + b = y + W32 * (hi' + b') := by rw [← hM]; simp only [W32]; omega
    obtain ⟨g', c', b2, r1, r2, r3, r4, r5, r6⟩ := ih (i + 1) (g ++ [dd]) hi' b' (by omega) (by simp [hg]) (wf_append.2 ⟨hw, wf_cons.2 ⟨by simp only [W32]; omega, wf_nil⟩⟩) (by omega) hb1 (by
      rw [dv_append, hg, dv_take_succ hiv, ← hx]
      have hdt : dv ((U.drop at').take (i + 1)) = dv ((U.drop at').take i) + W32 ^ i * y := by
        rw [dv_take_succ (by rw [List.length_drop]; omega), List.getElem_drop, ← hy]
      rw [hdt, Nat.pow_succ, Nat.mul_assoc]
      simp only [dv, Nat.mul_zero, Nat.add_zero]
      exact red_step (c1 := 0) hinv hstep)
    refine ⟨g', c', b2, r1, r2, r3, r4, r5, fun m hm => ?_⟩
    obtain ⟨m, rfl⟩ : ∃ i, m = i + 1 := ⟨m - 1, by omega⟩
    rw [← r6 m (by omega)]
    obtain ⟨R, hR⟩ : ∃ R, R = U.drop (at' + i + 1) := ⟨_, rfl⟩
    have hdrop : U.drop (at' + i) = y :: R := by rw [drop_cons hiU, hR, hy]
    have hAl : (U.take at' ++ g).length = at' + i := by rw [List.length_append, List.length_take]; omega
    have e2 : U.take at' ++ (g ++ [dd]) ++ U.drop (at' + (i + 1)) = (U.take at' ++ g) ++ dd :: R := by rw [hR]; simp [Nat.add_assoc]
    rw [e2, hdrop]
    obtain ⟨A, hA⟩ : ∃ A, A = U.take at' ++ g := ⟨_, rfl⟩
    rw [← hA] at hAl ⊢
    have gy := mid_get' A R y (at' + i) hAl
    have hset := mid_set' A R y dd (at' + i) hAl
    have gx := dg_get v i hiv
    rw [← hx] at gx
    have w1 : IntKind.u64.wrap (x : Int) = (x : Int) := wrapu64_id _ (by omega) (by omega)
    have w2 : IntKind.u64.wrap ((q : Int) * x) = (M : Int) := w64_nat (by rw [hM]; simp) (by omega)
    have w3 : IntKind.u64.wrap ((c : Int) + M) = (t : Int) := w64_nat (by omega) (by omega)
    have w4 : IntKind.u32.wrap (t : Int) = (lo : Int) := w32_nat hlo
    have w5 : (t : Int).fdiv 4294967296 = (hi' : Int) := fdiv_nat hhi
    have w6 : IntKind.i64.wrap ((at' : Int) + i) = (at' : Int) + i := wrap64_id _ (by omega) (by omega)
    have w6' : ((at' : Int) + i).toNat = at' + i := by omega
    have w7 : IntKind.i64.wrap ((i : Int) + 1) = (i : Int) + 1 := wrap64_id _ (by omega) (by omega)
    have w8 : IntKind.u64.wrap (hi' : Int) = (hi' : Int) := wrapu64_id _ (by omega) (by omega)
    have p1 : 0 ≤ (at' : Int) + i := by omega
    have p2 : (at' : Int) + i < U.length := by omega
    simp [iterK_succ, hiv, gx, w1, w2, w3, w4, w5, w6, w6', w7, w8, p1, p2, gy, hcall, hset, ← hx]

theorem reduce_loop2 (hA : G 103 = spAdd32) (U v : List Nat) (at' : Nat) (v3 : AV) (lv : Bool) (hU : Wf U) (hv : Wf v) (hat : at' + v.length < U.length) (hUl : U.length < 100000000) : ∀ d i g c, i + d = v.length → g.length = i → Wf g → c ≤ 1 →
    dv g + W32 ^ i * c = dv ((U.drop at').take i) + dv (v.take i) →
    ∃ (g' : List Nat) (c' : Nat), g'.length = v.length ∧ Wf g' ∧ c' ≤ 1 ∧ dv g' + W32 ^ v.length * c' = dv ((U.drop at').take v.length) + dv v ∧ ∀ m, d < m →
      blockE (some c100_e1) 2 (iterK G ic n c100_k1 c100_b1Q m ⟨[(0, .sl 0 0 U.length), (1, .imm lv 1 (dg v)), (2, .int .i64 at'), (3, v3), (13, .int .u32 c), (74, .imm lv 1 (dg v)), (75, .int .i64 v.length), (76, .int .i64 i)],
        [(0, { sz := 1, ty := 88, es := dg (U.take at' ++ g ++ U.drop (at' + i)), refs := [] })], [], [], []⟩) =
        some (.normal, ⟨[(0, .sl 0 0 U.length), (1, .imm lv 1 (dg v)), (2, .int .i64 at'), (3, v3), (13, .int .u32 c')], [(0, { sz := 1, ty := 88, es := dg (U.take at' ++ g' ++ U.drop (at' + v.length)), refs := [] })], [], [], []⟩) := by
  intro d
  induction d with
  | zero =>
    intro i g c hi hg hw hc hinv
    have e : i = v.length := by omega
    subst e
    rw [List.take_length] at hinv
    refine ⟨g, c, hg, hw, hc, hinv, fun m hm => ?_⟩
    obtain ⟨m, rfl⟩ : ∃ i, m = i + 1 := ⟨m - 1, by omega⟩
    simp [iterK_succ]
  | succ d ih =>
    intro i g c hi hg hw hc hinv
    have hiv : i < v.length := by omega
    have hiU : at' + i < U.length := by omega
    have hX := wf_get hv hiv
    have hY := wf_get hU hiU
    simp only [W32] at hX hY
    obtain ⟨x, hx⟩ : ∃ x, x = v[i] := ⟨_, rfl⟩
    obtain ⟨y, hy⟩ : ∃ y, y = U[at' + i] := ⟨_, rfl⟩
    rw [← hx] at hX
    rw [← hy] at hY
    obtain ⟨q, hq⟩ : ∃ q, q = (y + x + c) % 4294967296 := ⟨_, rfl⟩
    obtain ⟨e, he⟩ : ∃ e, e = (y + x + c) / 4294967296 := ⟨_, rfl⟩
    have hcall := add32_at hA hY hX (by omega) hq he
    have hqe : q + W32 * e = c + y + x := by simp only [W32]; omega
    obtain ⟨g', c', r1, r2, r3, r4, r5⟩ := ih (i + 1) (g ++ [q]) e (by omega) (by simp [hg]) (wf_append.2 ⟨hw, wf_cons.2 ⟨by simp only [W32]; omega, wf_nil⟩⟩) (by omega) (by
      rw [dv_append, hg, dv_take_succ hiv, ← hx]
      have hdt : dv ((U.drop at').take (i + 1)) = dv ((U.drop at').take i) + W32 ^ i * y := by
        rw [dv_take_succ (by rw [List.length_drop]; omega), List.getElem_drop, ← hy]
      rw [hdt, Nat.pow_succ, Nat.mul_assoc]
      simp only [dv, Nat.mul_zero, Nat.add_zero]
      have e2 : W32 ^ i * q + W32 ^ i * (W32 * e) = W32 ^ i * (c + y + x) := by rw [← Nat.mul_add, hqe]
      rw [Nat.mul_add, Nat.mul_add] at e2
      omega)
    refine ⟨g', c', r1, r2, r3, r4, fun m hm => ?_⟩
    obtain ⟨m, rfl⟩ : ∃ i, m = i + 1 := ⟨m - 1, by omega⟩
    rw [← r5 m (by omega)]
    obtain ⟨R, hR⟩ : ∃ R, R = U.drop (at' + i + 1) := ⟨_, rfl⟩
    have hdrop : U.drop (at' + i) = y :: R := by rw [drop_cons hiU, hR, hy]
    have hAl : (U.take at' ++ g).length = at' + i := by rw [List.length_append, List.length_take]; omega
    have e2 : U.take at' ++ (g ++ [q]) ++ U.drop (at' + (i + 1)) = (U.take at' ++ g) ++ q :: R := by rw [hR]; simp [Nat.add_assoc]
    rw [e2, hdrop]
    obtain ⟨A, hA⟩ : ∃ A, A = U.take at' ++ g := ⟨_, rfl⟩
    rw [← hA] at hAl ⊢
    have gy := mid_get' A R y (at' + i) hAl
    have hset := mid_set' A R y q (at' + i) hAl
    have gx := dg_get v i hiv
    rw [← hx] at gx
    have w6 : IntKind.i64.wrap ((at' : Int) + i) = (at' : Int) + i := wrap64_id _ (by omega) (by omega)
    have w6' : ((at' : Int) + i).toNat = at' + i := by omega
    have w7 : IntKind.i64.wrap ((i : Int) + 1) = (i : Int) + 1 := wrap64_id _ (by omega) (by omega)
    have p1 : 0 ≤ (at' : Int) + i := by omega
    have p2 : (at' : Int) + i < U.length := by omega
    simp [iterK_succ, hiv, gx, w6, w6', w7, p1, p2, gy, hcall, hset, ← hx]

/-- The part of the row, and what becomes of it. -/
def spReduceP : List AV → Option PRes
  | [.imm false 1 es, v, .int .i64 a, .int .u64 q] => match digOf (.imm false 1 es), digOf v with
    | some U, some v =>
      if 0 ≤ a ∧ a.toNat + v.length < U.length ∧ 0 ≤ q ∧ q < 4294967296 ∧ (q.toNat * dv v ≤ dv ((U.drop a.toNat).take (v.length + 1)) ∨ (1 ≤ q.toNat ∧ (q.toNat - 1) * dv v ≤ dv ((U.drop a.toNat).take (v.length + 1)))) then
        let q' := if q.toNat * dv v ≤ dv ((U.drop a.toNat).take (v.length + 1)) then q.toNat else q.toNat - 1
        some { val := .int .u32 (q' : Nat), objs := [{ sz := 1, ty := 88, es := dg (U.take a.toNat ++ dpad (v.length + 1) (dv ((U.drop a.toNat).take (v.length + 1)) - q' * dv v) ++ U.drop (a.toNat + (v.length + 1))), refs := [] }] }
      else none
    | _, _ => none
  | _ => none

theorem reduceP_run (hS : G 104 = spSub32) (hA : G 103 = spAdd32) : ∀ args r, spReduceP args = some r → ∃ n, updF G ic n c100F 0 88 args = some r := by
  intro args r h
  unfold spReduceP at h
  split at h
  case h_2 => cases h
  rename_i es va a0 q0
  split at h
  case h_2 => cases h
  rename_i U v hd hdv
  obtain ⟨⟨ha0, hat, hq0, hq1, hcond⟩, h1⟩ := of_ite h
  obtain ⟨nl, he, hU, hUl⟩ := digOf_inv hd
  cases he
  obtain ⟨lv, rfl, hv, hvl⟩ := digOf_inv hdv
  obtain ⟨a, rfl⟩ : ∃ a : Nat, a0 = a := ⟨a0.toNat, by omega⟩
  obtain ⟨q, rfl⟩ : ∃ q : Nat, q0 = q := ⟨q0.toNat, by omega⟩
  simp only [Int.toNat_natCast] at hat hcond h1
  obtain ⟨m, hm⟩ : ∃ m, m = v.length := ⟨_, rfl⟩
  obtain ⟨N, hN⟩ : ∃ N, N = dv ((U.drop a).take (v.length + 1)) := ⟨_, rfl⟩
  rw [← hN] at hcond h1
  obtain ⟨V, hV⟩ : ∃ V, V = dv v := ⟨_, rfl⟩
  rw [← hV] at hcond h1
  obtain ⟨M, hM⟩ : ∃ M, M = v.length + 1 := ⟨_, rfl⟩
  obtain ⟨g, c, b, r1, r2, r3, r4, r5, r6⟩ := reduce_loop1 G ic M hS U v a q lv hU hv (by omega) hat hUl v.length 0 [] 0 0 (by omega) rfl wf_nil (by omega) (by omega) (by simp [dv])
  have e := r6 M (by omega)
  -- the last digit
  have hiU : a + v.length < U.length := hat
  obtain ⟨y, hy⟩ : ∃ y, y = U[a + v.length] := ⟨_, rfl⟩
  have hY := wf_get hU hiU
  rw [← hy] at hY
  simp only [W32] at hY
  obtain ⟨d, hd'⟩ : ∃ d, d = (y + 4294967296 - c - b) % 4294967296 := ⟨_, rfl⟩
  obtain ⟨b', hb'⟩ : ∃ b', b' = if y < c + b then 1 else 0 := ⟨_, rfl⟩
  have hcall := sub32_at hS hY r3 r4 hd' hb'
  have hb1 : b' ≤ 1 := by rw [hb']; split <;> omega
  have hsub : d + c + b = y + 4294967296 * b' := by rw [hb']; split <;> omega
  obtain ⟨R, hR⟩ : ∃ R, R = U.drop (a + v.length + 1) := ⟨_, rfl⟩
  have hdrop : U.drop (a + v.length) = y :: R := by rw [drop_cons hiU, hR, hy]
  have hAl : (U.take a ++ g).length = a + v.length := by rw [List.length_append, List.length_take]; omega
  obtain ⟨A, hAe⟩ : ∃ A, A = U.take a ++ g := ⟨_, rfl⟩
  rw [← hAe] at hAl
  have gy := mid_get' A R y (a + v.length) hAl
  have hset := mid_set' A R y d (a + v.length) hAl
  rw [hdrop, ← hAe] at e
  simp [c100_e0, c100_k0, -List.append_assoc] at e
  obtain ⟨Z, hZ⟩ : ∃ Z, Z = g ++ [d] := ⟨_, rfl⟩
  have hZw : Wf Z := by rw [hZ]; exact wf_append.2 ⟨r2, wf_cons.2 ⟨by simp only [W32]; omega, wf_nil⟩⟩
  have hZl : Z.length = v.length + 1 := by rw [hZ]; simp [r1]
  have hNe : N = dv ((U.drop a).take v.length) + W32 ^ v.length * y := by
    rw [hN, dv_take_succ (by rw [List.length_drop]; omega), List.getElem_drop, ← hy]
  have hZv : dv Z + q * V = N + W32 ^ (v.length + 1) * b' := by
    rw [hZ, dv_append, r1, hNe, hV]
    simp only [dv, Nat.mul_zero, Nat.add_zero]
    have e2 : W32 ^ v.length * (d + c + b) = W32 ^ v.length * (y + W32 * b') := by rw [hsub]
    rw [Nat.pow_succ, Nat.mul_assoc]
    simp only [Nat.mul_add] at e2 r5
    omega
  have w1 : IntKind.u32.wrap (c : Int) = (c : Int) := wrapu32_id _ (by omega) (by omega)
  have w6 : IntKind.i64.wrap ((a : Int) + v.length) = (a : Int) + v.length := wrap64_id _ (by omega) (by omega)
  have w6' : ((a : Int) + v.length).toNat = a + v.length := by omega
  have p1 : 0 ≤ (a : Int) + v.length := by omega
  have p2 : (a : Int) + v.length < U.length := by omega
  have e3 : A ++ d :: R = U.take a ++ Z ++ U.drop (a + (v.length + 1)) := by rw [hZ, hR, hAe]; simp [Nat.add_assoc]
  rw [e3] at hset
  refine ⟨M, ?_⟩
  have hZlt := dv_lt hZw
  rw [hZl] at hZlt
  by_cases hle : q * V ≤ N
  · rw [if_pos hle] at h1
    have hb0 : b' = 0 := borrow_zero hZlt hle hZv
    rw [hb0, Nat.mul_zero, Nat.add_zero] at hZv
    have hZp : Z = dpad (v.length + 1) (N - q * V) := dpad_of hZw hZl (by omega)
    rw [← hZp] at h1
    cases h1
    have w2 : IntKind.u32.wrap (q : Int) = (q : Int) := wrapu32_id _ (by omega) (by omega)
    rw [hb0] at hcall
    simp only [Int.natCast_zero] at hcall
    obtain ⟨X, hX⟩ : ∃ X, X = U.take a ++ Z ++ U.drop (a + (v.length + 1)) := ⟨_, rfl⟩
    have hXl : X.length = U.length := by rw [hX]; simp [hZl]; omega
    rw [← hX] at hset ⊢
    simp [updF, updO, runF, e, w1, w6, w6', p1, p2, gy, hcall, hset, w2, hXl, -dg_getElem]
  · rw [if_neg hle] at h1
    have hq1' : 1 ≤ q ∧ (q - 1) * V ≤ N := by
      rcases hcond with h | h
      · exact absurd h hle
      · exact h
    have hbe : b' = 1 := by
      rcases Nat.eq_zero_or_pos b' with h0 | h0
      · rw [h0, Nat.mul_zero, Nat.add_zero] at hZv; omega
      · omega
    rw [hbe, Nat.mul_one] at hZv
    obtain ⟨U2, hU2⟩ : ∃ U2, U2 = U.take a ++ Z ++ U.drop (a + (v.length + 1)) := ⟨_, rfl⟩
    have hU2w : Wf U2 := by rw [hU2]; exact wf_append.2 ⟨wf_append.2 ⟨wf_take hU _, hZw⟩, wf_drop hU _⟩
    have hU2l : U2.length = U.length := by rw [hU2]; simp [hZl]; omega
    have htl : (U.take a).length = a := by rw [List.length_take]; omega
    have hU2t : U2.take a = U.take a := by
      rw [hU2, List.append_assoc, List.take_append_of_le_length (by omega), List.take_of_length_le (by omega)]
    have hU2d : U2.drop a = Z ++ U.drop (a + (v.length + 1)) := by
      rw [hU2, List.append_assoc, List.drop_append, List.drop_of_length_le (by omega), htl, Nat.sub_self, List.drop_zero, List.nil_append]
    obtain ⟨g2, c2, s1, s2, s3, s4, s5⟩ := reduce_loop2 G ic M hA U2 v a (.int .u64 q) lv hU2w hv (by omega) (by omega) v.length 0 [] 0 (by omega) rfl wf_nil (by omega) (by simp [dv])
    have e4 := s5 M (by omega)
    rw [hU2l] at e4
    have hzi : a + v.length < U2.length := by omega
    obtain ⟨z, hz⟩ : ∃ z, z = U2[a + v.length] := ⟨_, rfl⟩
    have hzw := wf_get hU2w hzi
    rw [← hz] at hzw
    simp only [W32] at hzw
    obtain ⟨R2, hR2⟩ : ∃ R2, R2 = U2.drop (a + v.length + 1) := ⟨_, rfl⟩
    have hdrop2 : U2.drop (a + v.length) = z :: R2 := by rw [drop_cons hzi, hR2, hz]
    have hAl2 : (U.take a ++ g2).length = a + v.length := by rw [List.length_append, htl]; omega
    obtain ⟨A2, hA2⟩ : ∃ A2, A2 = U.take a ++ g2 := ⟨_, rfl⟩
    have hsame : U2.take a ++ [] ++ U2.drop (a + 0) = U2 := by simp
    rw [hdrop2, hU2t, ← hA2, ← hU2t, hsame] at e4
    rw [← hA2] at hAl2
    simp [c100_e1, c100_k1, -List.append_assoc] at e4
    have gz := mid_get' A2 R2 z (a + v.length) hAl2
    obtain ⟨d2, hd2⟩ : ∃ d2, d2 = (z + c2) % 4294967296 := ⟨_, rfl⟩
    have hset2 := mid_set' A2 R2 z d2 (a + v.length) hAl2
    have hZe : dv Z = dv ((U2.drop a).take v.length) + W32 ^ v.length * z := by
      have h5 : (U2.drop a).take (v.length + 1) = Z := by rw [hU2d, List.take_append_of_le_length (by omega), List.take_of_length_le (by omega)]
      have h6 : v.length < (U2.drop a).length := by rw [List.length_drop]; omega
      have := dv_take_succ h6
      rw [h5, List.getElem_drop, ← hz] at this
      exact this
    obtain ⟨T, hT⟩ : ∃ T, T = g2 ++ [d2] := ⟨_, rfl⟩
    have hTw : Wf T := by rw [hT]; exact wf_append.2 ⟨s2, wf_cons.2 ⟨by simp only [W32]; omega, wf_nil⟩⟩
    have hTl : T.length = v.length + 1 := by rw [hT]; simp [s1]
    have hTv : ∃ k, dv T + W32 ^ (v.length + 1) * k = dv Z + V := by
      refine ⟨(z + c2) / 4294967296, ?_⟩
      rw [hT, dv_append, s1, hZe, hV]
      simp only [dv, Nat.mul_zero, Nat.add_zero]
      rw [Nat.pow_succ, Nat.mul_assoc]
      have e5 : d2 + W32 * ((z + c2) / 4294967296) = z + c2 := by simp only [W32]; omega
      have e6 : W32 ^ v.length * (d2 + W32 * ((z + c2) / 4294967296)) = W32 ^ v.length * (z + c2) := by rw [e5]
      simp only [Nat.mul_add] at e6
      omega
    have hTlt := dv_lt hTw
    rw [hTl] at hTlt
    obtain ⟨k, hk⟩ := hTv
    obtain ⟨q1, hq1e⟩ : ∃ q1, q = q1 + 1 := ⟨q - 1, by omega⟩
    have hmul : q * V = q1 * V + V := by rw [hq1e, Nat.add_mul, Nat.one_mul]
    have hq1s : q - 1 = q1 := by omega
    rw [hq1s] at hq1' h1
    have hTval : dv T = N - q1 * V := by
      -- dv Z + q V = N + W^(m+1), so dv Z + V = W^(m+1) + (N - (q-1) V)
      obtain ⟨P, hP⟩ : ∃ P, P = W32 ^ (v.length + 1) := ⟨_, rfl⟩
      have hVP : V < P := by
        have h1 := dv_lt hv
        have h2 : W32 ^ v.length ≤ W32 ^ (v.length + 1) := Nat.pow_le_pow_right (by decide) (by omega)
        omega
      rw [← hP] at hZv hk hTlt hZlt
      have hNlt : N - q1 * V < P := by omega
      have h7 : dv Z + V = P + (N - q1 * V) := by omega
      rw [h7] at hk
      have hk1 : k = 1 := by
        rcases Nat.lt_trichotomy k 1 with h | h | h
        · have : k = 0 := by omega
          subst this; rw [Nat.mul_zero] at hk; omega
        · exact h
        · have : P * 2 ≤ P * k := Nat.mul_le_mul_left _ h
          omega
      rw [hk1, Nat.mul_one] at hk
      omega
    have hTp : T = dpad (v.length + 1) (N - q1 * V) := dpad_of hTw hTl hTval
    have hR2e : R2 = U.drop (a + (v.length + 1)) := by
      rw [hR2, Nat.add_assoc, ← List.drop_drop, hU2d, List.drop_append, List.drop_of_length_le (by omega), hZl, Nat.sub_self, List.drop_zero, List.nil_append]
    have e7 : A2 ++ d2 :: R2 = U.take a ++ T ++ U.drop (a + (v.length + 1)) := by rw [hT, hR2e, hA2]; simp
    rw [e7] at hset2
    rw [← hTp] at h1
    cases h1
    have w2 : IntKind.u64.wrap ((q : Int) - 1) = (q1 : Int) := w64_nat (by omega) (by omega)
    have w3 : IntKind.u32.wrap (q1 : Int) = (q1 : Int) := wrapu32_id _ (by omega) (by omega)
    have w4 : IntKind.u32.wrap ((z : Int) + c2) = (d2 : Int) := by rw [wrapu32]; omega
    rw [hbe] at hcall
    simp only [Int.natCast_one] at hcall
    rw [← hU2] at hset
    obtain ⟨X, hX⟩ : ∃ X, X = U.take a ++ T ++ U.drop (a + (v.length + 1)) := ⟨_, rfl⟩
    have hXl : X.length = U.length := by rw [hX]; simp [hTl]; omega
    rw [← hX] at hset2 ⊢
    clear hU2 hU2d hX hR2 hdrop2
    simp [updF, updO, runF, e, w1, w6, w6', p1, p2, gy, hcall, hset, e4, gz, w4, hset2, w2, w3, hXl, -dg_getElem]

end
end Go.Proofs.Ythlpmghodgiknaa.C

/-
  The program's integers: division of digits.
-/
namespace Go.Proofs.Ythlpmghodgiknaa.C
open Go Go.Ev

section
variable (G : Pure) (ic : Inl) (n : Nat)

/-! ### LeadingZeros32 -/

def spLZ : List AV → Option PRes := sp1 u32Of fun x => some (.int .i64 (32 - (bl x : Int)))

theorem lz_run (hL : G 105 = spLen32) : FSpec (fun args n => pureF G ic n c98F args) spLZ := by
  intro args r h
  obtain ⟨a, x, v, rfl, hx, hv, rfl⟩ := sp1_inv h
  cases hv
  have t : G 105 [a] = some { val := .int .i64 (bl x : Nat) } := by rw [hL]; simp [spLen32, hx]
  obtain ⟨rfl, hb⟩ := u32Of_inv hx
  have hbl := bl_digit (d := x) (by simpa [W32] using hb)
  have w : IntKind.i64.wrap (32 - (bl x : Int)) = 32 - (bl x : Int) := wrap64_id _ (by omega) (by omega)
  refine ⟨{ val := .int .i64 (32 - (bl x : Int)) }, ⟨0, ?_⟩, rfl, rfl⟩
  simp [pureF, runF, t, w]

/-! ### divide -/

theorem digitP_at {G : Pure} (hD : G 101 = spDigitP) {h n1 t T S : Nat} {lv : Bool} {vs : List Nat} (hh : h < 4294967296) (hn1 : n1 < 4294967296) (ht : t < 4294967296) (hw : Wf vs) (hl : vs.length < 100000000) (h2 : 2 ≤ vs.length)
    (hT : dgt vs (vs.length - 1) = T) (hS : dgt vs (vs.length - 2) = S) (hT2 : 2147483648 ≤ T) (hhT : h ≤ T) :
    G 101 [.int .u32 h, .int .u32 n1, .int .u32 t, .imm lv 1 (dg vs)] = some { val := .int .u64 (estD T S h n1 t : Nat) } := by
  subst hT
  subst hS
  have e1 := u32Of_mk hh
  have e2 := u32Of_mk hn1
  have e3 := u32Of_mk ht
  have e4 := digOf_dg (nl := lv) hw hl
  obtain ⟨a1, ha1⟩ : ∃ a1, a1 = AV.int .u32 (h : Int) := ⟨_, rfl⟩
  obtain ⟨a2, ha2⟩ : ∃ a2, a2 = AV.int .u32 (n1 : Int) := ⟨_, rfl⟩
  obtain ⟨a3, ha3⟩ : ∃ a3, a3 = AV.int .u32 (t : Int) := ⟨_, rfl⟩
  obtain ⟨a4, ha4⟩ : ∃ a4, a4 = AV.imm lv 1 (dg vs) := ⟨_, rfl⟩
  rw [← ha1] at e1 ⊢
  rw [← ha2] at e2 ⊢
  rw [← ha3] at e3 ⊢
  rw [← ha4] at e4 ⊢
  rw [hD]
  clear ha1 ha2 ha3 ha4
  simp only [spDigitP, e1, e2, e3, e4]
  rw [if_pos ⟨h2, hT2, hhT⟩]

theorem reduceP_at {G : Pure} (hR : G 100 = spReduceP) {U v : List Nat} {lv : Bool} {a q N q' : Nat} (hU : Wf U) (hv : Wf v) (lU : U.length < 100000000) (lvv : v.length < 100000000) (hat : a + v.length < U.length) (hq : q < 4294967296)
    (hN : dv ((U.drop a).take (v.length + 1)) = N) (hc : (q * dv v ≤ N ∧ q' = q) ∨ (1 ≤ q ∧ (q - 1) * dv v ≤ N ∧ N < q * dv v ∧ q' = q - 1)) :
    G 100 [.imm false 1 (dg U), .imm lv 1 (dg v), .int .i64 a, .int .u64 q] =
      some { val := .int .u32 q', objs := [{ sz := 1, ty := 88, es := dg (U.take a ++ dpad (v.length + 1) (N - q' * dv v) ++ U.drop (a + (v.length + 1))), refs := [] }] } := by
  rw [hR]
  simp only [spReduceP, digOf_dg hU lU, digOf_dg hv lvv, Int.toNat_natCast, hN]
  rw [if_pos ⟨by omega, hat, by omega, by omega, by
    rcases hc with hc | hc
    · exact .inl hc.1
    · exact .inr ⟨hc.1, hc.2.1⟩⟩]
  rcases hc with ⟨h1, rfl⟩ | ⟨h1, h2, h3, rfl⟩
  · rw [if_pos h1]
  · rw [if_neg (by omega)]

theorem divide_loop (hD : G 101 = spDigitP) (hR : G 100 = spReduceP) (v1 v8 : AV) (vs ve : List Nat) (mm V L nq A0 : Nat) (own : List Nat) (hvs : Wf vs) (hm : vs.length = mm + 2) (hml : mm < 50000000) (hve : ve.take (mm + 2) = vs) (hvel : mm + 2 ≤ ve.length) (hV : dv vs = V) (hT : 2147483648 ≤ dgt vs (mm + 1)) (hL : L < 100000000) (hnq : nq + (mm + 2) = L) :
    ∀ k m U Q F, 1472672 ∉ F → 1472880 ∉ F → Wf U → U.length = L → Wf Q → Q.length = nq → k ≤ nq → dv (U.drop k) < V → (∀ j, j < k → dgt Q j = 0) → dv U + V * dv Q = A0 → k < m →
    ∃ (U' Q' F' : List Nat), 1472672 ∉ F' ∧ 1472880 ∉ F' ∧ Wf U' ∧ U'.length = L ∧ Wf Q' ∧ Q'.length = nq ∧ dv U' < V ∧ dv U' + V * dv Q' = A0 ∧
      blockE (some c92_e0) 0 (iterK G ic n c92_k0 c92_b0Q m ⟨[(1, v1), (8, v8), (9, .sl 1472672 0 L), (10, .sl 1472720 0 (mm + 2)), (11, .sl 1472880 0 nq), (12, .int .i64 ((k : Int) - 1))],
        [(1472672, { sz := 1, ty := 88, es := dg U, refs := [] }), (1472720, { sz := 1, ty := 88, es := dg ve, refs := [] }), (1472880, { sz := 1, ty := 88, es := dg Q, refs := [] })], F, own, []⟩) =
        some (.normal, ⟨[(1, v1), (8, v8), (9, .sl 1472672 0 L), (11, .sl 1472880 0 nq)],
          [(1472672, { sz := 1, ty := 88, es := dg U', refs := [] }), (1472720, { sz := 1, ty := 88, es := dg ve, refs := [] }), (1472880, { sz := 1, ty := 88, es := dg Q', refs := [] })], F', own, []⟩) := by
  intro k
  induction k with
  | zero =>
    intro m U Q F f1 f2 hU hUl hQ hQl hk hinv hz hsum hm'
    obtain ⟨m, rfl⟩ : ∃ i, m = i + 1 := ⟨m - 1, by omega⟩
    refine ⟨U, Q, F, f1, f2, hU, hUl, hQ, hQl, by simpa using hinv, hsum, ?_⟩
    simp [iterK_succ]
  | succ k ih =>
    intro m U Q F f1 f2 hU hUl hQ hQl hk hinv hz hsum hm'
    obtain ⟨m, rfl⟩ : ∃ i, m = i + 1 := ⟨m - 1, by omega⟩
    have hkU : k + (mm + 2) < U.length := by omega
    obtain ⟨N, q', p1, p2, p3, p4, p5, p6, p7, p8⟩ := long_step hU hvs hm hV hT hkU hinv (show k < Q.length by omega) (hz k (by omega))
    obtain ⟨h, hhe⟩ : ∃ h, h = dgt U (k + (mm + 2)) := ⟨_, rfl⟩
    obtain ⟨n1, hn1e⟩ : ∃ n1, n1 = dgt U (k + (mm + 1)) := ⟨_, rfl⟩
    obtain ⟨t, hte⟩ : ∃ t, t = dgt U (k + mm) := ⟨_, rfl⟩
    have bh := dgt_lt hU (k + (mm + 2))
    have bn := dgt_lt hU (k + (mm + 1))
    have bt := dgt_lt hU (k + mm)
    rw [← hhe] at bh p1 p3
    rw [← hn1e] at bn p3
    rw [← hte] at bt p3
    have td := digitP_at hD (lv := false) bh bn bt hvs (by omega) (by omega) (show dgt vs (vs.length - 1) = dgt vs (mm + 1) by congr 1; omega) (show dgt vs (vs.length - 2) = dgt vs mm by congr 1; omega) hT p1
    have hq4 := estD_lt (dgt vs (mm + 1)) (dgt vs mm) h n1 t
    obtain ⟨q, hq⟩ : ∃ q, q = estD (dgt vs (mm + 1)) (dgt vs mm) h n1 t := ⟨_, rfl⟩
    rw [← hq] at td hq4 p3
    have tr := reduceP_at hR (lv := false) (N := N) (q' := q') hU hvs (by omega) (by omega) (show k + vs.length < U.length by omega) hq4 (by rw [hm]; exact p2) (by rw [hV]; exact p3)
    rw [hm, hV] at tr
    obtain ⟨U2, hU2⟩ : ∃ U2, U2 = U.take k ++ dpad (mm + 2 + 1) (N - q' * V) ++ U.drop (k + (mm + 2 + 1)) := ⟨_, rfl⟩
    rw [← hU2] at tr p5 p6 p7 p8
    obtain ⟨U', Q', F', r1, r2, r3, r4, r5, r6, r7, r8, r9⟩ := ih m U2 (Q.set k q') (1472720 :: 1472720 :: F) (by simp [f1]) (by simp [f2]) p5 (by omega) (wf_set hQ p4) (by simpa using hQl) (by omega) p7 (fun j hj => by rw [dgt_set_ne (by omega)]; exact hz j (by omega)) (by rw [p8]; exact hsum) (by omega)
    refine ⟨U', Q', F', r1, r2, r3, r4, r5, r6, r7, r8, ?_⟩
    rw [← r9]
    have e1 : ((k + 1 : Nat) : Int) - 1 = k := by omega
    rw [e1]
    have gh := dg_get U (k + (mm + 2)) hkU
    have gn := dg_get U (k + (mm + 1)) (by omega)
    have gt := dg_get U (k + mm) (by omega)
    rw [← dgt_get, ← hhe] at gh
    rw [← dgt_get, ← hn1e] at gn
    rw [← dgt_get, ← hte] at gt
    have w1 : IntKind.i64.wrap ((k : Int) + (mm + 2)) = (k : Int) + (mm + 2) := wrap64_id _ (by omega) (by omega)
    have w2 : IntKind.i64.wrap ((k : Int) + (mm + 2) - 1) = (k : Int) + (mm + 2) - 1 := wrap64_id _ (by omega) (by omega)
    have w3 : IntKind.i64.wrap ((k : Int) + (mm + 2) - 2) = (k : Int) + (mm + 2) - 2 := wrap64_id _ (by omega) (by omega)
    have w4 : IntKind.i64.wrap ((k : Int) - 1) = (k : Int) - 1 := wrap64_id _ (by omega) (by omega)
    have x1 : ((k : Int) + (mm + 2)).toNat = k + (mm + 2) := by omega
    have x2 : ((k : Int) + (mm + 2) - 1).toNat = k + (mm + 1) := by omega
    have x3 : ((k : Int) + (mm + 2) - 2).toNat = k + mm := by omega
    have y1 : (0 : Int) ≤ (k : Int) + (mm + 2) := by omega
    have y2 : (0 : Int) ≤ (k : Int) + (mm + 2) - 1 := by omega
    have y3 : (0 : Int) ≤ (k : Int) + (mm + 2) - 2 := by omega
    have z1 : (k : Int) + (mm + 2) < L := by omega
    have z2 : (k : Int) + (mm + 2) - 1 < L := by omega
    have z3 : (k : Int) + (mm + 2) - 2 < L := by omega
    have y2' : (1 : Int) ≤ (k : Int) + (mm + 2) := by omega
    have y3' : (2 : Int) ≤ (k : Int) + (mm + 2) := by omega
    have hne : dg U ≠ [] := fun h => by have := congrArg List.length h; simp at this; rw [this] at hUl; simp at hUl; omega
    have hne2 : U ≠ [] := fun h => by rw [h] at hUl; simp at hUl; omega
    have hvt : (dg ve).take (mm + 2) = dg vs := by rw [dg_take, hve]
    have gk : k < nq := by omega
    have hqs : (dg Q).set k [.int .u32 q'] = dg (Q.set k q') := dg_set Q k q'
    have gq : k < Q.length := by omega
    simp [iterK_succ, w1, w2, w3, w4, x1, x2, x3, y1, y2, y3, y2', y3', z1, z2, z3, gh, gn, gt, hvel, hvt, td, hUl, hne, hne2, f1, f2, tr, gk, hqs, gq]

end
end Go.Proofs.Ythlpmghodgiknaa.C

/-
  The program's integers: division of digits, division with remainder, greatest common divisor.
-/
namespace Go.Proofs.Ythlpmghodgiknaa.C
open Go Go.Ev

section
variable (G : Pure) (ic : Inl) (n : Nat)

/-- The digits that a division gives. -/
def divRes (x y : Nat) : List Nat × List Nat :=
  if x < y then ([], digs x)
  else if (digs y).length = 1 then (dpad (digs x).length (x / y), dpad 1 (x % y))
  else (dpad ((digs x).length - (digs y).length + 1) (x / y), dpad (digs y).length (x % y))

def spDivide : List AV → Option PRes := sp2 cOf cOf fun x y => if y ≠ 0 ∧ (digs x).length < 40000000 ∧ (digs y).length < 40000000 then some (.tup [dA (divRes x y).1, dA (divRes x y).2]) else none

theorem weak_tup2 (l1 l2 : Bool) (a b : List Nat) : AV.weak (.tup [.imm l1 1 (dg a), .imm l2 1 (dg b)]) = .tup [dA a, dA b] := by simp [AV.weak, AV.weakL, weakLL_dg, dA]

theorem one_digit {y : Nat} (h : (digs y).length = 1) : digs y = [y] ∧ y < 4294967296 := by
  have h1 := dv_digs y
  match hd : digs y, h with
  | [d], _ =>
    rw [hd] at h1
    simp only [dv, Nat.mul_zero, Nat.add_zero] at h1
    have := wf_digs y d (by rw [hd]; simp)
    subst h1
    exact ⟨rfl, by simpa [W32] using this⟩

/-- The shift that makes the highest digit great. -/
theorem norm_shift {y m : Nat} (hy : y ≠ 0) (hm : (digs y).length = m + 1) : ∃ r, bl (dgt (digs y) m) + r = 32 ∧ r < 32 ∧ 2 ^ r * y < W32 ^ (m + 1) ∧ W32 ^ m * 2147483648 ≤ 2 ^ r * y := by
  have hg : dgt (digs y) m = (digs y)[m]'(by omega) := dgt_get (by omega)
  have htop : (digs y)[m]'(by omega) ≠ 0 := digs_last (by omega)
  have hb := bl_dv (wf_digs y) hm htop
  rw [dv_digs, ← hg] at hb
  have hd := bl_digit (dgt_lt (wf_digs y) m)
  have hpos : bl (dgt (digs y) m) ≠ 0 := by rw [bl_pos (by rw [hg]; exact htop)]; omega
  refine ⟨32 - bl (dgt (digs y) m), by omega, by omega, ?_, ?_⟩
  · have h1 := lt_bl y
    have h2 : 2 ^ (32 - bl (dgt (digs y) m)) * y < 2 ^ (32 - bl (dgt (digs y) m)) * 2 ^ bl y := Nat.mul_lt_mul_of_pos_left h1 (Nat.pow_pos (by decide))
    rw [← Nat.pow_add] at h2
    rw [W32_pow]
    rwa [show 32 - bl (dgt (digs y) m) + bl y = 32 * (m + 1) by omega] at h2
  · have h1 := bl_le hy
    have h2 : 2 ^ (32 - bl (dgt (digs y) m)) * 2 ^ (bl y - 1) ≤ 2 ^ (32 - bl (dgt (digs y) m)) * y := Nat.mul_le_mul_left _ h1
    rw [← Nat.pow_add] at h2
    rw [W32_pow, show 2147483648 = 2 ^ 31 by decide, ← Nat.pow_add]
    rwa [show 32 - bl (dgt (digs y) m) + (bl y - 1) = 32 * m + 31 by omega] at h2

theorem divide_run (hC : G 95 = spCompareP) (hCl : G 91 = spClone) (hSk : G 97 = spShrunk) (hL : G 98 = spLZ) (hSf : G 99 = spShifted)
    (hD : G 101 = spDigitP) (hR : G 100 = spReduceP) (hU : G 102 = spUnshifted) : FSpec (fun args n => pureF G ic n c92F args) spDivide := by
  intro args r h
  obtain ⟨a, b, x, y, v, rfl, hx, hy, hv, rfl⟩ := sp2_inv h
  obtain ⟨⟨hy0, lx, ly⟩, hv⟩ := of_ite hv
  cases hv
  obtain ⟨la, rfl, -⟩ := cOf_inv hx
  obtain ⟨lb, rfl, -⟩ := cOf_inv hy
  have tc := cmpP_at hC (la := la) (lb := lb) (x := x) (y := y) (by omega) (by omega)
  have tcl := clone_at hCl (nl := la) (wf_digs x) (by omega)
  by_cases hxy : x < y
  · have hc : cmpI x y = -1 := by simp [cmpI, hxy]
    rw [hc] at tc
    have e : divRes x y = ([], digs x) := by unfold divRes; rw [if_pos hxy]
    rw [e]
    refine ⟨{ val := .tup [.imm true 1 (dg []), .imm false 1 (dg (digs x))] }, ⟨0, ?_⟩, rfl, (weak_tup2 _ _ _ _).symm⟩
    simp [pureF, runF, tc, tcl, dg_nil]
  · have hc : ¬ cmpI x y < 0 := by unfold cmpI; rw [if_neg hxy]; split <;> omega
    have hlen : (digs y).length ≤ (digs x).length := digs_len_mono (by omega)
    have hx0 : x ≠ 0 := by omega
    by_cases h1 : (digs y).length = 1
    · have e : divRes x y = (dpad (digs x).length (x / y), dpad 1 (x % y)) := by unfold divRes; rw [if_neg hxy, if_pos h1]
      rw [e]
      obtain ⟨e1, hyb⟩ := one_digit h1
      have ts := shrunk_at hSk (wf_digs x) (by omega) hyb hy0
      rw [dv_digs] at ts
      have hml := Nat.mod_lt x (show 0 < y by omega)
      have e2 : dpad 1 (x % y) = [x % y] := by simp only [dpad]; rw [Nat.mod_eq_of_lt (by simp only [W32]; omega)]
      obtain ⟨R, hRe⟩ : ∃ R, R = x % y := ⟨_, rfl⟩
      obtain ⟨Qd, hQd⟩ : ∃ Qd, Qd = dpad (digs x).length (x / y) := ⟨_, rfl⟩
      have hQl : Qd.length = (digs x).length := by rw [hQd, dpad_length]
      rw [← hRe] at e2 ts ⊢
      rw [← hQd] at ts ⊢
      rw [e2]
      have hne : digs x ≠ [] := fun h => hx0 (digs_eq_nil.1 h)
      have hne2 : dg (digs x) ≠ [] := fun h => hne (dg_eq_nil.1 h)
      refine ⟨{ val := .tup [.imm false 1 (dg Qd), .imm false 1 (dg [R])] }, ⟨0, ?_⟩, rfl, (weak_tup2 _ _ _ _).symm⟩
      rw [e1] at tc ⊢
      have ed : dg [y] = [[.int .u32 (y : Int)]] := rfl
      have ed2 : dg [R] = [[.int .u32 (R : Int)]] := rfl
      rw [ed] at tc ⊢
      rw [ed2]
      have hk3 : (dg Qd).take (digs x).length = dg Qd := by rw [← hQl, take_dg]
      have hk2 : (digs x).length ≤ Qd.length := by omega
      simp [pureF, runF, tc, hc, tcl, hne, hne2, ts, hk3, hk2, -dg_getElem]
    · have e : divRes x y = (dpad ((digs x).length - (digs y).length + 1) (x / y), dpad (digs y).length (x % y)) := by unfold divRes; rw [if_neg hxy, if_neg h1]
      rw [e]
      have hyl := digs_pos_len hy0
      obtain ⟨mm, hmm⟩ : ∃ mm, (digs y).length = mm + 2 := ⟨(digs y).length - 2, by omega⟩
      obtain ⟨r, hr1, hr2, hr3, hr4⟩ := norm_shift hy0 (m := mm + 1) (by omega)
      obtain ⟨lx', hlx⟩ : ∃ lx', lx' = (digs x).length := ⟨_, rfl⟩
      obtain ⟨V, hV⟩ : ∃ V, V = 2 ^ r * y := ⟨_, rfl⟩
      rw [← hV] at hr3 hr4
      have h31 : 2 ^ r ≤ 2147483648 := by
        have : 2 ^ r ≤ 2 ^ 31 := Nat.pow_le_pow_right (by decide) (by omega)
        simpa using this
      have hp : 0 < 2 ^ r := Nat.pow_pos (by decide)
      have hxb := lt_pow_len x
      have hUb : 2 ^ r * x < W32 ^ ((digs x).length + 1) := by
        rw [Nat.pow_succ, Nat.mul_comm]
        exact Nat.mul_lt_mul'' hxb (by simp only [W32]; omega)
      obtain ⟨nq, hnq⟩ : ∃ nq, nq = (digs x).length - (digs y).length + 1 := ⟨_, rfl⟩
      obtain ⟨vs, hvs⟩ : ∃ vs, vs = dpad (mm + 2) V := ⟨_, rfl⟩
      have hvsl : vs.length = mm + 2 := by rw [hvs, dpad_length]
      have hvsw : Wf vs := by rw [hvs]; exact wf_dpad _ _
      have hvsv : dv vs = V := by rw [hvs]; exact dv_dpad hr3
      have hT : 2147483648 ≤ dgt vs (mm + 1) := by
        have h4 : dv (vs.take (mm + 1 + 1)) = V := by rw [List.take_of_length_le (by omega), hvsv]
        rw [dv_take_dgt] at h4
        have h5 := dv_lt (wf_take hvsw (mm + 1))
        rw [List.length_take, Nat.min_eq_left (by omega)] at h5
        have h6 : W32 ^ (mm + 1) * 2147483648 < W32 ^ (mm + 1) * (dgt vs (mm + 1) + 1) := by
          refine Nat.lt_of_le_of_lt hr4 ?_
          rw [Nat.mul_add, Nat.mul_one]
          omega
        have := Nat.lt_of_mul_lt_mul_left h6
        omega
      have hve : (dpad ((digs y).length + 1) V).take (mm + 2) = vs := by rw [hvs]; exact dpad_take (by omega)
      obtain ⟨N, hN⟩ : ∃ N, N = nq + 1 := ⟨_, rfl⟩
      have hstart : dv ((dpad ((digs x).length + 1) (2 ^ r * x)).drop nq) < V := by
        rw [dv_drop_div (wf_dpad _ _), dv_dpad hUb]
        refine Nat.div_lt_of_lt_mul ?_
        have h6 : 2 ^ r * x < 2147483648 * W32 ^ (digs x).length := by
          refine Nat.lt_of_lt_of_le (Nat.mul_lt_mul_of_pos_left hxb hp) (Nat.mul_le_mul_right _ h31)
        have h7 : W32 ^ nq * (W32 ^ (mm + 1) * 2147483648) ≤ W32 ^ nq * V := Nat.mul_le_mul_left _ hr4
        rw [← Nat.mul_assoc, ← Nat.pow_add, show nq + (mm + 1) = (digs x).length by omega] at h7
        refine Nat.lt_of_lt_of_le h6 ?_
        rw [Nat.mul_comm 2147483648]
        exact h7
      obtain ⟨U', Q', F', r1, r2, r3, r4, r5, r6, r7, r8, r9⟩ := divide_loop G ic N hD hR (.imm lb 1 (dg (digs y))) (.int .i64 r) vs (dpad ((digs y).length + 1) V) mm V ((digs x).length + 1) nq (2 ^ r * x) [1472880, 1472720, 1472672] hvsw hvsl (by omega) hve (by rw [dpad_length]; omega) hvsv hT (by omega) (by omega)
        nq N (dpad ((digs x).length + 1) (2 ^ r * x)) (List.replicate nq 0) [] (by simp) (by simp) (wf_dpad _ _) (dpad_length _ _) (wf_replicate _) (by simp) (Nat.le_refl _) hstart (fun j _ => dgt_replicate _ j) (by rw [dv_replicate, dv_dpad hUb, Nat.mul_zero, Nat.add_zero]) (by omega)
      have hdiv : dv Q' = x / y ∧ dv U' = 2 ^ r * (x % y) := by
        have e1 : (2 ^ r * x) / V = dv Q' := by
          rw [← r8, Nat.add_mul_div_left _ _ (by omega), Nat.div_eq_of_lt r7, Nat.zero_add]
        have e2 : (2 ^ r * x) % V = dv U' := by rw [← r8, Nat.add_mul_mod_self_left, Nat.mod_eq_of_lt r7]
        rw [hV, Nat.mul_div_mul_left _ _ hp] at e1
        rw [hV, Nat.mul_mod_mul_left] at e2
        exact ⟨e1.symm, e2.symm⟩
      have hQ' : Q' = dpad nq (x / y) := dpad_of r5 r6 hdiv.1
      have hU'n : U' ≠ [] := fun h => by rw [h] at r4; simp at r4
      have hU'n2 : dg U' ≠ [] := fun h => hU'n (dg_eq_nil.1 h)
      have tu := unshifted_at hU (r := r) r3 (by omega) hr2
      rw [hdiv.2, Nat.mul_div_cancel_left _ hp, r4] at tu
      have gtop := dg_get (digs y) (mm + 1) (by omega)
      obtain ⟨T, hTe⟩ : ∃ T, T = dgt (digs y) (mm + 1) := ⟨_, rfl⟩
      have hTy : (digs y)[mm + 1]'(by omega) = T := by rw [hTe]; exact (dgt_get (by omega)).symm
      rw [hTy] at gtop
      have hTb := dgt_lt (wf_digs y) (mm + 1)
      rw [← hTe] at hr1 hTb
      have tl : G 98 [.int .u32 (T : Int)] = some { val := .int .i64 (r : Nat) } := by
        have := sp1_at hL (u32Of_mk (n := T) (by simpa [W32] using hTb)) rfl
        rw [this, show (32 : Int) - (bl T : Int) = (r : Int) by omega]
      have tsx := shifted_at hSf (la := la) (r := r) (wf_digs x) (by omega) hr2
      have tsy := shifted_at hSf (la := lb) (r := r) (wf_digs y) (by omega) hr2
      rw [dv_digs] at tsx tsy
      rw [← hV] at tsy
      have ee := r9
      simp [c92_e0, c92_k0] at ee
      rw [← hnq, ← hQ']
      obtain ⟨Z, hZ⟩ : ∃ Z, Z = dpad ((digs x).length + 1) (x % y) := ⟨_, rfl⟩
      have hZt : dpad (digs y).length (x % y) = Z.take (mm + 2) := by rw [hZ, dpad_take (by omega), hmm]
      have hZl : Z.length = (digs x).length + 1 := by rw [hZ, dpad_length]
      rw [hZt]
      rw [← hZ] at tu
      refine ⟨{ val := .tup [.imm false 1 (dg Q'), .imm false 1 (dg (Z.take (mm + 2)))] }, ⟨N, ?_⟩, rfl, (weak_tup2 _ _ _ _).symm⟩
      have hmm1 : ¬ ((mm : Int) + 2 = 1) := by omega
      have w1 : IntKind.i64.wrap ((mm : Int) + 2 - 1) = (mm : Int) + 1 := by rw [show (mm : Int) + 2 - 1 = mm + 1 by omega]; exact wrap64_id _ (by omega) (by omega)
      have x1 : ((mm : Int) + 1).toNat = mm + 1 := by omega
      have y1 : (0 : Int) ≤ (mm : Int) + 1 := by omega
      have w2 : IntKind.i64.wrap (((digs x).length : Int) - (mm + 2)) = ((digs x).length : Int) - (mm + 2) := wrap64_id _ (by omega) (by omega)
      have w3 : IntKind.i64.wrap (((digs x).length : Int) - (mm + 2) + 1) = (nq : Int) := by rw [show ((digs x).length : Int) - (mm + 2) + 1 = nq by omega]; exact wrap64_id _ (by omega) (by omega)
      have w4 : (nq : Int) * 4 ≤ 140737488355328 := by omega
      have w5 : IntKind.i64.wrap ((nq : Int) - 1) = (nq : Int) - 1 := wrap64_id _ (by omega) (by omega)
      have z1 : ((mm : Int) + 2) ≤ (mm : Int) + 2 + 1 := by omega
      have z2 : ((mm : Int) + 2) ≤ ((digs x).length : Int) + 1 := by omega
      have z3 : (0 : Int) ≤ (mm : Int) + 2 := by omega
      have z4 : (0 : Int) < (mm : Int) + 2 := by omega
      have z5 : ((mm : Int) + 2).toNat = mm + 2 := by omega
      have hk2 : nq ≤ Q'.length := by omega
      have hk3 : (dg Q').take nq = dg Q' := by rw [← r6, take_dg]
      have hk4 : mm + 2 ≤ Z.length := by omega
      have hk6 : mm + 1 ≤ (digs x).length := by omega
      have hk5 : (dg Z).take (mm + 2) = dg (Z.take (mm + 2)) := dg_take _ _
      rw [hmm] at tsy ee
      simp [pureF, runF, tc, hc, hmm, hmm1, w1, x1, y1, gtop, tl, tsx, tsy, w2, w3, w4, w5, z1, z2, z3, z4, z5, dg_replicate, ee, r1, r2, r4, hU'n, hU'n2, tu, hZl, hk2, hk3, hk4, hk5, hk6, dpad_length, hTy]

theorem divRes_spec {x y : Nat} (hy : y ≠ 0) : Wf (divRes x y).1 ∧ dv (divRes x y).1 = x / y ∧ (divRes x y).1.length ≤ (digs x).length + 1 ∧ Wf (divRes x y).2 ∧ dv (divRes x y).2 = x % y ∧ (divRes x y).2.length ≤ (digs x).length + (digs y).length + 1 := by
  have hX := lt_pow_len x
  have hY := lt_pow_len y
  have hm := Nat.mod_lt x (show 0 < y by omega)
  unfold divRes
  by_cases h : x < y
  · rw [if_pos h]
    exact ⟨wf_nil, by rw [Nat.div_eq_of_lt h]; rfl, by simp, wf_digs x, by rw [dv_digs, Nat.mod_eq_of_lt h], by simp only; omega⟩
  · rw [if_neg h]
    by_cases h1 : (digs y).length = 1
    · rw [if_pos h1]
      obtain ⟨_, hyb⟩ := one_digit h1
      refine ⟨wf_dpad _ _, dv_dpad (Nat.lt_of_le_of_lt (Nat.div_le_self _ _) hX), by rw [dpad_length]; omega, wf_dpad _ _, dv_dpad (by rw [Nat.pow_one]; simp only [W32]; omega), by rw [dpad_length]; omega⟩
    · rw [if_neg h1]
      have hl : (digs y).length ≤ (digs x).length := digs_len_mono (by omega)
      have hyl := digs_pos_len hy
      refine ⟨wf_dpad _ _, dv_dpad ?_, by rw [dpad_length]; omega, wf_dpad _ _, dv_dpad (Nat.lt_trans hm hY), by rw [dpad_length]; omega⟩
      refine Nat.div_lt_of_lt_mul ?_
      obtain ⟨m, hmm⟩ : ∃ m, (digs y).length = m + 1 := ⟨(digs y).length - 1, by omega⟩
      have h2 : W32 ^ m ≤ y := by
        rcases Nat.lt_or_ge y (W32 ^ m) with lt | ge
        · have := digs_length_le lt; omega
        · exact ge
      have h3 : W32 ^ m * W32 ^ ((digs x).length - (digs y).length + 1) ≤ y * W32 ^ ((digs x).length - (digs y).length + 1) := Nat.mul_le_mul_right _ h2
      rw [← Nat.pow_add, show m + ((digs x).length - (digs y).length + 1) = (digs x).length by omega] at h3
      omega

theorem divide_at {G : Pure} (hD : G 92 = spDivide) {la lb : Bool} {x y : Nat} (lx : (digs x).length < 30000000) (ly : (digs y).length < 30000000) (hy : y ≠ 0) :
    G 92 [.imm la 1 (dg (digs x)), .imm lb 1 (dg (digs y))] = some { val := .tup [.imm false 1 (dg (divRes x y).1), .imm false 1 (dg (divRes x y).2)] } :=
  sp2_at hD (cOf_mk (by omega)) (cOf_mk (by omega)) (by rw [if_pos ⟨hy, by omega, by omega⟩]; rfl)

/-! ### DivMod -/

theorem fdiv_signs {s1 s2 : Bool} {X Y : Nat} (hY : Y ≠ 0) :
    (s1 = s2 → (sg s1 X).fdiv (sg s2 Y) = ((X / Y : Nat) : Int) ∧ (sg s1 X).fmod (sg s2 Y) = sg s2 (X % Y)) ∧
    (s1 ≠ s2 → X % Y = 0 → (sg s1 X).fdiv (sg s2 Y) = -((X / Y : Nat) : Int) ∧ (sg s1 X).fmod (sg s2 Y) = 0) ∧
    (s1 ≠ s2 → X % Y ≠ 0 → (sg s1 X).fdiv (sg s2 Y) = -((X / Y : Nat) : Int) - 1 ∧ (sg s1 X).fmod (sg s2 Y) = sg s1 (X % Y) + sg s2 Y) := by
  obtain ⟨Q, hQ⟩ : ∃ Q, Q = X / Y := ⟨_, rfl⟩
  obtain ⟨R, hR⟩ : ∃ R, R = X % Y := ⟨_, rfl⟩
  have h1 := Nat.div_add_mod X Y
  have h2 := Nat.mod_lt X (show 0 < Y by omega)
  rw [← hQ, ← hR] at h1
  rw [← hR] at h2
  rw [← hQ, ← hR]
  have h3 : (Y : Int) * Q + R = X := by exact_mod_cast h1
  refine ⟨fun hs => ?_, fun hs h0 => ?_, fun hs h0 => ?_⟩
  · subst hs
    refine fdiv_unique ?_ ?_ <;> cases s1 <;> simp [sg, Int.neg_mul] <;> omega
  · rw [h0] at h3
    refine fdiv_unique ?_ ?_ <;> cases s1 <;> cases s2 <;> simp [sg, Int.neg_mul, Int.mul_neg] at * <;> omega
  · refine fdiv_unique ?_ ?_ <;> cases s1 <;> cases s2 <;> simp [sg, Int.neg_mul, Int.mul_neg, Int.mul_sub] at * <;> omega

theorem divmodP_run (hSg : G 63 = spSign) (hMg : G 80 = spMagnitude) (hD : G 92 = spDivide) (hM : G 84 = spMake) (hF : G 69 = spFromInt64) (hS : G 93 = spSub) (hA : G 67 = spAdd) :
    FSpec (fun args n => pureF G ic n c83F args) spDivMod := by
  intro args r h
  obtain ⟨a, b, x, y, v, rfl, hx, hy, hv, rfl⟩ := sp2_inv h
  cases hv
  have lx := zOf_zl hx
  have ly := zOf_zl hy
  have t0 := sp1_at hSg hy rfl
  have t1 := magnitude_at hMg hx
  have t2 := magnitude_at hMg hy
  simp only [zl] at lx ly
  obtain ⟨s1, l1, d1, rfl, w1, k1, ex⟩ := zOf_inv hx
  obtain ⟨s2, l2, d2, rfl, w2, k2, ey⟩ := zOf_inv hy
  by_cases h0 : y = 0
  · rw [if_pos h0]
    rw [h0] at t0
    have hc : cmpZ 0 0 = 0 := rfl
    rw [hc] at t0
    refine ⟨{ val := .tup [.agg [.bool false, .imm true 1 []], .agg [.bool false, .imm true 1 []], .int .i64 11] }, ⟨0, ?_⟩, rfl, by simp [AV.weak, AV.weakL, AV.weakLL, iV_zero, iA, dg]⟩
    simp [pureF, runF, t0]
  · rw [if_neg h0]
    have hc : ¬ cmpZ y 0 = 0 := by unfold cmpZ; split <;> (try split) <;> omega
    obtain ⟨X, hX⟩ : ∃ X, X = x.natAbs := ⟨_, rfl⟩
    obtain ⟨Y, hY⟩ : ∃ Y, Y = y.natAbs := ⟨_, rfl⟩
    have exX : x = sg s1 X := by rw [hX, ex, sg_natAbs]
    have eyY : y = sg s2 Y := by rw [hY, ey, sg_natAbs]
    rw [← hX] at t1 lx
    rw [← hY] at t2 ly
    have hY0 : Y ≠ 0 := by omega
    obtain ⟨p1, p2, p3⟩ := fdiv_signs (s1 := s1) (s2 := s2) (X := X) hY0
    rw [← exX, ← eyY] at p1 p2 p3
    have t3 := divide_at hD (la := false) (lb := false) lx ly hY0
    obtain ⟨q1, q2, q3, q4, q5, q6⟩ := divRes_spec (x := X) hY0
    obtain ⟨D1, hD1⟩ : ∃ D1, D1 = (divRes X Y).1 := ⟨_, rfl⟩
    obtain ⟨D2, hD2⟩ : ∃ D2, D2 = (divRes X Y).2 := ⟨_, rfl⟩
    rw [← hD1, ← hD2] at t3
    rw [← hD1] at q1 q2 q3
    rw [← hD2] at q4 q5 q6
    obtain ⟨Q, hQ⟩ : ∃ Q, Q = X / Y := ⟨_, rfl⟩
    obtain ⟨R, hR⟩ : ∃ R, R = X % Y := ⟨_, rfl⟩
    rw [← hQ, ← hR] at p1 p2 p3
    rw [← hQ] at q2
    rw [← hR] at q5
    have hQl : (digs Q).length ≤ (digs X).length := digs_len_mono (by rw [hQ]; exact Nat.div_le_self _ _)
    have hRl : (digs R).length ≤ (digs Y).length := digs_len_mono (by rw [hR]; exact Nat.le_of_lt (Nat.mod_lt _ (by omega)))
    refine ⟨{ val := .tup [iV (x.fdiv y), iV (x.fmod y), .int .i64 0] }, ⟨0, ?_⟩, rfl, by simp only [weak_tup3]; rfl⟩
    by_cases hs : s1 = s2
    · obtain ⟨e1, e2⟩ := p1 hs
      have t4 := makeP_at' hM (b := false) (nl := false) (z := x.fdiv y) q1 (by omega) (by rw [q2, e1]; rfl)
      have t5 := makeP_at' hM (b := s2) (nl := false) (z := x.fmod y) q4 (by omega) (by rw [q5, e2])
      subst hs
      clear e1 e2 p1 p2 p3 exX eyY ex ey hX hY
      simp [pureF, runF, t0, hc, t1, t2, t3, t4, t5, iV_agg]
    · by_cases hR0 : R = 0
      · obtain ⟨e1, e2⟩ := p2 hs hR0
        have t4 := makeP_at' hM (b := true) (nl := false) (z := x.fdiv y) q1 (by omega) (by rw [q2, e1]; rfl)
        have t5 := makeP_at' hM (b := s1) (nl := false) (z := x.fmod y) q4 (by omega) (by rw [q5, e2, hR0]; cases s1 <;> rfl)
        rw [e2] at t5 ⊢
        have t6 := sp1_at hSg (zOf_iV (z := 0) (Nat.lt_of_le_of_lt (zl_small (z := 0) (by decide)) (by decide))) rfl
        have hc0 : cmpZ 0 0 = 0 := rfl
        rw [hc0] at t6
        simp only [iV_agg] at t6
        clear e1 e2 p1 p2 p3 exX eyY ex ey hX hY
        simp only [Int.natAbs_zero, digs_zero, dg_nil, Int.lt_irrefl, decide_false] at t5 t6
        simp [pureF, runF, t0, hc, t1, t2, t3, t4, t5, t6, iV_agg, hs, digs_zero, dg_nil]
      · obtain ⟨e1, e2⟩ := p3 hs hR0
        obtain ⟨q, hq⟩ : ∃ q, q = -(Q : Int) := ⟨_, rfl⟩
        obtain ⟨r, hr⟩ : ∃ r, r = sg s1 R := ⟨_, rfl⟩
        rw [← hq] at e1
        rw [← hr] at e2
        have hql : zl q < 30000000 := by rw [hq, zl_neg]; simpa [zl] using Nat.lt_of_le_of_lt hQl lx
        have hrl : zl r < 30000000 := by rw [hr, zl_sg]; omega
        have t4 := makeP_at' hM (b := true) (nl := false) (z := q) q1 (by omega) (by rw [q2, hq]; rfl)
        have t5 := makeP_at' hM (b := s1) (nl := false) (z := r) q4 (by omega) (by rw [q5, hr])
        have t6 := sp1_at hSg (zOf_iV hrl) rfl
        have hr0 : r ≠ 0 := by rw [hr]; cases s1 <;> simp [sg] <;> omega
        have hcr : ¬ cmpZ r 0 = 0 := by unfold cmpZ; split <;> (try split) <;> omega
        obtain ⟨one, hone⟩ : ∃ o : Int, o = 1 := ⟨_, rfl⟩
        have f1 : G 69 [.int .i64 1] = some { val := iV one } := by rw [hone]; exact sp1_at hF (i64Of_mk (n := 1) (by decide) (by decide)) rfl
        have f2 := sp2_at hS (zOf_iV hql) (zOf_iV (z := 1) (Nat.lt_of_le_of_lt (zl_small (by decide)) (by decide))) rfl
        have f3 := sp2_at hA (zOf_iV hrl) hy rfl
        rw [← e1, ← hone] at f2
        rw [← e2] at f3
        obtain ⟨D, hDD⟩ : ∃ D, D = x.fdiv y := ⟨_, rfl⟩
        obtain ⟨M, hMM⟩ : ∃ M, M = x.fmod y := ⟨_, rfl⟩
        rw [← hDD] at f2 ⊢
        rw [← hMM] at f3 ⊢
        simp only [iV_agg] at t6 f1 f2 f3
        clear hone e1 e2 p1 p2 p3 exX eyY ex ey hX hY hDD hMM hq hr
        simp [pureF, runF, t0, hc, t1, t2, t3, t4, t5, t6, hcr, f1, f2, f3, iV_agg, hs]

/-! ### GCD -/

theorem gcdStep_at {G : Pure} (hD : G 92 = spDivide) (hMg : G 80 = spMagnitude) {x y : Nat} (lx : (digs x).length < 10000000) (ly : (digs y).length < 10000000) (hy : y ≠ 0) : ∃ D1 D2 : List Nat,
    G 92 [.imm false 1 (dg (digs x)), .imm false 1 (dg (digs y))] = some { val := .tup [.imm false 1 (dg D1), .imm false 1 (dg D2)] } ∧ G 80 [.agg [.bool false, .imm false 1 (dg D2)]] = some { val := .imm false 1 (dg (digs (x % y))) } := by
  obtain ⟨_, _, _, q4, q5, q6⟩ := divRes_spec (x := x) hy
  refine ⟨_, _, divide_at hD (by omega) (by omega) hy, ?_⟩
  have := magnitude_at hMg (zOf_mk (b := false) (nl := false) q4 (by omega))
  rw [q5, sg_natAbs] at this
  exact this

theorem gcdP_loop (hD : G 92 = spDivide) (hMg : G 80 = spMagnitude) (v4 : AV) (H : List (Nat × Ev.Obj)) (F own reb : List Nat) : ∀ (y x m : Nat), (digs x).length < 10000000 → (digs y).length < 10000000 → y < m →
    blockE (some c82_e0) 0 (iterK G ic n c82_k0 c82_b0Q m ⟨[(4, v4), (5, .imm false 1 (dg (digs x))), (6, .imm false 1 (dg (digs y)))], H, F, own, reb⟩) =
      some (.normal, ⟨[(4, v4), (5, .imm false 1 (dg (digs (x.gcd y))))], H, F, own, reb⟩) := by
  intro y
  induction y using Nat.strongRecOn with
  | _ y ih =>
    intro x m hx hy hm
    obtain ⟨m, rfl⟩ : ∃ i, m = i + 1 := ⟨m - 1, by omega⟩
    by_cases h : y = 0
    · subst h
      simp [iterK_succ, digs_zero]
    · have hr := Nat.mod_lt x (y := y) (by omega)
      have hrl : (digs (x % y)).length ≤ (digs y).length := digs_len_mono (Nat.le_of_lt hr)
      have e := ih (x % y) hr y m hy (by omega) (by omega)
      have eg : y.gcd (x % y) = x.gcd y := by rw [Nat.gcd_comm x y, Nat.gcd_rec y x, Nat.gcd_comm]
      rw [eg] at e
      rw [← e]
      obtain ⟨D1, D2, t, t'⟩ := gcdStep_at hD hMg hx hy h
      have hpos := digs_pos_len h
      simp [iterK_succ, t, t', hpos]

theorem gcdP_start (hD : G 92 = spDivide) (hMg : G 80 = spMagnitude) (v4 : AV) (X Y : Nat) (hX : (digs X).length < 10000000) (hY : (digs Y).length < 10000000) (o1 o2 o3 : Nat × Ev.Obj) (own reb : List Nat)
    (k1 : o1.1 < 1312176) (k2 : o2.1 < 1312176) (k3 : o3.1 < 1312176) (m : Nat) (hm : Y + 2 < m) :
    ∃ R F', 1312064 ∉ F' ∧ (R = .imm false 1 (dg (digs (X.gcd Y))) ∨ (R = .sl 1312176 0 (digs X).length ∧ X.gcd Y = X) ∨ (R = .sl 1312224 0 (digs Y).length ∧ X.gcd Y = Y)) ∧
    blockE (some c82_e0) 0 (iterK G ic n c82_k0 c82_b0Q m ⟨[(4, v4), (5, .sl 1312176 0 (digs X).length), (6, .sl 1312224 0 (digs Y).length)],
        [o1, o2, o3, (1312176, { sz := 1, ty := 88, es := dg (digs X), refs := [] }), (1312224, { sz := 1, ty := 88, es := dg (digs Y), refs := [] })], [], own, reb⟩) =
      some (.normal, ⟨[(4, v4), (5, R)], [o1, o2, o3, (1312176, { sz := 1, ty := 88, es := dg (digs X), refs := [] }), (1312224, { sz := 1, ty := 88, es := dg (digs Y), refs := [] })], F', own, reb⟩) := by
  obtain ⟨x1, y1⟩ := o1
  obtain ⟨x2, y2⟩ := o2
  obtain ⟨x3, y3⟩ := o3
  simp only at k1 k2 k3
  have n1 : x1 ≠ 1312176 := by omega
  have n2 : x2 ≠ 1312176 := by omega
  have n3 : x3 ≠ 1312176 := by omega
  have m1 : x1 ≠ 1312224 := by omega
  have m2 : x2 ≠ 1312224 := by omega
  have m3 : x3 ≠ 1312224 := by omega
  obtain ⟨m, rfl⟩ : ∃ i, m = i + 1 := ⟨m - 1, by omega⟩
  by_cases hY0 : Y = 0
  · subst hY0
    refine ⟨_, [], by simp, .inr (.inl ⟨rfl, Nat.gcd_zero_right _⟩), ?_⟩
    simp [iterK_succ, digs_zero]
  · have hpos := digs_pos_len hY0
    obtain ⟨D1, D2, d1, d2⟩ := gcdStep_at hD hMg hX hY hY0
    obtain ⟨R, hR⟩ : ∃ R, R = X % Y := ⟨_, rfl⟩
    rw [← hR] at d2
    have hRlt : R < Y := by rw [hR]; exact Nat.mod_lt _ (by omega)
    have hRl : (digs R).length ≤ (digs Y).length := digs_len_mono (Nat.le_of_lt hRlt)
    have eg2 : X.gcd Y = Y.gcd R := by rw [hR, Nat.gcd_comm X Y, Nat.gcd_rec Y X, Nat.gcd_comm]
    obtain ⟨m, rfl⟩ : ∃ i, m = i + 1 := ⟨m - 1, by omega⟩
    by_cases hR0 : R = 0
    · have hgY : X.gcd Y = Y := by rw [eg2, hR0, Nat.gcd_zero_right]
      rw [hR0, digs_zero] at d2
      refine ⟨_, [1312176, 1312224], by simp, .inr (.inr ⟨rfl, hgY⟩), ?_⟩
      simp [iterK_succ, hpos, d1, d2, dg_nil, n1, n2, n3, m1, m2, m3]
    · have hpos' := digs_pos_len hR0
      obtain ⟨D3, D4, d3, d4⟩ := gcdStep_at hD hMg hY (show (digs R).length < 10000000 by omega) hR0
      have hSlt : Y % R < R := Nat.mod_lt _ (by omega)
      have hSl : (digs (Y % R)).length ≤ (digs R).length := digs_len_mono (Nat.le_of_lt hSlt)
      have e := fun v4 H F own reb => gcdP_loop G ic n hD hMg v4 H F own reb (Y % R) R m (by omega) (by omega) (by omega)
      have eg3 : R.gcd (Y % R) = X.gcd Y := by rw [eg2, Nat.gcd_comm Y R, Nat.gcd_rec R Y, Nat.gcd_comm]
      rw [eg3] at e
      refine ⟨_, [1312224, 1312176, 1312224], by simp, .inl rfl, ?_⟩
      rw [← e]
      simp [iterK_succ, hpos, hpos', d1, d2, d3, d4, n1, n2, n3, m1, m2, m3]

/-- Integers of fewer than 10000000 digits. -/
def zOfS (a : AV) : Option Int := match intOf a with | some x => if x.2.length < 10000000 then some (sg x.1 (dv x.2)) else none | none => none
theorem zOfS_inv {a : AV} {z : Int} (h : zOfS a = some z) : ∃ b nl ds, a = .agg [.bool b, .imm nl 1 (dg ds)] ∧ Wf ds ∧ ds.length < 10000000 ∧ z = sg b (dv ds) := by
  unfold zOfS at h
  split at h
  · rename_i x hx
    obtain ⟨h1, h2⟩ := of_ite h
    cases h2
    obtain ⟨b, ds⟩ := x
    obtain ⟨nl, rfl, hw, hl⟩ := intOf_inv hx
    exact ⟨b, nl, ds, rfl, hw, h1, rfl⟩
  · cases h
theorem zOfS_mk {b nl : Bool} {ds : List Nat} (h : Wf ds) (hl : ds.length < 10000000) : zOfS (.agg [.bool b, .imm nl 1 (dg ds)]) = some (sg b (dv ds)) := by
  simp [zOfS, intOf_iA h (show ds.length < 30000000 by omega), hl]
theorem zOfS_zOf {a : AV} {z : Int} (h : zOfS a = some z) : zOf a = some z := by
  obtain ⟨b, nl, ds, rfl, hw, hl, rfl⟩ := zOfS_inv h
  exact zOf_mk hw (by omega)
theorem zOfS_zl {a : AV} {z : Int} (h : zOfS a = some z) : zl z < 10000000 := by
  obtain ⟨b, nl, ds, rfl, hw, hl, rfl⟩ := zOfS_inv h
  rw [zl_sg]
  have := digs_length_dv hw
  omega
theorem zOfS_iV {z : Int} (h : zl z < 10000000) : zOfS (.agg [.bool (decide (z < 0)), .imm false 1 (dg (digs z.natAbs))]) = some z := by
  rw [zOfS_mk (wf_digs _) h, dv_digs, sg_self]

def spGCDS : List AV → Option PRes := sp2 zOfS zOfS fun x y => some (iV (Int.gcd x y : Nat))

theorem gcdP_run (hMg : G 80 = spMagnitude) (hCl : G 91 = spClone) (hD : G 92 = spDivide) (hM : G 84 = spMake) : FSpec (fun args n => pureF G ic n c82F args) spGCDS := by
  intro args r h
  obtain ⟨a, b, x, y, v, rfl, hx, hy, hv, rfl⟩ := sp2_inv h
  cases hv
  have t1 := magnitude_at hMg (zOfS_zOf hx)
  have t2 := magnitude_at hMg (zOfS_zOf hy)
  have q1 := zOfS_zl hx
  have q2 := zOfS_zl hy
  simp only [zl] at q1 q2
  obtain ⟨s1, l1, d1, rfl, w1, k1, -⟩ := zOfS_inv hx
  obtain ⟨s2, l2, d2, rfl, w2, k2, -⟩ := zOfS_inv hy
  obtain ⟨X, hX⟩ : ∃ X, X = x.natAbs := ⟨_, rfl⟩
  obtain ⟨Y, hY⟩ : ∃ Y, Y = y.natAbs := ⟨_, rfl⟩
  have eg : Int.gcd x y = X.gcd Y := by rw [Int.gcd, hX, hY]
  rw [eg]
  rw [← hX] at t1 q1
  rw [← hY] at t2 q2
  have c1 := clone_at hCl (nl := false) (wf_digs X) (by omega)
  have c2 := clone_at hCl (nl := false) (wf_digs Y) (by omega)
  have hgl : (digs (X.gcd Y)).length < 30000000 := by
    rcases Nat.eq_zero_or_pos X with h0 | h0
    · rw [h0, Nat.gcd_zero_left]; omega
    · have : (digs (X.gcd Y)).length ≤ (digs X).length := digs_len_mono (Nat.gcd_le_left _ h0)
      omega
  obtain ⟨N, hN⟩ : ∃ N, N = Y + 3 := ⟨_, rfl⟩
  have e := fun v4 o1 o2 o3 own reb k1 k2 k3 => gcdP_start G ic N hD hMg v4 X Y (by omega) (by omega) o1 o2 o3 own reb k1 k2 k3 N (by omega)
  obtain ⟨g, hg⟩ : ∃ g, g = X.gcd Y := ⟨_, rfl⟩
  rw [← hg] at hgl e
  rw [← hg]
  have t3 := makeP_at' hM (b := false) (nl := false) (z := (g : Int)) (wf_digs g) (by omega) (by rw [dv_digs]; rfl)
  refine ⟨{ val := iV (g : Nat) }, ⟨N, ?_⟩, rfl, (weak_iV _).symm⟩
  obtain ⟨R, F', hF, hR, e⟩ := e (.ptr 1312064 0 0) (1312032, { sz := 2, ty := 31, es := [[.bool s1, .imm l1 1 (dg d1)]], refs := [] }) (1312048, { sz := 2, ty := 31, es := [[.bool s2, .imm l2 1 (dg d2)]], refs := [] }) (1312064, { sz := 2, ty := 31, es := [[.bool false, .imm true 1 []]], refs := [] }) [1312224, 1312176, 1312064, 1312048, 1312032] [] (by simp) (by simp) (by simp)
  simp [c82_e0, c82_k0] at e
  rcases hR with rfl | ⟨rfl, hgX⟩ | ⟨rfl, hgY⟩
  · simp [pureF, runF, t1, t2, c1, c2, e, t3, iV_agg, hF]
  · subst hgX
    simp [pureF, runF, t1, t2, c1, c2, e, t3, iV_agg, hF]
  · subst hgY
    simp [pureF, runF, t1, t2, c1, c2, e, t3, iV_agg, hF]

end
end Go.Proofs.Ythlpmghodgiknaa.C

/-
  The program's fractions.
-/
namespace Go.Proofs.Ythlpmghodgiknaa.C
open Go Go.Ev

section
variable (G : Pure) (ic : Inl) (n : Nat)

theorem oneP_run (hF : G 69 = spFromInt64) : FSpec (fun args n => pureF G ic n c78F args) spOne := by
  intro args r h
  obtain ⟨rfl, rfl⟩ := sp0_inv h
  have t := sp1_at hF (i64Of_mk (n := 1) (by decide) (by decide)) rfl
  refine ⟨{ val := iV 1 }, ⟨0, ?_⟩, rfl, (weak_iV _).symm⟩
  simp [pureF, runF, t, iV, iA]

/-! ### parts -/

def partsR (x y : Bool × List Nat) : AV × AV :=
  if vOf y = 0 then (iV 0, iV 1) else if vOf y < 0 then (iV (-vOf x), iV (-vOf y)) else (iA x.1 x.2, iA y.1 y.2)

theorem partsR_zero {x y : Bool × List Nat} (h : vOf y = 0) : partsR x y = (iV 0, iV 1) := by unfold partsR; rw [if_pos h]
theorem partsR_neg {x y : Bool × List Nat} (h : vOf y < 0) : partsR x y = (iV (-vOf x), iV (-vOf y)) := by unfold partsR; rw [if_neg (by omega), if_pos h]
theorem partsR_pos {x y : Bool × List Nat} (h : 0 < vOf y) : partsR x y = (iA x.1 x.2, iA y.1 y.2) := by unfold partsR; rw [if_neg (by omega), if_neg (by omega)]

def spParts : List AV → Option PRes := sp1 rawOf fun x => some (.tup [(partsR x.1 x.2).1, (partsR x.1 x.2).2])

theorem weak_iV_tup (x y : Int) : AV.weak (.tup [iV x, iV y]) = .tup [iV x, iV y] := by simp [AV.weak, AV.weakL, weak_iV]
theorem iV0_true : AV.weak (.tup [.agg [.bool false, .imm true 1 []], iV 1]) = .tup [iV 0, iV 1] := by
  simp only [AV.weak, AV.weakL, weak_iV, iV_zero, iA]
  simp [AV.weakLL, dg_nil]

theorem parts_run (hS : G 63 = spSign) (hO : G 78 = spOne) (hN : G 79 = spNegate) : FSpec (fun args n => pureF G ic n c62F args) spParts := by
  intro args r h
  obtain ⟨a, ⟨⟨s1, d1⟩, ⟨s2, d2⟩⟩, v, rfl, hx, hv, rfl⟩ := sp1_inv h
  cases hv
  obtain ⟨l1, l2, rfl, w1, k1, w2, k2⟩ := rawOf_inv hx
  have z1 := zOf_mk (b := s1) (nl := l1) w1 k1
  have z2 := zOf_mk (b := s2) (nl := l2) w2 k2
  have t0 := sp0_at hO
  have t1 := sp1_at hS z2 rfl
  obtain ⟨x, hxe⟩ : ∃ x, x = sg s1 (dv d1) := ⟨_, rfl⟩
  obtain ⟨y, hye⟩ : ∃ y, y = sg s2 (dv d2) := ⟨_, rfl⟩
  rw [← hxe] at z1
  rw [← hye] at z2 t1
  by_cases hy0 : y = 0
  · simp only [partsR_zero (x := (s1, d1)) (y := (s2, d2)) (hye.symm.trans hy0)]
    have hc : cmpZ y 0 = 0 := by rw [hy0]; rfl
    rw [hc] at t1
    obtain ⟨one, hone⟩ : ∃ o : Int, o = 1 := ⟨_, rfl⟩
    rw [← hone] at t0 ⊢
    have hw := iV0_true
    rw [← hone] at hw
    refine ⟨{ val := .tup [.agg [.bool false, .imm true 1 []], iV one] }, ⟨0, ?_⟩, rfl, hw.symm⟩
    simp only [iV_agg] at t0
    clear hone hw
    simp [pureF, runF, t0, t1, iV_agg]
  · by_cases hyn : y < 0
    · have hp : partsR (s1, d1) (s2, d2) = (iV (-x), iV (-y)) := by
        rw [hxe, hye]; exact partsR_neg (x := (s1, d1)) (y := (s2, d2)) (by show sg s2 (dv d2) < 0; omega)
      simp only [hp]
      clear hp
      have hc : cmpZ y 0 = -1 := by unfold cmpZ; rw [if_pos hyn]
      rw [hc] at t1
      have t2 := sp1_at hN z1 rfl
      have t3 := sp1_at hN z2 rfl
      obtain ⟨p, hp⟩ : ∃ p, p = -x := ⟨_, rfl⟩
      obtain ⟨q, hq⟩ : ∃ q, q = -y := ⟨_, rfl⟩
      rw [← hp] at t2 ⊢
      rw [← hq] at t3 ⊢
      refine ⟨{ val := .tup [iV p, iV q] }, ⟨0, ?_⟩, rfl, (weak_iV_tup _ _).symm⟩
      simp only [iV_agg] at t2 t3
      clear hp hq
      simp [pureF, runF, t1, t2, t3, iV_agg]
    · have hp : partsR (s1, d1) (s2, d2) = (iA s1 d1, iA s2 d2) := partsR_pos (x := (s1, d1)) (y := (s2, d2)) (by show 0 < sg s2 (dv d2); omega)
      simp only [hp]
      clear hp
      have hc : cmpZ y 0 = 1 := by unfold cmpZ; rw [if_neg hyn, if_pos (by omega)]
      rw [hc] at t1
      refine ⟨{ val := .tup [.agg [.bool s1, .imm l1 1 (dg d1)], .agg [.bool s2, .imm l2 1 (dg d2)]] }, ⟨0, ?_⟩, rfl, by simp [AV.weak, AV.weakL, weakLL_dg, iA]⟩
      simp [pureF, runF, t1]

/-- What 'parts' gives: a numerator and a denominator above 0. -/
theorem parts_at {G : Pure} (hP : G 62 = spParts) {a : AV} {q : Rat} (h : qOf a = some q) : ∃ b1 d1 b2 d2, G 62 [a] = some { val := .tup [.agg [.bool b1, .imm false 1 (dg d1)], .agg [.bool b2, .imm false 1 (dg d2)]] } ∧
    Wf d1 ∧ d1.length < 2000000 ∧ Wf d2 ∧ d2.length < 2000000 ∧ 0 < sg b2 (dv d2) ∧ q = Rat.divInt (sg b1 (dv d1)) (sg b2 (dv d2)) := by
  obtain ⟨s1, l1, d1, s2, l2, d2, rfl, w1, k1, w2, k2, rfl⟩ := qOf_inv h
  have t := sp1_at (F := fun x => some (.tup [(partsR x.1 x.2).1, (partsR x.1 x.2).2])) hP (rawOf_mk (s1 := s1) (s2 := s2) (l1 := l1) (l2 := l2) w1 (by omega) w2 (by omega)) rfl
  have q1 := digs_length_dv w1
  have q2 := digs_length_dv w2
  by_cases hy0 : sg s2 (dv d2) = 0
  · simp only [partsR_zero (x := (s1, d1)) (y := (s2, d2)) hy0] at t
    refine ⟨_, _, _, _, t, wf_digs _, ?_, wf_digs _, ?_, ?_, ?_⟩
    · exact Nat.lt_of_le_of_lt (zl_small (z := 0) (by decide)) (by decide)
    · exact Nat.lt_of_le_of_lt (zl_small (z := 1) (by decide)) (by decide)
    · rw [dv_digs, sg_self]; decide
    · rw [dv_digs, dv_digs, sg_self, sg_self, hy0, Rat.divInt_zero, Rat.zero_divInt]
  · by_cases hyn : sg s2 (dv d2) < 0
    · simp only [partsR_neg (x := (s1, d1)) (y := (s2, d2)) hyn] at t
      rw [show vOf (s1, d1) = sg s1 (dv d1) from rfl, show vOf (s2, d2) = sg s2 (dv d2) from rfl] at t
      refine ⟨_, _, _, _, t, wf_digs _, ?_, wf_digs _, ?_, ?_, ?_⟩
      · rw [Int.natAbs_neg, sg_natAbs]; omega
      · rw [Int.natAbs_neg, sg_natAbs]; omega
      · rw [dv_digs, sg_self]; omega
      · rw [dv_digs, dv_digs, sg_self, sg_self, Rat.neg_divInt_neg]
    · simp only [partsR_pos (x := (s1, d1)) (y := (s2, d2)) (show 0 < sg s2 (dv d2) by omega)] at t
      exact ⟨_, _, _, _, t, w1, k1, w2, k2, by omega, rfl⟩

/-! ### reduced, FromInt, Sign -/

def spReduced : List AV → Option PRes := sp2 zOfS zOfS fun x y => some (fV (Rat.divInt x y))

theorem reducedP_run (hS : G 63 = spSign) (hO : G 78 = spOne) (hGc : G 82 = spGCDS) (hN : G 79 = spNegate) (hD : G 83 = spDivMod) : FSpec (fun args n => pureF G ic n c65F args) spReduced := by
  intro args r h
  obtain ⟨a, b, x, y, v, rfl, hx, hy, hv, rfl⟩ := sp2_inv h
  cases hv
  have zx := zOfS_zOf hx
  have zy := zOfS_zOf hy
  have lx := zOf_zl zx
  have t0 := sp0_at hO
  simp only [iV_agg] at t0
  have t1 := sp1_at hS zx rfl
  have t2 := sp1_at hS zy rfl
  have t3 := sp2_at hGc hx hy rfl
  obtain ⟨s1, l1, d1, rfl, w1, k1, -⟩ := zOfS_inv hx
  obtain ⟨s2, l2, d2, rfl, w2, k2, -⟩ := zOfS_inv hy
  have w0 : ∀ nl : Bool, fV 0 = AV.weak (.agg [.bool false, .imm nl 1 [], .bool false, .imm false 1 (dg (digs 1))]) := fun nl => by
    rw [fV_zero, ← dg_nil, weak_raw]
  by_cases hx0 : x = 0
  · have hc : cmpZ x 0 = 0 := by rw [hx0]; rfl
    rw [hc] at t1
    refine ⟨{ val := .agg [.bool false, .imm true 1 [], .bool false, .imm false 1 (dg (digs 1))] }, ⟨0, ?_⟩, rfl, by rw [hx0, Rat.zero_divInt]; exact w0 true⟩
    simp [pureF, runF, t0, t1]
  have hcx : ¬ cmpZ x 0 = 0 := by unfold cmpZ; split <;> (try split) <;> omega
  by_cases hy0 : y = 0
  · have hc : cmpZ y 0 = 0 := by rw [hy0]; rfl
    rw [hc] at t2
    refine ⟨{ val := .agg [.bool false, .imm true 1 [], .bool false, .imm false 1 (dg (digs 1))] }, ⟨0, ?_⟩, rfl, by rw [hy0, Rat.divInt_zero]; exact w0 true⟩
    simp [pureF, runF, t0, t1, t2, hcx]
  have hcy : ¬ cmpZ y 0 = 0 := by unfold cmpZ; split <;> (try split) <;> omega
  obtain ⟨g, hg⟩ : ∃ g : Int, g = ((Int.gcd x y : Nat) : Int) := ⟨_, rfl⟩
  have hg0 : g ≠ 0 := by rw [hg]; have := Int.gcd_pos_of_ne_zero_left y hx0; omega
  have hgl : zl g < 30000000 := by
    refine Nat.lt_of_le_of_lt (zl_mono (y := x) ?_) lx
    rw [hg]
    show Nat.gcd x.natAbs y.natAbs ≤ x.natAbs
    exact Nat.gcd_le_left _ (by omega)
  rw [← hg] at t3
  obtain ⟨q, hq⟩ : ∃ q, q = Rat.divInt x y := ⟨_, rfl⟩
  rw [← hq]
  refine ⟨{ val := fV q }, ⟨0, ?_⟩, rfl, (weak_fV _).symm⟩
  by_cases hyn : y < 0
  · have hcn : cmpZ y 0 < 0 := by unfold cmpZ; rw [if_pos hyn]; decide
    have t4 := sp1_at hN (zOf_iV hgl) rfl
    have hgl' : zl (-g) < 30000000 := by rw [zl_neg]; exact hgl
    have t5 := sp2_at hD zx (zOf_iV hgl') rfl
    have t6 := sp2_at hD zy (zOf_iV hgl') rfl
    rw [if_neg (by omega)] at t5 t6
    obtain ⟨p1, p2⟩ := divInt_parts (n := -x) (d := -y) (by omega)
    rw [Int.gcd_neg, Int.neg_gcd, ← hg, Rat.neg_divInt_neg, ← hq] at p1 p2
    have e1 : x.fdiv (-g) = q.num := by rw [← p1, ← Int.neg_fdiv_neg, Int.neg_neg]
    have e2 : y.fdiv (-g) = (q.den : Int) := by rw [← p2, ← Int.neg_fdiv_neg, Int.neg_neg]
    rw [e1] at t5
    rw [e2] at t6
    obtain ⟨g', hg'⟩ : ∃ g', g' = -g := ⟨_, rfl⟩
    obtain ⟨M1, hM1⟩ : ∃ M, M = x.fmod (-g) := ⟨_, rfl⟩
    obtain ⟨M2, hM2⟩ : ∃ M, M = y.fmod (-g) := ⟨_, rfl⟩
    rw [← hM1, ← hg'] at t5
    rw [← hM2, ← hg'] at t6
    rw [← hg'] at t4
    simp only [iV_agg] at t3 t4 t5 t6
    clear hg hg' hM1 hM2 hq p1 p2 e1 e2
    simp [pureF, runF, t1, t2, hcx, hcy, hcn, t3, t4, t5, t6, fV_agg]
  · have hcn : ¬ cmpZ y 0 < 0 := by unfold cmpZ; rw [if_neg hyn]; split <;> decide
    have t5 := sp2_at hD zx (zOf_iV hgl) rfl
    have t6 := sp2_at hD zy (zOf_iV hgl) rfl
    rw [if_neg hg0] at t5 t6
    obtain ⟨p1, p2⟩ := divInt_parts (n := x) (d := y) (by omega)
    rw [← hg, ← hq] at p1 p2
    rw [p1] at t5
    rw [p2] at t6
    obtain ⟨M1, hM1⟩ : ∃ M, M = x.fmod g := ⟨_, rfl⟩
    obtain ⟨M2, hM2⟩ : ∃ M, M = y.fmod g := ⟨_, rfl⟩
    rw [← hM1] at t5
    rw [← hM2] at t6
    simp only [iV_agg] at t3 t5 t6
    clear hg hM1 hM2 hq p1 p2
    simp [pureF, runF, t1, t2, hcx, hcy, hcn, t3, t5, t6, fV_agg]

def spFromIntS : List AV → Option PRes := sp1 zOfS fun z => some (fV (z : Rat))

theorem fromIntP_run (hO : G 78 = spOne) (hR : G 65 = spReduced) : FSpec (fun args n => pureF G ic n c68F args) spFromIntS := by
  intro args r h
  obtain ⟨a, z, v, rfl, hx, hv, rfl⟩ := sp1_inv h
  cases hv
  have t0 := sp0_at hO
  have t1 := sp2_at hR hx (zOfS_iV (z := 1) (Nat.lt_of_le_of_lt (zl_small (by decide)) (by decide))) rfl
  rw [divInt_one] at t1
  obtain ⟨s1, l1, d1, rfl, w1, k1, -⟩ := zOfS_inv hx
  obtain ⟨q, hq⟩ : ∃ q : Rat, q = (z : Rat) := ⟨_, rfl⟩
  rw [← hq] at t1 ⊢
  obtain ⟨one, hone⟩ : ∃ o : Int, o = 1 := ⟨_, rfl⟩
  rw [← hone] at t0 t1
  refine ⟨{ val := fV q }, ⟨0, ?_⟩, rfl, (weak_fV _).symm⟩
  simp only [iV_agg] at t0
  simp only [fV_agg] at t1
  clear hone hq
  simp [pureF, runF, t0, t1, fV_agg]

/-- The sign of a fraction with a denominator above 0. -/
theorem cmpZ_divInt {n d : Int} (hd : 0 < d) : cmpZ (Rat.divInt n d).num 0 = cmpZ n 0 := by
  have h := (divInt_parts (n := n) hd).1
  have hg : 0 < Int.gcd n d := Int.gcd_pos_of_ne_zero_right n (by omega)
  have hdv := Int.mul_fdiv_cancel' (a := ((Int.gcd n d : Nat) : Int)) (b := n) (Int.gcd_dvd_left ..)
  rw [h] at hdv
  obtain ⟨g, hge⟩ : ∃ g : Int, g = ((Int.gcd n d : Nat) : Int) := ⟨_, rfl⟩
  obtain ⟨m, hm⟩ : ∃ m, m = (Rat.divInt n d).num := ⟨_, rfl⟩
  rw [← hge, ← hm] at hdv
  rw [← hm]
  have hg' : 0 < g := by omega
  unfold cmpZ
  rcases Int.lt_trichotomy m 0 with h1 | h1 | h1
  · have : g * m < 0 := Int.mul_neg_of_pos_of_neg hg' h1
    rw [if_pos h1, if_pos (by omega)]
  · subst h1; rw [Int.mul_zero] at hdv; rw [← hdv]
  · have : 0 < g * m := Int.mul_pos hg' h1
    rw [if_neg (by omega), if_pos h1, if_neg (by omega), if_pos (by omega)]

theorem signQ_run (hP : G 62 = spParts) (hS : G 63 = spSign) : FSpec (fun args n => pureF G ic n c40F args) spSignFrac := by
  intro args r h
  obtain ⟨a, q, v, rfl, hx, hv, rfl⟩ := sp1_inv h
  cases hv
  obtain ⟨b1, e1, b2, e2, t1, w1, k1, w2, k2, hd, hq⟩ := parts_at hP hx
  have t2 := sp1_at hS (zOf_mk (b := b1) (nl := false) w1 (by omega)) rfl
  rw [← cmpZ_divInt hd, ← hq] at t2
  obtain ⟨s1, l1, d1, s2, l2, d2, rfl, -⟩ := qOf_inv hx
  refine ⟨{ val := .int .i64 (cmpZ q.num 0) }, ⟨0, ?_⟩, rfl, rfl⟩
  simp [pureF, runF, t1, t2]

/-! ### Mul, Add -/

theorem mulQ_run (hP : G 62 = spParts) (hM : G 66 = spMul) (hR : G 65 = spReduced) : FSpec (fun args n => pureF G ic n c46F args) spMulFrac := by
  intro args r h
  obtain ⟨a, b, x, y, v, rfl, hx, hy, hv, rfl⟩ := sp2_inv h
  cases hv
  obtain ⟨b1, e1, b2, e2, t1, w1, k1, w2, k2, hd1, hq1⟩ := parts_at hP hx
  obtain ⟨b3, e3, b4, e4, t2, w3, k3, w4, k4, hd2, hq2⟩ := parts_at hP hy
  have q1 := digs_length_dv w1
  have q2 := digs_length_dv w2
  have q3 := digs_length_dv w3
  have q4 := digs_length_dv w4
  have t3 := sp2_at hM (zOf_mk (b := b1) (nl := false) w1 (by omega)) (zOf_mk (b := b3) (nl := false) w3 (by omega)) rfl
  have t4 := sp2_at hM (zOf_mk (b := b2) (nl := false) w2 (by omega)) (zOf_mk (b := b4) (nl := false) w4 (by omega)) rfl
  have l1 := zl_mul (sg b1 (dv e1)) (sg b3 (dv e3))
  have l2 := zl_mul (sg b2 (dv e2)) (sg b4 (dv e4))
  rw [zl_sg, zl_sg] at l1 l2
  obtain ⟨p1, hp1⟩ : ∃ e, e = sg b1 (dv e1) * sg b3 (dv e3) := ⟨_, rfl⟩
  obtain ⟨p2, hp2⟩ : ∃ e, e = sg b2 (dv e2) * sg b4 (dv e4) := ⟨_, rfl⟩
  rw [← hp1] at t3 l1
  rw [← hp2] at t4 l2
  have t5 := sp2_at hR (zOfS_iV (z := p1) (by omega)) (zOfS_iV (z := p2) (by omega)) rfl
  have e5 : Rat.divInt p1 p2 = x * y := by rw [hq1, hq2, Rat.divInt_mul_divInt, hp1, hp2]
  rw [e5] at t5
  obtain ⟨q, hq⟩ : ∃ q : Rat, q = x * y := ⟨_, rfl⟩
  rw [← hq] at t5 ⊢
  obtain ⟨s1, l1', d1, s2, l2', d2, rfl, -⟩ := qOf_inv hx
  obtain ⟨s3, l3', d3, s4, l4', d4, rfl, -⟩ := qOf_inv hy
  refine ⟨{ val := fV q }, ⟨0, ?_⟩, rfl, (weak_fV _).symm⟩
  simp only [iV_agg] at t3 t4
  simp only [fV_agg] at t5
  clear hp1 hp2 hq e5
  simp [pureF, runF, t1, t2, t3, t4, t5, fV_agg]

theorem addQ_run (hP : G 62 = spParts) (hM : G 66 = spMul) (hA : G 67 = spAdd) (hR : G 65 = spReduced) : FSpec (fun args n => pureF G ic n c47F args) spAddFrac := by
  intro args r h
  obtain ⟨a, b, x, y, v, rfl, hx, hy, hv, rfl⟩ := sp2_inv h
  cases hv
  obtain ⟨b1, e1, b2, e2, t1, w1, k1, w2, k2, hd1, hq1⟩ := parts_at hP hx
  obtain ⟨b3, e3, b4, e4, t2, w3, k3, w4, k4, hd2, hq2⟩ := parts_at hP hy
  have q1 := digs_length_dv w1
  have q2 := digs_length_dv w2
  have q3 := digs_length_dv w3
  have q4 := digs_length_dv w4
  have z1 := zOf_mk (b := b1) (nl := false) w1 (by omega)
  have z2 := zOf_mk (b := b2) (nl := false) w2 (by omega)
  have z3 := zOf_mk (b := b3) (nl := false) w3 (by omega)
  have z4 := zOf_mk (b := b4) (nl := false) w4 (by omega)
  have t3 := sp2_at hM z1 z4 rfl
  have t4 := sp2_at hM z3 z2 rfl
  have t5 := sp2_at hM z2 z4 rfl
  have l1 := zl_mul (sg b1 (dv e1)) (sg b4 (dv e4))
  have l2 := zl_mul (sg b3 (dv e3)) (sg b2 (dv e2))
  have l3 := zl_mul (sg b2 (dv e2)) (sg b4 (dv e4))
  rw [zl_sg, zl_sg] at l1 l2 l3
  obtain ⟨p1, hp1⟩ : ∃ e, e = sg b1 (dv e1) * sg b4 (dv e4) := ⟨_, rfl⟩
  obtain ⟨p2, hp2⟩ : ∃ e, e = sg b3 (dv e3) * sg b2 (dv e2) := ⟨_, rfl⟩
  obtain ⟨p3, hp3⟩ : ∃ e, e = sg b2 (dv e2) * sg b4 (dv e4) := ⟨_, rfl⟩
  rw [← hp1] at t3 l1
  rw [← hp2] at t4 l2
  rw [← hp3] at t5 l3
  have t6 := sp2_at hA (zOf_iV (z := p1) (by simp only [zl] at l1; omega)) (zOf_iV (z := p2) (by simp only [zl] at l2; omega)) rfl
  have l4 := zl_add p1 p2
  obtain ⟨p4, hp4⟩ : ∃ e, e = p1 + p2 := ⟨_, rfl⟩
  rw [← hp4] at t6 l4
  have t7 := sp2_at hR (zOfS_iV (z := p4) (by omega)) (zOfS_iV (z := p3) (by omega)) rfl
  have e5 : Rat.divInt p4 p3 = x + y := by rw [hq1, hq2, Rat.divInt_add_divInt _ _ (by omega) (by omega), hp4, hp1, hp2, hp3]
  rw [e5] at t7
  obtain ⟨q, hq⟩ : ∃ q : Rat, q = x + y := ⟨_, rfl⟩
  rw [← hq] at t7 ⊢
  obtain ⟨s1, l1', d1, s2, l2', d2, rfl, -⟩ := qOf_inv hx
  obtain ⟨s3, l3', d3, s4, l4', d4, rfl, -⟩ := qOf_inv hy
  refine ⟨{ val := fV q }, ⟨0, ?_⟩, rfl, (weak_fV _).symm⟩
  simp only [iV_agg] at t3 t4 t5 t6
  simp only [fV_agg] at t7
  clear hp1 hp2 hp3 hp4 hq e5
  simp [pureF, runF, t1, t2, t3, t4, t5, t6, t7, fV_agg]

/-! ### zero, canonical -/

def spZero : List AV → Option PRes := sp0 (fV 0)

theorem zero_run (hF : G 69 = spFromInt64) (hI : G 68 = spFromIntS) : FSpec (fun args n => pureF G ic n c48F args) spZero := by
  intro args r h
  obtain ⟨rfl, rfl⟩ := sp0_inv h
  obtain ⟨q, hq⟩ : ∃ q : Rat, q = 0 := ⟨_, rfl⟩
  obtain ⟨z, hz⟩ : ∃ z : Int, z = 0 := ⟨_, rfl⟩
  have t1' : G 69 [.int .i64 0] = some { val := iV z } := by rw [hz]; exact sp1_at hF (i64Of_mk (n := 0) (by decide) (by decide)) rfl
  have t2 : G 68 [.agg [.bool (decide (z < 0)), .imm false 1 (dg (digs z.natAbs))]] = some { val := fV q } := by
    rw [hz, hq]; exact sp1_at hI (zOfS_iV (z := 0) (Nat.lt_of_le_of_lt (zl_small (by decide)) (by decide))) rfl
  rw [← hq]
  refine ⟨{ val := fV q }, ⟨0, ?_⟩, rfl, (weak_fV _).symm⟩
  simp only [iV_agg] at t1'
  simp only [fV_agg] at t2
  clear hq hz
  simp [pureF, runF, t1', t2, fV_agg]

def spCanonQ : List AV → Option PRes := sp1 qOf fun q => some (fV q)

theorem canonQ_run (hZ : G 48 = spZero) (hA : G 47 = spAddFrac) : FSpec (fun args n => pureF G ic n c45F args) spCanonQ := by
  intro args r h
  obtain ⟨a, q, v, rfl, hx, hv, rfl⟩ := sp1_inv h
  cases hv
  have t1 := sp0_at hZ
  have t2 := sp2_at hA hx (qOf_fV Sz_zero (by decide)) rfl
  rw [Rat.add_zero] at t2
  obtain ⟨o, ho⟩ : ∃ o : Rat, o = 0 := ⟨_, rfl⟩
  rw [← ho] at t1 t2
  obtain ⟨s1, l1, d1, s2, l2, d2, rfl, -⟩ := qOf_inv hx
  refine ⟨{ val := fV q }, ⟨0, ?_⟩, rfl, (weak_fV _).symm⟩
  simp only [fV_agg] at t1 t2
  clear ho
  simp [pureF, runF, t1, t2, fV_agg]

end
end Go.Proofs.Ythlpmghodgiknaa.C

/-
  From the reading of arguments to abstract values; a law's row.
-/
namespace Go.Ev
open Go Go.RowKit Go.WideShapes Go.ChangeShapes

/-- The shapes of cells. -/
inductive CT where
  | bool
  | int (k : IntKind)
  | str
  | sl (l : List CT)

inductive Fit : CT → AV → Prop where
  | bool (b : Bool) : Fit .bool (.bool b)
  | int {k : IntKind} {n : Int} (h : (Lit.int k n).wf = true) : Fit (.int k) (.int k n)
  | str {s : ByteArray} (h : s.size ≤ 140737488355328) : Fit .str (.str s)
  | sl {l : List CT} {nl : Bool} {es : List (List AV)} (hl : es.length ≤ 140737488355328) (hn : nl = true → es = []) (hc : ∀ cs ∈ es, cs.length = l.length)
      (h : ∀ cs ∈ es, ∀ (j : Nat) (t : CT) (u : AV), l[j]? = some t → cs[j]? = some u → Fit t u) : Fit (.sl l) (.imm nl l.length es)

/-- The cells of a type. -/
def tys (P : Program) : Nat → TypeId → Option (List CT)
  | 0, _ => none
  | d + 1, t =>
    match P.underlying t with
    | some .bool => if P.cellsOf t = 1 then some [.bool] else none
    | some (.int k) => if P.cellsOf t = 1 then some [.int k] else none
    | some .string => if P.cellsOf t = 1 then some [.str] else none
    | some (.slice e) =>
      match tys P d e with
      | some l => if P.cellsOf t = 1 ∧ P.cellsOf e = l.length ∧ 0 < l.length ∧ 1 ≤ P.bytesOf e then some [.sl l] else none
      | none => none
    | some (.struct fs) =>
      match fs.foldl (fun acc f => match acc, tys P d f.type with | some a, some b => if f.offset = a.length ∧ P.cellsOf f.type = b.length then some (a ++ b) else none | _, _ => none) (some []) with
      | some l => if P.cellsOf t = l.length then some l else none
      | none => none
    | some (.array n e) =>
      match tys P d e with
      | some l => if P.cellsOf t = n * l.length ∧ P.cellsOf e = l.length then some (List.replicate n l).flatten else none
      | none => none
    | _ => none

theorem tys_len {P : Program} : ∀ {d : Nat} {t : TypeId} {l : List CT}, tys P d t = some l → P.cellsOf t = l.length := by
  intro d
  cases d with
  | zero => intro t l h; cases h
  | succ d =>
    intro t l h
    unfold tys at h
    split at h
    · split at h <;> cases h; assumption
    · split at h <;> cases h; assumption
    · split at h <;> cases h; assumption
    · split at h
      · split at h
        · rename_i h1; cases h; exact h1.1
        · cases h
      · cases h
    · split at h
      · split at h
        · cases h; assumption
        · cases h
      · cases h
    · split at h
      · split at h
        · rename_i h1
          cases h
          rw [h1.1]; simp
        · cases h
      · cases h
    · cases h

/-- What a list of cells reads as. -/
def ReadsAs (w : World) (l : List CT) (cs : List Value) : Prop :=
  cs.length = l.length ∧ ∃ us : List AV, us.length = cs.length ∧ (∀ (j : Nat) (u : AV) (v : Value), us[j]? = some u → cs[j]? = some v → RepI (· < w.heap.size) w u v) ∧
    ∀ (j : Nat) (t : CT) (u : AV), l[j]? = some t → us[j]? = some u → Fit t u

theorem readsAs_one {w : World} {t : CT} {v : Value} {u : AV} (h : RepI (· < w.heap.size) w u v) (hf : Fit t u) : ReadsAs w [t] [v] := by
  refine ⟨rfl, [u], rfl, ?_, ?_⟩
  · intro j u' v' h1 h2
    cases j with
    | zero => simp at h1 h2; subst h1; subst h2; exact h
    | succ j => simp at h1
  · intro j t' u' h1 h2
    cases j with
    | zero => simp at h1 h2; subst h1; subst h2; exact hf
    | succ j => simp at h1

theorem readsAs_append {w : World} {l1 l2 : List CT} {c1 c2 : List Value} (h1 : ReadsAs w l1 c1) (h2 : ReadsAs w l2 c2) : ReadsAs w (l1 ++ l2) (c1 ++ c2) := by
  obtain ⟨a1, u1, a2, a3, a4⟩ := h1
  obtain ⟨b1, u2, b2, b3, b4⟩ := h2
  refine ⟨by simp [a1, b1], u1 ++ u2, by simp [a2, b2], ?_, ?_⟩
  · intro j u v hu hv
    rcases Nat.lt_or_ge j u1.length with lt | ge
    · rw [List.getElem?_append_left lt] at hu
      rw [List.getElem?_append_left (by omega)] at hv
      exact a3 j u v hu hv
    · rw [List.getElem?_append_right ge] at hu
      rw [List.getElem?_append_right (by omega), ← a2] at hv
      exact b3 _ u v hu hv
  · intro j t u ht hu
    rcases Nat.lt_or_ge j u1.length with lt | ge
    · rw [List.getElem?_append_left lt] at hu
      rw [List.getElem?_append_left (by omega)] at ht
      exact a4 j t u ht hu
    · rw [List.getElem?_append_right ge] at hu
      rw [List.getElem?_append_right (by omega), show l1.length = u1.length by omega] at ht
      exact b4 _ t u ht hu

theorem readsAs_nil {w : World} : ReadsAs w [] [] := ⟨rfl, [], rfl, by intro j u v h; simp at h, by intro j t u h; simp at h⟩

section
variable {H : Type} {enc : TypeId × Value → H} {P : Program} {w : World} {spare : Nat → Bool} {held : Bool}

theorem cell_lt {a : Addr} {v : Value} (h : w.cell? a = some v) : a.block < w.heap.size := by
  unfold World.cell? at h
  rcases Nat.lt_or_ge a.block w.heap.size with lt | ge
  · exact lt
  · rw [Array.getElem?_eq_none ge] at h; simp at h

theorem fields_read {d : Nat} (ih : ∀ (t : TypeId) (cs : List Value) (l : List CT) (fuel : Nat) (x : DataW H × List MemPlace), tys P d t = some l → (∀ n ∈ x.1.weights P t, n ≤ reachBytes) → DataW.trod enc P w 0 spare held fuel t cs = some x → ReadsAs w l cs) {fuel : Nat} :
    ∀ (fs : List Field) (cs : List Value) (a l : List CT), ReadsAs w a (cs.take a.length) → (∀ f ∈ fs, ∃ x, DataW.trod enc P w 0 spare held fuel f.type ((cs.drop f.offset).take (P.cellsOf f.type)) = some x ∧ ∀ n ∈ x.1.weights P f.type, n ≤ reachBytes) →
      fs.foldl (fun acc f => match acc, tys P d f.type with | some a, some b => if f.offset = a.length ∧ P.cellsOf f.type = b.length then some (a ++ b) else none | _, _ => none) (some a) = some l → ReadsAs w l (cs.take l.length) := by
  intro fs
  induction fs with
  | nil => intro cs a l h _ he; simp at he; subst he; exact h
  | cons f fs ihf =>
    intro cs a l h hf he
    rw [List.foldl_cons] at he
    have none_fold : ∀ fs : List Field, fs.foldl (fun acc f => match acc, tys P d f.type with | some a, some b => if f.offset = a.length ∧ P.cellsOf f.type = b.length then some (a ++ b) else none | _, _ => none) (none : Option (List CT)) = none := by
      intro fs
      induction fs with
      | nil => rfl
      | cons f fs ih => rw [List.foldl_cons]; exact ih
    cases ht : tys P d f.type with
    | none => rw [ht] at he; simp only at he; rw [none_fold] at he; cases he
    | some b =>
      rw [ht] at he
      simp only at he
      by_cases hc : f.offset = a.length ∧ P.cellsOf f.type = b.length
      · rw [if_pos hc] at he
        obtain ⟨x, hx, hwx⟩ := hf f (by simp)
        have hr := ih _ _ _ _ _ ht hwx hx
        rw [hc.1, hc.2] at hr
        refine ihf cs (a ++ b) l ?_ (fun f' hf' => hf f' (by simp [hf'])) he
        have := readsAs_append h hr
        rwa [List.length_append, List.take_add]
      · rw [if_neg hc, none_fold] at he; cases he

theorem array_read {e : TypeId} {l : List CT} (ih : ∀ (cs : List Value) (fuel : Nat) (x : DataW H × List MemPlace), (∀ n ∈ x.1.weights P e, n ≤ reachBytes) → DataW.trod enc P w 0 spare held fuel e cs = some x → ReadsAs w l cs) {fuel : Nat} {cs : List Value} :
    ∀ (n : Nat), (∀ i, i < n → ∃ x, DataW.trod enc P w 0 spare held fuel e ((cs.drop (i * l.length)).take l.length) = some x ∧ ∀ n ∈ x.1.weights P e, n ≤ reachBytes) → ReadsAs w (List.replicate n l).flatten (cs.take (n * l.length)) := by
  intro n
  induction n with
  | zero => intro _; simpa using readsAs_nil
  | succ n ihn =>
    intro h
    have h1 := ihn fun i hi => h i (by omega)
    obtain ⟨x, hx, hwx⟩ := h n (by omega)
    have h2 := readsAs_append h1 (ih _ _ _ hwx hx)
    rw [List.replicate_succ', List.flatten_append, Nat.add_mul, Nat.one_mul, List.take_add]
    simpa using h2

theorem weights_mem_all {H : Type} {P : Program} {e : TypeId} : ∀ {ds : List (DataW H)} {d : DataW H}, d ∈ ds → ∀ n ∈ d.weights P e, n ∈ DataW.weightsAll P e ds
  | d0 :: ds, d, hd, n, hn => by
    simp only [DataW.weightsAll, List.mem_append]
    rcases List.mem_cons.1 hd with rfl | hd
    · exact .inl hn
    · exact .inr (weights_mem_all hd n hn)

/-- A reading gives an abstract value of its type's shape. -/
theorem trod_reads : ∀ (d : Nat) (t : TypeId) (cs : List Value) (l : List CT) (fuel : Nat) (x : DataW H × List MemPlace), tys P d t = some l → (∀ n ∈ x.1.weights P t, n ≤ reachBytes) → DataW.trod enc P w 0 spare held fuel t cs = some x → ReadsAs w l cs := by
  intro d
  induction d with
  | zero => intro t cs l fuel x h; cases h
  | succ d ih =>
    intro t cs l fuel x h hwt hx
    unfold tys at h
    split at h
    · rename_i ht
      split at h <;> cases h
      obtain ⟨b, rfl, _⟩ := DataW.trod_bool ht hx
      exact readsAs_one (.bool b) (.bool b)
    · rename_i k ht
      split at h <;> cases h
      obtain ⟨n, rfl, _, hw⟩ := DataW.trod_int ht hx
      exact readsAs_one (.int k n) (.int hw)
    · rename_i ht
      split at h <;> cases h
      obtain ⟨s, rfl, rfl, hs⟩ := DataW.trod_string ht hx
      have hw := hwt s.data.toList.length (by simp [DataW.weights])
      have hsz : s.size = s.data.toList.length := Array.length_toList.symm
      exact readsAs_one (.str s) (.str (by rw [hsz]; exact Nat.le_trans hw (by decide)))
    · rename_i e ht
      split at h
      · rename_i le hle
        split at h
        · rename_i hc
          cases h
          rcases Go.Deep.open_slice ht hx with ⟨rfl, _⟩ | ⟨a, len, cap, m, n, D, Pl, rfl, _, hlc, hcm, hm, hxe, hi⟩
          · exact readsAs_one (u := .imm true le.length []) (.nils _) (.sl (by simp) (fun _ => rfl) (by simp) (by simp))
          · have hlm : len ≤ m := by rw [hm]; split <;> omega
            subst hxe
            have hwl : len ≤ 140737488355328 := by
              have h1 := hwt ((((List.range len).map D).length + ((List.range (m - len)).map fun j => D (len + j)).length) * P.bytesOf e) (by simp only [DataW.weights, ht]; exact List.mem_cons_self)
              have h2 : len * 1 ≤ (((List.range len).map D).length + ((List.range (m - len)).map fun j => D (len + j)).length) * P.bytesOf e := Nat.mul_le_mul (by simp) hc.2.2.2
              have h3 : reachBytes ≤ 140737488355328 := by decide
              omega
            have hwD : ∀ i, i < len → ∀ n ∈ (D i).weights P e, n ≤ reachBytes := fun i hi n hn => hwt n (by
              simp only [DataW.weights, ht, List.mem_cons, List.mem_append]
              exact .inr (.inl (weights_mem_all (List.mem_map.2 ⟨i, List.mem_range.2 hi, rfl⟩) n hn)))
            have key : ∀ i, i < len → ∃ (us : List AV) (vs : List Value), us.length = le.length ∧ vs.length = le.length ∧ (∀ j, j < le.length → w.cell? (a.add (i * le.length + j)) = vs[j]?) ∧
                (∀ (j : Nat) (u : AV) (v : Value), us[j]? = some u → vs[j]? = some v → RepI (· < w.heap.size) w u v) ∧ (∀ (j : Nat) (t : CT) (u : AV), le[j]? = some t → us[j]? = some u → Fit t u) := by
              intro i hil
              obtain ⟨cs', hc', ht'⟩ := hi i (by omega)
              obtain ⟨_, hcl, hat⟩ := World.cells?_some hc'
              obtain ⟨r1, us, r2, r3, r4⟩ := ih e cs' le n _ hle (hwD i hil) ht'
              refine ⟨us, cs', by omega, by omega, fun j hj => ?_, r3, r4⟩
              rw [← hat j (by omega), add_add, hc.2.1]
            -- choose the elements
            have ch : ∃ (U : Nat → List AV) (V : Nat → List Value), ∀ i, i < len → (U i).length = le.length ∧ (V i).length = le.length ∧ (∀ j, j < le.length → w.cell? (a.add (i * le.length + j)) = (V i)[j]?) ∧
                (∀ (j : Nat) (u : AV) (v : Value), (U i)[j]? = some u → (V i)[j]? = some v → RepI (· < w.heap.size) w u v) ∧ (∀ (j : Nat) (t : CT) (u : AV), le[j]? = some t → (U i)[j]? = some u → Fit t u) := by
              have : ∀ i, ∃ p : List AV × List Value, i < len → p.1.length = le.length ∧ p.2.length = le.length ∧ (∀ j, j < le.length → w.cell? (a.add (i * le.length + j)) = p.2[j]?) ∧
                (∀ (j : Nat) (u : AV) (v : Value), p.1[j]? = some u → p.2[j]? = some v → RepI (· < w.heap.size) w u v) ∧ (∀ (j : Nat) (t : CT) (u : AV), le[j]? = some t → p.1[j]? = some u → Fit t u) := by
                intro i
                by_cases hil : i < len
                · obtain ⟨us, vs, h1⟩ := key i hil
                  exact ⟨(us, vs), fun _ => h1⟩
                · exact ⟨([], []), fun h => absurd h hil⟩
              exact ⟨fun i => (Classical.choose (this i)).1, fun i => (Classical.choose (this i)).2, fun i hi => Classical.choose_spec (this i) hi⟩
            obtain ⟨U, V, hUV⟩ := ch
            have hmem : ∀ cs ∈ (List.range len).map U, ∃ i, i < len ∧ cs = U i := by
              intro cs hcs
              obtain ⟨i, hi1, hi2⟩ := List.mem_map.1 hcs
              exact ⟨i, List.mem_range.1 hi1, hi2.symm⟩
            have hget : ∀ (i : Nat) (cs : List AV), ((List.range len).map U)[i]? = some cs → i < len ∧ cs = U i := by
              intro i cs hcs
              rw [List.getElem?_map, Option.map_eq_some_iff] at hcs
              obtain ⟨k, hk, rfl⟩ := hcs
              rw [List.getElem?_eq_some_iff] at hk
              obtain ⟨h1, h2⟩ := hk
              simp at h1 h2
              exact ⟨h1, by rw [← h2]⟩
            refine readsAs_one (u := .imm false le.length ((List.range len).map U)) (.imm (A := some a) (n := len) (c := cap) a (fun i j => (V i).getD j default) (by simp) (by simpa using hlc) (fun hne => ⟨rfl, ?_⟩) ?_ ?_ ?_) (.sl (by simp; exact hwl) (by simp) ?_ ?_)
            · have hpos : 0 < len := by
                rcases Nat.eq_zero_or_pos len with h0 | h0
                · rw [h0] at hne; simp at hne
                · exact h0
              obtain ⟨_, k2, k3, _, _⟩ := hUV 0 hpos
              have := k3 0 hc.2.2.1
              rw [List.getElem?_eq_getElem (by omega)] at this
              have := cell_lt this
              rwa [block_add] at this
            · intro cs hcs
              obtain ⟨i, hi1, rfl⟩ := hmem cs hcs
              exact (hUV i hi1).1
            · intro i cs j u hcs hu
              obtain ⟨hi1, rfl⟩ := hget i cs hcs
              obtain ⟨k1, k2, k3, _, _⟩ := hUV i hi1
              have hj : j < le.length := by rw [← k1]; exact (List.getElem?_eq_some_iff.1 hu).1
              have hjv : j < (V i).length := by omega
              rw [k3 j hj]; simp [hjv]
            · intro i cs j u hcs hu
              obtain ⟨hi1, rfl⟩ := hget i cs hcs
              obtain ⟨k1, k2, k3, k4, _⟩ := hUV i hi1
              have hj : j < le.length := by rw [← k1]; exact (List.getElem?_eq_some_iff.1 hu).1
              have hjv : j < (V i).length := by omega
              exact k4 j u _ hu (by simp [hjv])
            · intro cs hcs
              obtain ⟨i, hi1, rfl⟩ := hmem cs hcs
              exact (hUV i hi1).1
            · intro cs hcs j t u ht' hu
              obtain ⟨i, hi1, rfl⟩ := hmem cs hcs
              exact (hUV i hi1).2.2.2.2 j t u ht' hu
        · cases h
      · cases h
    · rename_i fs ht
      split at h
      · rename_i l' hl'
        split at h
        · rename_i hc
          cases h
          obtain ⟨xs, n, _, hxe, hlen, hxl, hg⟩ := DataW.trod_struct ht hx
          subst hxe
          rw [← Array.foldl_toList] at hl'
          have := fields_read (enc := enc) (w := w) (spare := spare) (held := held) (fuel := n) (fun t cs l fuel x => ih t cs l fuel x) fs.toList cs [] l (by simpa using readsAs_nil) (fun f hf => ?_) hl'
          · rwa [← hc, ← hlen, List.take_length] at this
          · obtain ⟨i, hi, he⟩ := List.getElem_of_mem hf
            have hif : fs[i]? = some f := by rw [← he]; simp
            have := hg i f hif
            have hxi : i < xs.length := by rw [hxl]; simpa using hi
            rw [List.getElem?_eq_getElem hxi] at this
            refine ⟨_, this, fun n hn => hwt n ?_⟩
            simp only [DataW.weights, ht]
            exact DataW.weights_mem_each (j := i) (t := f.type) (d := (xs[i]).1) (by simp [he]; simpa using ⟨f, by rw [← he]; simp, rfl⟩) (by simp [hxi]) n hn
        · cases h
      · cases h
    · rename_i n e ht
      split at h
      · rename_i le hle
        split at h
        · rename_i hc
          cases h
          obtain ⟨xs, m, _, hxe, hlen, hxl, hg⟩ := DataW.trod_array ht hx
          subst hxe
          have := array_read (enc := enc) (P := P) (w := w) (spare := spare) (held := held) (e := e) (l := le) (fuel := m) (cs := cs) (fun cs fuel x hw hx => ih e cs le fuel x hle hw hx) n (fun i hi => ?_)
          · rwa [← hc.1, ← hlen, List.take_length] at this
          · have := hg i hi
            rw [List.getElem?_eq_getElem (by omega), hc.2] at this
            refine ⟨_, this, fun n hn => hwt n ?_⟩
            simp only [DataW.weights, ht]
            exact weights_mem_all (List.mem_map.2 ⟨_, List.getElem_mem (by omega), rfl⟩) n hn
        · cases h
      · cases h
    · cases h

end

/-! ### Arguments -/

/-- An argument: a struct or an array ('true'), or one cell. -/
def FitA : Bool × List CT → AV → Prop
  | (true, l), u => ∃ us : List AV, u = .agg us ∧ us.length = l.length ∧ ∀ (j : Nat) (t : CT) (x : AV), l[j]? = some t → us[j]? = some x → Fit t x
  | (false, l), u => ∃ t, l = [t] ∧ Fit t u

def FitAll : List (Bool × List CT) → List AV → Prop
  | [], [] => True
  | p :: ps, u :: us => FitA p u ∧ FitAll ps us
  | _, _ => False

def argTy (P : Program) (t : TypeId) : Option (Bool × List CT) :=
  match P.underlying t with
  | some (.struct _) => (tys P 20 t).map fun l => (true, l)
  | some .bool | some (.int _) | some .string | some (.slice _) => (tys P 20 t).map fun l => (false, l)
  | _ => none

def argTys (P : Program) : List TypeId → Option (List (Bool × List CT))
  | [] => some []
  | t :: ts => match argTy P t, argTys P ts with | some p, some ps => some (p :: ps) | _, _ => none

section
variable {H : Type} {enc : TypeId × Value → H} {P : Program} {w : World} {spare : Nat → Bool} {held : Bool}

theorem arg_reads {t : TypeId} {v : Value} {d : DataW H} {ps : List MemPlace} {r : Reach} {b0 : Nat} {p : Bool × List CT} (ha : argTy P t = some p) (hv : Value.okWide P w r b0 t v) (hwt : ∀ n ∈ d.weights P t, n ≤ reachBytes) (h : DataW.Trod enc P w 0 spare held t v d ps) :
    ∃ u, RepI (· < w.heap.size) w u v ∧ FitA p u := by
  obtain ⟨fuel, hf⟩ := h
  have one : ∀ l : List CT, tys P 20 t = some l → p = (false, l) → v.cells.toList = [v] → P.cellsOf t = 1 → ∃ u, RepI (· < w.heap.size) w u v ∧ FitA p u := by
    intro l hl hp hc h1
    rw [hc] at hf
    obtain ⟨g1, us, g2, g3, g4⟩ := trod_reads 20 t [v] l fuel _ hl hwt hf
    match l, us, g1, g2 with
    | [ct], [u], _, _ => exact ⟨u, g3 0 u v rfl rfl, by rw [hp]; exact ⟨ct, rfl, g4 0 ct u rfl rfl⟩⟩
  unfold argTy at ha
  split at ha
  · rename_i fs ht
    rw [Option.map_eq_some_iff] at ha
    obtain ⟨l, hl, rfl⟩ := ha
    obtain ⟨cs, rfl, hsz⟩ := okWide_struct ht hv
    obtain ⟨g1, us, g2, g3, g4⟩ := trod_reads 20 t cs.toList l fuel _ hl hwt hf
    refine ⟨.agg us, .agg (by rw [g2]; simp) (fun j u x hu hx => g3 j u x hu (by simpa using hx)), us, rfl, by omega, g4⟩
  · rename_i ht
    rw [Option.map_eq_some_iff] at ha
    obtain ⟨l, hl, rfl⟩ := ha
    obtain ⟨b, rfl⟩ := okWide_bool ht hv
    exact one l hl rfl rfl (by have := tys_len hl; unfold tys at hl; rw [ht] at hl; simp only at hl; split at hl <;> cases hl; assumption)
  · rename_i k ht
    rw [Option.map_eq_some_iff] at ha
    obtain ⟨l, hl, rfl⟩ := ha
    obtain ⟨n, rfl⟩ := okWide_int ht hv
    exact one l hl rfl rfl (by have := tys_len hl; unfold tys at hl; rw [ht] at hl; simp only at hl; split at hl <;> cases hl; assumption)
  · rename_i ht
    rw [Option.map_eq_some_iff] at ha
    obtain ⟨l, hl, rfl⟩ := ha
    obtain ⟨s, rfl⟩ := okWide_string ht hv
    exact one l hl rfl rfl (by have := tys_len hl; unfold tys at hl; rw [ht] at hl; simp only at hl; split at hl <;> cases hl; assumption)
  · rename_i e ht
    rw [Option.map_eq_some_iff] at ha
    obtain ⟨l, hl, rfl⟩ := ha
    obtain ⟨a, n, c, rfl⟩ := okWide_slice ht hv
    refine one l hl rfl rfl ?_
    unfold tys at hl; rw [ht] at hl; simp only at hl
    split at hl
    · split at hl
      · rename_i hc; exact hc.1
      · cases hl
    · cases hl
  · cases ha

theorem args_read : ∀ (ts : List TypeId) (ps : List (Bool × List CT)) (vs : List Value) (ds : List (DataW H)) (pl : List MemPlace) {r : Reach} {b0 : Nat}, argTys P ts = some ps → (∀ (j : Nat) t v, ts[j]? = some t → vs[j]? = some v → Value.okWide P w r b0 t v) → (∀ n ∈ DataW.weightsEach P ts ds, n ≤ reachBytes) →
    DataW.TrodAll enc P w 0 spare held ts vs ds pl → ∃ us : List AV, us.length = vs.length ∧ (∀ (j : Nat) (u : AV) (v : Value), us[j]? = some u → vs[j]? = some v → RepI (· < w.heap.size) w u v) ∧ FitAll ps us := by
  intro ts
  induction ts with
  | nil =>
    intro ps vs ds pl r b0 ha _ _ h
    cases ha
    match vs, ds, h with
    | [], [], _ => exact ⟨[], rfl, by intro j u v h; simp at h, trivial⟩
  | cons t ts ih =>
    intro ps vs ds pl r b0 ha hv hwt h
    unfold argTys at ha
    split at ha
    · rename_i p ps' hp hps
      cases ha
      match vs, ds, h with
      | v :: vs, d :: ds, ⟨q1, q2, h1, h2, _⟩ =>
        obtain ⟨u, g1, g2⟩ := arg_reads hp (hv 0 t v rfl rfl) (fun n hn => hwt n (by simp only [DataW.weightsEach, List.mem_append]; exact .inl hn)) h1
        obtain ⟨us, k1, k2, k3⟩ := ih ps' vs ds q2 hps (fun j t v ht hv' => hv (j + 1) t v (by simpa using ht) (by simpa using hv')) (fun n hn => hwt n (by simp only [DataW.weightsEach, List.mem_append]; exact .inr hn)) h2
        refine ⟨u :: us, by simp [k1], ?_, ⟨g2, k3⟩⟩
        intro j u' v' hu hv'
        cases j with
        | zero => simp at hu hv'; subst hu; subst hv'; exact g1
        | succ j => exact k2 j u' v' (by simpa using hu) (by simpa using hv')
    · cases ha

theorem trodAll_below (hl : laidOutB P = true) {W W' : World} (hb : Below W.heap.size W W') : ∀ (ts : List TypeId) (vs : List Value) (ds : List (DataW H)) (pl : List MemPlace), (∀ t ∈ ts, P.readableRec t = true ∧ t < P.types.size) →
    DataW.TrodAll enc P W 0 (fun _ => true) true ts vs ds pl → DataW.TrodAll enc P W' 0 (fun b => decide (b < W.heap.size)) true ts vs ds pl := by
  intro ts
  induction ts with
  | nil =>
    intro vs ds pl _ h
    match vs, ds, h with
    | [], [], h => exact h
  | cons t ts ih =>
    intro vs ds pl hr h
    match vs, ds, h with
    | v :: vs, d :: ds, ⟨q1, q2, h1, h2, h3⟩ =>
      have lt : ∀ x ∈ q1, x.block < W.heap.size := by obtain ⟨m, hm⟩ := h1; exact DataW.trod_lt m _ _ _ hm
      exact ⟨q1, q2, Below.trod hl (hr t (by simp)).1 (hr t (by simp)).2 h1 hb lt, ih vs ds q2 (fun t' ht' => hr t' (by simp [ht'])) h2, h3⟩
end

theorem Gives.below {ok0 : Nat → Prop} {w w' : World} {r : PRes} {v : Value} (h : Gives ok0 w r v w') : Below w.heap.size w w' := by
  obtain ⟨C, h1, _⟩ := h
  exact h1.below

/-- A law: it returns true, whatever data it takes. -/
theorem law_contract {H : Type} {enc : TypeId × Value → H} {P : Program} {f : FuncId} {fn : Func} {s : ChangeSpec} {apart fresh handsOn : Bool} {g : List AV → Option PRes} {ps : List (Bool × List CT)} {tb : TypeId}
    (hm : Meets P f g) (hl : laidOutB P = true) (hps : argTys P fn.params.toList = some ps) (hread : fn.params.toList.all (fun t => P.readableRec t && decide (t < P.types.size)) = true)
    (hres : fn.resultTypes = #[tb]) (hb : P.underlying tb = some .bool) (hvars : s.vars = [])
    (hfn : ∀ ds : List (DataW H), ds.length = fn.params.toList.length → (s.fn H (ds ++ [])).results = [.lit (.bool true)] ∧ (s.fn H (ds ++ [])).args = ds ∧ (s.fn H (ds ++ [])).vars = [])
    (hg : ∀ us, FitAll ps us → g us = some { val := .bool true })
    {W : World} {base : Nat} {args : Array Value} {ds gs : List (DataW H)} {before : List MemPlace}
    (hval : ∀ (j : Nat) t v, fn.params[j]? = some t → args[j]? = some v → Value.okWide P W .any base t v)
    (hW : DataW.Whole enc P fn.params.toList s.vars apart W args.toList ds gs before)
    (hsz : (DataW.weightsEach P (fn.params.toList ++ s.plain.varTypes P) (ds ++ gs)).all (· ≤ reachBytes) = true) :
    Calls P f args W fun e W' => ∃ v, e = .returned v ∧ s.post enc P fn apart fresh handsOn false W args v W' := by
  have hW' := hW
  obtain ⟨p, q, hA, hV, rfl, hfz, hnd⟩ := hW
  rw [hvars] at hV
  obtain ⟨rfl, rfl⟩ := trodVars_none hV
  have hlen : ds.length = fn.params.toList.length := by
    have : ∀ (ts : List TypeId) (vs : List Value) (ds : List (DataW H)) (pl : List MemPlace), DataW.TrodAll enc P W 0 (fun _ => true) true ts vs ds pl → ds.length = ts.length := by
      intro ts
      induction ts with
      | nil => intro vs ds pl h; match vs, ds, h with | [], [], _ => rfl
      | cons t ts ih => intro vs ds pl h; match vs, ds, h with | v :: vs, d :: ds, ⟨_, _, _, h2, _⟩ => simp [ih _ _ _ h2]
    exact this _ _ _ _ hA
  have hwe : ∀ n ∈ DataW.weightsEach P fn.params.toList ds, n ≤ reachBytes := by
    have key : ∀ (ts : List TypeId) (ds : List (DataW H)) (us : List TypeId), ds.length = ts.length → ∀ n ∈ DataW.weightsEach P ts ds, n ∈ DataW.weightsEach P (ts ++ us) (ds ++ []) := by
      intro ts
      induction ts with
      | nil => intro ds us h n hn; match ds, h with | [], _ => simp [DataW.weightsEach] at hn
      | cons t ts ih =>
        intro ds us h n hn
        match ds, h with
        | d :: ds, h =>
          simp only [List.cons_append, DataW.weightsEach, List.mem_append] at hn ⊢
          rcases hn with hn | hn
          · exact .inl hn
          · exact .inr (ih ds us (by simpa using h) n hn)
    exact fun n hn => by simpa using List.all_eq_true.1 hsz n (key _ _ _ hlen n hn)
  obtain ⟨us, k1, k2, k3⟩ := args_read fn.params.toList ps args.toList ds p hps (fun j t v ht hv => hval j t v (by simpa using ht) (by simpa using hv)) hwe hA
  obtain ⟨f1, f2, f3⟩ := hfn ds hlen
  refine (hm us _ (hg us k3) W args (· < W.heap.size) (fun _ h => h) (by simpa using k1) (fun j u v hu hv => k2 j u v hu (by simpa using hv))).mono fun e W' he => ?_
  obtain ⟨v, rfl, hG⟩ := he
  have bel := hG.below
  obtain ⟨C, _, hrep, _⟩ := hG
  obtain rfl := hrep.bool_inv
  refine ⟨_, rfl, ds, [], _, [], p, [], hW', ?_, ?_, ?_, bel.frame _, fun h => by cases h⟩
  · rw [f1, hres]; exact trodAll_mk1 (shut_bool hb _)
  · rw [f2]; exact trodAll_below hl bel _ _ _ _ (fun t ht => by have := List.all_eq_true.1 hread t ht; simpa using this) hA
  · rw [f3, hvars]; rfl

end Go.Ev

/-
  Vectors as the evaluator has them.
-/
namespace Go.Ev
open Go

open Classical in
/-- The datum that a value stands for. -/
noncomputable def dec {α : Type} (R : AV → α → Prop) (a : AV) : Option α := if h : ∃ x, R a x then some h.choose else none

theorem dec_inv {α : Type} {R : AV → α → Prop} {a : AV} {x : α} (h : dec R a = some x) : R a x := by
  unfold dec at h
  split at h
  · rename_i hx
    cases h
    exact hx.choose_spec
  · cases h

theorem dec_mk {α : Type} {R : AV → α → Prop} {a : AV} {x : α} (hu : ∀ y, R a y → y = x) (h : R a x) : dec R a = some x := by
  unfold dec
  have hx : ∃ x, R a x := ⟨x, h⟩
  rw [dif_pos hx]
  exact congrArg some (hu _ hx.choose_spec)

/-- A fraction as it is written. -/
structure RF where
  s1 : Bool
  l1 : Bool
  d1 : List Nat
  s2 : Bool
  l2 : Bool
  d2 : List Nat

@[simp] def RF.cells (f : RF) : List AV := [.bool f.s1, .imm f.l1 1 (dg f.d1), .bool f.s2, .imm f.l2 1 (dg f.d2)]
def RF.q (f : RF) : Rat := Rat.divInt (sg f.s1 (dv f.d1)) (sg f.s2 (dv f.d2))
/-- Of fewer than k digits. -/
structure RF.ok (k : Nat) (f : RF) : Prop where
  w1 : Wf f.d1
  b1 : f.d1.length < k
  w2 : Wf f.d2
  b2 : f.d2.length < k

theorem RF.ok.mono {k k' : Nat} {f : RF} (h : f.ok k) (hk : k ≤ k') : f.ok k' := ⟨h.w1, Nat.lt_of_lt_of_le h.b1 hk, h.w2, Nat.lt_of_lt_of_le h.b2 hk⟩
theorem RF.ok.qOf {f : RF} (h : f.ok 2000000) : qOf (.agg f.cells) = some f.q := qOf_mk h.w1 h.b1 h.w2 h.b2
theorem RF.ok.qOf' {f : RF} (h : f.ok 2000000) : Ev.qOf (.agg [.bool f.s1, .imm f.l1 1 (dg f.d1), .bool f.s2, .imm f.l2 1 (dg f.d2)]) = some f.q := qOf_mk h.w1 h.b1 h.w2 h.b2

theorem dg_inj {a b : List Nat} (h : dg a = dg b) : a = b := by
  induction a generalizing b with
  | nil => cases b with
    | nil => rfl
    | cons y b => simp [dg] at h
  | cons x a ih => cases b with
    | nil => simp [dg] at h
    | cons y b =>
      simp only [dg, List.map_cons, List.cons.injEq, AV.int.injEq, true_and, and_true] at h
      obtain ⟨h1, h2⟩ := h
      rw [ih h2]
      congr 1
      omega

theorem RF.cells_inj {f g : RF} (h : f.cells = g.cells) : f = g := by
  cases f; cases g
  simp only [RF.cells, List.cons.injEq, AV.bool.injEq, AV.imm.injEq, true_and, and_true] at h
  obtain ⟨h1, ⟨h2, h3⟩, h4, h5, h6⟩ := h
  rw [h1, h2, dg_inj h3, h4, h5, dg_inj h6]

/-- The canonical form of a number. -/
def qF (q : Rat) : RF := ⟨decide (q.num < 0), false, digs q.num.natAbs, false, false, digs q.den⟩
theorem qF_q (q : Rat) : (qF q).q = q := by
  unfold RF.q qF
  simp only
  rw [dv_digs, dv_digs, sg_self]
  exact divInt_nd q
theorem qF_ok {q : Rat} {k : Nat} (h : Sz k q) {k' : Nat} (hk : k < k') : (qF q).ok k' := ⟨wf_digs _, Nat.lt_of_le_of_lt h.1 hk, wf_digs _, Nat.lt_of_le_of_lt h.2 hk⟩

/-! ### Vectors -/

abbrev Ent := Int × RF
@[simp] def ecells (e : Ent) : List AV := [.int .i64 e.1, .bool e.2.s1, .imm e.2.l1 1 (dg e.2.d1), .bool e.2.s2, .imm e.2.l2 1 (dg e.2.d2)]
def vcs (l : List Ent) : List (List AV) := l.map ecells
@[simp] theorem vcs_length (l : List Ent) : (vcs l).length = l.length := by simp [vcs]
theorem vcs_get (l : List Ent) (i : Nat) (h : i < l.length) : (vcs l)[i]? = some (ecells l[i]) := by simp [vcs, h]
@[simp] theorem vcs_getElem (l : List Ent) (i : Nat) (h : i < (vcs l).length) : (vcs l)[i] = ecells (l[i]'(by simpa using h)) := by simp [vcs]

theorem ecells_inj {e f : Ent} (h : ecells e = ecells f) : e = f := by
  obtain ⟨i, e⟩ := e
  obtain ⟨j, f⟩ := f
  simp only [ecells, List.cons.injEq, AV.int.injEq, true_and] at h
  obtain ⟨h1, h2⟩ := h
  rw [h1, RF.cells_inj (f := e) (g := f) (by simpa using h2)]

theorem vcs_inj {l m : List Ent} (h : vcs l = vcs m) : l = m := by
  induction l generalizing m with
  | nil => cases m with
    | nil => rfl
    | cons y m => simp [vcs] at h
  | cons x l ih => cases m with
    | nil => simp [vcs] at h
    | cons y m =>
      simp only [vcs, List.map_cons, List.cons.injEq] at h
      rw [ecells_inj h.1, ih h.2]

structure EntOk (k : Nat) (e : Ent) : Prop where
  lo : -9223372036854775808 ≤ e.1
  hi : e.1 < 9223372036854775808
  fr : e.2.ok k

/-- A vector: entries with fractions of fewer than k digits. -/
structure VecOk (k : Nat) (l : List Ent) : Prop where
  len : l.length < 100000000
  ents : ∀ e ∈ l, EntOk k e

def RV (a : AV) (l : List Ent) : Prop := ∃ nl, a = .imm nl 5 (vcs l) ∧ VecOk 2000000 l

theorem RV_uniq {a : AV} {l m : List Ent} (h : RV a l) (h' : RV a m) : m = l := by
  obtain ⟨n1, rfl, _⟩ := h
  obtain ⟨n2, e, _⟩ := h'
  simp only [AV.imm.injEq, true_and] at e
  exact vcs_inj e.2.symm

noncomputable def vOfA : AV → Option (List Ent) := dec RV
theorem vOfA_inv {a : AV} {l : List Ent} (h : vOfA a = some l) : ∃ nl, a = .imm nl 5 (vcs l) ∧ VecOk 2000000 l := dec_inv (R := RV) h
theorem vOfA_mk {nl : Bool} {l : List Ent} (h : VecOk 2000000 l) : vOfA (.imm nl 5 (vcs l)) = some l := dec_mk (fun _ hy => RV_uniq ⟨nl, rfl, h⟩ hy) ⟨nl, rfl, h⟩

/-- The numbers of a vector. -/
def nums (l : List Ent) : List (Int × Rat) := l.map fun e => (e.1, e.2.q)
@[simp] theorem nums_nil : nums [] = [] := rfl
theorem nums_cons (e : Ent) (l : List Ent) : nums (e :: l) = (e.1, e.2.q) :: nums l := rfl

/-- A vector in canonical form. -/
def vF (l : List (Int × Rat)) : List Ent := l.map fun x => (x.1, qF x.2)
theorem nums_vF (l : List (Int × Rat)) : nums (vF l) = l := by
  induction l with
  | nil => rfl
  | cons x l ih => simp only [vF, List.map_cons, nums_cons, qF_q] at *; rw [show nums (List.map (fun x => (x.1, qF x.2)) l) = l from ih]


/-! ### What comes in -/

/-- Digits of any length that fits the memory. -/
structure RF.wide (f : RF) : Prop where
  w1 : Wf f.d1
  b1 : f.d1.length ≤ 140737488355328
  w2 : Wf f.d2
  b2 : f.d2.length ≤ 140737488355328

structure EntWide (e : Ent) : Prop where
  lo : -9223372036854775808 ≤ e.1
  hi : e.1 < 9223372036854775808
  fr : e.2.wide

structure VecWide (l : List Ent) : Prop where
  len : l.length ≤ 140737488355328
  ents : ∀ e ∈ l, EntWide e

def lightF (f : RF) : Bool := decide (f.d1.length + f.d2.length ≤ 60) && decide (f.d1.length ≤ 12) && decide (f.d2.length ≤ 12)

theorem lightF_ok {f : RF} (h : f.wide) (hl : lightF f = true) : f.ok 13 := by
  simp only [lightF, Bool.and_eq_true, decide_eq_true_eq] at hl
  exact ⟨h.w1, by omega, h.w2, by omega⟩

def fcs (l : List RF) : List (List AV) := l.map RF.cells
@[simp] theorem fcs_length (l : List RF) : (fcs l).length = l.length := by simp [fcs]
theorem fcs_get (l : List RF) (i : Nat) (h : i < l.length) : (fcs l)[i]? = some (l[i]).cells := by simp [fcs, h]
@[simp] theorem fcs_getElem (l : List RF) (i : Nat) (h : i < (fcs l).length) : (fcs l)[i] = (l[i]'(by simpa using h)).cells := by simp [fcs]
theorem fcs_inj {l m : List RF} (h : fcs l = fcs m) : l = m := by
  induction l generalizing m with
  | nil => cases m with
    | nil => rfl
    | cons y m => simp [fcs] at h
  | cons x l ih => cases m with
    | nil => simp [fcs] at h
    | cons y m =>
      simp only [fcs, List.map_cons, List.cons.injEq] at h
      rw [RF.cells_inj h.1, ih h.2]

def RFW (a : AV) (l : List RF) : Prop := ∃ nl, a = .imm nl 4 (fcs l) ∧ l.length ≤ 140737488355328 ∧ ∀ f ∈ l, f.wide
noncomputable def fsOfW : AV → Option (List RF) := dec RFW
theorem fsOfW_inv {a : AV} {l : List RF} (h : fsOfW a = some l) : RFW a l := dec_inv h
theorem fsOfW_mk {nl : Bool} {l : List RF} (hl : l.length ≤ 140737488355328) (h : ∀ f ∈ l, f.wide) : fsOfW (.imm nl 4 (fcs l)) = some l := dec_mk (R := RFW) (fun m hm => by
  obtain ⟨n2, e, _⟩ := hm
  simp only [AV.imm.injEq, true_and] at e
  exact fcs_inj e.2.symm) ⟨nl, rfl, hl, h⟩

/-- Lists of vectors, each with its own mark of nil. -/
abbrev VV := Bool × List Ent
@[simp] def vcell (v : VV) : List AV := [.imm v.1 5 (vcs v.2)]
def vvs (l : List VV) : List (List AV) := l.map vcell
@[simp] theorem vvs_length (l : List VV) : (vvs l).length = l.length := by simp [vvs]
theorem vvs_get (l : List VV) (i : Nat) (h : i < l.length) : (vvs l)[i]? = some (vcell l[i]) := by simp [vvs, h]
@[simp] theorem vvs_getElem (l : List VV) (i : Nat) (h : i < (vvs l).length) : (vvs l)[i] = vcell (l[i]'(by simpa using h)) := by simp [vvs]
theorem vvs_inj {l m : List VV} (h : vvs l = vvs m) : l = m := by
  induction l generalizing m with
  | nil => cases m with
    | nil => rfl
    | cons y m => simp [vvs] at h
  | cons x l ih => cases m with
    | nil => simp [vvs] at h
    | cons y m =>
      simp only [vvs, List.map_cons, List.cons.injEq, vcell, AV.imm.injEq, true_and, and_true] at h
      obtain ⟨⟨h1, h2⟩, h3⟩ := h
      rw [ih h3]
      congr 1
      exact Prod.ext h1 (vcs_inj h2)

def RVW (a : AV) (l : List VV) : Prop := ∃ nl, a = .imm nl 1 (vvs l) ∧ l.length ≤ 140737488355328 ∧ ∀ v ∈ l, VecWide v.2
noncomputable def vsOfW : AV → Option (List VV) := dec RVW
theorem vsOfW_inv {a : AV} {l : List VV} (h : vsOfW a = some l) : RVW a l := dec_inv h
theorem vsOfW_mk {nl : Bool} {l : List VV} (hl : l.length ≤ 140737488355328) (h : ∀ f ∈ l, VecWide f.2) : vsOfW (.imm nl 1 (vvs l)) = some l := dec_mk (R := RVW) (fun m hm => by
  obtain ⟨n2, e, _⟩ := hm
  simp only [AV.imm.injEq, true_and] at e
  exact vvs_inj e.2.symm) ⟨nl, rfl, hl, h⟩

abbrev ctD : CT := .sl [.int .u32]
abbrev ctE : List CT := [.int .i64, .bool, ctD, .bool, ctD]
abbrev ctV : CT := .sl ctE

theorem fit_bool {u : AV} (h : Fit .bool u) : ∃ b, u = .bool b := by cases h; exact ⟨_, rfl⟩
theorem fit_int {k : IntKind} {u : AV} (h : Fit (.int k) u) : ∃ n, u = .int k n ∧ (Lit.int k n).wf = true := by cases h; exact ⟨_, rfl, by assumption⟩
theorem wf_u32 {n : Int} (h : (Lit.int .u32 n).wf = true) : 0 ≤ n ∧ n < 4294967296 := by
  simp [Lit.wf, IntKind.min, IntKind.max, IntKind.signed, IntKind.bits] at h; omega
theorem wf_i64 {n : Int} (h : (Lit.int .i64 n).wf = true) : -9223372036854775808 ≤ n ∧ n < 9223372036854775808 := by
  simp [Lit.wf, IntKind.min, IntKind.max, IntKind.signed, IntKind.bits] at h; omega

theorem fit_digits {u : AV} (h : Fit ctD u) : ∃ nl ds, u = .imm nl 1 (dg ds) ∧ Wf ds ∧ ds.length ≤ 140737488355328 := by
  cases h with
  | sl hl hn hc hf =>
    rename_i nl es
    have key : ∀ es : List (List AV), (∀ cs ∈ es, cs.length = [CT.int .u32].length) → (∀ cs ∈ es, ∀ (j : Nat) (t : CT) (u : AV), [CT.int .u32][j]? = some t → cs[j]? = some u → Fit t u) → ∃ ds, es = dg ds ∧ Wf ds := by
      intro es
      induction es with
      | nil => intro _ _; exact ⟨[], rfl, wf_nil⟩
      | cons cs es ih =>
        intro h1 h2
        obtain ⟨ds, e1, w1⟩ := ih (fun c hc => h1 c (by simp [hc])) (fun c hc => h2 c (by simp [hc]))
        match cs, h1 cs (by simp) with
        | [u], _ =>
          obtain ⟨n, rfl, hw⟩ := fit_int (h2 [u] (by simp) 0 (.int .u32) u rfl rfl)
          have := wf_u32 hw
          refine ⟨n.toNat :: ds, ?_, wf_cons.2 ⟨by simp only [W32]; omega, w1⟩⟩
          rw [e1]
          simp only [dg, List.map_cons, List.cons.injEq, AV.int.injEq, true_and, and_true]
          omega
    obtain ⟨ds, e1, w1⟩ := key es hc hf
    subst e1
    refine ⟨nl, ds, rfl, w1, ?_⟩
    rw [dg_length] at hl
    exact hl

theorem fit_ent {cs : List AV} (hl : cs.length = ctE.length) (h : ∀ (j : Nat) (t : CT) (u : AV), ctE[j]? = some t → cs[j]? = some u → Fit t u) : ∃ e, cs = ecells e ∧ EntWide e := by
  match cs, hl with
  | [a, b, c, d, e], _ =>
    obtain ⟨i, rfl, hi⟩ := fit_int (h 0 _ _ rfl rfl)
    obtain ⟨s1, rfl⟩ := fit_bool (h 1 _ _ rfl rfl)
    obtain ⟨l1, d1, rfl, w1, b1⟩ := fit_digits (h 2 _ _ rfl rfl)
    obtain ⟨s2, rfl⟩ := fit_bool (h 3 _ _ rfl rfl)
    obtain ⟨l2, d2, rfl, w2, b2⟩ := fit_digits (h 4 _ _ rfl rfl)
    have := wf_i64 hi
    exact ⟨(i, ⟨s1, l1, d1, s2, l2, d2⟩), rfl, ⟨this.1, this.2, ⟨w1, b1, w2, b2⟩⟩⟩

theorem fit_vec {u : AV} (h : Fit ctV u) : ∃ nl l, u = .imm nl 5 (vcs l) ∧ VecWide l := by
  cases h with
  | sl hl hn hc hf =>
    rename_i nl es
    have key : ∀ es : List (List AV), (∀ cs ∈ es, cs.length = ctE.length) → (∀ cs ∈ es, ∀ (j : Nat) (t : CT) (u : AV), ctE[j]? = some t → cs[j]? = some u → Fit t u) → ∃ l, es = vcs l ∧ ∀ e ∈ l, EntWide e := by
      intro es
      induction es with
      | nil => intro _ _; exact ⟨[], rfl, by simp⟩
      | cons cs es ih =>
        intro h1 h2
        obtain ⟨l, e1, w1⟩ := ih (fun c hc => h1 c (by simp [hc])) (fun c hc => h2 c (by simp [hc]))
        obtain ⟨e, rfl, he⟩ := fit_ent (h1 cs (by simp)) (h2 cs (by simp))
        refine ⟨e :: l, by rw [e1]; rfl, fun x hx => ?_⟩
        rcases List.mem_cons.1 hx with rfl | hx
        · exact he
        · exact w1 x hx
    obtain ⟨l, e1, w1⟩ := key es hc hf
    subst e1
    refine ⟨nl, l, rfl, ?_, w1⟩
    rw [vcs_length] at hl
    exact hl

theorem fit_vecs {u : AV} (h : Fit (.sl [ctV]) u) : ∃ nl l, u = .imm nl 1 (vvs l) ∧ l.length ≤ 140737488355328 ∧ ∀ v ∈ l, VecWide v.2 := by
  cases h with
  | sl hl hn hc hf =>
    rename_i nl es
    have key : ∀ es : List (List AV), (∀ cs ∈ es, cs.length = [ctV].length) → (∀ cs ∈ es, ∀ (j : Nat) (t : CT) (u : AV), [ctV][j]? = some t → cs[j]? = some u → Fit t u) → ∃ l, es = vvs l ∧ ∀ v ∈ l, VecWide v.2 := by
      intro es
      induction es with
      | nil => intro _ _; exact ⟨[], rfl, by simp⟩
      | cons cs es ih =>
        intro h1 h2
        obtain ⟨l, e1, w1⟩ := ih (fun c hc => h1 c (by simp [hc])) (fun c hc => h2 c (by simp [hc]))
        match cs, h1 cs (by simp) with
        | [u], _ =>
          obtain ⟨nl, v, rfl, hv⟩ := fit_vec (h2 [u] (by simp) 0 ctV u rfl rfl)
          refine ⟨(nl, v) :: l, by rw [e1]; rfl, fun x hx => ?_⟩
          rcases List.mem_cons.1 hx with rfl | hx
          · exact hv
          · exact w1 x hx
    obtain ⟨l, e1, w1⟩ := key es hc hf
    subst e1
    refine ⟨nl, l, rfl, ?_, w1⟩
    rw [vvs_length] at hl
    exact hl

end Go.Ev

/-
  Light vectors; the validity of vectors.
-/
namespace Go.Proofs.Ythlpmghodgiknaa.C
open Go Go.Ev

section
variable (G : Pure) (ic : Inl) (n : Nat)

/-! ### Validate -/

/-- The error of the entries; 'p': the index before. -/
def valE (n : Int) : Option Int → List (Int × Rat) → Int
  | _, [] => 0
  | p, (i, q) :: r => if i < 0 ∨ n ≤ i then 5 else if (∃ j, p = some j ∧ i ≤ j) then 8 else if q = 0 then 11 else valE n (some i) r

def valid (n : Int) (l : List (Int × Rat)) : Int := if n < 0 ∨ 4096 < n then 5 else valE n none l

/-- How the loop ends: with the error, or none. -/
def errOut (v : Int) : Out := if v = 0 then some (.normal, ⟨[], [], [], [], []⟩) else some (.ret, ⟨[(4, .int .i64 v)], [], [], [], []⟩)
theorem errOut_0 : errOut 0 = some (.normal, ⟨[], [], [], [], []⟩) := rfl
theorem errOut_ne {v : Int} (h : v ≠ 0) : errOut v = some (.ret, ⟨[(4, .int .i64 v)], [], [], [], []⟩) := by unfold errOut; rw [if_neg h]
theorem errOut_5 : errOut 5 = some (.ret, ⟨[(4, .int .i64 5)], [], [], [], []⟩) := rfl
theorem errOut_8 : errOut 8 = some (.ret, ⟨[(4, .int .i64 8)], [], [], [], []⟩) := rfl
theorem errOut_11 : errOut 11 = some (.ret, ⟨[(4, .int .i64 11)], [], [], [], []⟩) := rfl

theorem valE_range {n i : Int} {p : Option Int} {q : Rat} {r : List (Int × Rat)} (h : i < 0 ∨ n ≤ i) : valE n p ((i, q) :: r) = 5 := by unfold valE; rw [if_pos h]
theorem valE_order {n i : Int} {p : Option Int} {q : Rat} {r : List (Int × Rat)} (h : ¬ (i < 0 ∨ n ≤ i)) (h2 : ∃ j, p = some j ∧ i ≤ j) : valE n p ((i, q) :: r) = 8 := by unfold valE; rw [if_neg h, if_pos h2]
theorem valE_zero {n i : Int} {p : Option Int} {q : Rat} {r : List (Int × Rat)} (h : ¬ (i < 0 ∨ n ≤ i)) (h2 : ¬ ∃ j, p = some j ∧ i ≤ j) (h3 : q = 0) : valE n p ((i, q) :: r) = 11 := by unfold valE; rw [if_neg h, if_neg h2, if_pos h3]
theorem valE_next {n i : Int} {p : Option Int} {q : Rat} {r : List (Int × Rat)} (h : ¬ (i < 0 ∨ n ≤ i)) (h2 : ¬ ∃ j, p = some j ∧ i ≤ j) (h3 : q ≠ 0) : valE n p ((i, q) :: r) = valE n (some i) r := by conv => { lhs; unfold valE }; rw [if_neg h, if_neg h2, if_neg h3]

noncomputable def spValidate : List AV → Option PRes := sp2 vOfA i64Of fun l n => some (.int .i64 (valid n (nums l)))

def prevI (l : List Ent) (i : Nat) : Option Int := if i = 0 then none else (l[i - 1]?).map (·.1)

theorem num_zero_cmp (q : Rat) : cmpZ q.num 0 = 0 ↔ q = 0 := by
  unfold cmpZ
  rw [← Rat.num_eq_zero]
  split
  · constructor <;> omega
  · split <;> constructor <;> omega

theorem validateP_loop (hS : G 40 = spSignFrac) (nl : Bool) (l : List Ent) (hl : VecOk 2000000 l) (nn : Int) (hn : 0 ≤ nn ∧ nn ≤ 4096) : ∀ d i m, i + d = l.length → d < m →
    blockE (some c12_e0) 0 (iterK G ic n c12_k0 c12_b0Q m ⟨[(0, .imm nl 5 (vcs l)), (1, .int .i64 nn), (13, .imm nl 5 (vcs l)), (14, .int .i64 l.length), (15, .int .i64 i)], [], [], [], []⟩) =
      errOut (valE nn (prevI l i) (nums (l.drop i))) := by
  have hlen := hl.len
  intro d
  induction d with
  | zero =>
    intro i m hi hm
    obtain ⟨m, rfl⟩ : ∃ i, m = i + 1 := ⟨m - 1, by omega⟩
    have e : i = l.length := by omega
    subst e
    rw [List.drop_length, show valE nn (prevI l l.length) (nums []) = 0 from rfl, errOut_0]
    simp [iterK_succ]
  | succ d ih =>
    intro i m hi hm
    obtain ⟨m, rfl⟩ : ∃ i, m = i + 1 := ⟨m - 1, by omega⟩
    have hil : i < l.length := by omega
    obtain ⟨e, he⟩ : ∃ e, e = l[i] := ⟨_, rfl⟩
    have hdrop : l.drop i = e :: l.drop (i + 1) := by rw [List.drop_eq_getElem_cons hil, ← he]
    have hek := hl.ents e (by rw [he]; exact List.getElem_mem _)
    have g := vcs_get l i hil
    rw [← he] at g
    have e1 := ih (i + 1) m (by omega) (by omega)
    have hprev : prevI l (i + 1) = some e.1 := by unfold prevI; rw [if_neg (by omega)]; simp [hil, ← he]
    rw [hprev] at e1
    have tq := sp1_at hS hek.fr.qOf' rfl
    have w5 : IntKind.i64.wrap ((i : Int) + 1) = (i : Int) + 1 := wrap64_id _ (by omega) (by omega)
    rw [hdrop, nums_cons]
    by_cases c1 : e.1 < 0
    · rw [valE_range (.inl c1), errOut_5]
      simp [iterK_succ, hil, g, c1, ← he]
    · by_cases c2 : nn ≤ e.1
      · rw [valE_range (.inr c2), errOut_5]
        simp [iterK_succ, hil, g, c1, c2, ← he]
      · have c12 : ¬ (e.1 < 0 ∨ nn ≤ e.1) := by omega
        by_cases hi0 : i = 0
        · have hp : ¬ ∃ j, prevI l i = some j ∧ e.1 ≤ j := by unfold prevI; rw [if_pos hi0]; simp
          subst hi0
          by_cases hq : e.2.q = 0
          · rw [valE_zero c12 hp hq, errOut_11]
            rw [(num_zero_cmp _).2 hq] at tq
            simp [iterK_succ, hil, g, c1, c2, tq, ← he]
          · rw [valE_next c12 hp hq, ← e1]
            have hc : ¬ cmpZ e.2.q.num 0 = 0 := fun h => hq ((num_zero_cmp _).1 h)
            have w1 : IntKind.i64.wrap (1 : Int) = 1 := wrap64_id _ (by omega) (by omega)
            simp [iterK_succ, hil, g, c1, c2, tq, hc, ← he, w1]
        · obtain ⟨j, rfl⟩ : ∃ j, i = j + 1 := ⟨i - 1, by omega⟩
          have hjl : j < l.length := by omega
          obtain ⟨f, hf⟩ : ∃ f, f = l[j] := ⟨_, rfl⟩
          have gf := vcs_get l j hjl
          rw [← hf] at gf
          have hp : prevI l (j + 1) = some f.1 := by unfold prevI; rw [if_neg (by omega)]; simp [hjl, ← hf]
          have w6 : IntKind.i64.wrap ((j : Int)) = (j : Int) := wrap64_id _ (by omega) (by omega)
          have p1 : (0 : Int) < (j : Int) + 1 := by omega
          have p0 : (0 : Int) ≤ (j : Int) + 1 := by omega
          have p2 : (j : Int) + 1 < l.length := by omega
          have w5' : IntKind.i64.wrap ((j : Int) + 1 + 1) = (j : Int) + 1 + 1 := wrap64_id _ (by omega) (by omega)
          by_cases c3 : e.1 ≤ f.1
          · rw [valE_order c12 ⟨f.1, hp, c3⟩, errOut_8]
            simp [iterK_succ, hil, g, c1, c2, gf, hjl, w6, p0, p1, p2, c3, ← he, ← hf]
          · have hp2 : ¬ ∃ i, prevI l (j + 1) = some i ∧ e.1 ≤ i := by rw [hp]; rintro ⟨j, hj, hle⟩; cases hj; exact c3 hle
            by_cases hq : e.2.q = 0
            · rw [valE_zero c12 hp2 hq, errOut_11]
              rw [(num_zero_cmp _).2 hq] at tq
              simp [iterK_succ, hil, g, c1, c2, gf, hjl, w6, p0, p1, p2, c3, tq, ← he, ← hf]
            · rw [valE_next c12 hp2 hq, ← e1]
              have hc : ¬ cmpZ e.2.q.num 0 = 0 := fun h => hq ((num_zero_cmp _).1 h)
              simp [iterK_succ, hil, g, c1, c2, gf, hjl, w6, p0, p1, p2, c3, tq, hc, ← he, ← hf, w5']

theorem validateP_run (hS : G 40 = spSignFrac) : FSpec (fun args n => pureF G ic n c12F args) spValidate := by
  intro args r h
  obtain ⟨a, b, l, nn, v, rfl, hx, hy, hv, rfl⟩ := sp2_inv h
  cases hv
  obtain ⟨nl, rfl, hl⟩ := vOfA_inv hx
  obtain ⟨rfl, n0, n1⟩ := i64Of_inv hy
  obtain ⟨N, hN⟩ : ∃ N, N = l.length + 1 := ⟨_, rfl⟩
  refine ⟨{ val := .int .i64 (valid nn (nums l)) }, ⟨N, ?_⟩, rfl, rfl⟩
  unfold valid
  by_cases c1 : nn < 0
  · rw [if_pos (.inl c1)]
    simp [pureF, runF, c1]
  · by_cases c2 : 4096 < nn
    · rw [if_pos (.inr c2)]
      simp [pureF, runF, c1, c2]
    · rw [if_neg (by omega)]
      have e := validateP_loop G ic N hS nl l hl nn (by omega) l.length 0 N (by omega) (by omega)
      simp [c12_e0, c12_k0, prevI] at e
      by_cases h0 : valE nn none (nums l) = 0
      · rw [h0, errOut_0] at e
        simp [pureF, runF, c1, c2, e, h0]
      · rw [errOut_ne h0] at e
        simp [pureF, runF, c1, c2, e]

theorem validateR_loop (hS : G 41 = spSignFrac) (nl : Bool) (l : List Ent) (hl : VecOk 2000000 l) (nn : Int) (hn : 0 ≤ nn ∧ nn ≤ 4096) : ∀ d i m, i + d = l.length → d < m →
    blockE (some c13_e0) 0 (iterK G ic n c13_k0 c13_b0Q m ⟨[(0, .imm nl 5 (vcs l)), (1, .int .i64 nn), (5, .int .i64 i)], [], [], [], []⟩) =
      errOut (valE nn (prevI l i) (nums (l.drop i))) := by
  have hlen := hl.len
  intro d
  induction d with
  | zero =>
    intro i m hi hm
    obtain ⟨m, rfl⟩ : ∃ i, m = i + 1 := ⟨m - 1, by omega⟩
    have e : i = l.length := by omega
    subst e
    rw [List.drop_length, show valE nn (prevI l l.length) (nums []) = 0 from rfl, errOut_0]
    simp [iterK_succ]
  | succ d ih =>
    intro i m hi hm
    obtain ⟨m, rfl⟩ : ∃ i, m = i + 1 := ⟨m - 1, by omega⟩
    have hil : i < l.length := by omega
    obtain ⟨e, he⟩ : ∃ e, e = l[i] := ⟨_, rfl⟩
    have hdrop : l.drop i = e :: l.drop (i + 1) := by rw [List.drop_eq_getElem_cons hil, ← he]
    have hek := hl.ents e (by rw [he]; exact List.getElem_mem _)
    have g := vcs_get l i hil
    rw [← he] at g
    have e1 := ih (i + 1) m (by omega) (by omega)
    have hprev : prevI l (i + 1) = some e.1 := by unfold prevI; rw [if_neg (by omega)]; simp [hil, ← he]
    rw [hprev] at e1
    have tq := sp1_at hS hek.fr.qOf' rfl
    have w5 : IntKind.i64.wrap ((i : Int) + 1) = (i : Int) + 1 := wrap64_id _ (by omega) (by omega)
    rw [hdrop, nums_cons]
    by_cases c1 : e.1 < 0
    · rw [valE_range (.inl c1), errOut_5]
      simp [iterK_succ, hil, g, c1, ← he]
    · by_cases c2 : nn ≤ e.1
      · rw [valE_range (.inr c2), errOut_5]
        simp [iterK_succ, hil, g, c1, c2, ← he]
      · have c12 : ¬ (e.1 < 0 ∨ nn ≤ e.1) := by omega
        by_cases hi0 : i = 0
        · have hp : ¬ ∃ j, prevI l i = some j ∧ e.1 ≤ j := by unfold prevI; rw [if_pos hi0]; simp
          subst hi0
          by_cases hq : e.2.q = 0
          · rw [valE_zero c12 hp hq, errOut_11]
            rw [(num_zero_cmp _).2 hq] at tq
            simp [iterK_succ, hil, g, c1, c2, tq, ← he]
          · rw [valE_next c12 hp hq, ← e1]
            have hc : ¬ cmpZ e.2.q.num 0 = 0 := fun h => hq ((num_zero_cmp _).1 h)
            have w1 : IntKind.i64.wrap (1 : Int) = 1 := wrap64_id _ (by omega) (by omega)
            simp [iterK_succ, hil, g, c1, c2, tq, hc, ← he, w1]
        · obtain ⟨j, rfl⟩ : ∃ j, i = j + 1 := ⟨i - 1, by omega⟩
          have hjl : j < l.length := by omega
          obtain ⟨f, hf⟩ : ∃ f, f = l[j] := ⟨_, rfl⟩
          have gf := vcs_get l j hjl
          rw [← hf] at gf
          have hp : prevI l (j + 1) = some f.1 := by unfold prevI; rw [if_neg (by omega)]; simp [hjl, ← hf]
          have w6 : IntKind.i64.wrap ((j : Int)) = (j : Int) := wrap64_id _ (by omega) (by omega)
          have p1 : (0 : Int) < (j : Int) + 1 := by omega
          have p0 : (0 : Int) ≤ (j : Int) + 1 := by omega
          have p2 : (j : Int) + 1 < l.length := by omega
          have w5' : IntKind.i64.wrap ((j : Int) + 1 + 1) = (j : Int) + 1 + 1 := wrap64_id _ (by omega) (by omega)
          by_cases c3 : e.1 ≤ f.1
          · rw [valE_order c12 ⟨f.1, hp, c3⟩, errOut_8]
            simp [iterK_succ, hil, g, c1, c2, gf, hjl, w6, p0, p1, p2, c3, ← he, ← hf]
          · have hp2 : ¬ ∃ i, prevI l (j + 1) = some i ∧ e.1 ≤ i := by rw [hp]; rintro ⟨j, hj, hle⟩; cases hj; exact c3 hle
            by_cases hq : e.2.q = 0
            · rw [valE_zero c12 hp2 hq, errOut_11]
              rw [(num_zero_cmp _).2 hq] at tq
              simp [iterK_succ, hil, g, c1, c2, gf, hjl, w6, p0, p1, p2, c3, tq, ← he, ← hf]
            · rw [valE_next c12 hp2 hq, ← e1]
              have hc : ¬ cmpZ e.2.q.num 0 = 0 := fun h => hq ((num_zero_cmp _).1 h)
              simp [iterK_succ, hil, g, c1, c2, gf, hjl, w6, p0, p1, p2, c3, tq, hc, ← he, ← hf, w5']

theorem validateR_run (hS : G 41 = spSignFrac) : FSpec (fun args n => pureF G ic n c13F args) spValidate := by
  intro args r h
  obtain ⟨a, b, l, nn, v, rfl, hx, hy, hv, rfl⟩ := sp2_inv h
  cases hv
  obtain ⟨nl, rfl, hl⟩ := vOfA_inv hx
  obtain ⟨rfl, n0, n1⟩ := i64Of_inv hy
  obtain ⟨N, hN⟩ : ∃ N, N = l.length + 1 := ⟨_, rfl⟩
  refine ⟨{ val := .int .i64 (valid nn (nums l)) }, ⟨N, ?_⟩, rfl, rfl⟩
  unfold valid
  by_cases c1 : nn < 0
  · rw [if_pos (.inl c1)]
    simp [pureF, runF, c1]
  · by_cases c2 : 4096 < nn
    · rw [if_pos (.inr c2)]
      simp [pureF, runF, c1, c2]
    · rw [if_neg (by omega)]
      have e := validateR_loop G ic N hS nl l hl nn (by omega) l.length 0 N (by omega) (by omega)
      simp [c13_e0, c13_k0, prevI] at e
      by_cases h0 : valE nn none (nums l) = 0
      · rw [h0, errOut_0] at e
        simp [pureF, runF, c1, c2, e, h0]
      · rw [errOut_ne h0] at e
        simp [pureF, runF, c1, c2, e]

end
end Go.Proofs.Ythlpmghodgiknaa.C

/-
  Light vectors; the dot product; the sanity check.
-/
namespace Go.Proofs.Ythlpmghodgiknaa.C
open Go Go.Ev

section
variable (G : Pure) (ic : Inl) (n : Nat)

/-! ### Light -/

/-- How a loop ends that may answer false. -/
def okOut (b : Bool) (s : SL) : Out := if b = true then some (.normal, s) else some (.ret, ⟨[(2, .bool false)], [], [], [], []⟩)
theorem okOut_true (s : SL) : okOut true s = some (.normal, s) := rfl
theorem okOut_false (s : SL) : okOut false s = some (.ret, ⟨[(2, .bool false)], [], [], [], []⟩) := rfl

def spLight1 : List AV → Option PRes
  | [.imm nl 2 [[.bool s1, .imm l1 1 e1], [.bool s2, .imm l2 1 e2]]] => if e1.length ≤ 140737488355328 ∧ e2.length ≤ 140737488355328 then some { val := .bool (decide (e1.length + e2.length ≤ 60)) } else none
  | _ => none

theorem light1_loop (nl s1 s2 l1 l2 : Bool) (e1 e2 : List (List AV)) (h1 : e1.length ≤ 140737488355328) (h2 : e2.length ≤ 140737488355328) (m : Nat) (hm : 3 ≤ m) :
    blockE (some c42_e0) 0 (iterK G ic n c42_k0 c42_b0Q m ⟨[(0, .imm nl 2 [[.bool s1, .imm l1 1 e1], [.bool s2, .imm l2 1 e2]]), (3, .int .i64 0), (4, .int .i64 0)], [], [], [], []⟩) =
      some (.normal, ⟨[(3, .int .i64 ((e1.length : Int) + e2.length))], [], [], [], []⟩) := by
  obtain ⟨m, rfl⟩ : ∃ i, m = i + 1 := ⟨m - 1, by omega⟩
  obtain ⟨m, rfl⟩ : ∃ i, m = i + 1 := ⟨m - 1, by omega⟩
  obtain ⟨m, rfl⟩ : ∃ i, m = i + 1 := ⟨m - 1, by omega⟩
  have w1 : IntKind.i64.wrap (e1.length : Int) = (e1.length : Int) := wrap64_id _ (by omega) (by omega)
  have w2 : IntKind.i64.wrap ((e1.length : Int) + e2.length) = (e1.length : Int) + e2.length := wrap64_id _ (by omega) (by omega)
  have w3 : IntKind.i64.wrap (1 : Int) = 1 := wrap64_id _ (by omega) (by omega)
  have w4 : IntKind.i64.wrap (2 : Int) = 2 := wrap64_id _ (by omega) (by omega)
  simp [iterK_succ, w1, w2, w3, w4]

theorem light1_run : FSpec (fun args n => pureF G ic n c42F args) spLight1 := by
  intro args r h
  unfold spLight1 at h
  split at h
  case h_2 => cases h
  rename_i nl s1 l1 e1 s2 l2 e2
  obtain ⟨⟨h1, h2⟩, h3⟩ := of_ite h
  cases h3
  obtain ⟨N, hN⟩ : ∃ N, N = 3 := ⟨_, rfl⟩
  have e := light1_loop G ic N nl s1 s2 l1 l2 e1 e2 h1 h2 N (by omega)
  simp [c42_e0, c42_k0] at e
  refine ⟨{ val := .bool (decide (e1.length + e2.length ≤ 60)) }, ⟨N, ?_⟩, rfl, rfl⟩
  have hd : decide ((e1.length : Int) + e2.length ≤ 60) = decide (e1.length + e2.length ≤ 60) := by
    congr 1; simp only [eq_iff_iff]; omega
  simp [pureF, runF, e, hd]

noncomputable def spLight2 : List AV → Option PRes := sp1 fsOfW fun l => some (.bool (l.all lightF && decide (l.length < 20)))

theorem light2_loop (hL : G 42 = spLight1) (nl : Bool) (l : List RF) (hl : l.length ≤ 140737488355328) (hf : ∀ f ∈ l, f.wide) : ∀ d i m, i + d = l.length → d < m →
    blockE (some c14_e0) 0 (iterK G ic n c14_k0 c14_b0Q m ⟨[(0, .imm nl 4 (fcs l)), (3, .int .i64 i)], [], [], [], []⟩) =
      okOut ((l.drop i).all lightF) ⟨[(0, .imm nl 4 (fcs l))], [], [], [], []⟩ := by
  intro d
  induction d with
  | zero =>
    intro i m hi hm
    obtain ⟨m, rfl⟩ : ∃ i, m = i + 1 := ⟨m - 1, by omega⟩
    have e : i = l.length := by omega
    subst e
    rw [List.drop_length, List.all_nil, okOut_true]
    simp [iterK_succ]
  | succ d ih =>
    intro i m hi hm
    obtain ⟨m, rfl⟩ : ∃ i, m = i + 1 := ⟨m - 1, by omega⟩
    have hil : i < l.length := by omega
    obtain ⟨f, he⟩ : ∃ f, f = l[i] := ⟨_, rfl⟩
    have hdrop : l.drop i = f :: l.drop (i + 1) := by rw [List.drop_eq_getElem_cons hil, ← he]
    have hw := hf f (by rw [he]; exact List.getElem_mem _)
    have g := fcs_get l i hil
    rw [← he] at g
    have e1 := ih (i + 1) m (by omega) (by omega)
    have t : G 42 [.imm false 2 [[.bool f.s1, .imm f.l1 1 (dg f.d1)], [.bool f.s2, .imm f.l2 1 (dg f.d2)]]] = some { val := .bool (decide (f.d1.length + f.d2.length ≤ 60)) } := by
      rw [hL]; simp only [spLight1, dg_length]; rw [if_pos ⟨hw.b1, hw.b2⟩]
    have w5 : IntKind.i64.wrap ((i : Int) + 1) = (i : Int) + 1 := wrap64_id _ (by omega) (by omega)
    rw [hdrop, List.all_cons]
    by_cases c1 : f.d1.length + f.d2.length ≤ 60
    · by_cases c2 : f.d1.length ≤ 12
      · by_cases c3 : f.d2.length ≤ 12
        · have hlf : lightF f = true := by simp [lightF, c1, c2, c3]
          rw [hlf, Bool.true_and, ← e1]
          have c2' : ¬ (12 : Int) < f.d1.length := by omega
          have c3' : ¬ (12 : Int) < f.d2.length := by omega
          simp [iterK_succ, hil, g, t, c1, c2', c3', w5, ← he]
        · have hlf : lightF f = false := by simp [lightF, c3]
          rw [hlf, Bool.false_and, okOut_false]
          have c2' : ¬ (12 : Int) < f.d1.length := by omega
          have c3' : (12 : Int) < f.d2.length := by omega
          simp [iterK_succ, hil, g, t, c1, c2', c3', ← he]
      · have hlf : lightF f = false := by simp [lightF, c2]
        rw [hlf, Bool.false_and, okOut_false]
        have c2' : (12 : Int) < f.d1.length := by omega
        simp [iterK_succ, hil, g, t, c1, c2', ← he]
    · have hlf : lightF f = false := by simp [lightF, c1]
      rw [hlf, Bool.false_and, okOut_false]
      simp [iterK_succ, hil, g, t, c1, ← he]

theorem light2_run (hL : G 42 = spLight1) : FSpec (fun args n => pureF G ic n c14F args) spLight2 := by
  intro args r h
  obtain ⟨a, l, v, rfl, hx, hv, rfl⟩ := sp1_inv h
  cases hv
  obtain ⟨nl, rfl, hl, hf⟩ := fsOfW_inv hx
  obtain ⟨N, hN⟩ : ∃ N, N = l.length + 1 := ⟨_, rfl⟩
  have e := light2_loop G ic N hL nl l hl hf l.length 0 N (by omega) (by omega)
  simp [c14_e0, c14_k0, -List.all_eq_true] at e
  refine ⟨{ val := .bool (l.all lightF && decide (l.length < 20)) }, ⟨N, ?_⟩, rfl, rfl⟩
  have hd : decide ((l.length : Int) < 20) = decide (l.length < 20) := by congr 1; simp only [eq_iff_iff]; omega
  cases hb : l.all lightF with
  | true =>
    rw [hb, okOut_true] at e
    simp [pureF, runF, e, hd]
  | false =>
    rw [hb, okOut_false] at e
    simp [pureF, runF, e]

/-! ### Light of vectors -/

def accN (ls : List VV) (n : Int) : Int := ls.foldl (fun n v => IntKind.i64.wrap (n + v.2.length)) n
def lightV (v : VV) : Bool := v.2.all fun e => lightF e.2

noncomputable def spLight3 : List AV → Option PRes := sp1 vsOfW fun ls => some (.bool (ls.all lightV && (decide (accN ls 0 ≤ 60) && decide (ls.length ≤ 20))))

theorem light3_inner (hL : G 14 = spLight2) (nl : Bool) (ls : List VV) (i : Nat) (hi : i < ls.length) (hls : ls.length ≤ 140737488355328) (hv : VecWide (ls[i]).2) (v3 : AV) : ∀ d k m, k + d = (ls[i]).2.length → d < m →
    blockE (some c10_e0) 2 (iterK G ic n c10_k0 c10_b0Q m ⟨[(0, .imm nl 1 (vvs ls)), (3, v3), (4, .int .i64 i), (5, .int .i64 k)], [], [], [], []⟩) =
      okOut (((ls[i]).2.drop k).all fun e => lightF e.2) ⟨[(0, .imm nl 1 (vvs ls)), (3, v3), (4, .int .i64 i)], [], [], [], []⟩ := by
  obtain ⟨V, hV⟩ : ∃ V, V = ls[i] := ⟨_, rfl⟩
  rw [← hV] at hv ⊢
  obtain ⟨b, l⟩ := V
  simp only at hv
  have gV := vvs_get ls i hi
  rw [← hV] at gV
  simp only [vcell] at gV
  have hl := hv.len
  intro d
  induction d with
  | zero =>
    intro k m hk hm
    obtain ⟨m, rfl⟩ : ∃ i, m = i + 1 := ⟨m - 1, by omega⟩
    have e : k = l.length := by simpa using hk
    subst e
    rw [List.drop_length, List.all_nil, okOut_true]
    simp [iterK_succ, gV, hi, ← hV]
  | succ d ih =>
    intro k m hk hm
    obtain ⟨m, rfl⟩ : ∃ i, m = i + 1 := ⟨m - 1, by omega⟩
    simp only at hk ih ⊢
    have hkl : k < l.length := by omega
    obtain ⟨e, he⟩ : ∃ e, e = l[k] := ⟨_, rfl⟩
    have hdrop : l.drop k = e :: l.drop (k + 1) := by rw [List.drop_eq_getElem_cons hkl, ← he]
    have hew := hv.ents e (by rw [he]; exact List.getElem_mem _)
    have g := vcs_get l k hkl
    rw [← he] at g
    have e1 := ih (k + 1) m (by omega) (by omega)
    have t : G 14 [.imm false 4 [[.bool e.2.s1, .imm e.2.l1 1 (dg e.2.d1), .bool e.2.s2, .imm e.2.l2 1 (dg e.2.d2)]]] = some { val := .bool (lightF e.2) } := by
      have := sp1_at hL (fsOfW_mk (nl := false) (l := [e.2]) (by simp) (by simpa using hew.fr)) rfl
      simpa [fcs] using this
    have w5 : IntKind.i64.wrap ((k : Int) + 1) = (k : Int) + 1 := wrap64_id _ (by omega) (by omega)
    rw [hdrop, List.all_cons]
    cases hlf : lightF e.2 with
    | true =>
      rw [hlf] at t
      rw [Bool.true_and, ← e1]
      simp [iterK_succ, gV, hi, ← hV, hkl, g, t, w5, ← he]
    | false =>
      rw [hlf] at t
      rw [Bool.false_and, okOut_false]
      simp [iterK_succ, gV, hi, ← hV, hkl, g, t, ← he]

theorem light3_outer (hL : G 14 = spLight2) (nl : Bool) (ls : List VV) (hls : ls.length ≤ 140737488355328) (hv : ∀ v ∈ ls, VecWide v.2) (hn : ∀ v ∈ ls, v.2.length < n) : ∀ d i a m, i + d = ls.length → d < m →
    blockE (some c10_e1) 0 (iterK G ic n c10_k1 c10_b1Q m ⟨[(0, .imm nl 1 (vvs ls)), (3, .int .i64 a), (4, .int .i64 i)], [], [], [], []⟩) =
      okOut ((ls.drop i).all lightV) ⟨[(0, .imm nl 1 (vvs ls)), (3, .int .i64 (accN (ls.drop i) a))], [], [], [], []⟩ := by
  intro d
  induction d with
  | zero =>
    intro i a m hi hm
    obtain ⟨m, rfl⟩ : ∃ i, m = i + 1 := ⟨m - 1, by omega⟩
    have e : i = ls.length := by omega
    subst e
    rw [List.drop_length, List.all_nil, okOut_true]
    simp [iterK_succ, accN]
  | succ d ih =>
    intro i a m hi hm
    obtain ⟨m, rfl⟩ : ∃ i, m = i + 1 := ⟨m - 1, by omega⟩
    have hil : i < ls.length := by omega
    have hmem : ls[i] ∈ ls := List.getElem_mem _
    have hin := light3_inner G ic n hL nl ls i hil hls (hv _ hmem) (.int .i64 (IntKind.i64.wrap (a + (ls[i]).2.length))) (ls[i]).2.length 0 n (by omega) (hn _ hmem)
    rw [List.drop_zero] at hin
    obtain ⟨V, hV⟩ : ∃ V, V = ls[i] := ⟨_, rfl⟩
    have hdrop : ls.drop i = V :: ls.drop (i + 1) := by rw [List.drop_eq_getElem_cons hil, ← hV]
    have gV := vvs_get ls i hil
    rw [← hV] at gV hin
    have e1 := ih (i + 1) (IntKind.i64.wrap (a + V.2.length)) m (by omega) (by omega)
    obtain ⟨b, l⟩ := V
    simp only [vcell] at gV
    have w5 : IntKind.i64.wrap ((i : Int) + 1) = (i : Int) + 1 := wrap64_id _ (by omega) (by omega)
    rw [hdrop, List.all_cons]
    have hacc : accN ((b, l) :: ls.drop (i + 1)) a = accN (ls.drop (i + 1)) (IntKind.i64.wrap (a + l.length)) := rfl
    rw [hacc]
    simp only at hin e1
    simp [c10_e0, c10_k0, -List.all_eq_true] at hin
    have hlv : lightV (b, l) = l.all fun e => lightF e.2 := rfl
    rw [hlv]
    cases hb : l.all fun e => lightF e.2 with
    | true =>
      rw [hb, okOut_true] at hin
      rw [Bool.true_and, ← e1]
      simp [iterK_succ, hil, gV, ← hV, hin, w5]
    | false =>
      rw [hb, okOut_false] at hin
      rw [Bool.false_and, okOut_false]
      simp [iterK_succ, hil, gV, ← hV, hin]

theorem exists_bound (ls : List VV) : ∃ N, ∀ v ∈ ls, v.2.length < N := by
  induction ls with
  | nil => exact ⟨0, by simp⟩
  | cons v ls ih =>
    obtain ⟨N, hN⟩ := ih
    refine ⟨N + v.2.length + 1, fun x hx => ?_⟩
    rcases List.mem_cons.1 hx with rfl | hx
    · omega
    · have := hN x hx; omega

theorem light3_run (hL : G 14 = spLight2) : FSpec (fun args n => pureF G ic n c10F args) spLight3 := by
  intro args r h
  obtain ⟨a, ls, v, rfl, hx, hv, rfl⟩ := sp1_inv h
  cases hv
  obtain ⟨nl, rfl, hl, hf⟩ := vsOfW_inv hx
  obtain ⟨N0, hN0⟩ := exists_bound ls
  obtain ⟨N, hN⟩ : ∃ N, N = N0 + ls.length + 1 := ⟨_, rfl⟩
  have e := light3_outer G ic N hL nl ls hl hf (fun v hv => by have := hN0 v hv; omega) ls.length 0 0 N (by omega) (by omega)
  simp [c10_e1, c10_k1, -List.all_eq_true] at e
  refine ⟨{ val := .bool (ls.all lightV && (decide (accN ls 0 ≤ 60) && decide (ls.length ≤ 20))) }, ⟨N, ?_⟩, rfl, rfl⟩
  have hd : decide ((ls.length : Int) ≤ 20) = decide (ls.length ≤ 20) := by congr 1; simp only [eq_iff_iff]; omega
  cases hb : ls.all lightV with
  | true =>
    rw [hb, okOut_true] at e
    by_cases h60 : accN ls 0 ≤ 60
    · simp [pureF, runF, e, hd, h60]
    · simp [pureF, runF, e, h60]
  | false =>
    rw [hb, okOut_false] at e
    simp [pureF, runF, e]

end
end Go.Proofs.Ythlpmghodgiknaa.C
