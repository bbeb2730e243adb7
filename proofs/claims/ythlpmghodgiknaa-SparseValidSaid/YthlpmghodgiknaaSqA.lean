/-
  The program's fractions.
-/
import Derived.Test.YthlpmghodgiknaaSpZ
namespace Go.Proofs.Ythlpmghodgiknaa.C
open Go Go.Ev

section
variable (G : Pure) (ic : Inl) (n : Nat)

theorem oneP_run (hF : G 69 = spFromInt64) : FSpec (fun args n => pureF G ic n c78F args) spOne := by
  intro args r h
  obtain ⟨rfl, rfl⟩ := sp0_inv h
  have t := sp1_at hF (i64Of_mk (n := 1) (by decide) (by decide)) rfl
  refine ⟨{ val := iV 1 }, ⟨0, ?_⟩, rfl, (weak_iV _).symm⟩
  simp [pureF, runF, t, iV, iA]

/-! ### parts -/

def partsR (x y : Bool × List Nat) : AV × AV :=
  if vOf y = 0 then (iV 0, iV 1) else if vOf y < 0 then (iV (-vOf x), iV (-vOf y)) else (iA x.1 x.2, iA y.1 y.2)

theorem partsR_zero {x y : Bool × List Nat} (h : vOf y = 0) : partsR x y = (iV 0, iV 1) := by unfold partsR; rw [if_pos h]
theorem partsR_neg {x y : Bool × List Nat} (h : vOf y < 0) : partsR x y = (iV (-vOf x), iV (-vOf y)) := by unfold partsR; rw [if_neg (by omega), if_pos h]
theorem partsR_pos {x y : Bool × List Nat} (h : 0 < vOf y) : partsR x y = (iA x.1 x.2, iA y.1 y.2) := by unfold partsR; rw [if_neg (by omega), if_neg (by omega)]

def spParts : List AV → Option PRes := sp1 rawOf fun x => some (.tup [(partsR x.1 x.2).1, (partsR x.1 x.2).2])

theorem weak_iV_tup (x y : Int) : AV.weak (.tup [iV x, iV y]) = .tup [iV x, iV y] := by simp [AV.weak, AV.weakL, weak_iV]
theorem iV0_true : AV.weak (.tup [.agg [.bool false, .imm true 1 []], iV 1]) = .tup [iV 0, iV 1] := by
  simp only [AV.weak, AV.weakL, weak_iV, iV_zero, iA]
  simp [AV.weakLL, dg_nil]

theorem parts_run (hS : G 63 = spSign) (hO : G 78 = spOne) (hN : G 79 = spNegate) : FSpec (fun args n => pureF G ic n c62F args) spParts := by
  intro args r h
  obtain ⟨a, ⟨⟨s1, d1⟩, ⟨s2, d2⟩⟩, v, rfl, hx, hv, rfl⟩ := sp1_inv h
  cases hv
  obtain ⟨l1, l2, rfl, w1, k1, w2, k2⟩ := rawOf_inv hx
  have z1 := zOf_mk (b := s1) (nl := l1) w1 k1
  have z2 := zOf_mk (b := s2) (nl := l2) w2 k2
  have t0 := sp0_at hO
  have t1 := sp1_at hS z2 rfl
  obtain ⟨x, hxe⟩ : ∃ x, x = sg s1 (dv d1) := ⟨_, rfl⟩
  obtain ⟨y, hye⟩ : ∃ y, y = sg s2 (dv d2) := ⟨_, rfl⟩
  rw [← hxe] at z1
  rw [← hye] at z2 t1
  by_cases hy0 : y = 0
  · simp only [partsR_zero (x := (s1, d1)) (y := (s2, d2)) (hye.symm.trans hy0)]
    have hc : cmpZ y 0 = 0 := by rw [hy0]; rfl
    rw [hc] at t1
    obtain ⟨one, hone⟩ : ∃ o : Int, o = 1 := ⟨_, rfl⟩
    rw [← hone] at t0 ⊢
    have hw := iV0_true
    rw [← hone] at hw
    refine ⟨{ val := .tup [.agg [.bool false, .imm true 1 []], iV one] }, ⟨0, ?_⟩, rfl, hw.symm⟩
    simp only [iV_agg] at t0
    clear hone hw
    simp [pureF, runF, t0, t1, iV_agg]
  · by_cases hyn : y < 0
    · have hp : partsR (s1, d1) (s2, d2) = (iV (-x), iV (-y)) := by
        rw [hxe, hye]; exact partsR_neg (x := (s1, d1)) (y := (s2, d2)) (by show sg s2 (dv d2) < 0; omega)
      simp only [hp]
      clear hp
      have hc : cmpZ y 0 = -1 := by unfold cmpZ; rw [if_pos hyn]
      rw [hc] at t1
      have t2 := sp1_at hN z1 rfl
      have t3 := sp1_at hN z2 rfl
      obtain ⟨p, hp⟩ : ∃ p, p = -x := ⟨_, rfl⟩
      obtain ⟨q, hq⟩ : ∃ q, q = -y := ⟨_, rfl⟩
      rw [← hp] at t2 ⊢
      rw [← hq] at t3 ⊢
      refine ⟨{ val := .tup [iV p, iV q] }, ⟨0, ?_⟩, rfl, (weak_iV_tup _ _).symm⟩
      simp only [iV_agg] at t2 t3
      clear hp hq
      simp [pureF, runF, t1, t2, t3, iV_agg]
    · have hp : partsR (s1, d1) (s2, d2) = (iA s1 d1, iA s2 d2) := partsR_pos (x := (s1, d1)) (y := (s2, d2)) (by show 0 < sg s2 (dv d2); omega)
      simp only [hp]
      clear hp
      have hc : cmpZ y 0 = 1 := by unfold cmpZ; rw [if_neg hyn, if_pos (by omega)]
      rw [hc] at t1
      refine ⟨{ val := .tup [.agg [.bool s1, .imm l1 1 (dg d1)], .agg [.bool s2, .imm l2 1 (dg d2)]] }, ⟨0, ?_⟩, rfl, by simp [AV.weak, AV.weakL, weakLL_dg, iA]⟩
      simp [pureF, runF, t1]

/-- What 'parts' gives: a numerator and a denominator above 0. -/
theorem parts_at {G : Pure} (hP : G 62 = spParts) {a : AV} {q : Rat} (h : qOf a = some q) : ∃ b1 d1 b2 d2, G 62 [a] = some { val := .tup [.agg [.bool b1, .imm false 1 (dg d1)], .agg [.bool b2, .imm false 1 (dg d2)]] } ∧
    Wf d1 ∧ d1.length < 2000000 ∧ Wf d2 ∧ d2.length < 2000000 ∧ 0 < sg b2 (dv d2) ∧ q = Rat.divInt (sg b1 (dv d1)) (sg b2 (dv d2)) := by
  obtain ⟨s1, l1, d1, s2, l2, d2, rfl, w1, k1, w2, k2, rfl⟩ := qOf_inv h
  have t := sp1_at (F := fun x => some (.tup [(partsR x.1 x.2).1, (partsR x.1 x.2).2])) hP (rawOf_mk (s1 := s1) (s2 := s2) (l1 := l1) (l2 := l2) w1 (by omega) w2 (by omega)) rfl
  have q1 := digs_length_dv w1
  have q2 := digs_length_dv w2
  by_cases hy0 : sg s2 (dv d2) = 0
  · simp only [partsR_zero (x := (s1, d1)) (y := (s2, d2)) hy0] at t
    refine ⟨_, _, _, _, t, wf_digs _, ?_, wf_digs _, ?_, ?_, ?_⟩
    · exact Nat.lt_of_le_of_lt (zl_small (z := 0) (by decide)) (by decide)
    · exact Nat.lt_of_le_of_lt (zl_small (z := 1) (by decide)) (by decide)
    · rw [dv_digs, sg_self]; decide
    · rw [dv_digs, dv_digs, sg_self, sg_self, hy0, Rat.divInt_zero, Rat.zero_divInt]
  · by_cases hyn : sg s2 (dv d2) < 0
    · simp only [partsR_neg (x := (s1, d1)) (y := (s2, d2)) hyn] at t
      rw [show vOf (s1, d1) = sg s1 (dv d1) from rfl, show vOf (s2, d2) = sg s2 (dv d2) from rfl] at t
      refine ⟨_, _, _, _, t, wf_digs _, ?_, wf_digs _, ?_, ?_, ?_⟩
      · rw [Int.natAbs_neg, sg_natAbs]; omega
      · rw [Int.natAbs_neg, sg_natAbs]; omega
      · rw [dv_digs, sg_self]; omega
      · rw [dv_digs, dv_digs, sg_self, sg_self, Rat.neg_divInt_neg]
    · simp only [partsR_pos (x := (s1, d1)) (y := (s2, d2)) (show 0 < sg s2 (dv d2) by omega)] at t
      exact ⟨_, _, _, _, t, w1, k1, w2, k2, by omega, rfl⟩

/-! ### reduced, FromInt, Sign -/

def spReduced : List AV → Option PRes := sp2 zOfS zOfS fun x y => some (fV (Rat.divInt x y))

theorem reducedP_run (hS : G 63 = spSign) (hO : G 78 = spOne) (hGc : G 82 = spGCDS) (hN : G 79 = spNegate) (hD : G 83 = spDivMod) : FSpec (fun args n => pureF G ic n c65F args) spReduced := by
  intro args r h
  obtain ⟨a, b, x, y, v, rfl, hx, hy, hv, rfl⟩ := sp2_inv h
  cases hv
  have zx := zOfS_zOf hx
  have zy := zOfS_zOf hy
  have lx := zOf_zl zx
  have t0 := sp0_at hO
  simp only [iV_agg] at t0
  have t1 := sp1_at hS zx rfl
  have t2 := sp1_at hS zy rfl
  have t3 := sp2_at hGc hx hy rfl
  obtain ⟨s1, l1, d1, rfl, w1, k1, -⟩ := zOfS_inv hx
  obtain ⟨s2, l2, d2, rfl, w2, k2, -⟩ := zOfS_inv hy
  have w0 : ∀ nl : Bool, fV 0 = AV.weak (.agg [.bool false, .imm nl 1 [], .bool false, .imm false 1 (dg (digs 1))]) := fun nl => by
    rw [fV_zero, ← dg_nil, weak_raw]
  by_cases hx0 : x = 0
  · have hc : cmpZ x 0 = 0 := by rw [hx0]; rfl
    rw [hc] at t1
    refine ⟨{ val := .agg [.bool false, .imm true 1 [], .bool false, .imm false 1 (dg (digs 1))] }, ⟨0, ?_⟩, rfl, by rw [hx0, Rat.zero_divInt]; exact w0 true⟩
    simp [pureF, runF, t0, t1]
  have hcx : ¬ cmpZ x 0 = 0 := by unfold cmpZ; split <;> (try split) <;> omega
  by_cases hy0 : y = 0
  · have hc : cmpZ y 0 = 0 := by rw [hy0]; rfl
    rw [hc] at t2
    refine ⟨{ val := .agg [.bool false, .imm true 1 [], .bool false, .imm false 1 (dg (digs 1))] }, ⟨0, ?_⟩, rfl, by rw [hy0, Rat.divInt_zero]; exact w0 true⟩
    simp [pureF, runF, t0, t1, t2, hcx]
  have hcy : ¬ cmpZ y 0 = 0 := by unfold cmpZ; split <;> (try split) <;> omega
  obtain ⟨g, hg⟩ : ∃ g : Int, g = ((Int.gcd x y : Nat) : Int) := ⟨_, rfl⟩
  have hg0 : g ≠ 0 := by rw [hg]; have := Int.gcd_pos_of_ne_zero_left y hx0; omega
  have hgl : zl g < 30000000 := by
    refine Nat.lt_of_le_of_lt (zl_mono (y := x) ?_) lx
    rw [hg]
    show Nat.gcd x.natAbs y.natAbs ≤ x.natAbs
    exact Nat.gcd_le_left _ (by omega)
  rw [← hg] at t3
  obtain ⟨q, hq⟩ : ∃ q, q = Rat.divInt x y := ⟨_, rfl⟩
  rw [← hq]
  refine ⟨{ val := fV q }, ⟨0, ?_⟩, rfl, (weak_fV _).symm⟩
  by_cases hyn : y < 0
  · have hcn : cmpZ y 0 < 0 := by unfold cmpZ; rw [if_pos hyn]; decide
    have t4 := sp1_at hN (zOf_iV hgl) rfl
    have hgl' : zl (-g) < 30000000 := by rw [zl_neg]; exact hgl
    have t5 := sp2_at hD zx (zOf_iV hgl') rfl
    have t6 := sp2_at hD zy (zOf_iV hgl') rfl
    rw [if_neg (by omega)] at t5 t6
    obtain ⟨p1, p2⟩ := divInt_parts (n := -x) (d := -y) (by omega)
    rw [Int.gcd_neg, Int.neg_gcd, ← hg, Rat.neg_divInt_neg, ← hq] at p1 p2
    have e1 : x.fdiv (-g) = q.num := by rw [← p1, ← Int.neg_fdiv_neg, Int.neg_neg]
    have e2 : y.fdiv (-g) = (q.den : Int) := by rw [← p2, ← Int.neg_fdiv_neg, Int.neg_neg]
    rw [e1] at t5
    rw [e2] at t6
    obtain ⟨g', hg'⟩ : ∃ g', g' = -g := ⟨_, rfl⟩
    obtain ⟨M1, hM1⟩ : ∃ M, M = x.fmod (-g) := ⟨_, rfl⟩
    obtain ⟨M2, hM2⟩ : ∃ M, M = y.fmod (-g) := ⟨_, rfl⟩
    rw [← hM1, ← hg'] at t5
    rw [← hM2, ← hg'] at t6
    rw [← hg'] at t4
    simp only [iV_agg] at t3 t4 t5 t6
    clear hg hg' hM1 hM2 hq p1 p2 e1 e2
    simp [pureF, runF, t1, t2, hcx, hcy, hcn, t3, t4, t5, t6, fV_agg]
  · have hcn : ¬ cmpZ y 0 < 0 := by unfold cmpZ; rw [if_neg hyn]; split <;> decide
    have t5 := sp2_at hD zx (zOf_iV hgl) rfl
    have t6 := sp2_at hD zy (zOf_iV hgl) rfl
    rw [if_neg hg0] at t5 t6
    obtain ⟨p1, p2⟩ := divInt_parts (n := x) (d := y) (by omega)
    rw [← hg, ← hq] at p1 p2
    rw [p1] at t5
    rw [p2] at t6
    obtain ⟨M1, hM1⟩ : ∃ M, M = x.fmod g := ⟨_, rfl⟩
    obtain ⟨M2, hM2⟩ : ∃ M, M = y.fmod g := ⟨_, rfl⟩
    rw [← hM1] at t5
    rw [← hM2] at t6
    simp only [iV_agg] at t3 t5 t6
    clear hg hM1 hM2 hq p1 p2
    simp [pureF, runF, t1, t2, hcx, hcy, hcn, t3, t5, t6, fV_agg]

def spFromIntS : List AV → Option PRes := sp1 zOfS fun z => some (fV (z : Rat))

theorem fromIntP_run (hO : G 78 = spOne) (hR : G 65 = spReduced) : FSpec (fun args n => pureF G ic n c68F args) spFromIntS := by
  intro args r h
  obtain ⟨a, z, v, rfl, hx, hv, rfl⟩ := sp1_inv h
  cases hv
  have t0 := sp0_at hO
  have t1 := sp2_at hR hx (zOfS_iV (z := 1) (Nat.lt_of_le_of_lt (zl_small (by decide)) (by decide))) rfl
  rw [divInt_one] at t1
  obtain ⟨s1, l1, d1, rfl, w1, k1, -⟩ := zOfS_inv hx
  obtain ⟨q, hq⟩ : ∃ q : Rat, q = (z : Rat) := ⟨_, rfl⟩
  rw [← hq] at t1 ⊢
  obtain ⟨one, hone⟩ : ∃ o : Int, o = 1 := ⟨_, rfl⟩
  rw [← hone] at t0 t1
  refine ⟨{ val := fV q }, ⟨0, ?_⟩, rfl, (weak_fV _).symm⟩
  simp only [iV_agg] at t0
  simp only [fV_agg] at t1
  clear hone hq
  simp [pureF, runF, t0, t1, fV_agg]

/-- The sign of a fraction with a denominator above 0. -/
theorem cmpZ_divInt {n d : Int} (hd : 0 < d) : cmpZ (Rat.divInt n d).num 0 = cmpZ n 0 := by
  have h := (divInt_parts (n := n) hd).1
  have hg : 0 < Int.gcd n d := Int.gcd_pos_of_ne_zero_right n (by omega)
  have hdv := Int.mul_fdiv_cancel' (a := ((Int.gcd n d : Nat) : Int)) (b := n) (Int.gcd_dvd_left ..)
  rw [h] at hdv
  obtain ⟨g, hge⟩ : ∃ g : Int, g = ((Int.gcd n d : Nat) : Int) := ⟨_, rfl⟩
  obtain ⟨m, hm⟩ : ∃ m, m = (Rat.divInt n d).num := ⟨_, rfl⟩
  rw [← hge, ← hm] at hdv
  rw [← hm]
  have hg' : 0 < g := by omega
  unfold cmpZ
  rcases Int.lt_trichotomy m 0 with h1 | h1 | h1
  · have : g * m < 0 := Int.mul_neg_of_pos_of_neg hg' h1
    rw [if_pos h1, if_pos (by omega)]
  · subst h1; rw [Int.mul_zero] at hdv; rw [← hdv]
  · have : 0 < g * m := Int.mul_pos hg' h1
    rw [if_neg (by omega), if_pos h1, if_neg (by omega), if_pos (by omega)]

theorem signQ_run (hP : G 62 = spParts) (hS : G 63 = spSign) : FSpec (fun args n => pureF G ic n c40F args) spSignFrac := by
  intro args r h
  obtain ⟨a, q, v, rfl, hx, hv, rfl⟩ := sp1_inv h
  cases hv
  obtain ⟨b1, e1, b2, e2, t1, w1, k1, w2, k2, hd, hq⟩ := parts_at hP hx
  have t2 := sp1_at hS (zOf_mk (b := b1) (nl := false) w1 (by omega)) rfl
  rw [← cmpZ_divInt hd, ← hq] at t2
  obtain ⟨s1, l1, d1, s2, l2, d2, rfl, -⟩ := qOf_inv hx
  refine ⟨{ val := .int .i64 (cmpZ q.num 0) }, ⟨0, ?_⟩, rfl, rfl⟩
  simp [pureF, runF, t1, t2]

/-! ### Mul, Add -/

theorem mulQ_run (hP : G 62 = spParts) (hM : G 66 = spMul) (hR : G 65 = spReduced) : FSpec (fun args n => pureF G ic n c46F args) spMulFrac := by
  intro args r h
  obtain ⟨a, b, x, y, v, rfl, hx, hy, hv, rfl⟩ := sp2_inv h
  cases hv
  obtain ⟨b1, e1, b2, e2, t1, w1, k1, w2, k2, hd1, hq1⟩ := parts_at hP hx
  obtain ⟨b3, e3, b4, e4, t2, w3, k3, w4, k4, hd2, hq2⟩ := parts_at hP hy
  have q1 := digs_length_dv w1
  have q2 := digs_length_dv w2
  have q3 := digs_length_dv w3
  have q4 := digs_length_dv w4
  have t3 := sp2_at hM (zOf_mk (b := b1) (nl := false) w1 (by omega)) (zOf_mk (b := b3) (nl := false) w3 (by omega)) rfl
  have t4 := sp2_at hM (zOf_mk (b := b2) (nl := false) w2 (by omega)) (zOf_mk (b := b4) (nl := false) w4 (by omega)) rfl
  have l1 := zl_mul (sg b1 (dv e1)) (sg b3 (dv e3))
  have l2 := zl_mul (sg b2 (dv e2)) (sg b4 (dv e4))
  rw [zl_sg, zl_sg] at l1 l2
  obtain ⟨p1, hp1⟩ : ∃ e, e = sg b1 (dv e1) * sg b3 (dv e3) := ⟨_, rfl⟩
  obtain ⟨p2, hp2⟩ : ∃ e, e = sg b2 (dv e2) * sg b4 (dv e4) := ⟨_, rfl⟩
  rw [← hp1] at t3 l1
  rw [← hp2] at t4 l2
  have t5 := sp2_at hR (zOfS_iV (z := p1) (by omega)) (zOfS_iV (z := p2) (by omega)) rfl
  have e5 : Rat.divInt p1 p2 = x * y := by rw [hq1, hq2, Rat.divInt_mul_divInt, hp1, hp2]
  rw [e5] at t5
  obtain ⟨q, hq⟩ : ∃ q : Rat, q = x * y := ⟨_, rfl⟩
  rw [← hq] at t5 ⊢
  obtain ⟨s1, l1', d1, s2, l2', d2, rfl, -⟩ := qOf_inv hx
  obtain ⟨s3, l3', d3, s4, l4', d4, rfl, -⟩ := qOf_inv hy
  refine ⟨{ val := fV q }, ⟨0, ?_⟩, rfl, (weak_fV _).symm⟩
  simp only [iV_agg] at t3 t4
  simp only [fV_agg] at t5
  clear hp1 hp2 hq e5
  simp [pureF, runF, t1, t2, t3, t4, t5, fV_agg]

theorem addQ_run (hP : G 62 = spParts) (hM : G 66 = spMul) (hA : G 67 = spAdd) (hR : G 65 = spReduced) : FSpec (fun args n => pureF G ic n c47F args) spAddFrac := by
  intro args r h
  obtain ⟨a, b, x, y, v, rfl, hx, hy, hv, rfl⟩ := sp2_inv h
  cases hv
  obtain ⟨b1, e1, b2, e2, t1, w1, k1, w2, k2, hd1, hq1⟩ := parts_at hP hx
  obtain ⟨b3, e3, b4, e4, t2, w3, k3, w4, k4, hd2, hq2⟩ := parts_at hP hy
  have q1 := digs_length_dv w1
  have q2 := digs_length_dv w2
  have q3 := digs_length_dv w3
  have q4 := digs_length_dv w4
  have z1 := zOf_mk (b := b1) (nl := false) w1 (by omega)
  have z2 := zOf_mk (b := b2) (nl := false) w2 (by omega)
  have z3 := zOf_mk (b := b3) (nl := false) w3 (by omega)
  have z4 := zOf_mk (b := b4) (nl := false) w4 (by omega)
  have t3 := sp2_at hM z1 z4 rfl
  have t4 := sp2_at hM z3 z2 rfl
  have t5 := sp2_at hM z2 z4 rfl
  have l1 := zl_mul (sg b1 (dv e1)) (sg b4 (dv e4))
  have l2 := zl_mul (sg b3 (dv e3)) (sg b2 (dv e2))
  have l3 := zl_mul (sg b2 (dv e2)) (sg b4 (dv e4))
  rw [zl_sg, zl_sg] at l1 l2 l3
  obtain ⟨p1, hp1⟩ : ∃ e, e = sg b1 (dv e1) * sg b4 (dv e4) := ⟨_, rfl⟩
  obtain ⟨p2, hp2⟩ : ∃ e, e = sg b3 (dv e3) * sg b2 (dv e2) := ⟨_, rfl⟩
  obtain ⟨p3, hp3⟩ : ∃ e, e = sg b2 (dv e2) * sg b4 (dv e4) := ⟨_, rfl⟩
  rw [← hp1] at t3 l1
  rw [← hp2] at t4 l2
  rw [← hp3] at t5 l3
  have t6 := sp2_at hA (zOf_iV (z := p1) (by simp only [zl] at l1; omega)) (zOf_iV (z := p2) (by simp only [zl] at l2; omega)) rfl
  have l4 := zl_add p1 p2
  obtain ⟨p4, hp4⟩ : ∃ e, e = p1 + p2 := ⟨_, rfl⟩
  rw [← hp4] at t6 l4
  have t7 := sp2_at hR (zOfS_iV (z := p4) (by omega)) (zOfS_iV (z := p3) (by omega)) rfl
  have e5 : Rat.divInt p4 p3 = x + y := by rw [hq1, hq2, Rat.divInt_add_divInt _ _ (by omega) (by omega), hp4, hp1, hp2, hp3]
  rw [e5] at t7
  obtain ⟨q, hq⟩ : ∃ q : Rat, q = x + y := ⟨_, rfl⟩
  rw [← hq] at t7 ⊢
  obtain ⟨s1, l1', d1, s2, l2', d2, rfl, -⟩ := qOf_inv hx
  obtain ⟨s3, l3', d3, s4, l4', d4, rfl, -⟩ := qOf_inv hy
  refine ⟨{ val := fV q }, ⟨0, ?_⟩, rfl, (weak_fV _).symm⟩
  simp only [iV_agg] at t3 t4 t5 t6
  simp only [fV_agg] at t7
  clear hp1 hp2 hp3 hp4 hq e5
  simp [pureF, runF, t1, t2, t3, t4, t5, t6, t7, fV_agg]

/-! ### zero, canonical -/

def spZero : List AV → Option PRes := sp0 (fV 0)

theorem zero_run (hF : G 69 = spFromInt64) (hI : G 68 = spFromIntS) : FSpec (fun args n => pureF G ic n c48F args) spZero := by
  intro args r h
  obtain ⟨rfl, rfl⟩ := sp0_inv h
  obtain ⟨q, hq⟩ : ∃ q : Rat, q = 0 := ⟨_, rfl⟩
  obtain ⟨z, hz⟩ : ∃ z : Int, z = 0 := ⟨_, rfl⟩
  have t1' : G 69 [.int .i64 0] = some { val := iV z } := by rw [hz]; exact sp1_at hF (i64Of_mk (n := 0) (by decide) (by decide)) rfl
  have t2 : G 68 [.agg [.bool (decide (z < 0)), .imm false 1 (dg (digs z.natAbs))]] = some { val := fV q } := by
    rw [hz, hq]; exact sp1_at hI (zOfS_iV (z := 0) (Nat.lt_of_le_of_lt (zl_small (by decide)) (by decide))) rfl
  rw [← hq]
  refine ⟨{ val := fV q }, ⟨0, ?_⟩, rfl, (weak_fV _).symm⟩
  simp only [iV_agg] at t1'
  simp only [fV_agg] at t2
  clear hq hz
  simp [pureF, runF, t1', t2, fV_agg]

def spCanonQ : List AV → Option PRes := sp1 qOf fun q => some (fV q)

theorem canonQ_run (hZ : G 48 = spZero) (hA : G 47 = spAddFrac) : FSpec (fun args n => pureF G ic n c45F args) spCanonQ := by
  intro args r h
  obtain ⟨a, q, v, rfl, hx, hv, rfl⟩ := sp1_inv h
  cases hv
  have t1 := sp0_at hZ
  have t2 := sp2_at hA hx (qOf_fV Sz_zero (by decide)) rfl
  rw [Rat.add_zero] at t2
  obtain ⟨o, ho⟩ : ∃ o : Rat, o = 0 := ⟨_, rfl⟩
  rw [← ho] at t1 t2
  obtain ⟨s1, l1, d1, s2, l2, d2, rfl, -⟩ := qOf_inv hx
  refine ⟨{ val := fV q }, ⟨0, ?_⟩, rfl, (weak_fV _).symm⟩
  simp only [fV_agg] at t1 t2
  clear ho
  simp [pureF, runF, t1, t2, fV_agg]

end
end Go.Proofs.Ythlpmghodgiknaa.C
