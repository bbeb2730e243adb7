/-
  The reference's fractions.
-/
import Derived.Test.YthlpmghodgiknaaSpK
import Derived.Test.YthlpmghodgiknaaRt
namespace Go.Proofs.Ythlpmghodgiknaa.C
open Go Go.Ev

section
variable (G : Pure) (ic : Inl) (n : Nat)

/-! ### Reduce -/

def spReduce : List AV → Option PRes := sp1 rawOf fun x => some (fV (Rat.divInt (vOf x.1) (vOf x.2)))

theorem fV_zero : fV 0 = .agg [.bool false, .imm false 1 [], .bool false, .imm false 1 (dg (digs 1))] := by
  have h1 : (0 : Rat).num = 0 := rfl
  have h2 : (0 : Rat).den = 1 := rfl
  simp [fV, h1, h2, digs_zero, dg_nil]

theorem reduce_run (hCn : G 55 = spCanon) (hN : G 57 = spNegate) (hO : G 56 = spOne) (hGc : G 58 = spGCD) (hD : G 59 = spDivMod) :
    FSpec (fun args n => pureF G ic n c28F args) spReduce := by
  intro args r h
  obtain ⟨a, ⟨⟨s1, d1⟩, ⟨s2, d2⟩⟩, v, rfl, hx, hv, rfl⟩ := sp1_inv h
  cases hv
  obtain ⟨l1, l2, rfl, w1, k1, w2, k2⟩ := rawOf_inv hx
  have z1 := zOf_mk (b := s1) (nl := l1) w1 k1
  have z2 := zOf_mk (b := s2) (nl := l2) w2 k2
  simp only [vOf]
  obtain ⟨x, hxe⟩ : ∃ x, x = sg s1 (dv d1) := ⟨_, rfl⟩
  obtain ⟨y, hye⟩ : ∃ y, y = sg s2 (dv d2) := ⟨_, rfl⟩
  rw [← hxe] at z1 ⊢
  rw [← hye] at z2 ⊢
  have lx := zOf_zl z1
  have ly := zOf_zl z2
  have t1 := sp1_at hCn z1 rfl
  have t2 := sp1_at hCn z2 rfl
  have t0 := sp0_at hO
  simp only [iV_agg] at t1 t2 t0
  have w0 : ∀ nl : Bool, fV 0 = AV.weak (.agg [.bool false, .imm nl 1 [], .bool false, .imm false 1 (dg (digs 1))]) := fun nl => by
    rw [fV_zero, ← dg_nil, weak_raw]
  by_cases hx0 : x = 0
  · refine ⟨{ val := .agg [.bool false, .imm true 1 [], .bool false, .imm false 1 (dg (digs 1))] }, ⟨0, ?_⟩, rfl, by rw [hx0, Rat.zero_divInt]; exact w0 true⟩
    rw [hx0, Int.natAbs_zero, digs_zero, dg_nil] at t1
    simp [pureF, runF, t1, t2, t0]
  by_cases hy0 : y = 0
  · refine ⟨{ val := .agg [.bool false, .imm true 1 [], .bool false, .imm false 1 (dg (digs 1))] }, ⟨0, ?_⟩, rfl, by rw [hy0, Rat.divInt_zero]; exact w0 true⟩
    rw [hy0, Int.natAbs_zero, digs_zero, dg_nil] at t2
    by_cases hp : digs x.natAbs = [] <;> simp [pureF, runF, t1, t2, t0, hp]
  refine ⟨{ val := fV (Rat.divInt x y) }, ⟨0, ?_⟩, rfl, (weak_fV _).symm⟩
  have hpx : digs x.natAbs ≠ [] := fun e => by have := digs_eq_nil.1 e; omega
  have hpy : digs y.natAbs ≠ [] := fun e => by have := digs_eq_nil.1 e; omega
  obtain ⟨g, hg⟩ : ∃ g : Int, g = ((Int.gcd x y : Nat) : Int) := ⟨_, rfl⟩
  have hg0 : g ≠ 0 := by rw [hg]; have := Int.gcd_pos_of_ne_zero_left y hx0; omega
  have hgl : zl g < 30000000 := by
    refine Nat.lt_of_le_of_lt (zl_mono (y := x) ?_) lx
    rw [hg]
    show Nat.gcd x.natAbs y.natAbs ≤ x.natAbs
    exact Nat.gcd_le_left _ (by omega)
  have zg := zOf_iV hgl
  by_cases hyn : y < 0
  · -- both turned
    have t3 := sp1_at hN (zOf_iV lx) rfl
    have t4 := sp1_at hN (zOf_iV ly) rfl
    have zx := zOf_iV (z := -x) (by rw [← zl_neg] at lx; exact lx)
    have zy := zOf_iV (z := -y) (by rw [← zl_neg] at ly; exact ly)
    have t5 := sp2_at hGc zx zy rfl
    rw [Int.gcd_neg, Int.neg_gcd, ← hg] at t5
    have t6 := sp2_at hD zx zg rfl
    have t7 := sp2_at hD zy zg rfl
    rw [if_neg hg0] at t6 t7
    obtain ⟨p1, p2⟩ := divInt_parts (n := -x) (d := -y) (by omega)
    rw [Int.gcd_neg, Int.neg_gcd, ← hg] at p1 p2
    rw [Rat.neg_divInt_neg] at p1 p2
    rw [p1] at t6
    rw [p2] at t7
    obtain ⟨q, hq⟩ : ∃ q, q = Rat.divInt x y := ⟨_, rfl⟩
    rw [← hq] at t6 t7 ⊢
    obtain ⟨X, hX⟩ : ∃ X, X = -x := ⟨_, rfl⟩
    obtain ⟨Y, hY⟩ : ∃ Y, Y = -y := ⟨_, rfl⟩
    obtain ⟨M1, hM1⟩ : ∃ M, M = (-x).fmod g := ⟨_, rfl⟩
    obtain ⟨M2, hM2⟩ : ∃ M, M = (-y).fmod g := ⟨_, rfl⟩
    rw [← hM1] at t6
    rw [← hM2] at t7
    rw [← hX] at t3 t5 t6
    rw [← hY] at t4 t5 t7
    simp only [iV_agg] at t3 t4 t5 t6 t7
    clear hX hY hM1 hM2 hq p1 p2 hg
    simp only [hyn, decide_true] at t2 t4
    simp [pureF, runF, t1, t2, hpx, hpy, t3, t4, t5, t6, t7, fV_agg]
  · have t5 := sp2_at hGc (zOf_iV lx) (zOf_iV ly) rfl
    rw [← hg] at t5
    have t6 := sp2_at hD (zOf_iV lx) zg rfl
    have t7 := sp2_at hD (zOf_iV ly) zg rfl
    rw [if_neg hg0] at t6 t7
    obtain ⟨p1, p2⟩ := divInt_parts (n := x) (d := y) (by omega)
    rw [← hg] at p1 p2
    rw [p1] at t6
    rw [p2] at t7
    obtain ⟨q, hq⟩ : ∃ q, q = Rat.divInt x y := ⟨_, rfl⟩
    rw [← hq] at t6 t7 ⊢
    obtain ⟨M1, hM1⟩ : ∃ M, M = x.fmod g := ⟨_, rfl⟩
    obtain ⟨M2, hM2⟩ : ∃ M, M = y.fmod g := ⟨_, rfl⟩
    rw [← hM1] at t6
    rw [← hM2] at t7
    simp only [iV_agg] at t5 t6 t7
    clear hM1 hM2 hq p1 p2 hg
    simp only [hyn, decide_false] at t2 t5 t7
    simp [pureF, runF, t1, t2, hpx, hpy, t5, t6, t7, fV_agg]

theorem reduce_at {G : Pure} (hR : G 28 = spReduce) {x y : Int} {b1 l1 b2 l2 : Bool} {d1 d2 : List Nat} (w1 : Wf d1) (k1 : d1.length < 30000000) (w2 : Wf d2) (k2 : d2.length < 30000000) (hx : sg b1 (dv d1) = x) (hy : sg b2 (dv d2) = y) :
    G 28 [.agg [.bool b1, .imm l1 1 (dg d1), .bool b2, .imm l2 1 (dg d2)]] = some { val := fV (Rat.divInt x y) } :=
  sp1_at hR (rawOf_mk w1 k1 w2 k2) (by simp only [vOf, hx, hy])

/-! ### FromInt, Whole, SignFrac -/

def spFromInt : List AV → Option PRes := sp1 zOf fun z => some (fV (z : Rat))

theorem divInt_one (z : Int) : Rat.divInt z 1 = (z : Rat) := by
  have := Rat.num_divInt_den (z : Rat)
  rw [Rat.num_intCast, Rat.den_intCast] at this
  exact this

theorem fromInt_run (hO : G 56 = spOne) (hR : G 28 = spReduce) : FSpec (fun args n => pureF G ic n c60F args) spFromInt := by
  intro args r h
  obtain ⟨a, z, v, rfl, hx, hv, rfl⟩ := sp1_inv h
  cases hv
  obtain ⟨s1, l1, d1, rfl, w1, k1, ez⟩ := zOf_inv hx
  have t0 := sp0_at hO
  have l1' : (digs 1).length < 30000000 := Nat.lt_of_le_of_lt (zl_small (z := 1) (by decide)) (by decide)
  have t1 := reduce_at hR (b1 := s1) (l1 := l1) (b2 := false) (l2 := false) w1 k1 (wf_digs 1) l1' ez.symm (y := 1) (by rw [dv_digs]; rfl)
  rw [divInt_one] at t1
  obtain ⟨q, hq⟩ : ∃ q : Rat, q = (z : Rat) := ⟨_, rfl⟩
  rw [← hq] at t1 ⊢
  refine ⟨{ val := fV q }, ⟨0, ?_⟩, rfl, (weak_fV _).symm⟩
  simp only [iV_agg] at t0
  simp only [fV_agg] at t1
  simp [pureF, runF, t0, t1, fV_agg]

def spWhole : List AV → Option PRes := sp1 i64Of fun z => some (fV (z : Rat))

theorem zl_i64 {z : Int} (h0 : -9223372036854775808 ≤ z) (h1 : z < 9223372036854775808) : zl z ≤ 2 := by
  rw [zl_le]
  simp only [W32]
  omega

theorem whole_run (hF : G 61 = spFromInt64) (hI : G 60 = spFromInt) : FSpec (fun args n => pureF G ic n c39F args) spWhole := by
  intro args r h
  obtain ⟨a, z, v, rfl, hx, hv, rfl⟩ := sp1_inv h
  cases hv
  obtain ⟨rfl, h0, h1⟩ := i64Of_inv hx
  have t1 := sp1_at hF hx rfl
  have t2 := sp1_at hI (zOf_iV (z := z) (by have := zl_i64 h0 h1; simp only [zl] at this; omega)) rfl
  obtain ⟨q, hq⟩ : ∃ q : Rat, q = (z : Rat) := ⟨_, rfl⟩
  rw [← hq] at t2 ⊢
  refine ⟨{ val := fV q }, ⟨0, ?_⟩, rfl, (weak_fV _).symm⟩
  simp only [iV_agg] at t1 t2
  simp only [fV_agg] at t2
  simp [pureF, runF, t1, t2, fV_agg]

def spSignFrac : List AV → Option PRes := sp1 qOf fun q => some (.int .i64 (cmpZ q.num 0))

theorem qOf_raw {a : AV} {q : Rat} (h : qOf a = some q) : ∃ x, rawOf a = some x ∧ q = Rat.divInt (vOf x.1) (vOf x.2) := by
  unfold qOf at h
  split at h
  · rename_i x y hr
    obtain ⟨_, he⟩ := of_ite h
    cases he
    exact ⟨_, hr, rfl⟩
  · cases h

theorem reduceQ_at {G : Pure} (hR : G 28 = spReduce) {a : AV} {q : Rat} (h : qOf a = some q) : G 28 [a] = some { val := fV q } := by
  obtain ⟨x, hr, rfl⟩ := qOf_raw h
  exact sp1_at hR hr rfl

theorem signFrac_run (hR : G 28 = spReduce) (hS : G 64 = spSign) : FSpec (fun args n => pureF G ic n c41F args) spSignFrac := by
  intro args r h
  obtain ⟨a, q, v, rfl, hx, hv, rfl⟩ := sp1_inv h
  cases hv
  have hz := Sz_qOf hx
  have t1 := reduceQ_at hR hx
  have t2 := sp1_at hS (zOf_iV (z := q.num) (by have := hz.1; simp only [zl] at *; omega)) rfl
  obtain ⟨s1, l1, d1, s2, l2, d2, rfl, w1, k1, w2, k2, -⟩ := qOf_inv hx
  refine ⟨{ val := .int .i64 (cmpZ q.num 0) }, ⟨0, ?_⟩, rfl, rfl⟩
  simp only [iV_agg] at t2
  simp only [fV_agg] at t1
  simp [pureF, runF, t1, t2]

/-! ### AddFrac, MulFrac, SameFrac -/

def spAddFrac : List AV → Option PRes := sp2 qOf qOf fun x y => some (fV (x + y))
def spMulFrac : List AV → Option PRes := sp2 qOf qOf fun x y => some (fV (x * y))

theorem add_divInt (x y : Rat) : Rat.divInt (x.num * y.den + y.num * x.den) (x.den * y.den) = x + y := by
  rw [Rat.add_def', ← Rat.divInt_ofNat, Int.natCast_mul]

theorem zOf_den {q : Rat} (h : (digs q.den).length < 30000000) : zOf (.agg [.bool false, .imm false 1 (dg (digs q.den))]) = some (q.den : Int) := by
  rw [zOf_mk (wf_digs _) h, dv_digs]; rfl
theorem zOf_num {q : Rat} (h : zl q.num < 30000000) : zOf (.agg [.bool (decide (q.num < 0)), .imm false 1 (dg (digs q.num.natAbs))]) = some q.num := zOf_iV h

theorem addFrac_run (hR : G 28 = spReduce) (hM : G 50 = spMul) (hA : G 49 = spAdd) : FSpec (fun args n => pureF G ic n c18F args) spAddFrac := by
  intro args r h
  obtain ⟨a, b, x, y, v, rfl, hx, hy, hv, rfl⟩ := sp2_inv h
  cases hv
  have t1 := reduceQ_at hR hx
  have t2 := reduceQ_at hR hy
  obtain ⟨z1, z2⟩ := Sz_qOf hx
  obtain ⟨z3, z4⟩ := Sz_qOf hy
  have z2' : zl (x.den : Int) ≤ 1999999 := by simpa [zl] using z2
  have z4' : zl (y.den : Int) ≤ 1999999 := by simpa [zl] using z4
  have nx := zOf_num (q := x) (by omega)
  have ny := zOf_num (q := y) (by omega)
  have dx := zOf_den (q := x) (by omega)
  have dy := zOf_den (q := y) (by omega)
  have b1 := zl_mul x.num y.den
  have b2 := zl_mul y.num x.den
  have b3 := zl_mul x.den y.den
  have t3 := sp2_at hM nx dy rfl
  have t4 := sp2_at hM ny dx rfl
  have t5 := sp2_at hM dx dy rfl
  have t6 := sp2_at hA (zOf_iV (z := x.num * y.den) (by simp only [zl] at *; omega)) (zOf_iV (z := y.num * x.den) (by simp only [zl] at *; omega)) rfl
  have b4 := zl_add (x.num * y.den) (y.num * x.den)
  have t7 := reduce_at hR (b1 := decide (x.num * y.den + y.num * x.den < 0)) (l1 := false) (b2 := decide ((x.den : Int) * y.den < 0)) (l2 := false) (wf_digs (x.num * y.den + y.num * x.den).natAbs) (by simp only [zl] at *; omega) (wf_digs ((x.den : Int) * y.den).natAbs) (by simp only [zl] at *; omega) (by rw [dv_digs, sg_self]) (by rw [dv_digs, sg_self])
  rw [add_divInt] at t7
  obtain ⟨e1, he1⟩ : ∃ e, e = x.num * (y.den : Int) := ⟨_, rfl⟩
  obtain ⟨e2, he2⟩ : ∃ e, e = y.num * (x.den : Int) := ⟨_, rfl⟩
  obtain ⟨e3, he3⟩ : ∃ e, e = (x.den : Int) * (y.den : Int) := ⟨_, rfl⟩
  rw [← he1] at t3 t6 t7
  rw [← he2] at t4 t6 t7
  rw [← he3] at t5 t7
  obtain ⟨e4, he4⟩ : ∃ e, e = e1 + e2 := ⟨_, rfl⟩
  rw [← he4] at t6 t7
  obtain ⟨q, hq⟩ : ∃ q : Rat, q = x + y := ⟨_, rfl⟩
  rw [← hq] at t7 ⊢
  obtain ⟨s1, l1, d1, s2, l2, d2, rfl, -⟩ := qOf_inv hx
  obtain ⟨s3, l3, d3, s4, l4, d4, rfl, -⟩ := qOf_inv hy
  refine ⟨{ val := fV q }, ⟨0, ?_⟩, rfl, (weak_fV _).symm⟩
  simp only [iV_agg] at t3 t4 t5 t6
  simp only [fV_agg] at t1 t2 t7
  clear he1 he2 he3 he4 hq
  simp [pureF, runF, t1, t2, t3, t4, t5, t6, t7, fV_agg]

theorem mulFrac_run (hR : G 28 = spReduce) (hM : G 50 = spMul) : FSpec (fun args n => pureF G ic n c19F args) spMulFrac := by
  intro args r h
  obtain ⟨a, b, x, y, v, rfl, hx, hy, hv, rfl⟩ := sp2_inv h
  cases hv
  obtain ⟨s1, l1, d1, s2, l2, d2, rfl, w1, k1, w2, k2, rfl⟩ := qOf_inv hx
  obtain ⟨s3, l3, d3, s4, l4, d4, rfl, w3, k3, w4, k4, rfl⟩ := qOf_inv hy
  have q1 := digs_length_dv w1
  have q2 := digs_length_dv w2
  have q3 := digs_length_dv w3
  have q4 := digs_length_dv w4
  have z1 := zOf_mk (b := s1) (nl := l1) w1 (by omega)
  have z2 := zOf_mk (b := s2) (nl := l2) w2 (by omega)
  have z3 := zOf_mk (b := s3) (nl := l3) w3 (by omega)
  have z4 := zOf_mk (b := s4) (nl := l4) w4 (by omega)
  have t1 := sp2_at hM z1 z3 rfl
  have t2 := sp2_at hM z2 z4 rfl
  have b1 := zl_mul (sg s1 (dv d1)) (sg s3 (dv d3))
  have b2 := zl_mul (sg s2 (dv d2)) (sg s4 (dv d4))
  rw [zl_sg, zl_sg] at b1 b2
  obtain ⟨e1, he1⟩ : ∃ e, e = sg s1 (dv d1) * sg s3 (dv d3) := ⟨_, rfl⟩
  obtain ⟨e2, he2⟩ : ∃ e, e = sg s2 (dv d2) * sg s4 (dv d4) := ⟨_, rfl⟩
  rw [Rat.divInt_mul_divInt, ← he1, ← he2]
  rw [← he1] at t1 b1
  rw [← he2] at t2 b2
  have t3 := reduce_at hR (b1 := decide (e1 < 0)) (l1 := false) (b2 := decide (e2 < 0)) (l2 := false) (wf_digs e1.natAbs) (by simp only [zl] at *; omega) (wf_digs e2.natAbs) (by simp only [zl] at *; omega) (by rw [dv_digs, sg_self]) (by rw [dv_digs, sg_self])
  obtain ⟨q, hq⟩ : ∃ q : Rat, q = Rat.divInt e1 e2 := ⟨_, rfl⟩
  rw [← hq] at t3 ⊢
  refine ⟨{ val := fV q }, ⟨0, ?_⟩, rfl, (weak_fV _).symm⟩
  simp only [iV_agg] at t1 t2
  simp only [fV_agg] at t3
  clear he1 he2 hq
  simp [pureF, runF, t1, t2, t3, fV_agg]

def spSameFrac : List AV → Option PRes := sp2 rawOf rawOf fun x y => some (.bool (decide (x = y)))

theorem sameFrac_run (hS : G 51 = spSameInt) : FSpec (fun args n => pureF G ic n c20F args) spSameFrac := by
  intro args r h
  obtain ⟨a, b, ⟨⟨s1, d1⟩, ⟨s2, d2⟩⟩, ⟨⟨s3, d3⟩, ⟨s4, d4⟩⟩, v, rfl, hx, hy, hv, rfl⟩ := sp2_inv h
  cases hv
  obtain ⟨l1, l2, rfl, w1, k1, w2, k2⟩ := rawOf_inv hx
  obtain ⟨l3, l4, rfl, w3, k3, w4, k4⟩ := rawOf_inv hy
  have t1 := sp2_at hS (intOf_iA (b := s1) (nl := l1) w1 k1) (intOf_iA (b := s3) (nl := l3) w3 k3) rfl
  have t2 := sp2_at hS (intOf_iA (b := s2) (nl := l2) w2 k2) (intOf_iA (b := s4) (nl := l4) w4 k4) rfl
  refine ⟨{ val := _ }, ⟨0, ?_⟩, rfl, rfl⟩
  by_cases h1 : (s1, d1) = (s3, d3)
  · by_cases h2 : (s2, d2) = (s4, d4)
    · simp only [h1, h2, decide_true] at t1 t2
      simp only [h1, h2, decide_true]
      simp [pureF, runF, t1, t2]
    · have h3 : ¬ (((s1, d1), (s2, d2)) = ((s3, d3), (s4, d4))) := fun e => h2 (by cases e; rfl)
      simp only [decide_eq_false h2] at t2
      simp only [decide_eq_true h1] at t1
      simp only [decide_eq_false h3]
      simp [pureF, runF, t1, t2]
  · have h3 : ¬ (((s1, d1), (s2, d2)) = ((s3, d3), (s4, d4))) := fun e => h1 (by cases e; rfl)
    simp only [decide_eq_false h1] at t1
    simp only [decide_eq_false h3]
    simp [pureF, runF, t1]

end
end Go.Proofs.Ythlpmghodgiknaa.C
