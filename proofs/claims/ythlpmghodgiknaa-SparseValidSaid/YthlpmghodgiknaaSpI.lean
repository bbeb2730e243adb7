/-
  The reference's integers: arithmetic by sign and magnitude.
-/
import Derived.Test.YthlpmghodgiknaaSpS
namespace Go.Proofs.Ythlpmghodgiknaa.C
open Go Go.Ev

section
variable (G : Pure) (ic : Inl) (n : Nat)

theorem make_at {G : Pure} (hM : G 70 = spMake) {b nl : Bool} {ds : List Nat} (h : Wf ds) (hl : ds.length < 100000000) : G 70 [.bool b, .imm nl 1 (dg ds)] = some { val := iV (sg b (dv ds)) } := by
  rw [hM]; exact make_eq h hl

/-! ### FromInt64, one -/

def spFromInt64 : List AV → Option PRes := sp1 i64Of fun z => some (iV z)

/-- The two digits of an int64's magnitude. -/
theorem two_digits {u : Nat} (h : u < 18446744073709551616) : Wf [u % 4294967296, u / 4294967296] ∧ dv [u % 4294967296, u / 4294967296] = u := by
  refine ⟨?_, ?_⟩
  · intro d hd
    simp at hd
    simp only [W32]
    rcases hd with rfl | rfl <;> omega
  · simp only [dv, W32]; omega

theorem fromInt64_run (hM : G 70 = spMake) : FSpec (fun args n => pureF G ic n c61F args) spFromInt64 := by
  intro args r h
  obtain ⟨a, z, v, rfl, hd, hv, rfl⟩ := sp1_inv h
  cases hv
  obtain ⟨rfl, h0, h1⟩ := i64Of_inv hd
  obtain ⟨u, hu⟩ : ∃ u, u = z.natAbs := ⟨_, rfl⟩
  obtain ⟨k1, k2⟩ := two_digits (u := u) (by omega)
  have t := make_at hM (b := decide (z < 0)) (nl := false) k1 (by simp)
  have e : sg (decide (z < 0)) u = z := by by_cases hz : z < 0 <;> simp [sg, hz] <;> omega
  rw [k2, e] at t
  simp only [dg, List.map_cons, List.map_nil] at t
  refine ⟨{ val := iV z }, ⟨0, ?_⟩, rfl, (weak_iV _).symm⟩
  by_cases hz : z < 0
  · have w1 : IntKind.u64.wrap (-(IntKind.u64.wrap z)) = (u : Int) := by rw [wrapu64, wrapu64]; omega
    have w2 : IntKind.u32.wrap (u : Int) = ((u % 4294967296 : Nat) : Int) := w32_nat rfl
    have w3 : (u : Int).fdiv 4294967296 = ((u / 4294967296 : Nat) : Int) := fdiv_nat rfl
    have w4 : IntKind.u32.wrap ((u / 4294967296 : Nat) : Int) = ((u / 4294967296 : Nat) : Int) := wrapu32_id _ (by omega) (by omega)
    have w5 : IntKind.u64.wrap (u : Int) = (u : Int) := wrapu64_id _ (by omega) (by omega)
    simp [hz] at t
    simp only [Int.natCast_emod, Int.natCast_ediv, Int.cast_ofNat_Int] at w2 w3 w4
    simp [pureF, runF, hz, w1, w2, w3, w4, w5, t, iV, iA]
  · have w1 : IntKind.u64.wrap z = (u : Int) := by rw [wrapu64]; omega
    have w2 : IntKind.u32.wrap (u : Int) = ((u % 4294967296 : Nat) : Int) := w32_nat rfl
    have w3 : (u : Int).fdiv 4294967296 = ((u / 4294967296 : Nat) : Int) := fdiv_nat rfl
    have w4 : IntKind.u32.wrap ((u / 4294967296 : Nat) : Int) = ((u / 4294967296 : Nat) : Int) := wrapu32_id _ (by omega) (by omega)
    have w5 : IntKind.u64.wrap (u : Int) = (u : Int) := wrapu64_id _ (by omega) (by omega)
    simp [hz] at t
    simp only [Int.natCast_emod, Int.natCast_ediv, Int.cast_ofNat_Int] at w2 w3 w4
    simp [pureF, runF, hz, w1, w2, w3, w4, w5, t, iV, iA]

def spOne : List AV → Option PRes := sp0 (iV 1)

theorem one_run (hF : G 61 = spFromInt64) : FSpec (fun args n => pureF G ic n c56F args) spOne := by
  intro args r h
  obtain ⟨rfl, rfl⟩ := sp0_inv h
  have t := sp1_at hF (i64Of_mk (n := 1) (by decide) (by decide)) rfl
  refine ⟨{ val := iV 1 }, ⟨0, ?_⟩, rfl, (weak_iV _).symm⟩
  simp [pureF, runF, t, iV, iA]

/-! ### Mul, Add, Sub -/

def spMul : List AV → Option PRes := sp2 zOf zOf fun x y => some (iV (x * y))

theorem mul_run (hM : G 70 = spMake) (hD : G 75 = spMulDigits) : FSpec (fun args n => pureF G ic n c50F args) spMul := by
  intro args r h
  obtain ⟨a, b, x, y, v, rfl, hx, hy, hv, rfl⟩ := sp2_inv h
  cases hv
  obtain ⟨s1, l1, d1, rfl, w1, k1, rfl⟩ := zOf_inv hx
  obtain ⟨s2, l2, d2, rfl, w2, k2, rfl⟩ := zOf_inv hy
  have t1 := mulDigits_eq (la := l1) (lb := l2) w1 w2 (by omega)
  rw [← hD] at t1
  have hlen : (digs (dv d1 * dv d2)).length ≤ d1.length + d2.length := digs_length_le (by rw [Nat.pow_add]; exact Nat.mul_lt_mul'' (dv_lt w1) (dv_lt w2))
  have t2 := make_at hM (b := s1 != s2) (nl := false) (wf_digs (dv d1 * dv d2)) (by omega)
  rw [dv_digs, sg_mul] at t2
  refine ⟨{ val := iV (sg s1 (dv d1) * sg s2 (dv d2)) }, ⟨0, ?_⟩, rfl, (weak_iV _).symm⟩
  simp only [bne] at t2
  simp [pureF, runF, t1, dA, t2, iV, iA]

def spAdd : List AV → Option PRes := sp2 zOf zOf fun x y => some (iV (x + y))

theorem cmp_at {G : Pure} (hC : G 72 = spCompareDigits) {la lb : Bool} {x y : List Nat} (hx : Wf x) (hy : Wf y) (lx : x.length < 100000000) (ly : y.length < 100000000) : G 72 [.imm la 1 (dg x), .imm lb 1 (dg y)] = some { val := .int .i64 (cmpI (dv x) (dv y)) } := by
  rw [hC]; exact compareDigits_eq hx hy lx ly
theorem trim_at {G : Pure} (hT : G 74 = spTrim) {nl : Bool} {ds : List Nat} (h : Wf ds) (hl : ds.length < 100000000) : G 74 [.imm nl 1 (dg ds)] = some { val := .imm false 1 (dg (digs (dv ds))) } := by
  rw [hT]; exact trim_eq h hl
theorem add_at {G : Pure} (hA : G 71 = spAddDigits) {la lb : Bool} {x y : List Nat} (hx : Wf x) (hy : Wf y) (h : x.length + y.length < 99999000) : G 71 [.imm la 1 (dg x), .imm lb 1 (dg y)] = some { val := .imm false 1 (dg (digs (dv x + dv y))) } := by
  rw [hA]; exact addDigits_eq hx hy h
theorem sub_at {G : Pure} (hS : G 73 = spSubDigits) {la lb : Bool} {x y : List Nat} (hx : Wf x) (hy : Wf y) (lx : x.length < 100000000) (ly : y.length < 100000000) (h : dv y ≤ dv x) : G 73 [.imm la 1 (dg x), .imm lb 1 (dg y)] = some { val := .imm false 1 (dg (digs (dv x - dv y))) } := by
  rw [hS]; exact subDigits_eq hx hy lx ly h

theorem addZ_run (hM : G 70 = spMake) (hA : G 71 = spAddDigits) (hC : G 72 = spCompareDigits) (hT : G 74 = spTrim) (hS : G 73 = spSubDigits) :
    FSpec (fun args n => pureF G ic n c49F args) spAdd := by
  intro args r h
  obtain ⟨a, b, x, y, v, rfl, hx, hy, hv, rfl⟩ := sp2_inv h
  cases hv
  obtain ⟨s1, l1, d1, rfl, w1, k1, rfl⟩ := zOf_inv hx
  obtain ⟨s2, l2, d2, rfl, w2, k2, rfl⟩ := zOf_inv hy
  have q1 := digs_length_dv w1
  have q2 := digs_length_dv w2
  refine ⟨{ val := iV (sg s1 (dv d1) + sg s2 (dv d2)) }, ⟨0, ?_⟩, rfl, (weak_iV _).symm⟩
  by_cases hs : s1 = s2
  · subst hs
    have t1 := add_at hA (la := l1) (lb := l2) w1 w2 (by omega)
    have hlen : (digs (dv d1 + dv d2)).length ≤ d1.length + d2.length + 1 := by
      have := zl_add (dv d1) (dv d2)
      simp only [zl] at this
      rw [show ((dv d1 : Int) + dv d2).natAbs = dv d1 + dv d2 by omega] at this
      simp at this
      omega
    have t2 := make_at hM (b := s1) (nl := false) (wf_digs (dv d1 + dv d2)) (by omega)
    rw [dv_digs, sg_add_same] at t2
    simp [pureF, runF, t1, t2, iV, iA]
  · have t0 := cmp_at hC (la := l1) (lb := l2) w1 w2 (by omega) (by omega)
    by_cases hle : dv d2 ≤ dv d1
    · have hc : 0 ≤ cmpI (dv d1) (dv d2) := cmp_ge.2 hle
      have t1 := trim_at hT (nl := l2) w2 (by omega)
      have t2 := sub_at hS (la := l1) (lb := false) w1 (wf_digs (dv d2)) (by omega) (by omega) (by rw [dv_digs]; exact hle)
      rw [dv_digs] at t2
      have hlen : (digs (dv d1 - dv d2)).length ≤ (digs (dv d1)).length := digs_len_mono (Nat.sub_le _ _)
      have t3 := make_at hM (b := s1) (nl := false) (wf_digs (dv d1 - dv d2)) (by omega)
      rw [dv_digs, sg_sub_same hle hs] at t3
      simp [pureF, runF, hs, t0, hc, t1, t2, t3, iV, iA]
    · have hc : ¬ 0 ≤ cmpI (dv d1) (dv d2) := fun h => hle (cmp_ge.1 h)
      have t1 := trim_at hT (nl := l1) w1 (by omega)
      have t2 := sub_at hS (la := l2) (lb := false) w2 (wf_digs (dv d1)) (by omega) (by omega) (by rw [dv_digs]; omega)
      rw [dv_digs] at t2
      have hlen : (digs (dv d2 - dv d1)).length ≤ (digs (dv d2)).length := digs_len_mono (Nat.sub_le _ _)
      have t3 := make_at hM (b := s2) (nl := false) (wf_digs (dv d2 - dv d1)) (by omega)
      rw [dv_digs, sg_sub_same (by omega) (Ne.symm hs), Int.add_comm] at t3
      simp [pureF, runF, hs, t0, hc, t1, t2, t3, iV, iA]

def spSub : List AV → Option PRes := sp2 zOf zOf fun x y => some (iV (x - y))

theorem iV_agg (z : Int) : iV z = .agg [.bool (decide (z < 0)), .imm false 1 (dg (digs z.natAbs))] := rfl

theorem subZ_run (hN : G 57 = spNegate) (hA : G 49 = spAdd) : FSpec (fun args n => pureF G ic n c77F args) spSub := by
  intro args r h
  obtain ⟨a, b, x, y, v, rfl, hx, hy, hv, rfl⟩ := sp2_inv h
  cases hv
  have hyl := zOf_zl hy
  have t1 := sp1_at hN hy rfl
  have t2 := sp2_at hA hx (zOf_iV (z := -y) (by have := zl_neg y; simp only [zl] at *; omega)) rfl
  rw [← Int.sub_eq_add_neg] at t2
  obtain ⟨m, hm⟩ : ∃ m, m = -y := ⟨_, rfl⟩
  obtain ⟨z, hz⟩ : ∃ z, z = x - y := ⟨_, rfl⟩
  rw [← hm] at t1 t2
  rw [← hz] at t2
  simp only [iV_agg] at t1 t2
  refine ⟨{ val := iV z }, ⟨0, ?_⟩, rfl, by rw [← hz]; exact (weak_iV _).symm⟩
  clear hm hz
  obtain ⟨s1, l1, d1, rfl, w1, k1, -⟩ := zOf_inv hx
  obtain ⟨s2, l2, d2, rfl, w2, k2, -⟩ := zOf_inv hy
  simp [pureF, runF, iV_agg, t1, t2]

/-! ### Compare, Sign -/

def cmpZ (x y : Int) : Int := if x < y then -1 else if y < x then 1 else 0
def spCompare : List AV → Option PRes := sp2 zOf zOf fun x y => some (.int .i64 (cmpZ x y))

theorem compareZ_run (hCn : G 55 = spCanon) (hC : G 72 = spCompareDigits) : FSpec (fun args n => pureF G ic n c81F args) spCompare := by
  intro args r h
  obtain ⟨a, b, x, y, v, rfl, hx, hy, hv, rfl⟩ := sp2_inv h
  cases hv
  have lx := zOf_zl hx
  have ly := zOf_zl hy
  have t1 := sp1_at hCn hx rfl
  have t2 := sp1_at hCn hy rfl
  simp only [iV_agg] at t1 t2
  simp only [zl] at lx ly
  have t3 := cmp_at hC (la := false) (lb := false) (wf_digs x.natAbs) (wf_digs y.natAbs) (by omega) (by omega)
  have t4 := cmp_at hC (la := false) (lb := false) (wf_digs y.natAbs) (wf_digs x.natAbs) (by omega) (by omega)
  rw [dv_digs, dv_digs] at t3 t4
  obtain ⟨s1, l1, d1, rfl, w1, k1, ex⟩ := zOf_inv hx
  obtain ⟨s2, l2, d2, rfl, w2, k2, ey⟩ := zOf_inv hy
  refine ⟨{ val := .int .i64 (cmpZ x y) }, ⟨0, ?_⟩, rfl, rfl⟩
  by_cases hx0 : x < 0
  · by_cases hy0 : y < 0
    · have e : cmpI y.natAbs x.natAbs = cmpZ x y := by unfold cmpI cmpZ; split <;> split <;> (try split) <;> omega
      simp [pureF, runF, t1, t2, hx0, hy0, t4, e]
    · have e : cmpZ x y = -1 := by unfold cmpZ; rw [if_pos (by omega)]
      simp [pureF, runF, t1, t2, hx0, hy0, e]
  · by_cases hy0 : y < 0
    · have e : cmpZ x y = 1 := by unfold cmpZ; rw [if_neg (by omega), if_pos (by omega)]
      simp [pureF, runF, t1, t2, hx0, hy0, e]
    · have e : cmpI x.natAbs y.natAbs = cmpZ x y := by unfold cmpI cmpZ; split <;> split <;> (try split) <;> omega
      simp [pureF, runF, t1, t2, hx0, hy0, t3, e]

def spSign : List AV → Option PRes := sp1 zOf fun x => some (.int .i64 (cmpZ x 0))

theorem sign_run (hC : G 81 = spCompare) : FSpec (fun args n => pureF G ic n c64F args) spSign := by
  intro args r h
  obtain ⟨a, x, v, rfl, hx, hv, rfl⟩ := sp1_inv h
  cases hv
  have h0 : zOf (.agg [.bool false, .imm true 1 []]) = some 0 := by
    have := zOf_mk (b := false) (nl := true) wf_nil (by simp)
    simpa [dg, dv, sg] using this
  have t := sp2_at hC hx h0 rfl
  obtain ⟨s1, l1, d1, rfl, w1, k1, ex⟩ := zOf_inv hx
  refine ⟨{ val := .int .i64 (cmpZ x 0) }, ⟨0, ?_⟩, rfl, rfl⟩
  simp [pureF, runF, t]

end
end Go.Proofs.Ythlpmghodgiknaa.C
