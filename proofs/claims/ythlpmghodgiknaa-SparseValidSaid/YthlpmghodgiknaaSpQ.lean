/-
  The program's integers: magnitudes, comparison, sums, differences, products.
-/
import Derived.Test.YthlpmghodgiknaaSpP
namespace Go.Proofs.Ythlpmghodgiknaa.C
open Go Go.Ev

section
variable (G : Pure) (ic : Inl) (n : Nat)

/-! ### clone, magnitude, canonical -/

def spClone : List AV → Option PRes
  | [a] => (digOf a).map fun ds => { val := .sl 0 0 ds.length, objs := [{ sz := 1, ty := 88, es := dg ds, refs := [] }] }
  | _ => none

theorem clone_run : FSpec (fun args n => freshF G ic n c91F args) spClone := by
  intro args r h
  unfold spClone at h
  split at h
  case h_2 => cases h
  rename_i a
  rw [Option.map_eq_some_iff] at h
  obtain ⟨ds, hd, rfl⟩ := h
  obtain ⟨nl, rfl, hw, hl⟩ := digOf_inv hd
  have b1 : ds.length * 4 ≤ 140737488355328 := by omega
  refine ⟨_, ⟨0, ?_⟩, rfl, rfl⟩
  simp [freshF, freshO, runF, b1, AV.dn]

theorem clone_at {G : Pure} (hC : G 91 = spClone) {nl : Bool} {ds : List Nat} (h : Wf ds) (hl : ds.length < 100000000) : G 91 [.imm nl 1 (dg ds)] = some { val := .sl 0 0 ds.length, objs := [{ sz := 1, ty := 88, es := dg ds, refs := [] }] } := by
  rw [hC]; simp [spClone, digOf_dg h hl]

theorem dg_take_take (ds : List Nat) (k : Nat) (h : k + 1 ≤ ds.length) : (dg (ds.take (k + 1))).take k = dg (ds.take k) := by rw [dg_take, List.take_take]; congr 2; omega

theorem magnitude_loop (nl : Bool) (H : List (Nat × Ev.Obj)) (F own reb : List Nat) (ds : List Nat) (hw : Wf ds) (h : ds.length < 100000000) : ∀ k m, k ≤ ds.length → k < m →
    ∃ j, j ≤ k ∧ digs (dv (ds.take k)) = ds.take j ∧ blockE (some c80_e0) 0 (iterK G ic n c80_k0 c80_b0Q m ⟨[(3, .imm nl 1 (dg (ds.take k)))], H, F, own, reb⟩) =
      some (.normal, ⟨[(3, .imm nl 1 (dg (ds.take j)))], H, F, own, reb⟩) := by
  intro k
  induction k with
  | zero =>
    intro m hk hm
    obtain ⟨m, rfl⟩ : ∃ i, m = i + 1 := ⟨m - 1, by omega⟩
    refine ⟨0, by omega, by simp [dv, digs_zero], ?_⟩
    simp [iterK_succ, dg_nil]
  | succ k ih =>
    intro m hk hm
    obtain ⟨m, rfl⟩ : ∃ i, m = i + 1 := ⟨m - 1, by omega⟩
    have hlen : (ds.take (k + 1)).length = k + 1 := by rw [List.length_take]; omega
    have g := dg_get (ds.take (k + 1)) k (by omega)
    rw [List.getElem_take] at g
    have w1 : IntKind.i64.wrap (k : Int) = (k : Int) := wrap64_id _ (by omega) (by omega)
    have hp : (0 : Int) < (k : Int) + 1 := by omega
    have w2 : (k : Int) ≤ (k : Int) + 1 := by omega
    by_cases h0 : ds[k] = 0
    · obtain ⟨j, hj, e1, e⟩ := ih m (by omega) (by omega)
      refine ⟨j, by omega, by rw [dv_take_zero (by omega) h0]; exact e1, ?_⟩
      rw [← e]
      have h0' : ((ds[k] : Nat) : Int) = 0 := by omega
      simp only [h0'] at g
      simp [iterK_succ, hlen, g, w1, hp, h0, dg_take_take ds k (by omega), w2, -List.length_take]
    · refine ⟨k + 1, by omega, digs_take hw (by omega) h0, ?_⟩
      have h0' : ¬ ((ds[k] : Nat) : Int) = 0 := by omega
      simp [iterK_succ, hlen, g, w1, hp, h0, -List.length_take]

def spMagnitude : List AV → Option PRes := sp1 zOf fun z => some (dA (digs z.natAbs))

theorem magnitude_run : FSpec (fun args n => pureF G ic n c80F args) spMagnitude := by
  intro args r h
  obtain ⟨a, z, v, rfl, hd, hv, rfl⟩ := sp1_inv h
  cases hv
  obtain ⟨b, nl, ds, rfl, hw, hl, rfl⟩ := zOf_inv hd
  obtain ⟨N, hN⟩ : ∃ N, N = ds.length + 1 := ⟨_, rfl⟩
  obtain ⟨j, hj, e1, e⟩ := magnitude_loop G ic N nl [(1280016, { sz := 2, ty := 31, es := [[.bool b, .imm nl 1 (dg ds)]], refs := [] })] [] [1280016] [] ds hw (by omega) ds.length N (Nat.le_refl _) (by omega)
  rw [List.take_length] at e1 e
  simp [c80_e0, c80_k0] at e
  refine ⟨{ val := .imm nl 1 (dg (ds.take j)) }, ⟨N, ?_⟩, rfl, ?_⟩
  · simp [pureF, runF, e]
  · rw [sg_natAbs, e1, weak_dA]

theorem magnitude_at {G : Pure} (hM : G 80 = spMagnitude) {a : AV} {z : Int} (h : zOf a = some z) : G 80 [a] = some { val := .imm false 1 (dg (digs z.natAbs)) } := sp1_at hM h rfl

theorem canonical_loop (nl : Bool) (v0 v4 : AV) (H : List (Nat × Ev.Obj)) (F own reb : List Nat) (ds : List Nat) (hw : Wf ds) (h : ds.length < 100000000) : ∀ k m, k ≤ ds.length → k < m →
    ∃ j, j ≤ k ∧ digs (dv (ds.take k)) = ds.take j ∧ blockE (some c84_e0) 0 (iterK G ic n c84_k0 c84_b0Q m ⟨[(0, v0), (1, .imm nl 1 (dg (ds.take k))), (4, v4)], H, F, own, reb⟩) =
      some (.normal, ⟨[(0, v0), (1, .imm nl 1 (dg (ds.take j))), (4, v4)], H, F, own, reb⟩) := by
  intro k
  induction k with
  | zero =>
    intro m hk hm
    obtain ⟨m, rfl⟩ : ∃ i, m = i + 1 := ⟨m - 1, by omega⟩
    refine ⟨0, by omega, by simp [dv, digs_zero], ?_⟩
    simp [iterK_succ, dg_nil]
  | succ k ih =>
    intro m hk hm
    obtain ⟨m, rfl⟩ : ∃ i, m = i + 1 := ⟨m - 1, by omega⟩
    have hlen : (ds.take (k + 1)).length = k + 1 := by rw [List.length_take]; omega
    have g := dg_get (ds.take (k + 1)) k (by omega)
    rw [List.getElem_take] at g
    have w1 : IntKind.i64.wrap (k : Int) = (k : Int) := wrap64_id _ (by omega) (by omega)
    have hp : (0 : Int) < (k : Int) + 1 := by omega
    have w2 : (k : Int) ≤ (k : Int) + 1 := by omega
    by_cases h0 : ds[k] = 0
    · obtain ⟨j, hj, e1, e⟩ := ih m (by omega) (by omega)
      refine ⟨j, by omega, by rw [dv_take_zero (by omega) h0]; exact e1, ?_⟩
      rw [← e]
      have h0' : ((ds[k] : Nat) : Int) = 0 := by omega
      simp only [h0'] at g
      simp [iterK_succ, hlen, g, w1, hp, h0, dg_take_take ds k (by omega), w2, -List.length_take]
    · refine ⟨k + 1, by omega, digs_take hw (by omega) h0, ?_⟩
      have h0' : ¬ ((ds[k] : Nat) : Int) = 0 := by omega
      simp [iterK_succ, hlen, g, w1, hp, h0, -List.length_take]

theorem canonical_run : FSpec (fun args n => pureF G ic n c84F args) spMake := by
  intro args r h
  unfold spMake at h
  split at h
  case h_2 => cases h
  rename_i b a
  rw [Option.map_eq_some_iff] at h
  obtain ⟨ds, hd, rfl⟩ := h
  obtain ⟨nl, rfl, hw, hl⟩ := digOf_inv hd
  obtain ⟨N, hN⟩ : ∃ N, N = ds.length + 1 := ⟨_, rfl⟩
  obtain ⟨j, hj, e1, e⟩ := canonical_loop G ic N nl (.bool b) (.ptr 1344064 0 0) [(1344064, { sz := 2, ty := 31, es := [[.bool false, .imm true 1 []]], refs := [] })] [] [1344064] [] ds hw (by omega) ds.length N (Nat.le_refl _) (by omega)
  rw [List.take_length] at e1 e
  simp [c84_e0, c84_k0] at e
  rw [← e1] at e
  by_cases h0 : dv ds = 0
  · refine ⟨{ val := .agg [.bool false, .imm true 1 (dg [])] }, ⟨N, ?_⟩, rfl, by rw [weak_iA, h0, iV_sg_zero]⟩
    rw [h0, digs_zero, dg_nil] at e
    simp [pureF, runF, e, dg_nil]
  · refine ⟨{ val := .agg [.bool b, .imm nl 1 (dg (digs (dv ds)))] }, ⟨N, ?_⟩, rfl, by rw [weak_iA, iV_sg h0]⟩
    have hne : digs (dv ds) ≠ [] := fun e => h0 (digs_eq_nil.1 e)
    have hne2 : ¬ (((digs (dv ds)).length : Int) = 0) := by have := List.length_pos_iff.2 hne; omega
    simp [pureF, runF, e, hne, hne2]

theorem makeP_at {G : Pure} (hM : G 84 = spMake) {b nl : Bool} {ds : List Nat} (h : Wf ds) (hl : ds.length < 100000000) : G 84 [.bool b, .imm nl 1 (dg ds)] = some { val := .agg [.bool (decide (sg b (dv ds) < 0)), .imm false 1 (dg (digs (sg b (dv ds)).natAbs))] } := by
  rw [hM]; exact make_eq h hl

theorem makeP_at' {G : Pure} (hM : G 84 = spMake) {b nl : Bool} {ds : List Nat} {z : Int} (h : Wf ds) (hl : ds.length < 100000000) (hz : sg b (dv ds) = z) : G 84 [.bool b, .imm nl 1 (dg ds)] = some { val := .agg [.bool (decide (z < 0)), .imm false 1 (dg (digs z.natAbs))] } := by
  subst hz; exact makeP_at hM h hl

/-! ### FromInt64, Sign, Negate -/

theorem fromInt64P_run (hM : G 84 = spMake) : FSpec (fun args n => pureF G ic n c69F args) spFromInt64 := by
  intro args r h
  obtain ⟨a, z, v, rfl, hd, hv, rfl⟩ := sp1_inv h
  cases hv
  obtain ⟨rfl, h0, h1⟩ := i64Of_inv hd
  obtain ⟨u, hu⟩ : ∃ u, u = z.natAbs := ⟨_, rfl⟩
  obtain ⟨k1, k2⟩ := two_digits (u := u) (by omega)
  have e : sg (decide (z < 0)) u = z := by by_cases hz : z < 0 <;> simp [sg, hz] <;> omega
  have t := makeP_at' hM (b := decide (z < 0)) (nl := false) (z := z) k1 (by simp) (by rw [k2, e])
  simp only [dg, List.map_cons, List.map_nil] at t
  refine ⟨{ val := iV z }, ⟨0, ?_⟩, rfl, (weak_iV _).symm⟩
  by_cases hz : z < 0
  · have w1 : IntKind.u64.wrap (-(IntKind.u64.wrap z)) = (u : Int) := by rw [wrapu64, wrapu64]; omega
    have w2 : IntKind.u32.wrap (u : Int) = ((u % 4294967296 : Nat) : Int) := w32_nat rfl
    have w3 : (u : Int).fdiv 4294967296 = ((u / 4294967296 : Nat) : Int) := fdiv_nat rfl
    have w4 : IntKind.u32.wrap ((u / 4294967296 : Nat) : Int) = ((u / 4294967296 : Nat) : Int) := wrapu32_id _ (by omega) (by omega)
    have w5 : IntKind.u64.wrap (u : Int) = (u : Int) := wrapu64_id _ (by omega) (by omega)
    simp [hz] at t
    simp only [Int.natCast_emod, Int.natCast_ediv, Int.cast_ofNat_Int] at w2 w3 w4
    simp [pureF, runF, hz, w1, w2, w3, w4, w5, t, iV, iA, dg]
  · have w1 : IntKind.u64.wrap z = (u : Int) := by rw [wrapu64]; omega
    have w2 : IntKind.u32.wrap (u : Int) = ((u % 4294967296 : Nat) : Int) := w32_nat rfl
    have w3 : (u : Int).fdiv 4294967296 = ((u / 4294967296 : Nat) : Int) := fdiv_nat rfl
    have w4 : IntKind.u32.wrap ((u / 4294967296 : Nat) : Int) = ((u / 4294967296 : Nat) : Int) := wrapu32_id _ (by omega) (by omega)
    have w5 : IntKind.u64.wrap (u : Int) = (u : Int) := wrapu64_id _ (by omega) (by omega)
    simp [hz] at t
    simp only [Int.natCast_emod, Int.natCast_ediv, Int.cast_ofNat_Int] at w2 w3 w4
    simp [pureF, runF, hz, w1, w2, w3, w4, w5, t, iV, iA, dg]

theorem signP_run (hM : G 80 = spMagnitude) : FSpec (fun args n => pureF G ic n c63F args) spSign := by
  intro args r h
  obtain ⟨a, x, v, rfl, hx, hv, rfl⟩ := sp1_inv h
  cases hv
  have t := magnitude_at hM hx
  obtain ⟨s1, l1, d1, rfl, w1, k1, ex⟩ := zOf_inv hx
  refine ⟨{ val := .int .i64 (cmpZ x 0) }, ⟨0, ?_⟩, rfl, rfl⟩
  by_cases h0 : x = 0
  · rw [h0, Int.natAbs_zero, digs_zero, dg_nil] at t
    simp [pureF, runF, t, h0, cmpZ]
  · have hne : digs x.natAbs ≠ [] := fun e => by have := digs_eq_nil.1 e; omega
    cases s1 with
    | true =>
      have : cmpZ x 0 = -1 := by unfold cmpZ; rw [if_pos]; simp only [sg] at ex; simp at ex; omega
      simp [pureF, runF, t, hne, this]
    | false =>
      have : cmpZ x 0 = 1 := by
        simp only [sg] at ex; simp at ex
        unfold cmpZ; rw [if_neg (by omega), if_pos (by omega)]
      simp [pureF, runF, t, hne, this]

theorem negateP_run (hMg : G 80 = spMagnitude) (hC : G 91 = spClone) (hM : G 84 = spMake) : FSpec (fun args n => pureF G ic n c79F args) spNegate := by
  intro args r h
  obtain ⟨a, z, v, rfl, hd, hv, rfl⟩ := sp1_inv h
  cases hv
  have lz := zOf_zl hd
  simp only [zl] at lz
  have t1 := magnitude_at hMg hd
  have t2 := clone_at hC (nl := false) (wf_digs z.natAbs) (by omega)
  obtain ⟨s1, l1, d1, rfl, w1, k1, ex⟩ := zOf_inv hd
  have t3 := makeP_at' hM (b := !s1) (nl := false) (z := -z) (wf_digs z.natAbs) (by omega) (by rw [dv_digs, sg_not, ex, sg_natAbs])
  obtain ⟨m, hm⟩ : ∃ m, m = -z := ⟨_, rfl⟩
  rw [← hm] at t3 ⊢
  clear hm
  refine ⟨{ val := iV m }, ⟨0, ?_⟩, rfl, (weak_iV _).symm⟩
  simp [pureF, runF, t1, t2, t3, iV_agg]

/-! ### compare -/

theorem compareP_loop (la lb : Bool) (a b : List Nat) (ha : Wf a) (hb : Wf b) (hl : a.length = b.length) (hbd : a.length < 100000000) : ∀ k m, k ≤ a.length → k < m → a.drop k = b.drop k →
    blockE (some c95_e0) 0 (iterK G ic n c95_k0 c95_b0Q m ⟨[(0, .imm la 1 (dg a)), (1, .imm lb 1 (dg b)), (5, .int .i64 ((k : Int) - 1))], [], [], [], []⟩) =
      if dv a = dv b then some (.normal, ⟨[], [], [], [], []⟩) else some (.ret, ⟨[(4, .int .i64 (cmpI (dv a) (dv b)))], [], [], [], []⟩) := by
  intro k
  induction k with
  | zero =>
    intro m hk hm hd
    obtain ⟨m, rfl⟩ : ∃ i, m = i + 1 := ⟨m - 1, by omega⟩
    have e : dv a = dv b := by simp at hd; rw [hd]
    simp [iterK_succ, e]
  | succ k ih =>
    intro m hk hm hd
    obtain ⟨m, rfl⟩ : ∃ i, m = i + 1 := ⟨m - 1, by omega⟩
    have hka : k < a.length := by omega
    have hkb : k < b.length := by omega
    have ga := dg_get a k hka
    have gb := dg_get b k hkb
    have e1 : ((k + 1 : Nat) : Int) - 1 = k := by omega
    rcases Nat.lt_trichotomy a[k] b[k] with h | h | h
    · have h1 := dv_lt_at ha hb hka hkb hd h
      have h2 : ¬ dv a = dv b := by omega
      have h5 : ¬ ((a[k] : Int) = b[k]) := by omega
      rw [e1]
      simp [iterK_succ, ga, gb, h, h2, cmpI, h1, bne, h5]
    · have e2 : a.drop k = b.drop k := by rw [List.drop_eq_getElem_cons hka, List.drop_eq_getElem_cons hkb, h, hd]
      have := ih m (by omega) (by omega) e2
      rw [← this, e1]
      have hw : IntKind.i64.wrap ((k : Int) - 1) = (k : Int) - 1 := wrap64_id _ (by omega) (by omega)
      simp [iterK_succ, ga, gb, h, hw, bne]
    · have h1 := dv_lt_at hb ha hkb hka hd.symm h
      have h2 : ¬ dv a = dv b := by omega
      have h3 : ¬ dv a < dv b := by omega
      have h4 : ¬ a[k] < b[k] := by omega
      have h5 : ¬ ((a[k] : Int) = b[k]) := by omega
      rw [e1]
      simp [iterK_succ, ga, gb, h2, cmpI, h1, h3, h4, bne, h5]

/-- Digits that are the digits of their number. -/
def cOf (a : AV) : Option Nat := match digOf a with | some ds => if ds = digs (dv ds) then some (dv ds) else none | none => none
theorem cOf_inv {a : AV} {x : Nat} (h : cOf a = some x) : ∃ nl, a = .imm nl 1 (dg (digs x)) ∧ (digs x).length < 100000000 := by
  unfold cOf at h
  split at h
  · rename_i ds hd
    obtain ⟨h1, h2⟩ := of_ite h
    cases h2
    obtain ⟨nl, rfl, hw, hl⟩ := digOf_inv hd
    exact ⟨nl, by rw [← h1], by rw [← h1]; exact hl⟩
  · cases h
theorem cOf_mk {nl : Bool} {x : Nat} (h : (digs x).length < 100000000) : cOf (.imm nl 1 (dg (digs x))) = some x := by
  simp [cOf, digOf_dg (wf_digs x) h, dv_digs]

def spCompareP : List AV → Option PRes := sp2 cOf cOf fun x y => some (.int .i64 (cmpI x y))

theorem compareP_run : FSpec (fun args n => pureF G ic n c95F args) spCompareP := by
  intro args r h
  obtain ⟨a, b, x, y, v, rfl, hx, hy, hv, rfl⟩ := sp2_inv h
  cases hv
  obtain ⟨la, rfl, hla⟩ := cOf_inv hx
  obtain ⟨lb, rfl, hlb⟩ := cOf_inv hy
  obtain ⟨N, hN⟩ : ∃ N, N = (digs x).length + 1 := ⟨_, rfl⟩
  refine ⟨{ val := .int .i64 (cmpI x y) }, ⟨N, ?_⟩, rfl, rfl⟩
  rcases Nat.lt_trichotomy (digs x).length (digs y).length with h | h | h
  · have h1 := lt_of_len h
    have h2 : ¬ ((digs x).length : Int) = (digs y).length := by omega
    simp [pureF, runF, h, h2, cmpI, h1, bne]
  · have e := compareP_loop G ic N la lb (digs x) (digs y) (wf_digs _) (wf_digs _) h (by omega) (digs x).length N (Nat.le_refl _) (by omega) (by rw [List.drop_length, h, List.drop_length])
    simp only [c95_e0, c95_k0, dv_digs] at e
    have hw : IntKind.i64.wrap (((digs y).length : Int) - 1) = ((digs y).length : Int) - 1 := wrap64_id _ (by omega) (by omega)
    rw [h] at e
    by_cases hxy : x = y
    · rw [if_pos hxy] at e
      have hc : cmpI x y = 0 := by simp [cmpI, hxy]
      simp [pureF, runF, h, bne, hw, e, hc]
    · rw [if_neg hxy] at e
      simp [pureF, runF, h, bne, hw, e]
  · have h1 := lt_of_len h
    have h2 : ¬ ((digs x).length : Int) = (digs y).length := by omega
    have h3 : ¬ x < y := by omega
    have h4 : ¬ (digs x).length < (digs y).length := by omega
    simp [pureF, runF, h4, h2, cmpI, h1, h3, bne]

end
end Go.Proofs.Ythlpmghodgiknaa.C
