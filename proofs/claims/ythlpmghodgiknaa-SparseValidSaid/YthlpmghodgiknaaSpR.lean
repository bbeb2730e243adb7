/-
  The reference's integers: what the functions give.
-/
import Derived.Test.YthlpmghodgiknaaBas
import Derived.Test.YthlpmghodgiknaaCodB
namespace Go.Proofs.Ythlpmghodgiknaa.C
open Go Go.Ev

section
variable (G : Pure) (ic : Inl) (n : Nat)

/-! ### trim -/

theorem trim_loop (nl : Bool) (H : List (Nat × Ev.Obj)) (F own reb : List Nat) (ds : List Nat) (hw : Wf ds) (h : ds.length < 100000000) : ∀ k m, k ≤ ds.length → k < m →
    ∃ j, j ≤ k ∧ digs (dv (ds.take k)) = ds.take j ∧ blockE (some c74_e0) 0 (iterK G ic n c74_k0 c74_b0Q m ⟨[(0, .imm nl 1 (dg ds)), (3, .int .i64 k)], H, F, own, reb⟩) =
      some (.normal, ⟨[(0, .imm nl 1 (dg ds)), (3, .int .i64 j)], H, F, own, reb⟩) := by
  intro k
  induction k with
  | zero =>
    intro m hk hm
    obtain ⟨m, rfl⟩ : ∃ i, m = i + 1 := ⟨m - 1, by omega⟩
    refine ⟨0, by omega, by simp [dv, digs_zero], ?_⟩
    simp [iterK_succ]
  | succ k ih =>
    intro m hk hm
    obtain ⟨m, rfl⟩ : ∃ i, m = i + 1 := ⟨m - 1, by omega⟩
    by_cases h0 : ds[k] = 0
    · obtain ⟨j, hj, e1, e⟩ := ih m (by omega) (by omega)
      refine ⟨j, by omega, by rw [dv_take_zero (by omega) h0]; exact e1, ?_⟩
      rw [← e]
      simp (disch := omega) [iterK_succ, wrap64_id, dg_get, h0]
    · refine ⟨k + 1, by omega, digs_take hw (by omega) h0, ?_⟩
      simp (disch := omega) [iterK_succ, wrap64_id, dg_get, h0]

def spTrim : List AV → Option PRes
  | [a] => (digOf a).map fun ds => { val := dA (digs (dv ds)) }
  | _ => none

theorem trim_run : FSpec (fun args n => pureF G ic n c74F args) spTrim := by
  intro args r h
  unfold spTrim at h
  split at h
  case h_2 => cases h
  rename_i a
  rw [Option.map_eq_some_iff] at h
  obtain ⟨ds, hd, rfl⟩ := h
  obtain ⟨nl, rfl, hw, hl⟩ := digOf_inv hd
  obtain ⟨j, hj, e1, e⟩ := trim_loop G ic (ds.length + 1) nl [] [] [] [] ds hw hl ds.length (ds.length + 1) (Nat.le_refl _) (by omega)
  rw [List.take_length] at e1
  simp only [c74_e0, c74_k0] at e
  refine ⟨{ val := .imm nl 1 (dg (ds.take j)) }, ⟨ds.length + 1, ?_⟩, rfl, ?_⟩
  · simp (disch := omega) [pureF, runF, dg_length, e, dg_take, hj]
  · simp [AV.weak, weakLL_dg, dA, e1]


theorem trim_eq {nl : Bool} {ds : List Nat} (h : Wf ds) (hl : ds.length < 100000000) : spTrim [.imm nl 1 (dg ds)] = some { val := dA (digs (dv ds)) } := by simp [spTrim, digOf_dg h hl]

/-! ### Make -/

def spMake : List AV → Option PRes
  | [.bool b, a] => (digOf a).map fun ds => { val := iV (sg b (dv ds)) }
  | _ => none

theorem make_run (hT : G 74 = spTrim) : FSpec (fun args n => pureF G ic n c70F args) spMake := by
  intro args r h
  unfold spMake at h
  split at h
  case h_2 => cases h
  rename_i b a
  rw [Option.map_eq_some_iff] at h
  obtain ⟨ds, hd, rfl⟩ := h
  obtain ⟨nl, rfl, hw, hl⟩ := digOf_inv hd
  have t := trim_eq (nl := nl) hw hl
  rw [← hT] at t
  have hlen := digs_length_dv hw
  by_cases h0 : dv ds = 0
  · refine ⟨{ val := .agg [.bool false, .imm true 1 (dg [])] }, ⟨0, ?_⟩, rfl, by rw [weak_iA, h0, iV_sg_zero]⟩
    simp [pureF, runF, t, dA, h0, digs_zero, dg_nil]
  · refine ⟨{ val := .agg [.bool b, .imm false 1 (dg (digs (dv ds)))] }, ⟨0, ?_⟩, rfl, by rw [weak_iA, iV_sg h0]⟩
    have hne : digs (dv ds) ≠ [] := fun e => h0 (digs_eq_nil.1 e)
    have hb : (digs (dv ds)).length * 4 ≤ 140737488355328 := by omega
    simp [pureF, runF, t, dA, hne, dg_length, all_dg, keysLL_dg, hb]


theorem make_eq {b nl : Bool} {ds : List Nat} (h : Wf ds) (hl : ds.length < 100000000) : spMake [.bool b, .imm nl 1 (dg ds)] = some { val := iV (sg b (dv ds)) } := by simp [spMake, digOf_dg h hl]

/-! ### Canon, Negate -/

def spCanon : List AV → Option PRes := sp1 zOf fun z => some (iV z)

theorem weak_iV (z : Int) : (iV z).weak = iV z := by unfold iV iA; rw [weak_iA]; rfl

theorem canon_run (hM : G 70 = spMake) : FSpec (fun args n => pureF G ic n c55F args) spCanon := by
  intro args r h
  obtain ⟨a, z, v, rfl, hd, hv, rfl⟩ := sp1_inv h
  cases hv
  obtain ⟨b, nl, ds, rfl, hw, hl, rfl⟩ := zOf_inv hd
  have t := make_eq (b := b) (nl := nl) hw (by omega)
  rw [← hM] at t
  refine ⟨{ val := iV (sg b (dv ds)) }, ⟨0, ?_⟩, rfl, (weak_iV _).symm⟩
  simp [pureF, runF, t, iV, iA]

def spNegate : List AV → Option PRes := sp1 zOf fun z => some (iV (-z))

theorem sg_not (b : Bool) (n : Nat) : sg (!b) n = -sg b n := by cases b <;> simp [sg]

theorem negate_run (hM : G 70 = spMake) : FSpec (fun args n => pureF G ic n c57F args) spNegate := by
  intro args r h
  obtain ⟨a, z, v, rfl, hd, hv, rfl⟩ := sp1_inv h
  cases hv
  obtain ⟨b, nl, ds, rfl, hw, hl, rfl⟩ := zOf_inv hd
  have t := make_eq (b := !b) (nl := nl) hw (by omega)
  rw [← hM, sg_not] at t
  refine ⟨{ val := iV (-sg b (dv ds)) }, ⟨0, ?_⟩, rfl, (weak_iV _).symm⟩
  simp [pureF, runF, t, iV, iA]

/-! ### compareDigits -/

theorem dv_cmp {a b : List Nat} (ha : Wf a) (hb : Wf b) (hl : a.length < b.length) (hne : ∀ h : b ≠ [], b.getLast h ≠ 0) : dv a < dv b := by
  have h1 := digs_dv hb hne
  have h2 := dv_lt ha
  rcases Nat.lt_or_ge (dv a) (dv b) with lt | ge
  · exact lt
  · exfalso
    have := digs_length_le (n := dv b) (k := a.length) (by omega)
    rw [h1] at this
    omega

theorem dv_split {ds : List Nat} {k : Nat} (hk : k ≤ ds.length) : dv ds = dv (ds.take k) + W32 ^ k * dv (ds.drop k) := by
  conv => lhs; rw [← List.take_append_drop k ds]
  rw [dv_append, List.length_take, Nat.min_eq_left hk]

/-- The first difference from above decides. -/
theorem dv_lt_at {a b : List Nat} {k : Nat} (ha : Wf a) (hb : Wf b) (hka : k < a.length) (hkb : k < b.length) (hd : a.drop (k + 1) = b.drop (k + 1)) (hlt : a[k] < b[k]) : dv a < dv b := by
  have ea := dv_split (ds := a) (k := k + 1) (by omega)
  have eb := dv_split (ds := b) (k := k + 1) (by omega)
  rw [dv_take_succ hka] at ea
  rw [dv_take_succ hkb] at eb
  have h1 := dv_lt (wf_take ha k)
  rw [List.length_take, Nat.min_eq_left (by omega)] at h1
  have h2 : W32 ^ k * a[k] + W32 ^ k ≤ W32 ^ k * b[k] := by
    have : W32 ^ k * (a[k] + 1) ≤ W32 ^ k * b[k] := Nat.mul_le_mul_left _ hlt
    rw [Nat.mul_add, Nat.mul_one] at this
    exact this
  rw [hd] at ea
  omega

def cmpI (a b : Nat) : Int := if a < b then -1 else if b < a then 1 else 0

theorem compare_loop (la lb : Bool) (a b : List Nat) (ha : Wf a) (hb : Wf b) (hl : a.length = b.length) (hbd : a.length < 100000000) : ∀ k m, k ≤ a.length → k < m → a.drop k = b.drop k →
    blockE (some c72_e0) 0 (iterK G ic n c72_k0 c72_b0Q m ⟨[(0, .imm la 1 (dg a)), (1, .imm lb 1 (dg b)), (5, .int .i64 ((k : Int) - 1))], [], [], [], []⟩) =
      if dv a = dv b then some (.normal, ⟨[], [], [], [], []⟩) else some (.ret, ⟨[(4, .int .i64 (cmpI (dv a) (dv b)))], [], [], [], []⟩) := by
  intro k
  induction k with
  | zero =>
    intro m hk hm hd
    obtain ⟨m, rfl⟩ : ∃ i, m = i + 1 := ⟨m - 1, by omega⟩
    have e : dv a = dv b := by simp at hd; rw [hd]
    simp [iterK_succ, e]
  | succ k ih =>
    intro m hk hm hd
    obtain ⟨m, rfl⟩ : ∃ i, m = i + 1 := ⟨m - 1, by omega⟩
    have hka : k < a.length := by omega
    have hkb : k < b.length := by omega
    have ga := dg_get a k hka
    have gb := dg_get b k hkb
    have e1 : ((k + 1 : Nat) : Int) - 1 = k := by omega
    rcases Nat.lt_trichotomy a[k] b[k] with h | h | h
    · have h1 := dv_lt_at ha hb hka hkb hd h
      have h2 : ¬ dv a = dv b := by omega
      rw [e1]
      simp [iterK_succ, ga, gb, h, h2, cmpI, h1]
    · have e2 : a.drop k = b.drop k := by rw [List.drop_eq_getElem_cons hka, List.drop_eq_getElem_cons hkb, h, hd]
      have := ih m (by omega) (by omega) e2
      rw [← this, e1]
      have hw : IntKind.i64.wrap ((k : Int) - 1) = (k : Int) - 1 := wrap64_id _ (by omega) (by omega)
      simp [iterK_succ, ga, gb, h, hw]
    · have h1 := dv_lt_at hb ha hkb hka hd.symm h
      have h2 : ¬ dv a = dv b := by omega
      have h3 : ¬ dv a < dv b := by omega
      have h4 : ¬ a[k] < b[k] := by omega
      rw [e1]
      simp [iterK_succ, ga, gb, h, h2, cmpI, h1, h3, h4]


def spCompareDigits : List AV → Option PRes
  | [a, b] => match digOf a, digOf b with | some x, some y => some { val := .int .i64 (cmpI (dv x) (dv y)) } | _, _ => none
  | _ => none

theorem compareDigits_run (hT : G 74 = spTrim) : FSpec (fun args n => pureF G ic n c72F args) spCompareDigits := by
  intro args r h
  unfold spCompareDigits at h
  split at h
  case h_2 => cases h
  rename_i a b
  split at h
  case h_2 => cases h
  rename_i x y hx hy
  cases h
  obtain ⟨la, rfl, hwa, hla⟩ := digOf_inv hx
  obtain ⟨lb, rfl, hwb, hlb⟩ := digOf_inv hy
  have ta := trim_eq (nl := la) hwa hla
  have tb := trim_eq (nl := lb) hwb hlb
  rw [← hT] at ta tb
  have ha := digs_length_dv hwa
  have hb := digs_length_dv hwb
  refine ⟨{ val := .int .i64 (cmpI (dv x) (dv y)) }, ⟨x.length + 1, ?_⟩, rfl, rfl⟩
  rcases Nat.lt_trichotomy (digs (dv x)).length (digs (dv y)).length with h | h | h
  · have h1 := lt_of_len h
    have h2 : ¬ ((digs (dv x)).length : Int) = (digs (dv y)).length := by omega
    simp [pureF, runF, ta, tb, dA, h, h2, cmpI, h1, bne]
  · have e := compare_loop G ic (x.length + 1) false false (digs (dv x)) (digs (dv y)) (wf_digs _) (wf_digs _) h (by omega) (digs (dv x)).length (x.length + 1) (Nat.le_refl _) (by omega) (by rw [List.drop_length, h, List.drop_length])
    simp only [c72_e0, c72_k0, dv_digs] at e
    have hw : IntKind.i64.wrap (((digs (dv y)).length : Int) - 1) = ((digs (dv y)).length : Int) - 1 := wrap64_id _ (by omega) (by omega)
    rw [h] at e
    by_cases hxy : dv x = dv y
    · rw [if_pos hxy] at e
      have hc : cmpI (dv x) (dv y) = 0 := by simp [cmpI, hxy]
      simp [pureF, runF, ta, tb, dA, h, bne, hw, e, hc]
    · rw [if_neg hxy] at e
      simp [pureF, runF, ta, tb, dA, h, bne, hw, e]
  · have h1 := lt_of_len h
    have h2 : ¬ ((digs (dv x)).length : Int) = (digs (dv y)).length := by omega
    have h3 : ¬ dv x < dv y := by omega
    have h4 : ¬ (digs (dv x)).length < (digs (dv y)).length := by omega
    simp [pureF, runF, ta, tb, dA, h4, h2, cmpI, h1, h3, bne]


theorem compareDigits_eq {la lb : Bool} {x y : List Nat} (hx : Wf x) (hy : Wf y) (lx : x.length < 100000000) (ly : y.length < 100000000) : spCompareDigits [.imm la 1 (dg x), .imm lb 1 (dg y)] = some { val := .int .i64 (cmpI (dv x) (dv y)) } := by
  simp [spCompareDigits, digOf_dg hx lx, digOf_dg hy ly]

/-! ### digit -/

def spDigit : List AV → Option PRes
  | [a, .int .i64 i] => match digOf a with | some x => if 0 ≤ i then some { val := .int .u64 (dgt x i.toNat) } else none | none => none
  | _ => none

theorem digit_run : FSpec (fun args n => pureF G ic n c87F args) spDigit := by
  intro args r h
  unfold spDigit at h
  split at h
  case h_2 => cases h
  rename_i a i
  split at h
  case h_2 => cases h
  rename_i x hx
  obtain ⟨hi, h1⟩ := of_ite h
  clear h
  cases h1
  obtain ⟨la, rfl, hw, hl⟩ := digOf_inv hx
  obtain ⟨k, rfl⟩ : ∃ k : Nat, i = k := ⟨i.toNat, by omega⟩
  refine ⟨{ val := .int .u64 (dgt x k) }, ⟨0, ?_⟩, rfl, rfl⟩
  rcases Nat.lt_or_ge k x.length with lt | ge
  · have g := dg_get x k lt
    have hb := wf_get hw lt
    have w : IntKind.u64.wrap (x[k] : Nat) = (x[k] : Nat) := wrapu64_id _ (by omega) (by simp only [W32] at hb; omega)
    simp [pureF, runF, lt, g, w, dgt_get lt]
  · have h2 : ¬ k < x.length := by omega
    simp [pureF, runF, h2, dgt_end ge]

theorem digit_eq {la : Bool} {x : List Nat} (hx : Wf x) (lx : x.length < 100000000) (k : Nat) : spDigit [.imm la 1 (dg x), .int .i64 (k : Int)] = some { val := .int .u64 (dgt x k) } := by
  simp [spDigit, digOf_dg hx lx]

/-! ### addDigits -/

theorem add_loop (hD : G 87 = spDigit) (la lb : Bool) (a b : List Nat) (n1 : Nat) (ha : Wf a) (hb : Wf b) (hla : a.length < 100000000) (hlb : b.length < 100000000) (hn : n1 < 100000001) : ∀ d i s c, i + d = n1 → s.length = n1 → Wf s → c ≤ 1 →
    dv (s.take i) + W32 ^ i * c = dv (a.take i) + dv (b.take i) →
    ∃ s' c', s'.length = n1 ∧ Wf s' ∧ dv s' + W32 ^ n1 * c' = dv (a.take n1) + dv (b.take n1) ∧ ∀ m, d < m →
      blockE (some c71_e0) 0 (iterK G ic n c71_k0 c71_b0Q m ⟨[(0, .imm la 1 (dg a)), (1, .imm lb 1 (dg b)), (5, .int .i64 n1), (6, .sl 1136256 0 n1), (7, .int .u64 c), (8, .int .i64 i)],
        [(1136256, { sz := 1, ty := 88, es := dg s, refs := [] })], [], [1136256], []⟩) =
        some (.normal, ⟨[(6, .sl 1136256 0 n1)], [(1136256, { sz := 1, ty := 88, es := dg s', refs := [] })], [], [1136256], []⟩) := by
  intro d
  induction d with
  | zero =>
    intro i s c hi hs hw hc hv
    have e : i = n1 := by omega
    subst e
    refine ⟨s, c, hs, hw, by rw [List.take_of_length_le (by omega)] at hv; exact hv, fun m hm => ?_⟩
    obtain ⟨m, rfl⟩ : ∃ i, m = i + 1 := ⟨m - 1, by omega⟩
    simp [iterK_succ]
  | succ d ih =>
    intro i s c hi hs hw hc hv
    have hda := dgt_lt ha i
    have hdb := dgt_lt hb i
    have his : i < s.length := by omega
    simp only [W32] at hda hdb
    obtain ⟨t, ht⟩ : ∃ t, t = c + dgt a i + dgt b i := ⟨_, rfl⟩
    obtain ⟨q, hq⟩ : ∃ q, q = t % 4294967296 := ⟨_, rfl⟩
    obtain ⟨e, he⟩ : ∃ e, e = t / 4294967296 := ⟨_, rfl⟩
    have hqe : q + W32 * e = t := by simp only [W32]; omega
    obtain ⟨s', c', r1, r2, r3, r4⟩ := ih (i + 1) (s.set i q) e (by omega) (by simpa using hs) (wf_set hw (by simp only [W32]; omega)) (by omega) (by
      rw [dv_take_set his, dv_take_dgt a, dv_take_dgt b, Nat.pow_succ, Nat.mul_assoc]
      have e2 : W32 ^ i * q + W32 ^ i * (W32 * e) = W32 ^ i * t := by rw [← Nat.mul_add, hqe]
      have e3 : W32 ^ i * t = W32 ^ i * c + W32 ^ i * dgt a i + W32 ^ i * dgt b i := by rw [ht, Nat.mul_add, Nat.mul_add]
      omega)
    refine ⟨s', c', r1, r2, r3, fun m hm => ?_⟩
    obtain ⟨m, rfl⟩ : ∃ i, m = i + 1 := ⟨m - 1, by omega⟩
    have r5 := r4 m (by omega)
    rw [← r5]
    have da := digit_eq (la := la) ha hla i
    have db := digit_eq (la := lb) hb hlb i
    rw [← hD] at da db
    have hlt : i < n1 := by omega
    have w1 : IntKind.u64.wrap ((c : Int) + (dgt a i : Nat)) = (c : Int) + (dgt a i : Nat) := wrapu64_id _ (by omega) (by omega)
    have w2 : IntKind.u64.wrap ((c : Int) + (dgt a i : Nat) + (dgt b i : Nat)) = (t : Int) := w64_nat (by omega) (by omega)
    have w5 : IntKind.i64.wrap ((i : Int) + 1) = (i : Int) + 1 := wrap64_id _ (by omega) (by omega)
    simp [iterK_succ, da, db, hlt, w1, w2, w32_nat hq, fdiv_nat he, w5, dg_set, hs]

def spAddDigits : List AV → Option PRes
  | [a, b] => match digOf a, digOf b with | some x, some y => if x.length + y.length < 99999000 then some { val := dA (digs (dv x + dv y)) } else none | _, _ => none
  | _ => none

theorem addDigits_run (hT : G 74 = spTrim) (hD : G 87 = spDigit) : FSpec (fun args n => pureF G ic n c71F args) spAddDigits := by
  intro args r h
  unfold spAddDigits at h
  split at h
  case h_2 => cases h
  rename_i a b
  split at h
  case h_2 => cases h
  rename_i x y hx hy
  obtain ⟨hxy, h1⟩ := of_ite h
  clear h
  cases h1
  obtain ⟨la, rfl, hwa, hla⟩ := digOf_inv hx
  obtain ⟨lb, rfl, hwb, hlb⟩ := digOf_inv hy
  obtain ⟨k, hk⟩ : ∃ k, k = max x.length y.length := ⟨_, rfl⟩
  have hkx : x.length ≤ k := by omega
  have hky : y.length ≤ k := by omega
  have hk1 : k < 99999000 := by omega
  obtain ⟨N, hN⟩ : ∃ N, N = k + 2 := ⟨_, rfl⟩
  obtain ⟨s', c', r1, r2, r3, r4⟩ := add_loop G ic N hD la lb x y (k + 1) hwa hwb hla hlb (by omega) (k + 1) 0 (List.replicate (k + 1) 0) 0 (by omega) (by simp) (wf_replicate _) (by omega) (by simp [dv])
  rw [List.take_of_length_le (by omega), List.take_of_length_le (by omega)] at r3
  have hc : c' = 0 := carry_zero (by decide) (dv_lt_of_le hwa hkx) (dv_lt_of_le hwb hky) r3
  have hv : dv s' = dv x + dv y := by rw [hc, Nat.mul_zero, Nat.add_zero] at r3; exact r3
  have t := trim_eq (nl := false) r2 (by omega)
  rw [← hT] at t
  have e := r4 N (by omega)
  simp [c71_e0, c71_k0] at e
  refine ⟨{ val := dA (digs (dv s')) }, ⟨N, ?_⟩, rfl, by rw [hv]; exact (weak_dA _ _).symm⟩
  have hm : (if x.length < y.length then (y.length : Int) else x.length) = (k : Int) := by split <;> omega
  have w : IntKind.i64.wrap ((k : Int) + 1) = (k : Int) + 1 := wrap64_id _ (by omega) (by omega)
  have w2 : 0 ≤ (k : Int) + 1 := by omega
  have w3 : ((k : Int) + 1) * 4 ≤ 140737488355328 := by omega
  have w4 : ((k : Int) + 1).toNat = k + 1 := by omega
  have hk2 : k + 1 ≤ s'.length := by omega
  have hk3 : (dg s').take (k + 1) = dg s' := by rw [← r1, take_dg]
  simp [pureF, runF, hm, w, w2, w3, w4, dg_replicate, e, hk2, hk3, t, dA]


theorem addDigits_eq {la lb : Bool} {x y : List Nat} (hx : Wf x) (hy : Wf y) (h : x.length + y.length < 99999000) : spAddDigits [.imm la 1 (dg x), .imm lb 1 (dg y)] = some { val := dA (digs (dv x + dv y)) } := by
  simp [spAddDigits, digOf_dg hx (by omega), digOf_dg hy (by omega), h]

/-! ### subDigits -/

theorem sub_loop (hD : G 87 = spDigit) (la lb : Bool) (a b : List Nat) (ha : Wf a) (hb : Wf b) (hla : a.length < 100000000) (hlb : b.length < 100000000) : ∀ d i s c, i + d = a.length → s.length = a.length → Wf s → c ≤ 1 →
    dv (s.take i) + dv (b.take i) = dv (a.take i) + W32 ^ i * c →
    ∃ s' c', s'.length = a.length ∧ Wf s' ∧ dv s' + dv (b.take a.length) = dv a + W32 ^ a.length * c' ∧ ∀ m, d < m →
      blockE (some c73_e0) 0 (iterK G ic n c73_k0 c73_b0Q m ⟨[(0, .imm la 1 (dg a)), (1, .imm lb 1 (dg b)), (5, .sl 1168176 0 a.length), (6, .int .u64 c), (7, .int .i64 i)],
        [(1168176, { sz := 1, ty := 88, es := dg s, refs := [] })], [], [1168176], []⟩) =
        some (.normal, ⟨[(5, .sl 1168176 0 a.length)], [(1168176, { sz := 1, ty := 88, es := dg s', refs := [] })], [], [1168176], []⟩) := by
  intro d
  induction d with
  | zero =>
    intro i s c hi hs hw hc hv
    have e : i = a.length := by omega
    subst e
    refine ⟨s, c, hs, hw, by rw [List.take_of_length_le (by omega), List.take_length] at hv; exact hv, fun m hm => ?_⟩
    obtain ⟨m, rfl⟩ : ∃ i, m = i + 1 := ⟨m - 1, by omega⟩
    simp [iterK_succ]
  | succ d ih =>
    intro i s c hi hs hw hc hv
    have hda := dgt_lt ha i
    have hdb := dgt_lt hb i
    have his : i < s.length := by omega
    simp only [W32] at hda hdb
    obtain ⟨t, ht⟩ : ∃ t, t = dgt a i + 4294967296 - dgt b i - c := ⟨_, rfl⟩
    obtain ⟨q, hq⟩ : ∃ q, q = t % 4294967296 := ⟨_, rfl⟩
    obtain ⟨e, he⟩ : ∃ e, e = t / 4294967296 := ⟨_, rfl⟩
    have he1 : e ≤ 1 := by omega
    have hqe : q + dgt b i + c = dgt a i + W32 * (1 - e) := by simp only [W32]; omega
    obtain ⟨s', c', r1, r2, r3, r4⟩ := ih (i + 1) (s.set i q) (1 - e) (by omega) (by simpa using hs) (wf_set hw (by simp only [W32]; omega)) (by omega) (by
      rw [dv_take_set his, dv_take_dgt a, dv_take_dgt b, Nat.pow_succ, Nat.mul_assoc]
      exact sub_step hv hqe)
    refine ⟨s', c', r1, r2, r3, fun m hm => ?_⟩
    obtain ⟨m, rfl⟩ : ∃ i, m = i + 1 := ⟨m - 1, by omega⟩
    have r5 := r4 m (by omega)
    rw [← r5]
    have da := digit_eq (la := la) ha hla i
    have db := digit_eq (la := lb) hb hlb i
    rw [← hD] at da db
    have hlt : i < a.length := by omega
    have w1 : IntKind.u64.wrap ((dgt a i : Nat) + (4294967296 : Int)) = (dgt a i : Nat) + (4294967296 : Int) := wrapu64_id _ (by omega) (by omega)
    have w2 : IntKind.u64.wrap ((dgt a i : Nat) + (4294967296 : Int) - (dgt b i : Nat)) = (dgt a i : Nat) + (4294967296 : Int) - (dgt b i : Nat) := wrapu64_id _ (by omega) (by omega)
    have w3 : IntKind.u64.wrap ((dgt a i : Nat) + (4294967296 : Int) - (dgt b i : Nat) - (c : Nat)) = (t : Int) := w64_nat (by omega) (by omega)
    have w4 : IntKind.u64.wrap (1 - (e : Int)) = ((1 - e : Nat) : Int) := w64_nat (by omega) (by omega)
    have w5 : IntKind.i64.wrap ((i : Int) + 1) = (i : Int) + 1 := wrap64_id _ (by omega) (by omega)
    simp [iterK_succ, da, db, hlt, w1, w2, w3, w4, w32_nat hq, fdiv_nat he, w5, dg_set, hs]

def spSubDigits : List AV → Option PRes
  | [a, b] => match digOf a, digOf b with | some x, some y => if dv y ≤ dv x then some { val := dA (digs (dv x - dv y)) } else none | _, _ => none
  | _ => none

theorem subDigits_run (hT : G 74 = spTrim) (hD : G 87 = spDigit) : FSpec (fun args n => pureF G ic n c73F args) spSubDigits := by
  intro args r h
  unfold spSubDigits at h
  split at h
  case h_2 => cases h
  rename_i a b
  split at h
  case h_2 => cases h
  rename_i x y hx hy
  obtain ⟨hxy, h1⟩ := of_ite h
  clear h
  cases h1
  obtain ⟨la, rfl, hwa, hla⟩ := digOf_inv hx
  obtain ⟨lb, rfl, hwb, hlb⟩ := digOf_inv hy
  obtain ⟨N, hN⟩ : ∃ N, N = x.length + 1 := ⟨_, rfl⟩
  obtain ⟨s', c', r1, r2, r3, r4⟩ := sub_loop G ic N hD la lb x y hwa hwb hla hlb x.length 0 (List.replicate x.length 0) 0 (by omega) (by simp) (wf_replicate _) (by omega) (by simp [dv])
  have hlt := dv_lt hwa
  rw [dv_take_of_lt (by omega)] at r3
  have hs' := dv_lt r2
  rw [r1] at hs'
  have hc : c' = 0 := borrow_zero hs' hxy r3
  have hv : dv s' = dv x - dv y := by rw [hc, Nat.mul_zero, Nat.add_zero] at r3; omega
  have t := trim_eq (nl := false) r2 (by omega)
  rw [← hT] at t
  have e := r4 N (by omega)
  simp [c73_e0, c73_k0] at e
  refine ⟨{ val := dA (digs (dv s')) }, ⟨N, ?_⟩, rfl, by rw [hv]; exact (weak_dA _ _).symm⟩
  have w3 : (x.length : Int) * 4 ≤ 140737488355328 := by omega
  have hk2 : x.length ≤ s'.length := by omega
  have hk3 : (dg s').take x.length = dg s' := by rw [← r1, take_dg]
  simp [pureF, runF, w3, dg_replicate, e, hk2, hk3, t, dA]


theorem subDigits_eq {la lb : Bool} {x y : List Nat} (hx : Wf x) (hy : Wf y) (lx : x.length < 100000000) (ly : y.length < 100000000) (h : dv y ≤ dv x) : spSubDigits [.imm la 1 (dg x), .imm lb 1 (dg y)] = some { val := dA (digs (dv x - dv y)) } := by
  simp [spSubDigits, digOf_dg hx lx, digOf_dg hy ly, h]

/-! ### mulDigits -/

theorem mul_inner (la lb : Bool) (a b : List Nat) (i : Nat) (ha : Wf a) (hb : Wf b) (hab : a.length + b.length < 100000000) (hi : i < a.length) (s0 : List Nat) : ∀ d k s c, k + d = b.length → s.length = a.length + b.length → Wf s → c < W32 →
    dv s + W32 ^ (i + k) * c = dv s0 + W32 ^ i * (a[i] * dv (b.take k)) → (∀ j, i + b.length ≤ j → dgt s j = dgt s0 j) →
    ∃ s' c', s'.length = a.length + b.length ∧ Wf s' ∧ c' < W32 ∧ dv s' + W32 ^ (i + b.length) * c' = dv s0 + W32 ^ i * (a[i] * dv b) ∧ (∀ j, i + b.length ≤ j → dgt s' j = dgt s0 j) ∧ ∀ m, d < m →
      blockE (some c75_e0) 2 (iterK G ic n c75_k0 c75_b0Q m ⟨[(0, .imm la 1 (dg a)), (1, .imm lb 1 (dg b)), (5, .sl 1200224 0 (a.length + b.length)), (6, .int .i64 i), (7, .int .u64 c), (8, .int .i64 k)],
        [(1200224, { sz := 1, ty := 88, es := dg s, refs := [] })], [], [1200224], []⟩) =
        some (.normal, ⟨[(0, .imm la 1 (dg a)), (1, .imm lb 1 (dg b)), (5, .sl 1200224 0 (a.length + b.length)), (6, .int .i64 i), (7, .int .u64 c')],
          [(1200224, { sz := 1, ty := 88, es := dg s', refs := [] })], [], [1200224], []⟩) := by
  intro d
  induction d with
  | zero =>
    intro k s c hk hs hw hc hv hz
    have e : k = b.length := by omega
    subst e
    rw [List.take_length] at hv
    refine ⟨s, c, hs, hw, hc, hv, hz, fun m hm => ?_⟩
    obtain ⟨m, rfl⟩ : ∃ i, m = i + 1 := ⟨m - 1, by omega⟩
    simp [iterK_succ]
  | succ d ih =>
    intro k s c hk hs hw hc hv hz
    have hkb : k < b.length := by omega
    have hik : i + k < s.length := by omega
    have hA := wf_get ha hi
    have hB := wf_get hb hkb
    have hS := wf_get hw hik
    obtain ⟨hb1, hb2⟩ := mul_bound hc hS hA hB
    simp only [W32] at hA hB hS hc hb1 hb2
    obtain ⟨A, hAe⟩ : ∃ A, A = a[i] := ⟨_, rfl⟩
    obtain ⟨B, hBe⟩ : ∃ B, B = b[k] := ⟨_, rfl⟩
    obtain ⟨S, hSe⟩ : ∃ S, S = s[i + k] := ⟨_, rfl⟩
    rw [← hAe] at hA hb1 hb2
    rw [← hBe] at hB hb1 hb2
    rw [← hSe] at hS hb1
    obtain ⟨M, hM⟩ : ∃ M, M = A * B := ⟨_, rfl⟩
    rw [← hM] at hb1 hb2
    obtain ⟨t, ht⟩ : ∃ t, t = c + S + M := ⟨_, rfl⟩
    obtain ⟨q, hq⟩ : ∃ q, q = t % 4294967296 := ⟨_, rfl⟩
    obtain ⟨e, he⟩ : ∃ e, e = t / 4294967296 := ⟨_, rfl⟩
    have hqe : q + W32 * e = c + S + A * B := by rw [← hM]; simp only [W32]; omega
    have hset := dv_set (ds := s) (j := i + k) (q := q) hik
    rw [← hSe] at hset
    obtain ⟨s', c', r1, r2, r3, r4, r5, r6⟩ := ih (k + 1) (s.set (i + k) q) e (by omega) (by simpa using hs) (wf_set hw (by simp only [W32]; omega)) (by simp only [W32]; omega) (by
      have := mul_step hv hset hqe
      rw [← Nat.add_assoc, Nat.pow_succ, Nat.mul_assoc, this, dv_take_succ hkb, ← hBe, Nat.pow_add, Nat.mul_assoc]
      congr 1
      rw [← hAe, Nat.mul_add A, Nat.mul_add (W32 ^ i)]
      congr 2
      rw [Nat.mul_left_comm]) (fun j hj => by rw [dgt_set_ne (by omega)]; exact hz j hj)
    refine ⟨s', c', r1, r2, r3, r4, r5, fun m hm => ?_⟩
    obtain ⟨m, rfl⟩ : ∃ i, m = i + 1 := ⟨m - 1, by omega⟩
    rw [← r6 m (by omega)]
    have ga := dg_get a i hi
    have gb := dg_get b k hkb
    have gs := dg_get s (i + k) hik
    rw [← hAe] at ga
    rw [← hBe] at gb
    rw [← hSe] at gs
    have hikl : i + k < a.length + b.length := by omega
    have w0 : IntKind.i64.wrap ((i : Int) + k) = ((i + k : Nat) : Int) := by rw [wrap64_id _ (by omega) (by omega)]; omega
    have w0' : ((i : Int) + k).toNat = i + k := by omega
    have w1 : IntKind.u64.wrap (S : Int) = (S : Int) := wrapu64_id _ (by omega) (by omega)
    have w2 : IntKind.u64.wrap (A : Int) = (A : Int) := wrapu64_id _ (by omega) (by omega)
    have w3 : IntKind.u64.wrap (B : Int) = (B : Int) := wrapu64_id _ (by omega) (by omega)
    have w4 : IntKind.u64.wrap ((c : Int) + S) = (c : Int) + S := wrapu64_id _ (by omega) (by omega)
    have w5 : IntKind.u64.wrap ((A : Int) * B) = (M : Int) := w64_nat (by rw [hM]; simp) (by omega)
    have w6 : IntKind.u64.wrap ((c : Int) + S + M) = (t : Int) := w64_nat (by omega) (by omega)
    have w7 : IntKind.i64.wrap ((k : Int) + 1) = (k : Int) + 1 := wrap64_id _ (by omega) (by omega)
    have hp : 0 ≤ (i : Int) + k := by omega
    have hp2 : (i : Int) + k < (a.length : Int) + b.length := by omega
    simp [iterK_succ, hkb, w0, w0', w1, w2, w3, w4, w5, w6, w7, w32_nat hq, fdiv_nat he, dg_set, ga, gb, gs, hp, hp2, ← hAe, ← hBe, ← hSe]


theorem mul_outer (la lb : Bool) (a b : List Nat) (ha : Wf a) (hb : Wf b) (hab : a.length + b.length < 100000000) (hn : b.length < n) : ∀ d i s, i + d = a.length → s.length = a.length + b.length → Wf s → dv s = dv (a.take i) * dv b → (∀ j, i + b.length ≤ j → dgt s j = 0) →
    ∃ s', s'.length = a.length + b.length ∧ Wf s' ∧ dv s' = dv a * dv b ∧ ∀ m, d < m →
      blockE (some c75_e1) 0 (iterK G ic n c75_k1 c75_b1Q m ⟨[(0, .imm la 1 (dg a)), (1, .imm lb 1 (dg b)), (5, .sl 1200224 0 (a.length + b.length)), (6, .int .i64 i)],
        [(1200224, { sz := 1, ty := 88, es := dg s, refs := [] })], [], [1200224], []⟩) =
        some (.normal, ⟨[(5, .sl 1200224 0 (a.length + b.length))], [(1200224, { sz := 1, ty := 88, es := dg s', refs := [] })], [], [1200224], []⟩) := by
  intro d
  induction d with
  | zero =>
    intro i s hi hs hw hv hz
    have e : i = a.length := by omega
    subst e
    rw [List.take_length] at hv
    refine ⟨s, hs, hw, hv, fun m hm => ?_⟩
    obtain ⟨m, rfl⟩ : ∃ i, m = i + 1 := ⟨m - 1, by omega⟩
    simp [iterK_succ]
  | succ d ih =>
    intro i s hi hs hw hv hz
    have hia : i < a.length := by omega
    obtain ⟨s1, c, p1, p2, p3, p4, p5, p6⟩ := mul_inner G ic n la lb a b i ha hb hab hia s b.length 0 s 0 (by omega) hs hw (by decide) (by simp [dv]) (fun _ _ => rfl)
    have hil : i + b.length < s1.length := by omega
    have hzero : s1[i + b.length] = 0 := by
      have h1 := p5 (i + b.length) (Nat.le_refl _)
      rw [hz _ (Nat.le_refl _), dgt_get hil] at h1
      exact h1
    have hset := dv_set (ds := s1) (j := i + b.length) (q := c) hil
    rw [hzero, Nat.mul_zero, Nat.add_zero] at hset
    obtain ⟨s', r1, r2, r3, r4⟩ := ih (i + 1) (s1.set (i + b.length) c) (by omega) (by simpa using p1) (wf_set p2 p3) (by
      rw [hset, p4, hv, dv_take_succ hia, Nat.add_mul, Nat.mul_assoc]) (fun j hj => by rw [dgt_set_ne (by omega), p5 j (by omega)]; exact hz j (by omega))
    refine ⟨s', r1, r2, r3, fun m hm => ?_⟩
    obtain ⟨m, rfl⟩ : ∃ i, m = i + 1 := ⟨m - 1, by omega⟩
    rw [← r4 m (by omega)]
    have e := p6 n hn
    simp [c75_e0, c75_k0] at e
    have gs := dg_get s1 (i + b.length) hil
    have hib : i + b.length < a.length + b.length := by omega
    have hp : 0 ≤ (i : Int) + b.length := by omega
    have hp2 : (i : Int) + b.length < (a.length : Int) + b.length := by omega
    have w0 : IntKind.i64.wrap ((i : Int) + b.length) = (i : Int) + b.length := wrap64_id _ (by omega) (by omega)
    have w0' : ((i : Int) + b.length).toNat = i + b.length := by omega
    have w1 : IntKind.u32.wrap (c : Int) = (c : Int) := wrapu32_id _ (by omega) (by simp only [W32] at p3; omega)
    have w7 : IntKind.i64.wrap ((i : Int) + 1) = (i : Int) + 1 := wrap64_id _ (by omega) (by omega)
    simp [iterK_succ, hia, e, gs, w0, w0', w1, w7, dg_set, hp, hp2, p1, hib]

def spMulDigits : List AV → Option PRes
  | [a, b] => match digOf a, digOf b with | some x, some y => if x.length + y.length < 100000000 then some { val := dA (digs (dv x * dv y)) } else none | _, _ => none
  | _ => none

theorem mulDigits_run (hT : G 74 = spTrim) : FSpec (fun args n => pureF G ic n c75F args) spMulDigits := by
  intro args r h
  unfold spMulDigits at h
  split at h
  case h_2 => cases h
  rename_i a b
  split at h
  case h_2 => cases h
  rename_i x y hx hy
  obtain ⟨hxy, h1⟩ := of_ite h
  clear h
  cases h1
  obtain ⟨la, rfl, hwa, hla⟩ := digOf_inv hx
  obtain ⟨lb, rfl, hwb, hlb⟩ := digOf_inv hy
  obtain ⟨N, hN⟩ : ∃ N, N = x.length + y.length + 1 := ⟨_, rfl⟩
  obtain ⟨s', r1, r2, r3, r4⟩ := mul_outer G ic N la lb x y hwa hwb hxy (by omega) x.length 0 (List.replicate (x.length + y.length) 0) (by omega) (by simp) (wf_replicate _) (by rw [dv_replicate]; simp [dv]) (fun j _ => dgt_replicate _ j)
  have t := trim_eq (nl := false) r2 (by omega)
  rw [← hT] at t
  have e := r4 N (by omega)
  simp [c75_e1, c75_k1] at e
  refine ⟨{ val := dA (digs (dv s')) }, ⟨N, ?_⟩, rfl, by rw [r3]; exact (weak_dA _ _).symm⟩
  have w0 : IntKind.i64.wrap ((x.length : Int) + y.length) = (x.length : Int) + y.length := wrap64_id _ (by omega) (by omega)
  have w1 : 0 ≤ (x.length : Int) + y.length := by omega
  have w3 : ((x.length : Int) + y.length) * 4 ≤ 140737488355328 := by omega
  have w4 : ((x.length : Int) + y.length).toNat = x.length + y.length := by omega
  have hk2 : x.length + y.length ≤ s'.length := by omega
  have hk3 : (dg s').take (x.length + y.length) = dg s' := by rw [← r1, take_dg]
  simp [pureF, runF, w0, w1, w3, w4, dg_replicate, e, hk2, hk3, t, dA]

theorem mulDigits_eq {la lb : Bool} {x y : List Nat} (hx : Wf x) (hy : Wf y) (h : x.length + y.length < 100000000) : spMulDigits [.imm la 1 (dg x), .imm lb 1 (dg y)] = some { val := dA (digs (dv x * dv y)) } := by
  simp [spMulDigits, digOf_dg hx (by omega), digOf_dg hy (by omega), h]

end
end Go.Proofs.Ythlpmghodgiknaa.C
