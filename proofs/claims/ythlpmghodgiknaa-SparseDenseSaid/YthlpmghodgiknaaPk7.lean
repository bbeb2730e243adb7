/- A part of the verified evaluator and of what the functions compute (joined by program). -/
import Derived.Test.YthlpmghodgiknaaPk6
import Derived.Test.YthlpmghodgiknaaPk2
set_option linter.unusedVariables false
set_option linter.unusedSimpArgs false
/-
  Vectors out of lists of fractions.
-/
namespace Go.Proofs.Ythlpmghodgiknaa.C
open Go Go.Ev

@[simp] theorem vF_length (l : List (Int × Rat)) : (vF l).length = l.length := by simp [vF]
theorem vF_append (l m : List (Int × Rat)) : vF (l ++ m) = vF l ++ vF m := by simp [vF]
theorem vcs_append (l m : List Ent) : vcs (l ++ m) = vcs l ++ vcs m := by simp [vcs]

/-- The entries of a list of numbers that are not 0. -/
def gath : Int → List Rat → List (Int × Rat)
  | _, [] => []
  | i, q :: r => if q = 0 then gath (i + 1) r else (i, q) :: gath (i + 1) r

theorem gath_zero {i : Int} {q : Rat} {r : List Rat} (h : q = 0) : gath i (q :: r) = gath (i + 1) r := by conv => { lhs; unfold gath }; rw [if_pos h]
theorem gath_next {i : Int} {q : Rat} {r : List Rat} (h : q ≠ 0) : gath i (q :: r) = (i, q) :: gath (i + 1) r := by conv => { lhs; unfold gath }; rw [if_neg h]

theorem gath_length : ∀ (i : Int) (l : List Rat), (gath i l).length ≤ l.length
  | _, [] => Nat.le_refl _
  | i, q :: r => by
    have := gath_length (i + 1) r
    by_cases h : q = 0
    · rw [gath_zero h]; simp only [List.length_cons]; omega
    · rw [gath_next h]; simp only [List.length_cons]; omega

/-- A list that grows by append. -/
def accSL (t k : Nat) (l : List (Int × Rat)) (reb : List Nat) : SL :=
  match l with
  | [] => ⟨[(t, .imm true 5 [])], [], [], [], reb⟩
  | x :: r => ⟨[(t, .sl k 0 (r.length + 1))], [(k, { sz := 5, ty := 51, es := vcs (vF (x :: r)), refs := [] })], [], [k], reb⟩

theorem accSL_ne {t k : Nat} {l : List (Int × Rat)} {reb : List Nat} (h : l ≠ []) : accSL t k l reb = ⟨[(t, .sl k 0 l.length)], [(k, { sz := 5, ty := 51, es := vcs (vF l), refs := [] })], [], [k], reb⟩ := by
  cases l with
  | nil => exact absurd rfl h
  | cons x r => rfl

section
variable (G : Pure) (ic : Inl) (n : Nat)

noncomputable def spGathered : List AV → Option PRes := sp1 fsOf fun l => if l.length ≤ 4096 then some (.imm false 5 (vcs (vF (gath 0 (l.map RF.q))))) else none

theorem gathered_full (hS : G 40 = spSignFrac) (hC : G 45 = spCanonQ) (nl : Bool) (l : List RF) (hl : FrsOk 2000000 l) (hk : l.length ≤ 4096) : ∀ d i m (A : List (Int × Rat)) (reb : List Nat), i + d = l.length → A.length ≤ i → A ≠ [] → d < m → ∃ reb',
    blockE (some c54_e0) 0 (iterK G ic n c54_k0 c54_b0Q m ⟨[(3, .sl 864352 0 A.length), (6, .imm nl 4 (fcs l)), (7, .int .i64 l.length), (8, .int .i64 i)],
      [(864352, { sz := 5, ty := 51, es := vcs (vF A), refs := [] })], [], [864352], reb⟩) = some (.normal, accSL 3 864352 (A ++ gath i ((l.drop i).map RF.q)) reb') := by
  intro d
  induction d with
  | zero =>
    intro i m A reb hi hA hne hm
    obtain ⟨m, rfl⟩ : ∃ i, m = i + 1 := ⟨m - 1, by omega⟩
    have e : i = l.length := by omega
    subst e
    refine ⟨reb, ?_⟩
    rw [List.drop_length, List.map_nil, show gath (l.length : Int) [] = [] from rfl, List.append_nil, accSL_ne hne]
    simp [iterK_succ]
  | succ d ih =>
    intro i m A reb hi hA hne hm
    obtain ⟨m, rfl⟩ : ∃ i, m = i + 1 := ⟨m - 1, by omega⟩
    have hil : i < l.length := by omega
    obtain ⟨f, he⟩ : ∃ f, f = l[i] := ⟨_, rfl⟩
    have hdrop : l.drop i = f :: l.drop (i + 1) := by rw [List.drop_eq_getElem_cons hil, ← he]
    have hok := hl.frs f (by rw [he]; exact List.getElem_mem _)
    have g := fcs_get l i hil
    rw [← he] at g
    have ts := sp1_at hS hok.qOf' rfl
    have tc := sp1_at hC hok.qOf' rfl
    have w5 : IntKind.i64.wrap ((i : Int) + 1) = (i : Int) + 1 := wrap64_id _ (by omega) (by omega)
    rw [hdrop, List.map_cons]
    obtain ⟨q, hq⟩ : ∃ q, q = f.q := ⟨_, rfl⟩
    rw [← hq] at ts tc ⊢
    simp only [fV_agg] at tc
    by_cases h0 : q = 0
    · obtain ⟨reb', e1⟩ := ih (i + 1) m A reb (by omega) (by omega) hne (by omega)
      refine ⟨reb', ?_⟩
      rw [gath_zero h0]
      rw [Int.natCast_add, Int.natCast_one] at e1
      rw [← e1]
      rw [(num_zero_cmp _).2 h0] at ts
      simp [iterK_succ, hil, g, ts, ← he, w5]
    · obtain ⟨reb', e1⟩ := ih (i + 1) m (A ++ [((i : Int), q)]) (864352 :: reb) (by omega) (by simp; omega) (by simp) (by omega)
      refine ⟨reb', ?_⟩
      rw [gath_next h0]
      rw [Int.natCast_add, Int.natCast_one, List.append_assoc, List.singleton_append] at e1
      rw [← e1, vF_append, vcs_append, List.length_append]
      have hc : ¬ cmpZ q.num 0 = 0 := fun h => h0 ((num_zero_cmp _).1 h)
      obtain ⟨E, hE⟩ : ∃ E, E = vcs (vF A) := ⟨_, rfl⟩
      obtain ⟨a, ha⟩ : ∃ a, a = A.length := ⟨_, rfl⟩
      have hEl : E.length = a := by rw [hE, ha]; simp
      have hb : (a + 1) * 72 ≤ 140737488355328 := by omega
      rw [← hE, ← ha]
      clear e1 hE ha hq
      simp [iterK_succ, hil, g, ts, tc, hc, ← he, w5, hEl, hb, vF, vcs, qF]

theorem gathered_loop (hS : G 40 = spSignFrac) (hC : G 45 = spCanonQ) (nl : Bool) (l : List RF) (hl : FrsOk 2000000 l) (hk : l.length ≤ 4096) : ∀ d i m, i + d = l.length → d < m → ∃ reb',
    blockE (some c54_e0) 0 (iterK G ic n c54_k0 c54_b0Q m ⟨[(3, .imm true 5 []), (6, .imm nl 4 (fcs l)), (7, .int .i64 l.length), (8, .int .i64 i)],
      [], [], [], []⟩) = some (.normal, accSL 3 864352 (gath i ((l.drop i).map RF.q)) reb') := by
  intro d
  induction d with
  | zero =>
    intro i m hi hm
    obtain ⟨m, rfl⟩ : ∃ i, m = i + 1 := ⟨m - 1, by omega⟩
    have e : i = l.length := by omega
    subst e
    refine ⟨[], ?_⟩
    rw [List.drop_length, List.map_nil, show gath (l.length : Int) [] = [] from rfl]
    simp [iterK_succ, accSL]
  | succ d ih =>
    intro i m hi hm
    obtain ⟨m, rfl⟩ : ∃ i, m = i + 1 := ⟨m - 1, by omega⟩
    have hil : i < l.length := by omega
    obtain ⟨f, he⟩ : ∃ f, f = l[i] := ⟨_, rfl⟩
    have hdrop : l.drop i = f :: l.drop (i + 1) := by rw [List.drop_eq_getElem_cons hil, ← he]
    have hok := hl.frs f (by rw [he]; exact List.getElem_mem _)
    have g := fcs_get l i hil
    rw [← he] at g
    have ts := sp1_at hS hok.qOf' rfl
    have tc := sp1_at hC hok.qOf' rfl
    have w5 : IntKind.i64.wrap ((i : Int) + 1) = (i : Int) + 1 := wrap64_id _ (by omega) (by omega)
    rw [hdrop, List.map_cons]
    obtain ⟨q, hq⟩ : ∃ q, q = f.q := ⟨_, rfl⟩
    rw [← hq] at ts tc ⊢
    simp only [fV_agg] at tc
    by_cases h0 : q = 0
    · obtain ⟨reb', e1⟩ := ih (i + 1) m (by omega) (by omega)
      refine ⟨reb', ?_⟩
      rw [gath_zero h0]
      rw [Int.natCast_add, Int.natCast_one] at e1
      rw [← e1]
      rw [(num_zero_cmp _).2 h0] at ts
      simp [iterK_succ, hil, g, ts, ← he, w5]
    · obtain ⟨reb', e1⟩ := gathered_full G ic n hS hC nl l hl hk d (i + 1) m [((i : Int), q)] [] (by omega) (by simp) (by simp) (by omega)
      refine ⟨reb', ?_⟩
      rw [gath_next h0]
      rw [Int.natCast_add, Int.natCast_one, List.singleton_append] at e1
      rw [← e1]
      have hc : ¬ cmpZ q.num 0 = 0 := fun h => h0 ((num_zero_cmp _).1 h)
      clear e1 hq
      simp [iterK_succ, hil, g, ts, tc, hc, ← he, w5, vF, vcs, qF]

theorem gathered_run (hS : G 40 = spSignFrac) (hC : G 45 = spCanonQ) : FSpec (fun args n => pureF G ic n c54F args) spGathered := by
  intro args r h
  obtain ⟨a, l, v, rfl, hx, hv, rfl⟩ := sp1_inv h
  obtain ⟨hk, hv⟩ := of_ite hv
  cases hv
  obtain ⟨nl, rfl, hl⟩ := fsOf_inv hx
  obtain ⟨N, hN⟩ : ∃ N, N = l.length + 1 := ⟨_, rfl⟩
  obtain ⟨reb', e⟩ := gathered_loop G ic N hS hC nl l hl hk l.length 0 N (by omega) (by omega)
  rw [List.drop_zero, Int.natCast_zero] at e
  obtain ⟨out, ho⟩ : ∃ out, out = gath 0 (l.map RF.q) := ⟨_, rfl⟩
  rw [← ho] at e ⊢
  simp [c54_e0, c54_k0] at e
  cases hout : out with
  | nil =>
    rw [hout] at e
    simp only [accSL] at e
    refine ⟨{ val := .imm true 5 [] }, ⟨N, ?_⟩, rfl, by simp [AV.weak, AV.weakL, AV.weakLL, vF, vcs]⟩
    simp [pureF, runF, e]
  | cons x r =>
    rw [accSL_ne (by rw [hout]; simp)] at e
    rw [← hout]
    obtain ⟨E, hE⟩ : ∃ E, E = vcs (vF out) := ⟨_, rfl⟩
    have hEl : E.length = out.length := by rw [hE]; simp
    obtain ⟨a, ha⟩ : ∃ a, a = out.length := ⟨_, rfl⟩
    refine ⟨{ val := .imm false 5 E }, ⟨N, ?_⟩, rfl, by rw [hE]; simp [AV.weak, vcs_vF_weak]⟩
    rw [← hE, ← ha] at e
    rw [← ha] at hEl
    clear hE ha ho hout
    simp [pureF, runF, e, ← hEl]

noncomputable def spFromDense : List AV → Option PRes := sp1 fsOf fun l => if 4096 < l.length then some (.tup [.imm false 5 [], .int .i64 5]) else some (.tup [.imm false 5 (vcs (vF (gath 0 (l.map RF.q)))), .int .i64 0])

theorem fromDenseP_run (hG : G 54 = spGathered) : FSpec (fun args n => pureF G ic n c27F args) spFromDense := by
  intro args r h
  obtain ⟨a, l, v, rfl, hx, hv, rfl⟩ := sp1_inv h
  by_cases hk : 4096 < l.length
  · rw [if_pos hk] at hv
    cases hv
    obtain ⟨nl, rfl, hl⟩ := fsOf_inv hx
    refine ⟨{ val := .tup [.imm true 5 [], .int .i64 5] }, ⟨0, ?_⟩, rfl, by simp [AV.weak, AV.weakL, AV.weakLL]⟩
    have hk' : (4096 : Int) < l.length := by omega
    simp [pureF, runF, hk']
  · rw [if_neg hk] at hv
    cases hv
    have t := sp1_at hG hx (if_pos (by omega))
    obtain ⟨nl, rfl, hl⟩ := fsOf_inv hx
    have hk' : ¬ (4096 : Int) < l.length := by omega
    obtain ⟨out, ho⟩ : ∃ out, out = vF (gath 0 (l.map RF.q)) := ⟨_, rfl⟩
    refine ⟨{ val := .tup [.imm false 5 (vcs out), .int .i64 0] }, ⟨0, ?_⟩, rfl, by rw [ho]; simp [AV.weak, AV.weakL, vcs_vF_weak]⟩
    rw [← ho] at t
    clear ho
    simp [pureF, runF, hk', t]

theorem fromDenseR_full (hS : G 41 = spSignFrac) (hC : G 28 = spReduce) (nl : Bool) (l : List RF) (hl : FrsOk 2000000 l) (hk : l.length ≤ 4096) : ∀ d i m (A : List (Int × Rat)) (reb : List Nat), i + d = l.length → A.length ≤ i → A ≠ [] → d < m → ∃ reb',
    blockE (some c29_e0) 0 (iterK G ic n c29_k0 c29_b0Q m ⟨[(0, .imm nl 4 (fcs l)), (4, .sl 464480 0 A.length), (5, .int .i64 i)],
      [(464480, { sz := 5, ty := 51, es := vcs (vF A), refs := [] })], [], [464480], reb⟩) = some (.normal, accSL 4 464480 (A ++ gath i ((l.drop i).map RF.q)) reb') := by
  intro d
  induction d with
  | zero =>
    intro i m A reb hi hA hne hm
    obtain ⟨m, rfl⟩ : ∃ i, m = i + 1 := ⟨m - 1, by omega⟩
    have e : i = l.length := by omega
    subst e
    refine ⟨reb, ?_⟩
    rw [List.drop_length, List.map_nil, show gath (l.length : Int) [] = [] from rfl, List.append_nil, accSL_ne hne]
    simp [iterK_succ]
  | succ d ih =>
    intro i m A reb hi hA hne hm
    obtain ⟨m, rfl⟩ : ∃ i, m = i + 1 := ⟨m - 1, by omega⟩
    have hil : i < l.length := by omega
    obtain ⟨f, he⟩ : ∃ f, f = l[i] := ⟨_, rfl⟩
    have hdrop : l.drop i = f :: l.drop (i + 1) := by rw [List.drop_eq_getElem_cons hil, ← he]
    have hok := hl.frs f (by rw [he]; exact List.getElem_mem _)
    have g := fcs_get l i hil
    rw [← he] at g
    have ts := sp1_at hS hok.qOf' rfl
    have tc := reduceF_at hC hok
    have w5 : IntKind.i64.wrap ((i : Int) + 1) = (i : Int) + 1 := wrap64_id _ (by omega) (by omega)
    rw [hdrop, List.map_cons]
    obtain ⟨q, hq⟩ : ∃ q, q = f.q := ⟨_, rfl⟩
    rw [← hq] at ts tc ⊢
    simp only [fV_agg] at tc
    by_cases h0 : q = 0
    · obtain ⟨reb', e1⟩ := ih (i + 1) m A reb (by omega) (by omega) hne (by omega)
      refine ⟨reb', ?_⟩
      rw [gath_zero h0]
      rw [Int.natCast_add, Int.natCast_one] at e1
      rw [← e1]
      rw [(num_zero_cmp _).2 h0] at ts
      simp [iterK_succ, hil, g, ts, ← he, w5]
    · obtain ⟨reb', e1⟩ := ih (i + 1) m (A ++ [((i : Int), q)]) (464480 :: reb) (by omega) (by simp; omega) (by simp) (by omega)
      refine ⟨reb', ?_⟩
      rw [gath_next h0]
      rw [Int.natCast_add, Int.natCast_one, List.append_assoc, List.singleton_append] at e1
      rw [← e1, vF_append, vcs_append, List.length_append]
      have hc : ¬ cmpZ q.num 0 = 0 := fun h => h0 ((num_zero_cmp _).1 h)
      obtain ⟨E, hE⟩ : ∃ E, E = vcs (vF A) := ⟨_, rfl⟩
      obtain ⟨a, ha⟩ : ∃ a, a = A.length := ⟨_, rfl⟩
      have hEl : E.length = a := by rw [hE, ha]; simp
      have hb : (a + 1) * 72 ≤ 140737488355328 := by omega
      rw [← hE, ← ha]
      clear e1 hE ha hq
      simp [iterK_succ, hil, g, ts, tc, hc, ← he, w5, hEl, hb, vF, vcs, qF]

theorem fromDenseR_loop (hS : G 41 = spSignFrac) (hC : G 28 = spReduce) (nl : Bool) (l : List RF) (hl : FrsOk 2000000 l) (hk : l.length ≤ 4096) : ∀ d i m, i + d = l.length → d < m → ∃ reb',
    blockE (some c29_e0) 0 (iterK G ic n c29_k0 c29_b0Q m ⟨[(0, .imm nl 4 (fcs l)), (4, .imm true 5 []), (5, .int .i64 i)],
      [], [], [], []⟩) = some (.normal, accSL 4 464480 (gath i ((l.drop i).map RF.q)) reb') := by
  intro d
  induction d with
  | zero =>
    intro i m hi hm
    obtain ⟨m, rfl⟩ : ∃ i, m = i + 1 := ⟨m - 1, by omega⟩
    have e : i = l.length := by omega
    subst e
    refine ⟨[], ?_⟩
    rw [List.drop_length, List.map_nil, show gath (l.length : Int) [] = [] from rfl]
    simp [iterK_succ, accSL]
  | succ d ih =>
    intro i m hi hm
    obtain ⟨m, rfl⟩ : ∃ i, m = i + 1 := ⟨m - 1, by omega⟩
    have hil : i < l.length := by omega
    obtain ⟨f, he⟩ : ∃ f, f = l[i] := ⟨_, rfl⟩
    have hdrop : l.drop i = f :: l.drop (i + 1) := by rw [List.drop_eq_getElem_cons hil, ← he]
    have hok := hl.frs f (by rw [he]; exact List.getElem_mem _)
    have g := fcs_get l i hil
    rw [← he] at g
    have ts := sp1_at hS hok.qOf' rfl
    have tc := reduceF_at hC hok
    have w5 : IntKind.i64.wrap ((i : Int) + 1) = (i : Int) + 1 := wrap64_id _ (by omega) (by omega)
    rw [hdrop, List.map_cons]
    obtain ⟨q, hq⟩ : ∃ q, q = f.q := ⟨_, rfl⟩
    rw [← hq] at ts tc ⊢
    simp only [fV_agg] at tc
    by_cases h0 : q = 0
    · obtain ⟨reb', e1⟩ := ih (i + 1) m (by omega) (by omega)
      refine ⟨reb', ?_⟩
      rw [gath_zero h0]
      rw [Int.natCast_add, Int.natCast_one] at e1
      rw [← e1]
      rw [(num_zero_cmp _).2 h0] at ts
      simp [iterK_succ, hil, g, ts, ← he, w5]
    · obtain ⟨reb', e1⟩ := fromDenseR_full G ic n hS hC nl l hl hk d (i + 1) m [((i : Int), q)] [] (by omega) (by simp) (by simp) (by omega)
      refine ⟨reb', ?_⟩
      rw [gath_next h0]
      rw [Int.natCast_add, Int.natCast_one, List.singleton_append] at e1
      rw [← e1]
      have hc : ¬ cmpZ q.num 0 = 0 := fun h => h0 ((num_zero_cmp _).1 h)
      clear e1 hq
      simp [iterK_succ, hil, g, ts, tc, hc, ← he, w5, vF, vcs, qF]

theorem fromDenseR_run (hS : G 41 = spSignFrac) (hC : G 28 = spReduce) : FSpec (fun args n => pureF G ic n c29F args) spFromDense := by
  intro args r h
  obtain ⟨a, l, v, rfl, hx, hv, rfl⟩ := sp1_inv h
  by_cases hk : 4096 < l.length
  · rw [if_pos hk] at hv
    cases hv
    obtain ⟨nl, rfl, hl⟩ := fsOf_inv hx
    refine ⟨{ val := .tup [.imm true 5 [], .int .i64 5] }, ⟨0, ?_⟩, rfl, by simp [AV.weak, AV.weakL, AV.weakLL]⟩
    have hk' : (4096 : Int) < l.length := by omega
    simp [pureF, runF, hk']
  · rw [if_neg hk] at hv
    cases hv
    obtain ⟨nl, rfl, hl⟩ := fsOf_inv hx
    obtain ⟨N, hN⟩ : ∃ N, N = l.length + 1 := ⟨_, rfl⟩
    obtain ⟨reb', e⟩ := fromDenseR_loop G ic N hS hC nl l hl (by omega) l.length 0 N (by omega) (by omega)
    have hk' : ¬ (4096 : Int) < l.length := by omega
    rw [List.drop_zero, Int.natCast_zero] at e
    obtain ⟨out, ho⟩ : ∃ out, out = gath 0 (l.map RF.q) := ⟨_, rfl⟩
    rw [← ho] at e ⊢
    simp [c29_e0, c29_k0] at e
    cases hout : out with
    | nil =>
      rw [hout] at e
      simp only [accSL] at e
      refine ⟨{ val := .tup [.imm true 5 [], .int .i64 0] }, ⟨N, ?_⟩, rfl, by simp [AV.weak, AV.weakL, AV.weakLL, vF, vcs]⟩
      simp [pureF, runF, e, hk']
    | cons x r =>
      rw [accSL_ne (by rw [hout]; simp)] at e
      rw [← hout]
      obtain ⟨E, hE⟩ : ∃ E, E = vcs (vF out) := ⟨_, rfl⟩
      have hEl : E.length = out.length := by rw [hE]; simp
      obtain ⟨a, ha⟩ : ∃ a, a = out.length := ⟨_, rfl⟩
      refine ⟨{ val := .tup [.imm false 5 E, .int .i64 0] }, ⟨N, ?_⟩, rfl, by rw [hE]; simp [AV.weak, AV.weakL, vcs_vF_weak]⟩
      rw [← hE, ← ha] at e
      rw [← ha] at hEl
      clear hE ha ho hout
      simp [pureF, runF, e, ← hEl, hk']

end
end Go.Proofs.Ythlpmghodgiknaa.C

/-
  Dense rows: zeros, ToDense.
-/
namespace Go.Proofs.Ythlpmghodgiknaa.C
open Go Go.Ev

/-! ### Rows by their entries -/

def nilR : RF := ⟨false, true, [], false, true, []⟩
def rowR (n : Nat) (g : Nat → RF) : List (List AV) := fcs ((List.range n).map g)
@[simp] theorem rowR_length (n : Nat) (g : Nat → RF) : (rowR n g).length = n := by simp [rowR]
def upd (g : Nat → RF) (k : Nat) (f : RF) : Nat → RF := fun j => if j = k then f else g j
theorem rowR_get {n : Nat} (g : Nat → RF) {k : Nat} (h : k < n) : (rowR n g)[k]? = some (g k).cells := by simp [rowR, fcs, h]
theorem rowR_set {n : Nat} (g : Nat → RF) {k : Nat} (f : RF) : (rowR n g).set k f.cells = rowR n (upd g k f) := by
  refine List.ext_getElem (by simp) fun j h1 h2 => ?_
  simp only [List.length_set, rowR_length] at h1
  simp only [rowR, fcs, List.getElem_set, List.getElem_map, List.getElem_range, upd]
  by_cases h : k = j
  · subst h; simp
  · rw [if_neg h, if_neg (fun e => h e.symm)]
theorem fcs_four (l : List RF) (k : Nat) (h : k < (fcs l).length) : ((fcs l)[k]).length = 4 := by simp
theorem drop_four {l : List RF} {R : List (List AV)} (hR : R = fcs l) (k : Nat) (h : k < R.length) : (R[k]).drop 4 = [] := by subst hR; simp
theorem len_four {l : List RF} {R : List (List AV)} (hR : R = fcs l) (k : Nat) (h : k < R.length) : (R[k]).length = 4 := by subst hR; simp
theorem rowR_ext {n : Nat} {g g' : Nat → RF} (h : ∀ j, j < n → g j = g' j) : rowR n g = rowR n g' := by
  unfold rowR
  congr 1
  exact List.map_congr_left fun j hj => h j (List.mem_range.1 hj)
theorem rowR_nil (n : Nat) : List.replicate n [AV.bool false, .imm true 1 [], .bool false, .imm true 1 []] = rowR n fun _ => nilR := by
  refine List.ext_getElem (by simp) fun j h1 h2 => ?_
  simp [rowR, fcs, nilR, dg]
theorem keysLL_fcs : ∀ l : List RF, keysLL (fcs l) = []
  | [] => rfl
  | f :: l => by
    have := keysLL_fcs l
    simp only [fcs, List.map_cons] at this ⊢
    simp [keysLL, this, AV.keysL, AV.keys, keysLL_dg]
theorem all_fcs (l : List RF) : ((fcs l).all fun cs => decide (cs.length = 4) && cs.all AV.isCell) = true := by
  simp [fcs, AV.isCell]

/-- The row of a function of numbers. -/
def rowQ (n : Nat) (F : Nat → Rat) : List RF := (List.range n).map fun j => qF (F j)
@[simp] theorem rowQ_length (n : Nat) (F : Nat → Rat) : (rowQ n F).length = n := by simp [rowQ]
theorem rowR_rowQ (n : Nat) (F : Nat → Rat) : rowR n (fun j => qF (F j)) = fcs (rowQ n F) := rfl

def setF (F : Nat → Rat) (x : Int × Rat) : Nat → Rat := fun j => if (j : Int) = x.1 then x.2 else F j
theorem upd_qF {F : Nat → Rat} {k : Nat} {i : Int} {q : Rat} (h : i = k) : upd (fun j => qF (F j)) k (qF q) = fun j => qF (setF F (i, q) j) := by
  funext j
  unfold upd setF
  by_cases hj : j = k
  · rw [if_pos hj, if_pos (by rw [h, hj])]
  · rw [if_neg hj, if_neg (by rw [h]; omega)]

theorem findQ_none {l : List (Int × Rat)} {i : Int} (h : ∀ x ∈ l, x.1 ≠ i) : findQ l i = none := by
  induction l with
  | nil => rfl
  | cons x l ih =>
    obtain ⟨j, q⟩ := x
    have h1 : j ≠ i := h (j, q) (by simp)
    unfold findQ
    rw [if_neg h1]
    exact ih fun y hy => h y (by simp [hy])

theorem findQ_cons (x : Int × Rat) (l : List (Int × Rat)) (i : Int) : findQ (x :: l) i = if x.1 = i then some x.2 else findQ l i := rfl

theorem foldl_setF : ∀ (l : List (Int × Rat)) (F : Nat → Rat) (j : Nat), l.Pairwise (fun x y => x.1 < y.1) → l.foldl setF F j = (findQ l j).getD (F j)
  | [], _, _, _ => rfl
  | (i, q) :: r, F, j, h => by
    rw [List.pairwise_cons] at h
    rw [List.foldl_cons, foldl_setF r _ j h.2]
    rw [findQ_cons]
    by_cases hj : i = j
    · rw [if_pos hj, findQ_none fun x hx => by have := h.1 x hx; simp only at this; omega]
      simp [setF, hj]
    · rw [if_neg hj]
      congr 1
      unfold setF
      rw [if_neg (by simp only; omega)]

theorem fold_at {l : List (Int × Rat)} (h : l.Pairwise (fun x y => x.1 < y.1)) : l.foldl setF (fun _ => 0) = fun j : Nat => atQ l j := by
  funext j
  rw [foldl_setF l _ j h, findQ_at]

section
variable (G : Pure) (ic : Inl) (n : Nat)

/-! ### zeros -/

def spZeros : List AV → Option PRes
  | [.int .i64 m] => if 0 ≤ m ∧ m ≤ 4096 then some { val := .sl 0 0 m.toNat, objs := [{ sz := 4, ty := 33, es := fcs (rowQ m.toNat fun _ => 0), refs := [] }] } else none
  | _ => none

theorem zeros_loop (hZ : G 48 = spZero) (N : Nat) (hN : N ≤ 4096) : ∀ d i m, i + d = N → d < m →
    blockE (some c53_e0) 0 (iterK G ic n c53_k0 c53_b0Q m ⟨[(3, .sl 848096 0 N), (8, .int .i64 N), (9, .int .i64 i)],
      [(848096, { sz := 4, ty := 33, es := rowR N (fun j => if j < i then qF 0 else nilR), refs := [] })], [], [848096], []⟩) =
      some (.normal, ⟨[(3, .sl 848096 0 N)], [(848096, { sz := 4, ty := 33, es := fcs (rowQ N fun _ => 0), refs := [] })], [], [848096], []⟩) := by
  intro d
  induction d with
  | zero =>
    intro i m hi hm
    obtain ⟨m, rfl⟩ : ∃ i, m = i + 1 := ⟨m - 1, by omega⟩
    have e : i = N := by omega
    subst e
    have er : rowR i (fun j => if j < i then qF 0 else nilR) = fcs (rowQ i fun _ => 0) := by
      rw [← rowR_rowQ]; exact rowR_ext fun j hj => if_pos hj
    rw [er]
    simp [iterK_succ]
  | succ d ih =>
    intro i m hi hm
    obtain ⟨m, rfl⟩ : ∃ i, m = i + 1 := ⟨m - 1, by omega⟩
    have hiN : i < N := by omega
    have e1 := ih (i + 1) m (by omega) (by omega)
    have tz := sp0_at hZ
    have w5 : IntKind.i64.wrap ((i : Int) + 1) = (i : Int) + 1 := wrap64_id _ (by omega) (by omega)
    obtain ⟨z, hz⟩ : ∃ z : Rat, z = 0 := ⟨_, rfl⟩
    rw [← hz] at tz e1 ⊢
    simp only [fV_agg] at tz
    obtain ⟨R, hR⟩ : ∃ R, R = rowR N (fun j => if j < i then qF z else nilR) := ⟨_, rfl⟩
    have hRl : R.length = N := by rw [hR]; simp
    have hR4 := len_four hR
    have hRd := drop_four hR
    have hset : R.set i (qF z).cells = rowR N (fun j => if j < i + 1 then qF z else nilR) := by
      rw [hR, rowR_set]
      refine rowR_ext fun j hj => ?_
      show (if j = i then _ else if j < i then _ else _) = _
      by_cases h1 : j = i
      · rw [if_pos h1, if_pos (by omega)]
      · rw [if_neg h1]
        by_cases h2 : j < i
        · rw [if_pos h2, if_pos (by omega)]
        · rw [if_neg h2, if_neg (by omega)]
    rw [← hset] at e1
    rw [← e1, ← hR]
    clear e1 hR hset hz
    simp [iterK_succ, hiN, hRl, hR4, hRd, tz, w5, qF]

theorem zeros_run (hZ : G 48 = spZero) : FSpec (fun args n => freshF G ic n c53F args) spZeros := by
  intro args r h
  unfold spZeros at h
  split at h
  case h_2 => cases h
  rename_i m0
  obtain ⟨⟨h0, h1⟩, h2⟩ := of_ite h
  cases h2
  obtain ⟨m, rfl⟩ : ∃ m : Nat, m0 = m := ⟨m0.toNat, by omega⟩
  obtain ⟨N, hN⟩ : ∃ N, N = m + 1 := ⟨_, rfl⟩
  have e := zeros_loop G ic N hZ m (by omega) m 0 N (by omega) (by omega)
  have er : rowR m (fun j => if j < 0 then qF 0 else nilR) = rowR m (fun _ => nilR) := rowR_ext fun j hj => if_neg (by omega)
  rw [er, ← rowR_nil] at e
  simp [c53_e0, c53_k0] at e
  have b1 : (m : Int) * 64 ≤ 140737488355328 := by omega
  refine ⟨_, ⟨N, ?_⟩, rfl, rfl⟩
  simp only [Int.toNat_natCast]
  obtain ⟨R, hR⟩ : ∃ R, R = fcs (rowQ m fun _ => 0) := ⟨_, rfl⟩
  rw [← hR] at e ⊢
  clear hR
  simp [freshF, freshO, runF, b1, e, AV.dn]

theorem zeros_at {G : Pure} (hZ : G 53 = spZeros) {m : Nat} (h : m ≤ 4096) : G 53 [.int .i64 m] = some { val := .sl 0 0 m, objs := [{ sz := 4, ty := 33, es := fcs (rowQ m fun _ => 0), refs := [] }] } := by
  rw [hZ]; simp only [spZeros]; rw [if_pos ⟨by omega, by omega⟩]; simp

/-! ### ToDense -/

noncomputable def spToDense : List AV → Option PRes := sp2 vOfA i64Of fun l n =>
  if valid n (nums l) ≠ 0 then some (.tup [.imm false 4 [], .int .i64 (valid n (nums l))])
  else some (.tup [.imm false 4 (fcs (rowQ n.toNat fun j => atQ (nums l) j)), .int .i64 0])

theorem toDenseP_loop (hC : G 45 = spCanonQ) (nl : Bool) (l : List Ent) (hl : VecOk 2000000 l) (N : Nat) (hN : N ≤ 4096) (hin : ∀ e ∈ l, 0 ≤ e.1 ∧ e.1 < N) : ∀ d i m (F : Nat → Rat), i + d = l.length → d < m →
    blockE (some c26_e0) 0 (iterK G ic n c26_k0 c26_b0Q m ⟨[(7, .sl 416272 0 N), (18, .imm nl 5 (vcs l)), (19, .int .i64 l.length), (20, .int .i64 i)],
      [(416272, { sz := 4, ty := 33, es := fcs (rowQ N F), refs := [] })], [], [416272], []⟩) =
      some (.normal, ⟨[(7, .sl 416272 0 N)], [(416272, { sz := 4, ty := 33, es := fcs (rowQ N ((nums (l.drop i)).foldl setF F)), refs := [] })], [], [416272], []⟩) := by
  have hlen := hl.len
  intro d
  induction d with
  | zero =>
    intro i m F hi hm
    obtain ⟨m, rfl⟩ : ∃ i, m = i + 1 := ⟨m - 1, by omega⟩
    have e : i = l.length := by omega
    subst e
    rw [List.drop_length, nums_nil, List.foldl_nil]
    simp [iterK_succ]
  | succ d ih =>
    intro i m F hi hm
    obtain ⟨m, rfl⟩ : ∃ i, m = i + 1 := ⟨m - 1, by omega⟩
    have hil : i < l.length := by omega
    obtain ⟨e, he⟩ : ∃ e, e = l[i] := ⟨_, rfl⟩
    have hdrop : l.drop i = e :: l.drop (i + 1) := by rw [List.drop_eq_getElem_cons hil, ← he]
    have hmem : e ∈ l := by rw [he]; exact List.getElem_mem _
    have hek := hl.ents e hmem
    obtain ⟨hx0, hxN⟩ := hin e hmem
    have g := vcs_get l i hil
    rw [← he] at g
    have tc := sp1_at hC hek.fr.qOf' rfl
    have w5 : IntKind.i64.wrap ((i : Int) + 1) = (i : Int) + 1 := wrap64_id _ (by omega) (by omega)
    rw [hdrop, nums_cons, List.foldl_cons]
    have e1 := ih (i + 1) m (setF F (e.1, e.2.q)) (by omega) (by omega)
    obtain ⟨q, hq⟩ : ∃ q, q = e.2.q := ⟨_, rfl⟩
    rw [← hq] at tc e1 ⊢
    simp only [fV_agg] at tc
    obtain ⟨k, hk⟩ : ∃ k : Nat, e.1 = k := ⟨e.1.toNat, by omega⟩
    have hkN : k < N := by omega
    obtain ⟨R, hR⟩ : ∃ R, R = fcs (rowQ N F) := ⟨_, rfl⟩
    have hRl : R.length = N := by rw [hR]; simp
    have hR4 := len_four hR
    have hRd := drop_four hR
    have hset : R.set k (qF q).cells = fcs (rowQ N (setF F (e.1, q))) := by
      rw [hR, ← rowR_rowQ, rowR_set, upd_qF hk, rowR_rowQ]
    rw [← hset] at e1
    rw [← e1, ← hR]
    clear e1 hR hset hq
    simp [iterK_succ, hil, g, tc, ← he, w5, hk, hkN, hRl, hR4, hRd, qF]

theorem toDenseP_run (hV : G 12 = spValidate) (hC : G 45 = spCanonQ) (hZ : G 53 = spZeros) : FSpec (fun args n => pureF G ic n c26F args) spToDense := by
  intro args r h
  obtain ⟨a, b, l, nn, v, rfl, hx, hy, hv, rfl⟩ := sp2_inv h
  have t0 := sp2_at hV hx hy rfl
  obtain ⟨nl, rfl, hl⟩ := vOfA_inv hx
  obtain ⟨rfl, n0, n1⟩ := i64Of_inv hy
  by_cases h0 : valid nn (nums l) ≠ 0
  · rw [if_pos h0] at hv
    cases hv
    refine ⟨{ val := .tup [.imm true 4 [], .int .i64 (valid nn (nums l))] }, ⟨0, ?_⟩, rfl, by simp [AV.weak, AV.weakL, AV.weakLL]⟩
    obtain ⟨vv, hvv⟩ : ∃ vv, vv = valid nn (nums l) := ⟨_, rfl⟩
    rw [← hvv] at t0 h0 ⊢
    simp [pureF, runF, t0, h0, bne]
  · rw [if_neg h0] at hv
    cases hv
    have h00 : valid nn (nums l) = 0 := by simpa using h0
    obtain ⟨g0, g1, g2⟩ := valid_ok h00
    obtain ⟨g3, g4⟩ := valE_good _ _ _ g2
    obtain ⟨k, rfl⟩ : ∃ k : Nat, nn = k := ⟨nn.toNat, by omega⟩
    rw [h00] at t0
    have tz := zeros_at hZ (m := k) (by omega)
    obtain ⟨N, hN⟩ : ∃ N, N = l.length + 1 := ⟨_, rfl⟩
    have e := toDenseP_loop G ic N hC nl l hl k (by omega) (fun e he => by
      have := g3 (e.1, e.2.q) (List.mem_map_of_mem he)
      exact ⟨this.1, this.2.1⟩) l.length 0 N (fun _ => 0) (by omega) (by omega)
    rw [List.drop_zero, fold_at g4] at e
    simp [c26_e0, c26_k0] at e
    obtain ⟨Z, hZ⟩ : ∃ Z, Z = fcs (rowQ k fun _ => 0) := ⟨_, rfl⟩
    have hZl : Z.length = k := by rw [hZ]; simp
    obtain ⟨R, hR⟩ : ∃ R, R = fcs (rowQ k fun j => atQ (nums l) j) := ⟨_, rfl⟩
    have hRl : R.length = k := by rw [hR]; simp
    refine ⟨{ val := .tup [.imm false 4 R, .int .i64 0] }, ⟨N, ?_⟩, rfl, by
      rw [hR, rowQ]; simp [AV.weak, AV.weakL]
      have := fcs_qF_weak ((List.range k).map fun j : Nat => atQ (nums l) j)
      rw [List.map_map] at this
      exact this.symm⟩
    rw [← hZ] at tz e
    rw [← hR] at e
    clear hZ hR
    have hT : R.take k = R := by rw [← hRl, List.take_length]
    simp [pureF, runF, t0, tz, e, bne, hRl, hT]

/-- The same, as a row of its own. -/
noncomputable def spToDenseF : List AV → Option PRes
  | [a, b] => match vOfA a, i64Of b with
    | some l, some n =>
      if valid n (nums l) ≠ 0 then some { val := .tup [.imm false 4 [], .int .i64 (valid n (nums l))] }
      else some { val := .tup [.sl 0 0 n.toNat, .int .i64 0], objs := [{ sz := 4, ty := 33, es := fcs (rowQ n.toNat fun j => atQ (nums l) j), refs := [] }] }
    | _, _ => none
  | _ => none

theorem toDenseR_loop (hC : G 33 = spAt) (nl : Bool) (l : List Ent) (hl : VecOk 2000000 l) (N : Nat) (hN : N ≤ 4096) : ∀ d i m, i + d = N → d < m →
    blockE (some c30_e0) 0 (iterK G ic n c30_k0 c30_b0Q m ⟨[(0, .imm nl 5 (vcs l)), (1, .int .i64 N), (7, .sl 480256 0 N), (8, .int .i64 i)],
      [(480256, { sz := 4, ty := 33, es := rowR N (fun j => if j < i then qF (atQ (nums l) j) else nilR), refs := [] })], [], [480256], []⟩) =
      some (.normal, ⟨[(7, .sl 480256 0 N)], [(480256, { sz := 4, ty := 33, es := fcs (rowQ N fun j => atQ (nums l) j), refs := [] })], [], [480256], []⟩) := by
  intro d
  induction d with
  | zero =>
    intro i m hi hm
    obtain ⟨m, rfl⟩ : ∃ i, m = i + 1 := ⟨m - 1, by omega⟩
    have e : i = N := by omega
    subst e
    have er : rowR i (fun j => if j < i then qF (atQ (nums l) j) else nilR) = fcs (rowQ i fun j => atQ (nums l) j) := by
      rw [← rowR_rowQ]; exact rowR_ext fun j hj => if_pos hj
    rw [er]
    simp [iterK_succ]
  | succ d ih =>
    intro i m hi hm
    obtain ⟨m, rfl⟩ : ∃ i, m = i + 1 := ⟨m - 1, by omega⟩
    have hiN : i < N := by omega
    have e1 := ih (i + 1) m (by omega) (by omega)
    have tz := sp2_at hC (vOfA_mk (nl := nl) hl) (i64Of_mk (n := (i : Int)) (by omega) (by omega)) rfl
    have w5 : IntKind.i64.wrap ((i : Int) + 1) = (i : Int) + 1 := wrap64_id _ (by omega) (by omega)
    obtain ⟨R, hR⟩ : ∃ R, R = rowR N (fun j => if j < i then qF (atQ (nums l) j) else nilR) := ⟨_, rfl⟩
    have hRl : R.length = N := by rw [hR]; simp
    have hR4 := len_four hR
    have hRd := drop_four hR
    have hset : R.set i (qF (atQ (nums l) i)).cells = rowR N (fun j => if j < i + 1 then qF (atQ (nums l) j) else nilR) := by
      rw [hR, rowR_set]
      refine rowR_ext fun j hj => ?_
      show (if j = i then _ else if j < i then _ else _) = _
      by_cases h1 : j = i
      · rw [if_pos h1, if_pos (by omega), h1]
      · rw [if_neg h1]
        by_cases h2 : j < i
        · rw [if_pos h2, if_pos (by omega)]
        · rw [if_neg h2, if_neg (by omega)]
    rw [← hset] at e1
    rw [← e1, ← hR]
    clear e1 hR hset
    obtain ⟨q, hq⟩ : ∃ q, q = atQ (nums l) (i : Int) := ⟨_, rfl⟩
    rw [← hq] at tz ⊢
    simp only [fV_agg] at tz
    clear hq
    simp [iterK_succ, hiN, hRl, hR4, hRd, tz, w5, qF]

theorem toDenseR_run (hV : G 13 = spValidate) (hC : G 33 = spAt) : FSpec (fun args n => freshF G ic n c30F args) spToDenseF := by
  intro args r h
  unfold spToDenseF at h
  split at h
  case h_2 => cases h
  rename_i a b
  split at h
  case h_2 => cases h
  rename_i l nn hx hy
  have t0 := sp2_at hV hx hy rfl
  obtain ⟨nl, rfl, hl⟩ := vOfA_inv hx
  obtain ⟨rfl, n0, n1⟩ := i64Of_inv hy
  by_cases h0 : valid nn (nums l) ≠ 0
  · rw [if_pos h0] at h
    cases h
    refine ⟨{ val := .tup [.imm true 4 [], .int .i64 (valid nn (nums l))] }, ⟨0, ?_⟩, rfl, by simp [AV.weak, AV.weakL, AV.weakLL]⟩
    obtain ⟨vv, hvv⟩ : ∃ vv, vv = valid nn (nums l) := ⟨_, rfl⟩
    rw [← hvv] at t0 h0 ⊢
    simp [freshF, freshO, runF, t0, h0, bne]
  · rw [if_neg h0] at h
    cases h
    have h00 : valid nn (nums l) = 0 := by simpa using h0
    obtain ⟨g0, g1, g2⟩ := valid_ok h00
    obtain ⟨k, rfl⟩ : ∃ k : Nat, nn = k := ⟨nn.toNat, by omega⟩
    rw [h00] at t0
    obtain ⟨N, hN⟩ : ∃ N, N = k + 1 := ⟨_, rfl⟩
    have e := toDenseR_loop G ic N hC nl l hl k (by omega) k 0 N (by omega) (by omega)
    have er : rowR k (fun j => if j < 0 then qF (atQ (nums l) j) else nilR) = rowR k (fun _ => nilR) := rowR_ext fun j hj => if_neg (by omega)
    rw [er, ← rowR_nil] at e
    simp [c30_e0, c30_k0] at e
    have b1 : (k : Int) * 64 ≤ 140737488355328 := by omega
    refine ⟨_, ⟨N, ?_⟩, rfl, rfl⟩
    simp only [Int.toNat_natCast]
    obtain ⟨R, hR⟩ : ∃ R, R = fcs (rowQ k fun j => atQ (nums l) j) := ⟨_, rfl⟩
    rw [← hR] at e ⊢
    clear hR
    simp [freshF, freshO, runF, b1, t0, e, AV.dn, AV.dnL, bne]

end
end Go.Proofs.Ythlpmghodgiknaa.C

/-
  Sums of vectors: the plain law; the program's AddScaled and Scale.
-/
namespace Go.Proofs.Ythlpmghodgiknaa.C
open Go Go.Ev

/-! ### Canonical lists -/

/-- Sorted, with indices in [lo, hi), no value 0. -/
structure Cn (lo hi : Int) (l : List (Int × Rat)) : Prop where
  el : ∀ x ∈ l, lo ≤ x.1 ∧ x.1 < hi ∧ x.2 ≠ 0
  so : l.Pairwise fun x y => x.1 < y.1

theorem Cn.tail {lo hi : Int} {x : Int × Rat} {l : List (Int × Rat)} (h : Cn lo hi (x :: l)) : Cn (x.1 + 1) hi l :=
  ⟨fun y hy => ⟨by have := (List.pairwise_cons.1 h.so).1 y hy; omega, (h.el y (by simp [hy])).2⟩, (List.pairwise_cons.1 h.so).2⟩
theorem Cn.nil (lo hi : Int) : Cn lo hi [] := ⟨by simp, List.Pairwise.nil⟩
theorem Cn.cons {lo hi i : Int} {q : Rat} {l : List (Int × Rat)} (h : Cn (i + 1) hi l) (h1 : lo ≤ i) (h2 : i < hi) (h3 : q ≠ 0) : Cn lo hi ((i, q) :: l) :=
  ⟨fun y hy => by
    rcases List.mem_cons.1 hy with rfl | hy
    · exact ⟨h1, h2, h3⟩
    · have := h.el y hy; exact ⟨by omega, this.2⟩, List.pairwise_cons.2 ⟨fun y hy => by have := (h.el y hy).1; simp only; omega, h.so⟩⟩
theorem Cn.mono {lo lo' hi : Int} {l : List (Int × Rat)} (h : Cn lo hi l) (hl : lo' ≤ lo) : Cn lo' hi l := ⟨fun x hx => ⟨Int.le_trans hl (h.el x hx).1, (h.el x hx).2⟩, h.so⟩
theorem Cn.at_lo {lo hi i : Int} {l : List (Int × Rat)} (h : Cn lo hi l) (hi : i < lo) : atQ l i = 0 := atQ_none fun x hx => by have := (h.el x hx).1; omega
theorem Cn.at_hi {lo hi i : Int} {l : List (Int × Rat)} (h : Cn lo hi l) (hi : hi ≤ i) : atQ l i = 0 := atQ_none fun x hx => by have := (h.el x hx).2.1; omega
theorem atQ_cons (x : Int × Rat) (l : List (Int × Rat)) (i : Int) : atQ (x :: l) i = if x.1 = i then x.2 else atQ l i := rfl

theorem Cn_ext : ∀ (l m : List (Int × Rat)) {lo hi : Int}, Cn lo hi l → Cn lo hi m → (∀ i, atQ l i = atQ m i) → l = m
  | [], [], _, _, _, _, _ => rfl
  | [], y :: m, lo, hi, _, hm, h => by
    have := h y.1
    rw [atQ_cons, if_pos rfl] at this
    exact absurd this.symm (hm.el y (by simp)).2.2
  | x :: l, [], lo, hi, hl, _, h => by
    have := h x.1
    rw [atQ_cons, if_pos rfl] at this
    exact absurd this (hl.el x (by simp)).2.2
  | x :: l, y :: m, lo, hi, hl, hm, h => by
    have hx := hl.el x (by simp)
    have hy := hm.el y (by simp)
    have h1 := h x.1
    have h2 := h y.1
    rw [atQ_cons, if_pos rfl, atQ_cons] at h1
    rw [atQ_cons, atQ_cons (x := y), if_pos rfl] at h2
    have e1 : x.1 = y.1 := by
      rcases Int.lt_trichotomy x.1 y.1 with c | c | c
      · rw [if_neg (by omega), hm.tail.at_lo (by omega)] at h1
        exact absurd h1 hx.2.2
      · exact c
      · rw [if_neg (by omega), hl.tail.at_lo (by omega)] at h2
        exact absurd h2.symm hy.2.2
    rw [if_pos e1.symm] at h1
    have exy : x = y := Prod.ext e1 h1
    subst exy
    rw [Cn_ext l m hl.tail hm.tail fun i => ?_]
    by_cases hi : x.1 = i
    · rw [hl.tail.at_lo (by omega), hm.tail.at_lo (by omega)]
    · have := h i
      rw [atQ_cons, atQ_cons, if_neg hi, if_neg hi] at this
      exact this

theorem gath_cn : ∀ (i : Int) (L : List Rat), Cn i (i + L.length) (gath i L)
  | i, [] => Cn.nil _ _
  | i, q :: r => by
    have h := gath_cn (i + 1) r
    have e : i + 1 + (r.length : Int) = i + ((q :: r).length : Int) := by simp only [List.length_cons]; omega
    rw [e] at h
    by_cases h0 : q = 0
    · rw [gath_zero h0]; exact h.mono (by omega)
    · rw [gath_next h0]; exact h.cons (Int.le_refl _) (by simp only [List.length_cons]; omega) h0

theorem gath_at : ∀ (L : List Rat) (i : Int) (j : Nat), atQ (gath i L) (i + j) = L.getD j 0
  | [], i, j => rfl
  | q :: r, i, 0 => by
    by_cases h0 : q = 0
    · rw [gath_zero h0, (gath_cn (i + 1) r).at_lo (by omega)]; simp [h0]
    · rw [gath_next h0, atQ_cons, if_pos (by simp)]; simp
  | q :: r, i, j + 1 => by
    have h := gath_at r (i + 1) j
    have e : i + 1 + (j : Int) = i + ((j + 1 : Nat) : Int) := by omega
    rw [e] at h
    by_cases h0 : q = 0
    · rw [gath_zero h0, h]; simp
    · rw [gath_next h0, atQ_cons, if_neg (by simp only; omega), h]; simp

/-- The canonical list of a function. -/
def gathF (n : Nat) (F : Nat → Rat) : List (Int × Rat) := gath 0 ((List.range n).map F)
theorem gathF_cn (n : Nat) (F : Nat → Rat) : Cn 0 n (gathF n F) := by
  have := gath_cn 0 ((List.range n).map F)
  rw [List.length_map, List.length_range, Int.zero_add] at this
  exact this
theorem gathF_at {n : Nat} {F : Nat → Rat} {j : Nat} (h : j < n) : atQ (gathF n F) j = F j := by
  have := gath_at ((List.range n).map F) 0 j
  rw [Int.zero_add] at this
  unfold gathF
  rw [this]
  simp [h]
theorem Cn.gathF {n : Nat} {l : List (Int × Rat)} (h : Cn 0 n l) {F : Nat → Rat} (hF : ∀ j : Nat, j < n → atQ l j = F j) : l = gathF n F := by
  refine Cn_ext _ _ h (gathF_cn n F) fun i => ?_
  by_cases h0 : i < 0
  · rw [h.at_lo h0, (gathF_cn n F).at_lo h0]
  · by_cases h1 : (n : Int) ≤ i
    · rw [h.at_hi h1, (gathF_cn n F).at_hi h1]
    · obtain ⟨j, rfl⟩ : ∃ j : Nat, i = j := ⟨i.toNat, by omega⟩
      rw [hF j (by omega), gathF_at (by omega)]

/-! ### Merging -/

def one (i : Int) (q : Rat) : List (Int × Rat) := if q = 0 then [] else [(i, q)]

/-- The sum of 'a' and 'k' times 'b', by merging. -/
def mrg (k : Rat) : List (Int × Rat) → List (Int × Rat) → List (Int × Rat)
  | [], [] => []
  | x :: a, [] => one x.1 x.2 ++ mrg k a []
  | [], y :: b => one y.1 (k * y.2) ++ mrg k [] b
  | x :: a, y :: b => if x.1 < y.1 then one x.1 x.2 ++ mrg k a (y :: b) else if y.1 < x.1 then one y.1 (k * y.2) ++ mrg k (x :: a) b else one x.1 (x.2 + k * y.2) ++ mrg k a b
termination_by a b => a.length + b.length

theorem mrg_nn (k : Rat) : mrg k [] [] = [] := by rw [mrg]
theorem mrg_cn (k : Rat) (x : Int × Rat) (a : List (Int × Rat)) : mrg k (x :: a) [] = one x.1 x.2 ++ mrg k a [] := by rw [mrg]
theorem mrg_nc (k : Rat) (y : Int × Rat) (b : List (Int × Rat)) : mrg k [] (y :: b) = one y.1 (k * y.2) ++ mrg k [] b := by rw [mrg]
theorem mrg_lt {k : Rat} {x y : Int × Rat} {a b : List (Int × Rat)} (h : x.1 < y.1) : mrg k (x :: a) (y :: b) = one x.1 x.2 ++ mrg k a (y :: b) := by rw [mrg, if_pos h]
theorem mrg_gt {k : Rat} {x y : Int × Rat} {a b : List (Int × Rat)} (h : y.1 < x.1) : mrg k (x :: a) (y :: b) = one y.1 (k * y.2) ++ mrg k (x :: a) b := by rw [mrg, if_neg (by omega), if_pos h]
theorem mrg_eq {k : Rat} {x y : Int × Rat} {a b : List (Int × Rat)} (h : x.1 = y.1) : mrg k (x :: a) (y :: b) = one x.1 (x.2 + k * y.2) ++ mrg k a b := by rw [mrg, if_neg (by omega), if_neg (by omega)]

theorem one_cn {lo hi i : Int} {q : Rat} {l : List (Int × Rat)} (h : Cn (i + 1) hi l) (h1 : lo ≤ i) (h2 : i < hi) : Cn lo hi (one i q ++ l) := by
  unfold one
  split
  · exact h.mono (by omega)
  · rename_i h3; exact h.cons h1 h2 h3
theorem one_at {hi i j : Int} {q : Rat} {l : List (Int × Rat)} (h : Cn (i + 1) hi l) : atQ (one i q ++ l) j = if i = j then q else atQ l j := by
  unfold one
  split
  · rename_i h0
    rw [List.nil_append]
    split
    · rename_i hij; rw [h.at_lo (by omega), h0]
    · rfl
  · rfl

theorem mrg_good (k : Rat) : ∀ (n : Nat) (a b : List (Int × Rat)) (lo hi : Int), a.length + b.length ≤ n → Cn lo hi a → Cn lo hi b → Cn lo hi (mrg k a b) ∧ ∀ j, atQ (mrg k a b) j = atQ a j + k * atQ b j := by
  intro n
  induction n with
  | zero =>
    intro a b lo hi hn ha hb
    have e1 : a = [] := List.length_eq_zero_iff.1 (by omega)
    have e2 : b = [] := List.length_eq_zero_iff.1 (by omega)
    subst e1; subst e2
    rw [mrg_nn]
    exact ⟨ha, fun j => by simp [atQ, Rat.mul_zero, Rat.add_zero]⟩
  | succ n ih =>
    intro a b lo hi hn ha hb
    have mk : ∀ (i : Int) (q : Rat) (a' b' : List (Int × Rat)), a'.length + b'.length ≤ n → Cn (i + 1) hi a' → Cn (i + 1) hi b' → lo ≤ i → i < hi → (∀ j, (if i = j then q else atQ a' j + k * atQ b' j) = atQ a j + k * atQ b j) →
        Cn lo hi (one i q ++ mrg k a' b') ∧ ∀ j, atQ (one i q ++ mrg k a' b') j = atQ a j + k * atQ b j := fun i q a' b' h1 h2 h3 h4 h5 h6 => by
      obtain ⟨g1, g2⟩ := ih a' b' (i + 1) hi h1 h2 h3
      refine ⟨one_cn g1 h4 h5, fun j => ?_⟩
      rw [one_at g1, g2, h6]
    match a, b with
    | [], [] => rw [mrg_nn]; exact ⟨ha, fun j => by simp [atQ, Rat.mul_zero, Rat.add_zero]⟩
    | x :: a, [] =>
      rw [mrg_cn]
      have hx := ha.el x (by simp)
      refine mk _ _ _ _ (by simp at hn ⊢; omega) ha.tail (Cn.nil _ _) hx.1 hx.2.1 fun j => ?_
      rw [atQ_cons]
      split <;> simp [atQ, Rat.mul_zero, Rat.add_zero, Rat.zero_add]
    | [], y :: b =>
      rw [mrg_nc]
      have hx := hb.el y (by simp)
      refine mk _ _ _ _ (by simp at hn ⊢; omega) (Cn.nil _ _) hb.tail hx.1 hx.2.1 fun j => ?_
      rw [atQ_cons]
      split <;> simp [atQ, Rat.mul_zero, Rat.add_zero, Rat.zero_add]
    | x :: a, y :: b =>
      have hx := ha.el x (by simp)
      have hy := hb.el y (by simp)
      rcases Int.lt_trichotomy x.1 y.1 with c | c | c
      · rw [mrg_lt c]
        have hb' : Cn (x.1 + 1) hi (y :: b) := ⟨fun z hz => by
          rcases List.mem_cons.1 hz with rfl | hz
          · exact ⟨by omega, hy.2⟩
          · have := hb.tail.el z hz; exact ⟨by omega, this.2⟩, hb.so⟩
        refine mk _ _ _ _ (by simp at hn ⊢; omega) ha.tail hb' hx.1 hx.2.1 fun j => ?_
        rw [atQ_cons (x := x)]
        by_cases hj : x.1 = j
        · rw [if_pos hj, if_pos hj, hb'.at_lo (by omega), Rat.mul_zero, Rat.add_zero]
        · rw [if_neg hj, if_neg hj]
      · rw [mrg_eq c]
        refine mk _ _ _ _ (by simp at hn ⊢; omega) ha.tail (c ▸ hb.tail) hx.1 hx.2.1 fun j => ?_
        rw [atQ_cons, atQ_cons]
        by_cases hj : x.1 = j
        · rw [if_pos hj, if_pos hj, if_pos (by omega)]
        · rw [if_neg hj, if_neg hj, if_neg (by omega)]
      · rw [mrg_gt c]
        have ha' : Cn (y.1 + 1) hi (x :: a) := ⟨fun z hz => by
          rcases List.mem_cons.1 hz with rfl | hz
          · exact ⟨by omega, hx.2⟩
          · have := ha.tail.el z hz; exact ⟨by omega, this.2⟩, ha.so⟩
        refine mk _ _ _ _ (by simp at hn ⊢; omega) ha' hb.tail hy.1 hy.2.1 fun j => ?_
        rw [atQ_cons (x := y)]
        by_cases hj : y.1 = j
        · rw [if_pos hj, if_pos hj, ha'.at_lo (by omega), Rat.zero_add]
        · rw [if_neg hj, if_neg hj]

theorem valid_cn {n : Int} {l : List (Int × Rat)} (h : valid n l = 0) : Cn 0 n l := by
  obtain ⟨_, _, g⟩ := valid_ok h
  obtain ⟨h1, h2⟩ := valE_good _ _ _ g
  exact ⟨fun x hx => ⟨(h1 x hx).1, (h1 x hx).2.1, (h1 x hx).2.2.1⟩, h2⟩

/-- The sum of 'a' and 'k' times 'b'. -/
def addL (n : Int) (a b : List (Int × Rat)) (k : Rat) : List (Int × Rat) := gathF n.toNat fun j => atQ a j + k * atQ b j

theorem mrg_addL {n : Int} {a b : List (Int × Rat)} (h0 : 0 ≤ n) (ha : Cn 0 n a) (hb : Cn 0 n b) (k : Rat) : mrg k a b = addL n a b k := by
  obtain ⟨g1, g2⟩ := mrg_good k (a.length + b.length) a b 0 n (Nat.le_refl _) ha hb
  obtain ⟨m, rfl⟩ : ∃ m : Nat, n = m := ⟨n.toNat, by omega⟩
  exact Cn.gathF g1 fun j _ => g2 j

open Classical in
noncomputable def spAddScaled : List AV → Option PRes := sp4 vOfA vOfA qOf i64Of fun a b k n =>
  if errB n (nums a) (nums b) ≠ 0 then some (.tup [.imm false 5 [], .int .i64 (errB n (nums a) (nums b))])
  else if ∃ K, 1 ≤ K ∧ (∀ e ∈ a, e.2.ok K) ∧ (∀ e ∈ b, e.2.ok K) ∧ Sz K k ∧ 4 * K + 4 < 2000000 then some (.tup [.imm false 5 (vcs (vF (addL n (nums a) (nums b) k))), .int .i64 0])
  else none

section
variable (G : Pure) (ic : Inl) (n : Nat)

/-! ### The closure -/

/-- The rows while the sum grows. -/
def adH (kc : List AV) : List (Int × Rat) → List (Nat × Ev.Obj)
  | [] => [(256096, { sz := 4, ty := 33, es := [kc], refs := [] }), (256176, { sz := 1, ty := 23, es := [[.imm true 5 []]], refs := [] })]
  | x :: r => [(256096, { sz := 4, ty := 33, es := [kc], refs := [] }), (256176, { sz := 1, ty := 23, es := [[.sl 704224 0 (r.length + 1)]], refs := [704224] }),
      (704224, { sz := 5, ty := 51, es := vcs (vF (x :: r)), refs := [] })]
def adOwn : List (Int × Rat) → List Nat
  | [] => []
  | _ :: _ => [704224]
theorem adH_ne {kc : List AV} {l : List (Int × Rat)} (h : l ≠ []) : adH kc l = [(256096, { sz := 4, ty := 33, es := [kc], refs := [] }), (256176, { sz := 1, ty := 23, es := [[.sl 704224 0 l.length]], refs := [704224] }),
      (704224, { sz := 5, ty := 51, es := vcs (vF l), refs := [] })] := by
  cases l with
  | nil => exact absurd rfl h
  | cons x r => rfl
theorem adOwn_ne {l : List (Int × Rat)} (h : l ≠ []) : adOwn l = [704224] := by
  cases l with
  | nil => exact absurd rfl h
  | cons x r => rfl

theorem addI_at {ic0 : Inl} (hS : G 40 = spSignFrac) (hC : G 45 = spCanonQ) (kc : List AV) (l : List (Int × Rat)) (i : Int) (f : RF) (hf : f.ok 2000000) (hl : l.length < 1000000000) :
    ∃ o c, inlD G ic0 0 c44F [704064] [.int .i64 i, .agg [.bool f.s1, .imm f.l1 1 (dg f.d1), .bool f.s2, .imm f.l2 1 (dg f.d2)], .ptr 256176 0 0] (adH kc l) [] = some { val := .tup [], heap := adH kc (l ++ one i f.q), frz := [], own := o, scr := c } ∧
      o ++ adOwn l = adOwn (l ++ one i f.q) ∧ 256096 ∉ c ∧ 256176 ∉ c := by
  have ts := sp1_at hS hf.qOf' rfl
  have tc := sp1_at hC hf.qOf' rfl
  obtain ⟨q, hq⟩ : ∃ q, q = f.q := ⟨_, rfl⟩
  rw [← hq] at ts tc ⊢
  simp only [fV_agg] at tc
  clear hq
  by_cases h0 : q = 0
  · rw [(num_zero_cmp _).2 h0] at ts
    unfold one
    rw [if_pos h0, List.append_nil]
    refine ⟨[], [], ?_, by simp, by simp, by simp⟩
    cases l with
    | nil => simp [inlD, runF, ts, adH, packA, ownOk, dropOkH, dropKeys]
    | cons x r => simp [inlD, runF, ts, adH, packA, ownOk, dropOkH, dropKeys]
  · have hc : ¬ cmpZ q.num 0 = 0 := fun h => h0 ((num_zero_cmp _).1 h)
    unfold one
    rw [if_neg h0]
    cases hl0 : l with
    | nil =>
      refine ⟨[704224], [], ?_, by simp [adOwn], by simp, by simp⟩
      simp [inlD, runF, ts, tc, hc, adH, packA, ownOk, dropOkH, dropKeys, vF, vcs, qF]
    | cons x r =>
      rw [← hl0]
      have hne : l ≠ [] := by rw [hl0]; simp
      refine ⟨[], [704224], ?_, by rw [adOwn_ne hne, adOwn_ne (by simp)]; rfl, by simp, by simp⟩
      rw [adH_ne hne, adH_ne (by simp), vF_append, vcs_append, List.length_append]
      obtain ⟨E, hE⟩ : ∃ E, E = vcs (vF l) := ⟨_, rfl⟩
      obtain ⟨a, ha⟩ : ∃ a, a = l.length := ⟨_, rfl⟩
      have hEl : E.length = a := by rw [hE, ha]; simp
      have hb : (a + 1) * 72 ≤ 140737488355328 := by omega
      rw [← hE, ← ha]
      clear hE ha
      simp [inlD, runF, ts, tc, hc, packA, ownOk, dropOkH, dropKeys, hEl, hb, vF, vcs, qF]

end
end Go.Proofs.Ythlpmghodgiknaa.C

/-
  The program's AddScaled and Scale.
-/
namespace Go.Proofs.Ythlpmghodgiknaa.C
open Go Go.Ev

section
variable (G : Pure) (ic : Inl) (n : Nat)

theorem vcs_cons (e : Ent) (l : List Ent) : vcs (e :: l) = ecells e :: vcs l := rfl

theorem adH_six (kc : List AV) (l : List (Int × Rat)) : afind (adH kc l) 256096 = some { sz := 4, ty := 33, es := [kc], refs := [] } := by
  cases l <;> simp [adH]

theorem addScaledP_loop {G0 : Pure} {ic0 : Inl} (hI : ic 44 = inlD G0 ic0 0 c44F [704064]) (hS : G0 40 = spSignFrac) (hC : G0 45 = spCanonQ)
    (hA : G 47 = spAddFrac) (hM : G 46 = spMulFrac) (kf : RF) (hkf : kf.ok 2000000) (K : Nat) (hK1 : 1 ≤ K) (hK : 4 * K + 4 < 2000000) (hkK : Sz K kf.q) :
    ∀ t (a b : List Ent) (na nb : Bool) (l : List (Int × Rat)) m reb, a.length + b.length ≤ t → t < m → l.length + t < 1000000000 → (∀ e ∈ a, e.2.ok K) → (∀ e ∈ b, e.2.ok K) → ∃ reb',
    blockE (some c16_e0) 0 (iterK G ic n c16_k0 c16_b0Q m ⟨[(0, .imm na 5 (vcs a)), (1, .imm nb 5 (vcs b)), (6, .ptr 256096 0 0), (11, .ptr 256176 0 0), (12, .fn 44 [.ptr 256176 0 0])],
      adH kf.cells l, [], adOwn l ++ [256176, 256096], reb⟩) =
      some (.normal, ⟨[(11, .ptr 256176 0 0)], adH kf.cells (l ++ mrg kf.q (nums a) (nums b)), [], adOwn (l ++ mrg kf.q (nums a) (nums b)) ++ [256176, 256096], reb'⟩) := by
  intro t
  induction t with
  | zero =>
    intro a b na nb l m reb ht hm hl ha hb
    obtain ⟨m, rfl⟩ : ∃ i, m = i + 1 := ⟨m - 1, by omega⟩
    have e1 : a = [] := List.length_eq_zero_iff.1 (by omega)
    have e2 : b = [] := List.length_eq_zero_iff.1 (by omega)
    subst e1; subst e2
    refine ⟨reb, ?_⟩
    rw [nums_nil, mrg_nn, List.append_nil]
    obtain ⟨H, hH⟩ : ∃ H, H = adH kf.cells l := ⟨_, rfl⟩
    obtain ⟨W, hW⟩ : ∃ W, W = adOwn l ++ [256176, 256096] := ⟨_, rfl⟩
    rw [← hH, ← hW]
    simp [iterK_succ, vcs]
  | succ t ih =>
    intro a b na nb l m reb ht hm hl ha hb
    obtain ⟨m, rfl⟩ : ∃ i, m = i + 1 := ⟨m - 1, by omega⟩
    have h6 := adH_six kf.cells l
    have one_len : ∀ (i : Int) (q : Rat), (l ++ one i q).length ≤ l.length + 1 := fun i q => by unfold one; split <;> simp
    match a, b with
    | [], [] =>
      refine ⟨reb, ?_⟩
      rw [nums_nil, mrg_nn, List.append_nil]
      obtain ⟨H, hH⟩ : ∃ H, H = adH kf.cells l := ⟨_, rfl⟩
      obtain ⟨W, hW⟩ : ∃ W, W = adOwn l ++ [256176, 256096] := ⟨_, rfl⟩
      rw [← hH, ← hW]
      simp [iterK_succ, vcs]
    | e :: a, [] =>
      have he : e.2.ok K := ha e (by simp)
      obtain ⟨o, c, s1, s2, s3, s4⟩ := addI_at G0 (ic0 := ic0) hS hC kf.cells l e.1 e.2 (he.mono (by omega)) (by omega)
      have hlen := one_len e.1 e.2.q
      obtain ⟨reb', e1⟩ := ih a [] na nb (l ++ one e.1 e.2.q) m (c ++ reb) (by simp at ht ⊢; omega) (by omega) (by omega) (fun x hx => ha x (by simp [hx])) (by simp)
      refine ⟨reb', ?_⟩
      rw [nums_cons, nums_nil, mrg_cn, ← List.append_assoc]
      rw [nums_nil] at e1
      rw [← e1]
      obtain ⟨H, hH⟩ : ∃ H, H = adH kf.cells l := ⟨_, rfl⟩
      obtain ⟨W, hW⟩ : ∃ W, W = adOwn l ++ [256176, 256096] := ⟨_, rfl⟩
      obtain ⟨H', hH'⟩ : ∃ H, H = adH kf.cells (l ++ one e.1 e.2.q) := ⟨_, rfl⟩
      obtain ⟨W', hW'⟩ : ∃ W, W = adOwn (l ++ one e.1 e.2.q) ++ [256176, 256096] := ⟨_, rfl⟩
      have ho : o ++ W = W' := by rw [hW, hW', ← s2, List.append_assoc]
      rw [← hI, ← hH, ← hH'] at s1
      rw [← hH, ← hW, ← hH', ← hW']
      rw [← hH] at h6
      clear e1 hH hW hH' hW' ih s2
      rw [vcs_cons]
      obtain ⟨A, hA0⟩ : ∃ A, A = vcs a := ⟨_, rfl⟩
      have hAl : A.length = a.length := by rw [hA0]; simp
      have hAT : A.take a.length = A := by rw [← hAl, List.take_length]
      rw [← hA0]
      clear hA0
      have p1a : (0 : Int) < (a.length : Int) + 1 := by omega
      have p2a : (1 : Int) ≤ (a.length : Int) + 1 := by omega
      have p3a : ((a.length : Int) + 1).toNat = a.length + 1 := by omega
      have p4a : ¬ (a.length : Int) + 1 = 0 := by omega
      simp [iterK_succ, s1, s3, s4, ho, h6, vcs, p1a, p2a, p3a, p4a, hAl, hAT]
    | [], f :: b =>
      have hf : f.2.ok K := hb f (by simp)
      have hp := Sz_mul hkK (Sz_RF hf) hK1
      have tm := sp2_at hM hkf.qOf' ((hf.mono (by omega) : f.2.ok 2000000)).qOf' rfl
      obtain ⟨p, hpe⟩ : ∃ p, p = kf.q * f.2.q := ⟨_, rfl⟩
      rw [← hpe] at hp tm
      simp only [fV_agg] at tm
      obtain ⟨o, c, s1, s2, s3, s4⟩ := addI_at G0 (ic0 := ic0) hS hC kf.cells l f.1 (qF p) (qF_ok hp (by omega)) (by omega)
      rw [qF_q] at s1 s2
      have hlen := one_len f.1 p
      obtain ⟨reb', e1⟩ := ih [] b na nb (l ++ one f.1 p) m (c ++ reb) (by simp at ht ⊢; omega) (by omega) (by omega) (by simp) (fun x hx => hb x (by simp [hx]))
      refine ⟨reb', ?_⟩
      rw [nums_cons, nums_nil, mrg_nc, ← List.append_assoc]
      simp only
      rw [← hpe]
      rw [nums_nil] at e1
      rw [← e1]
      obtain ⟨H, hH⟩ : ∃ H, H = adH kf.cells l := ⟨_, rfl⟩
      obtain ⟨W, hW⟩ : ∃ W, W = adOwn l ++ [256176, 256096] := ⟨_, rfl⟩
      obtain ⟨H', hH'⟩ : ∃ H, H = adH kf.cells (l ++ one f.1 p) := ⟨_, rfl⟩
      obtain ⟨W', hW'⟩ : ∃ W, W = adOwn (l ++ one f.1 p) ++ [256176, 256096] := ⟨_, rfl⟩
      have ho : o ++ W = W' := by rw [hW, hW', ← s2, List.append_assoc]
      rw [← hI, ← hH, ← hH'] at s1
      rw [← hH, ← hW, ← hH', ← hW']
      rw [← hH] at h6
      clear e1 hH hW hH' hW' ih s2
      clear hpe
      rw [vcs_cons]
      obtain ⟨B, hB0⟩ : ∃ A, A = vcs b := ⟨_, rfl⟩
      have hBl : B.length = b.length := by rw [hB0]; simp
      have hBT : B.take b.length = B := by rw [← hBl, List.take_length]
      rw [← hB0]
      clear hB0
      have p1b : (0 : Int) < (b.length : Int) + 1 := by omega
      have p2b : (1 : Int) ≤ (b.length : Int) + 1 := by omega
      have p3b : ((b.length : Int) + 1).toNat = b.length + 1 := by omega
      have p4b : ¬ (b.length : Int) + 1 = 0 := by omega
      simp [qF] at s1
      simp [iterK_succ, s1, s3, s4, ho, h6, vcs, tm, p1b, p2b, p3b, p4b, hBl, hBT]
    | e :: a, f :: b =>
      have he : e.2.ok K := ha e (by simp)
      have hf : f.2.ok K := hb f (by simp)
      have tt1 : (e :: a).length + b.length ≤ t := by simp at ht ⊢; omega
      have tt2 : a.length + (f :: b).length ≤ t := by simp at ht ⊢; omega
      rcases Int.lt_trichotomy e.1 f.1 with c1 | c1 | c1
      · obtain ⟨o, c, s1, s2, s3, s4⟩ := addI_at G0 (ic0 := ic0) hS hC kf.cells l e.1 e.2 (he.mono (by omega)) (by omega)
        have hlen := one_len e.1 e.2.q
        obtain ⟨reb', e1⟩ := ih a (f :: b) na nb (l ++ one e.1 e.2.q) m (c ++ reb) tt2 (by omega) (by omega) (fun x hx => ha x (by simp [hx])) hb
        refine ⟨reb', ?_⟩
        rw [nums_cons, nums_cons, mrg_lt (by exact c1), ← List.append_assoc]
        simp only
        rw [nums_cons] at e1
        rw [← e1]
        obtain ⟨H, hH⟩ : ∃ H, H = adH kf.cells l := ⟨_, rfl⟩
        obtain ⟨W, hW⟩ : ∃ W, W = adOwn l ++ [256176, 256096] := ⟨_, rfl⟩
        obtain ⟨H', hH'⟩ : ∃ H, H = adH kf.cells (l ++ one e.1 e.2.q) := ⟨_, rfl⟩
        obtain ⟨W', hW'⟩ : ∃ W, W = adOwn (l ++ one e.1 e.2.q) ++ [256176, 256096] := ⟨_, rfl⟩
        have ho : o ++ W = W' := by rw [hW, hW', ← s2, List.append_assoc]
        rw [← hI, ← hH, ← hH'] at s1
        rw [← hH, ← hW, ← hH', ← hW']
        rw [← hH] at h6
        clear e1 hH hW hH' hW' ih s2
        rw [vcs_cons, vcs_cons]
        obtain ⟨A, hA0⟩ : ∃ A, A = vcs a := ⟨_, rfl⟩
        have hAl : A.length = a.length := by rw [hA0]; simp
        have hAT : A.take a.length = A := by rw [← hAl, List.take_length]
        rw [← hA0]
        clear hA0
        have p1a : (0 : Int) < (a.length : Int) + 1 := by omega
        have p2a : (1 : Int) ≤ (a.length : Int) + 1 := by omega
        have p3a : ((a.length : Int) + 1).toNat = a.length + 1 := by omega
        have p4a : ¬ (a.length : Int) + 1 = 0 := by omega
        obtain ⟨B, hB0⟩ : ∃ A, A = vcs b := ⟨_, rfl⟩
        have hBl : B.length = b.length := by rw [hB0]; simp
        have hBT : B.take b.length = B := by rw [← hBl, List.take_length]
        rw [← hB0]
        clear hB0
        have p1b : (0 : Int) < (b.length : Int) + 1 := by omega
        have p2b : (1 : Int) ≤ (b.length : Int) + 1 := by omega
        have p3b : ((b.length : Int) + 1).toNat = b.length + 1 := by omega
        have p4b : ¬ (b.length : Int) + 1 = 0 := by omega
        simp [iterK_succ, s1, s3, s4, ho, h6, c1, p1a, p2a, p3a, p4a, hAl, hAT, p1b, p2b, p3b, p4b, hBl, hBT]
      · have hp := Sz_mul hkK (Sz_RF hf) hK1
        have tm := sp2_at hM hkf.qOf' ((hf.mono (by omega) : f.2.ok 2000000)).qOf' rfl
        have hs := Sz_add (Sz_RF he) hp hK1
        have ta := sp2_at hA ((he.mono (by omega) : e.2.ok 2000000)).qOf' (qOf_fV hp (by omega)) rfl
        obtain ⟨p, hpe⟩ : ∃ p, p = kf.q * f.2.q := ⟨_, rfl⟩
        rw [← hpe] at hp tm hs ta
        obtain ⟨q, hqe⟩ : ∃ q, q = e.2.q + p := ⟨_, rfl⟩
        rw [← hqe] at hs ta
        simp only [fV_agg] at tm ta
        obtain ⟨o, c, s1, s2, s3, s4⟩ := addI_at G0 (ic0 := ic0) hS hC kf.cells l e.1 (qF q) (qF_ok hs (by omega)) (by omega)
        rw [qF_q] at s1 s2
        have hlen := one_len e.1 q
        obtain ⟨reb', e1⟩ := ih a b na nb (l ++ one e.1 q) m (c ++ reb) (by simp at ht ⊢; omega) (by omega) (by omega) (fun x hx => ha x (by simp [hx])) (fun x hx => hb x (by simp [hx]))
        refine ⟨reb', ?_⟩
        rw [nums_cons, nums_cons, mrg_eq (by exact c1), ← List.append_assoc]
        simp only
        rw [← hpe, ← hqe]
        rw [← e1]
        obtain ⟨H, hH⟩ : ∃ H, H = adH kf.cells l := ⟨_, rfl⟩
        obtain ⟨W, hW⟩ : ∃ W, W = adOwn l ++ [256176, 256096] := ⟨_, rfl⟩
        obtain ⟨H', hH'⟩ : ∃ H, H = adH kf.cells (l ++ one e.1 q) := ⟨_, rfl⟩
        obtain ⟨W', hW'⟩ : ∃ W, W = adOwn (l ++ one e.1 q) ++ [256176, 256096] := ⟨_, rfl⟩
        have ho : o ++ W = W' := by rw [hW, hW', ← s2, List.append_assoc]
        rw [← hI, ← hH, ← hH'] at s1
        rw [← hH, ← hW, ← hH', ← hW']
        rw [← hH] at h6
        clear e1 hH hW hH' hW' ih s2
        clear hpe hqe
        rw [vcs_cons, vcs_cons]
        obtain ⟨A, hA0⟩ : ∃ A, A = vcs a := ⟨_, rfl⟩
        have hAl : A.length = a.length := by rw [hA0]; simp
        have hAT : A.take a.length = A := by rw [← hAl, List.take_length]
        rw [← hA0]
        clear hA0
        have p1a : (0 : Int) < (a.length : Int) + 1 := by omega
        have p2a : (1 : Int) ≤ (a.length : Int) + 1 := by omega
        have p3a : ((a.length : Int) + 1).toNat = a.length + 1 := by omega
        have p4a : ¬ (a.length : Int) + 1 = 0 := by omega
        obtain ⟨B, hB0⟩ : ∃ A, A = vcs b := ⟨_, rfl⟩
        have hBl : B.length = b.length := by rw [hB0]; simp
        have hBT : B.take b.length = B := by rw [← hBl, List.take_length]
        rw [← hB0]
        clear hB0
        have p1b : (0 : Int) < (b.length : Int) + 1 := by omega
        have p2b : (1 : Int) ≤ (b.length : Int) + 1 := by omega
        have p3b : ((b.length : Int) + 1).toNat = b.length + 1 := by omega
        have p4b : ¬ (b.length : Int) + 1 = 0 := by omega
        simp [qF] at s1
        have c2 : ¬ e.1 < f.1 := by omega
        have c3 : ¬ f.1 < e.1 := by omega
        simp [iterK_succ, s1, s3, s4, ho, h6, c2, c3, tm, ta, p1a, p2a, p3a, p4a, hAl, hAT, p1b, p2b, p3b, p4b, hBl, hBT]
      · have hp := Sz_mul hkK (Sz_RF hf) hK1
        have tm := sp2_at hM hkf.qOf' ((hf.mono (by omega) : f.2.ok 2000000)).qOf' rfl
        obtain ⟨p, hpe⟩ : ∃ p, p = kf.q * f.2.q := ⟨_, rfl⟩
        rw [← hpe] at hp tm
        simp only [fV_agg] at tm
        obtain ⟨o, c, s1, s2, s3, s4⟩ := addI_at G0 (ic0 := ic0) hS hC kf.cells l f.1 (qF p) (qF_ok hp (by omega)) (by omega)
        rw [qF_q] at s1 s2
        have hlen := one_len f.1 p
        obtain ⟨reb', e1⟩ := ih (e :: a) b na nb (l ++ one f.1 p) m (c ++ reb) tt1 (by omega) (by omega) ha (fun x hx => hb x (by simp [hx]))
        refine ⟨reb', ?_⟩
        rw [nums_cons, nums_cons, mrg_gt (by exact c1), ← List.append_assoc]
        simp only
        rw [← hpe]
        rw [nums_cons] at e1
        rw [← e1]
        obtain ⟨H, hH⟩ : ∃ H, H = adH kf.cells l := ⟨_, rfl⟩
        obtain ⟨W, hW⟩ : ∃ W, W = adOwn l ++ [256176, 256096] := ⟨_, rfl⟩
        obtain ⟨H', hH'⟩ : ∃ H, H = adH kf.cells (l ++ one f.1 p) := ⟨_, rfl⟩
        obtain ⟨W', hW'⟩ : ∃ W, W = adOwn (l ++ one f.1 p) ++ [256176, 256096] := ⟨_, rfl⟩
        have ho : o ++ W = W' := by rw [hW, hW', ← s2, List.append_assoc]
        rw [← hI, ← hH, ← hH'] at s1
        rw [← hH, ← hW, ← hH', ← hW']
        rw [← hH] at h6
        clear e1 hH hW hH' hW' ih s2
        clear hpe
        rw [vcs_cons, vcs_cons]
        obtain ⟨A, hA0⟩ : ∃ A, A = vcs a := ⟨_, rfl⟩
        have hAl : A.length = a.length := by rw [hA0]; simp
        have hAT : A.take a.length = A := by rw [← hAl, List.take_length]
        rw [← hA0]
        clear hA0
        have p1a : (0 : Int) < (a.length : Int) + 1 := by omega
        have p2a : (1 : Int) ≤ (a.length : Int) + 1 := by omega
        have p3a : ((a.length : Int) + 1).toNat = a.length + 1 := by omega
        have p4a : ¬ (a.length : Int) + 1 = 0 := by omega
        obtain ⟨B, hB0⟩ : ∃ A, A = vcs b := ⟨_, rfl⟩
        have hBl : B.length = b.length := by rw [hB0]; simp
        have hBT : B.take b.length = B := by rw [← hBl, List.take_length]
        rw [← hB0]
        clear hB0
        have p1b : (0 : Int) < (b.length : Int) + 1 := by omega
        have p2b : (1 : Int) ≤ (b.length : Int) + 1 := by omega
        have p3b : ((b.length : Int) + 1).toNat = b.length + 1 := by omega
        have p4b : ¬ (b.length : Int) + 1 = 0 := by omega
        simp [qF] at s1
        have c2 : ¬ e.1 < f.1 := by omega
        simp [iterK_succ, s1, s3, s4, ho, h6, c1, c2, tm, p1a, p2a, p3a, p4a, hAl, hAT, p1b, p2b, p3b, p4b, hBl, hBT]

theorem errB_good {n : Int} {a b : List (Int × Rat)} (h : errB n a b = 0) : 0 ≤ n ∧ n ≤ 4096 ∧ Cn 0 n a ∧ Cn 0 n b := by
  obtain ⟨v1, v2⟩ := errB_zero h
  obtain ⟨h0, h1, _⟩ := valid_ok v1
  exact ⟨h0, h1, valid_cn v1, valid_cn v2⟩

open Classical in
theorem addScaledP_run {G0 : Pure} {ic0 : Inl} (hI : ic 44 = inlD G0 ic0 0 c44F [704064]) (hS : G0 40 = spSignFrac) (hC : G0 45 = spCanonQ)
    (hB : G 43 = spBoth) (hA : G 47 = spAddFrac) (hM : G 46 = spMulFrac) : FSpec (fun args n => pureF G ic n c16F args) spAddScaled := by
  intro args r h
  obtain ⟨ua, ub, uk, un, a, b, kq, nn, v, rfl, hx, hy, hk, hz, hv, rfl⟩ := sp4_inv h
  have t0 := sp3_at hB hx hy hz rfl
  obtain ⟨na, rfl, hla⟩ := vOfA_inv hx
  obtain ⟨nb, rfl, hlb⟩ := vOfA_inv hy
  obtain ⟨rfl, n0, n1⟩ := i64Of_inv hz
  obtain ⟨s1, l1, d1, s2, l2, d2, rfl, w1, k1, w2, k2, rfl⟩ := qOf_inv hk
  by_cases h0 : errB nn (nums a) (nums b) ≠ 0
  · rw [if_pos h0] at hv
    cases hv
    obtain ⟨v, hvv⟩ : ∃ v, v = errB nn (nums a) (nums b) := ⟨_, rfl⟩
    rw [← hvv] at t0 h0 ⊢
    refine ⟨{ val := .tup [.imm true 5 [], .int .i64 v] }, ⟨0, ?_⟩, rfl, by simp [AV.weak, AV.weakL, AV.weakLL]⟩
    simp [pureF, runF, t0, h0, bne]
  · rw [if_neg h0] at hv
    obtain ⟨⟨K, hK1, hKa, hKb, hKk, hK⟩, hv⟩ := of_ite hv
    cases hv
    have h00 : errB nn (nums a) (nums b) = 0 := by simpa using h0
    obtain ⟨g0, g1, ca, cb⟩ := errB_good h00
    rw [h00] at t0
    obtain ⟨N, hN⟩ : ∃ N, N = a.length + b.length + 1 := ⟨_, rfl⟩
    have hla1 := hla.len
    have hlb1 := hlb.len
    obtain ⟨reb', e⟩ := addScaledP_loop G ic N hI hS hC hA hM ⟨s1, l1, d1, s2, l2, d2⟩ ⟨w1, k1, w2, k2⟩ K hK1 hK hKk (a.length + b.length) a b na nb [] N [] (Nat.le_refl _) (by omega) (by simp; omega) hKa hKb
    rw [List.nil_append, mrg_addL g0 ca cb, show RF.q ⟨s1, l1, d1, s2, l2, d2⟩ = Rat.divInt (sg s1 (dv d1)) (sg s2 (dv d2)) from rfl] at e
    obtain ⟨out, ho⟩ : ∃ out, out = addL nn (nums a) (nums b) (Rat.divInt (sg s1 (dv d1)) (sg s2 (dv d2))) := ⟨_, rfl⟩
    rw [← ho] at e ⊢
    simp [c16_e0, c16_k0] at e
    cases hout : out with
    | nil =>
      rw [hout] at e
      simp [adH, adOwn] at e
      refine ⟨{ val := .tup [.imm true 5 [], .int .i64 0] }, ⟨N, ?_⟩, rfl, by simp [AV.weak, AV.weakL, AV.weakLL, vF, vcs]⟩
      simp [pureF, runF, t0, e, bne]
    | cons x r =>
      have hne : out ≠ [] := by rw [hout]; simp
      rw [adH_ne hne, adOwn_ne hne] at e
      rw [← hout]
      obtain ⟨E, hE⟩ : ∃ E, E = vcs (vF out) := ⟨_, rfl⟩
      have hEl : E.length = out.length := by rw [hE]; simp
      obtain ⟨c, hc⟩ : ∃ c, c = out.length := ⟨_, rfl⟩
      refine ⟨{ val := .tup [.imm false 5 E, .int .i64 0] }, ⟨N, ?_⟩, rfl, by rw [hE]; simp [AV.weak, AV.weakL, vcs_vF_weak]⟩
      rw [← hE, ← hc] at e
      rw [← hc] at hEl
      have hT : E.take c = E := by rw [← hEl, List.take_length]
      simp [adH, adOwn] at e
      clear hE hc ho hout hne
      simp [pureF, runF, t0, e, bne, hEl, hT]

open Classical in
noncomputable def spScale : List AV → Option PRes := sp3 vOfA qOf i64Of fun b k n =>
  if errB n [] (nums b) ≠ 0 then some (.tup [.imm false 5 [], .int .i64 (errB n [] (nums b))])
  else if ∃ K, 1 ≤ K ∧ (∀ e ∈ b, e.2.ok K) ∧ Sz K k ∧ 4 * K + 4 < 2000000 then some (.tup [.imm false 5 (vcs (vF (addL n [] (nums b) k))), .int .i64 0])
  else none

end
end Go.Proofs.Ythlpmghodgiknaa.C

/-
  Scale; the reference's AddScaled and dot product.
-/
namespace Go.Proofs.Ythlpmghodgiknaa.C
open Go Go.Ev

theorem atQ_mem : ∀ (l : List (Int × Rat)) (i : Int), atQ l i = 0 ∨ ∃ x ∈ l, x.2 = atQ l i
  | [], _ => .inl rfl
  | x :: l, i => by
    rw [atQ_cons]
    split
    · exact .inr ⟨x, by simp, rfl⟩
    · rcases atQ_mem l i with h | ⟨y, hy, h⟩
      · exact .inl h
      · exact .inr ⟨y, by simp [hy], h⟩

theorem atQ_sz {l : List Ent} {K : Nat} (h : ∀ e ∈ l, e.2.ok K) (hK : 1 ≤ K) (i : Int) : Sz K (atQ (nums l) i) := by
  rcases atQ_mem (nums l) i with h0 | ⟨x, hx, h0⟩
  · rw [h0]; exact Sz_zero.mono hK
  · rw [← h0]
    obtain ⟨e, he, rfl⟩ := List.mem_map.1 hx
    exact Sz_RF (h e he)

def addF (k : Rat) (F : Nat → Rat) (x : Int × Rat) : Nat → Rat := setF F (x.1, F x.1.toNat + k * x.2)

theorem foldl_addF (k : Rat) : ∀ (l : List (Int × Rat)) (F : Nat → Rat) (j : Nat), (∀ x ∈ l, 0 ≤ x.1) → l.Pairwise (fun x y => x.1 < y.1) → l.foldl (addF k) F j = F j + k * atQ l j
  | [], F, j, _, _ => by simp [atQ, Rat.mul_zero, Rat.add_zero]
  | x :: r, F, j, h0, h => by
    rw [List.pairwise_cons] at h
    have hx := h0 x (by simp)
    rw [List.foldl_cons, foldl_addF k r _ j (fun y hy => h0 y (by simp [hy])) h.2, atQ_cons]
    by_cases hj : x.1 = j
    · rw [if_pos hj, atQ_none fun y hy => by have := h.1 y hy; omega]
      have : addF k F x j = F j + k * x.2 := by unfold addF setF; rw [if_pos hj.symm]; simp [hj]
      rw [this, Rat.mul_zero, Rat.add_zero]
    · rw [if_neg hj]
      have : addF k F x j = F j := by unfold addF setF; rw [if_neg (by simp only; omega)]
      rw [this]

section
variable (G : Pure) (ic : Inl) (n : Nat)

theorem vOfA_nil : vOfA (.imm true 5 []) = some [] := vOfA_mk (nl := true) (l := []) ⟨by simp, by simp⟩

open Classical in
theorem scale_at {f : FuncId} (hA : G f = spAddScaled) {ub uk un : AV} {b : List Ent} {kq : Rat} {nn : Int} {v : AV} (hx : vOfA ub = some b) (hk : qOf uk = some kq) (hz : i64Of un = some nn) (hv : (if errB nn [] (nums b) ≠ 0 then some (AV.tup [.imm false 5 [], .int .i64 (errB nn [] (nums b))])
  else if ∃ K, 1 ≤ K ∧ (∀ e ∈ b, e.2.ok K) ∧ Sz K kq ∧ 4 * K + 4 < 2000000 then some (.tup [.imm false 5 (vcs (vF (addL nn [] (nums b) kq))), .int .i64 0])
  else none) = some v) : ∃ out vv, v = .tup [.imm false 5 (vcs (vF out)), .int .i64 vv] ∧ G f [.imm true 5 [], ub, uk, un] = some { val := .tup [.imm false 5 (vcs (vF out)), .int .i64 vv] } := by
  by_cases h0 : errB nn [] (nums b) ≠ 0
  · rw [if_pos h0] at hv
    cases hv
    exact ⟨[], _, rfl, sp4_at hA vOfA_nil hx hk hz (by rw [nums_nil, if_pos h0]; rfl)⟩
  · rw [if_neg h0] at hv
    obtain ⟨⟨K, h1, h2, h3, h4⟩, hv⟩ := of_ite hv
    cases hv
    exact ⟨_, _, rfl, sp4_at hA vOfA_nil hx hk hz (by rw [nums_nil, if_neg h0, if_pos ⟨K, h1, by simp, h2, h3, h4⟩])⟩

open Classical in
theorem scaleP_run (hA : G 16 = spAddScaled) : FSpec (fun args n => pureF G ic n c23F args) spScale := by
  intro args r h
  obtain ⟨ub, uk, un, b, kq, nn, v, rfl, hx, hk, hz, hv, rfl⟩ := sp3_inv h
  obtain ⟨out, vv, rfl, t⟩ := scale_at G hA hx hk hz hv
  obtain ⟨nb, rfl, hlb⟩ := vOfA_inv hx
  obtain ⟨rfl, n0, n1⟩ := i64Of_inv hz
  obtain ⟨s1, l1, d1, s2, l2, d2, rfl, w1, k1, w2, k2, rfl⟩ := qOf_inv hk
  refine ⟨{ val := .tup [.imm false 5 (vcs (vF out)), .int .i64 vv] }, ⟨0, ?_⟩, rfl, by simp [AV.weak, AV.weakL, vcs_vF_weak]⟩
  simp [pureF, runF, t]

open Classical in
theorem scaleR_run (hA : G 22 = spAddScaled) : FSpec (fun args n => pureF G ic n c24F args) spScale := by
  intro args r h
  obtain ⟨ub, uk, un, b, kq, nn, v, rfl, hx, hk, hz, hv, rfl⟩ := sp3_inv h
  obtain ⟨out, vv, rfl, t⟩ := scale_at G hA hx hk hz hv
  obtain ⟨nb, rfl, hlb⟩ := vOfA_inv hx
  obtain ⟨rfl, n0, n1⟩ := i64Of_inv hz
  obtain ⟨s1, l1, d1, s2, l2, d2, rfl, w1, k1, w2, k2, rfl⟩ := qOf_inv hk
  refine ⟨{ val := .tup [.imm false 5 (vcs (vF out)), .int .i64 vv] }, ⟨0, ?_⟩, rfl, by simp [AV.weak, AV.weakL, vcs_vF_weak]⟩
  simp [pureF, runF, t]

/-! ### The reference's AddScaled -/

theorem rowQ_get {N : Nat} {F : Nat → Rat} {R : List (List AV)} (hR : R = fcs (rowQ N F)) (k : Nat) (h : k < R.length) : R[k] = (qF (F k)).cells := by
  subst hR
  simp [rowQ]

theorem addScaledR_loop (hA : G 18 = spAddFrac) (hM : G 19 = spMulFrac) (kf : RF) (hkf : kf.ok 2000000) (K : Nat) (hK1 : 1 ≤ K) (hK : 4 * K + 4 < 2000000) (hkK : Sz K kf.q)
    (nb : Bool) (b : List Ent) (hlb : b.length < 100000000) (hbK : ∀ e ∈ b, e.2.ok K) (N : Nat) (hN : N ≤ 4096) (hin : ∀ e ∈ b, 0 ≤ e.1 ∧ e.1 < N) (hsb : (nums b).Pairwise fun x y => x.1 < y.1) : ∀ d i m (F : Nat → Rat), i + d = b.length → d < m → (∀ e ∈ b.drop i, Sz K (F e.1.toNat)) →
    blockE (some c22_e0) 0 (iterK G ic n c22_k0 c22_b0Q m ⟨[(1, .imm nb 5 (vcs b)), (6, .ptr 352096 0 0), (10, .sl 352304 0 N), (13, .int .i64 i)],
      [(352096, { sz := 4, ty := 33, es := [kf.cells], refs := [] }), (352304, { sz := 4, ty := 33, es := fcs (rowQ N F), refs := [] })], [], [352304, 352096], []⟩) =
      some (.normal, ⟨[(10, .sl 352304 0 N)], [(352096, { sz := 4, ty := 33, es := [kf.cells], refs := [] }), (352304, { sz := 4, ty := 33, es := fcs (rowQ N ((nums (b.drop i)).foldl (addF kf.q) F)), refs := [] })], [], [352304, 352096], []⟩) := by
  intro d
  induction d with
  | zero =>
    intro i m F hi hm hF
    obtain ⟨m, rfl⟩ : ∃ i, m = i + 1 := ⟨m - 1, by omega⟩
    have e : i = b.length := by omega
    subst e
    rw [List.drop_length, nums_nil, List.foldl_nil]
    simp [iterK_succ]
  | succ d ih =>
    intro i m F hi hm hF
    obtain ⟨m, rfl⟩ : ∃ i, m = i + 1 := ⟨m - 1, by omega⟩
    have hib : i < b.length := by omega
    obtain ⟨e, he⟩ : ∃ e, e = b[i] := ⟨_, rfl⟩
    have hdrop : b.drop i = e :: b.drop (i + 1) := by rw [List.drop_eq_getElem_cons hib, ← he]
    have hmem : e ∈ b := by rw [he]; exact List.getElem_mem _
    have hek := hbK e hmem
    obtain ⟨hx0, hxN⟩ := hin e hmem
    have g := vcs_get b i hib
    rw [← he] at g
    have w5 : IntKind.i64.wrap ((i : Int) + 1) = (i : Int) + 1 := wrap64_id _ (by omega) (by omega)
    have hp := Sz_mul hkK (Sz_RF hek) hK1
    have tm := sp2_at hM hkf.qOf' ((hek.mono (by omega) : e.2.ok 2000000)).qOf' rfl
    have hF1 : Sz K (F e.1.toNat) := hF e (by rw [hdrop]; simp)
    have ta := sp2_at hA (qOf_fV hF1 (by omega)) (qOf_fV hp (by omega)) rfl
    have hsd : (nums (b.drop i)).Pairwise fun x y => x.1 < y.1 := by
      have : nums (b.drop i) = (nums b).drop i := by simp [nums]
      rw [this]; exact List.Pairwise.sublist (List.drop_sublist _ _) hsb
    rw [hdrop, nums_cons, List.pairwise_cons] at hsd
    rw [hdrop, nums_cons, List.foldl_cons]
    have hadd : addF kf.q F (e.1, e.2.q) = setF F (e.1, F e.1.toNat + kf.q * e.2.q) := rfl
    have e1 := ih (i + 1) m (addF kf.q F (e.1, e.2.q)) (by omega) (by omega) (fun x hx => by
      have h1 := hsd.1 (x.1, x.2.q) (List.mem_map_of_mem hx)
      have h2 := hF x (by rw [hdrop]; simp [hx])
      have : addF kf.q F (e.1, e.2.q) x.1.toNat = F x.1.toNat := by
        rw [hadd]; unfold setF; rw [if_neg (by simp only at h1 ⊢; omega)]
      rw [this]; exact h2)
    obtain ⟨k, hk⟩ : ∃ k : Nat, e.1 = k := ⟨e.1.toNat, by omega⟩
    have hkN : k < N := by omega
    have hkt : e.1.toNat = k := by omega
    rw [hkt] at hF1 ta hadd
    obtain ⟨R, hR⟩ : ∃ R, R = fcs (rowQ N F) := ⟨_, rfl⟩
    have hRl : R.length = N := by rw [hR]; simp
    have hRk := rowQ_get hR k
    obtain ⟨p, hpe⟩ : ∃ p, p = kf.q * e.2.q := ⟨_, rfl⟩
    rw [← hpe] at tm ta hadd
    obtain ⟨z, hz⟩ : ∃ z, z = F k := ⟨_, rfl⟩
    rw [← hz] at ta hRk hadd
    obtain ⟨q, hq⟩ : ∃ q, q = z + p := ⟨_, rfl⟩
    rw [← hq] at ta hadd
    have hset : R.set k (qF q).cells = fcs (rowQ N (addF kf.q F (e.1, e.2.q))) := by
      rw [hR, ← rowR_rowQ, rowR_set, upd_qF hk, hadd, rowR_rowQ]
    rw [← hset] at e1
    rw [← e1, ← hR]
    simp only [fV_agg] at tm ta
    clear e1 hR hset hq hz hpe hadd hsd ih hF hF1 hp
    simp [qF] at hRk
    simp [iterK_succ, hib, g, ta, tm, ← he, w5, hk, hkN, hRl, hRk, qF]

theorem rowQ_ok {N : Nat} {F : Nat → Rat} {K : Nat} (hN : N ≤ 4096) (h : ∀ j, Sz K (F j)) (hK : K < 2000000) : FrsOk 2000000 (rowQ N F) :=
  ⟨by simp; omega, fun f hf => by
    simp only [rowQ, List.mem_map] at hf
    obtain ⟨j, _, rfl⟩ := hf
    exact qF_ok (h j) hK⟩

theorem rowQ_q (N : Nat) (F : Nat → Rat) : (rowQ N F).map RF.q = (List.range N).map F := by
  simp [rowQ, qF_q]

open Classical in
theorem addScaledR_run (hD : G 30 = spToDenseF) (hV : G 13 = spValidate) (hE : G 29 = spFromDense) (hA : G 18 = spAddFrac) (hM : G 19 = spMulFrac) :
    FSpec (fun args n => pureF G ic n c22F args) spAddScaled := by
  intro args r h
  obtain ⟨ua, ub, uk, un, a, b, kq, nn, v, rfl, hx, hy, hk, hz, hv, rfl⟩ := sp4_inv h
  have t0 := sp2_at hV hy hz rfl
  have td : G 30 [ua, un] = if valid nn (nums a) ≠ 0 then some { val := .tup [.imm false 4 [], .int .i64 (valid nn (nums a))] }
      else some { val := .tup [.sl 0 0 nn.toNat, .int .i64 0], objs := [{ sz := 4, ty := 33, es := fcs (rowQ nn.toNat fun j => atQ (nums a) j), refs := [] }] } := by
    rw [hD]; simp only [spToDenseF, hx, hz]
  obtain ⟨na, rfl, hla⟩ := vOfA_inv hx
  obtain ⟨nb, rfl, hlb⟩ := vOfA_inv hy
  obtain ⟨rfl, n0, n1⟩ := i64Of_inv hz
  obtain ⟨s1, l1, d1, s2, l2, d2, rfl, w1, k1, w2, k2, rfl⟩ := qOf_inv hk
  by_cases h1 : valid nn (nums a) ≠ 0
  · have he : errB nn (nums a) (nums b) = valid nn (nums a) := by unfold errB; rw [if_neg h1]
    rw [if_pos h1] at td
    rw [he, if_pos h1] at hv
    cases hv
    obtain ⟨v, hvv⟩ : ∃ v, v = valid nn (nums a) := ⟨_, rfl⟩
    rw [← hvv] at td h1 ⊢
    refine ⟨{ val := .tup [.imm true 5 [], .int .i64 v] }, ⟨0, ?_⟩, rfl, by simp [AV.weak, AV.weakL, AV.weakLL]⟩
    simp [pureF, runF, td, h1, bne, AV.rk, AV.rkL]
  · have h10 : valid nn (nums a) = 0 := by simpa using h1
    have he : errB nn (nums a) (nums b) = valid nn (nums b) := by unfold errB; rw [if_pos h10]
    rw [if_neg h1] at td
    obtain ⟨g0, g1, _⟩ := valid_ok h10
    obtain ⟨N, rfl⟩ : ∃ N : Nat, nn = N := ⟨nn.toNat, by omega⟩
    rw [Int.toNat_natCast] at td
    by_cases h2 : valid N (nums b) ≠ 0
    · rw [he, if_pos h2] at hv
      cases hv
      obtain ⟨v, hvv⟩ : ∃ v, v = valid N (nums b) := ⟨_, rfl⟩
      rw [← hvv] at t0 h2 ⊢
      refine ⟨{ val := .tup [.imm true 5 [], .int .i64 v] }, ⟨0, ?_⟩, rfl, by simp [AV.weak, AV.weakL, AV.weakLL]⟩
      obtain ⟨R, hR⟩ : ∃ R, R = fcs (rowQ N fun j => atQ (nums a) j) := ⟨_, rfl⟩
      rw [← hR] at td
      clear hR
      simp [pureF, runF, td, t0, h2, bne, AV.rk, AV.rkL]
    · have h20 : valid N (nums b) = 0 := by simpa using h2
      rw [he, h20, if_neg (by simp)] at hv
      obtain ⟨⟨K, hK1, hKa, hKb, hKk, hK⟩, hv⟩ := of_ite hv
      cases hv
      rw [h20] at t0
      have cb := valid_cn h20
      have hin : ∀ e ∈ b, 0 ≤ e.1 ∧ e.1 < N := fun e he => by
        have := cb.el (e.1, e.2.q) (List.mem_map_of_mem he)
        exact ⟨this.1, this.2.1⟩
      obtain ⟨M, hM0⟩ : ∃ M, M = b.length + 1 := ⟨_, rfl⟩
      have e := addScaledR_loop G ic M hA hM ⟨s1, l1, d1, s2, l2, d2⟩ ⟨w1, k1, w2, k2⟩ K hK1 hK hKk nb b hlb.len hKb N (by omega) hin cb.so b.length 0 M (fun j => atQ (nums a) j) (by omega) (by omega) (fun e _ => atQ_sz hKa hK1 _)
      rw [List.drop_zero, show RF.q ⟨s1, l1, d1, s2, l2, d2⟩ = Rat.divInt (sg s1 (dv d1)) (sg s2 (dv d2)) from rfl] at e
      obtain ⟨kq, hkq⟩ : ∃ kq, kq = Rat.divInt (sg s1 (dv d1)) (sg s2 (dv d2)) := ⟨_, rfl⟩
      rw [← hkq] at e hKk ⊢
      have hfold : (nums b).foldl (addF kq) (fun j => atQ (nums a) j) = fun j : Nat => atQ (nums a) j + kq * atQ (nums b) j := by
        funext j
        exact foldl_addF kq (nums b) _ j (fun x hx => (cb.el x hx).1) cb.so
      rw [hfold] at e
      have hsz : ∀ j : Nat, Sz (3 * K + 1) (atQ (nums a) j + kq * atQ (nums b) j) := fun j => by
        have q1 := Sz_mul hKk (atQ_sz hKb hK1 (j : Int)) hK1
        exact (Sz_add (atQ_sz hKa hK1 (j : Int)) q1 hK1).mono (by omega)
      have te := sp1_at hE (fsOf_mk (nl := false) (rowQ_ok (N := N) (by omega) hsz (by omega))) (by
        rw [rowQ_length, if_neg (by omega), rowQ_q])
      have hout : gath 0 (List.map (fun j : Nat => atQ (nums a) j + kq * atQ (nums b) j) (List.range N)) = addL N (nums a) (nums b) kq := rfl
      rw [hout] at te
      obtain ⟨out, ho⟩ : ∃ out, out = addL N (nums a) (nums b) kq := ⟨_, rfl⟩
      rw [← ho] at te ⊢
      obtain ⟨R, hR⟩ : ∃ R, R = fcs (rowQ N fun j => atQ (nums a) j) := ⟨_, rfl⟩
      obtain ⟨R2, hR2⟩ : ∃ R, R = fcs (rowQ N fun j : Nat => atQ (nums a) j + kq * atQ (nums b) j) := ⟨_, rfl⟩
      have hRl2 : R2.length = N := by rw [hR2]; simp
      rw [← hR] at td e
      rw [← hR2] at te e
      simp [c22_e0, c22_k0] at e
      have hT : R2.take N = R2 := by rw [← hRl2, List.take_length]
      refine ⟨{ val := .tup [.imm false 5 (vcs (vF out)), .int .i64 0] }, ⟨M, ?_⟩, rfl, by simp [AV.weak, AV.weakL, vcs_vF_weak]⟩
      clear hR hR2 ho hout hfold hsz hkq
      simp [pureF, runF, td, t0, e, te, bne, AV.rk, AV.rkL, hRl2, hT]

/-! ### The reference's dot product -/

theorem dotR_loop (hT : G 33 = spAt) (hA : G 18 = spAddFrac) (hM : G 19 = spMulFrac) (na nb : Bool) (a b : List Ent) (ha : VecOk 2000000 a) (hb : VecOk 2000000 b) (K : Nat) (hK1 : 1 ≤ K) (hKa : ∀ e ∈ a, e.2.ok K) (hKb : ∀ e ∈ b, e.2.ok K)
    (hK : (a.length + 1) * (2 * K + 2) < 2000000) (o6 : Ev.Obj) : ∀ d i m s, i + d = a.length → d < m → Sz (1 + i * (2 * K + 2)) s →
    blockE (some c21_e0) 0 (iterK G ic n c21_k0 c21_b0Q m ⟨[(0, .imm na 5 (vcs a)), (1, .imm nb 5 (vcs b)), (6, .ptr 336096 0 0), (10, .ptr 336160 0 0), (11, .int .i64 i)],
        [(336096, o6), (336160, { sz := 4, ty := 33, es := [(qF s).cells], refs := [] })], [], [336160, 336096], []⟩) =
      some (.normal, ⟨[(6, .ptr 336096 0 0), (10, .ptr 336160 0 0)],
        [(336096, o6), (336160, { sz := 4, ty := 33, es := [(qF (dotS (nums b) (nums (a.drop i)) s)).cells], refs := [] })], [], [336160, 336096], []⟩) := by
  have hlen := ha.len
  intro d
  induction d with
  | zero =>
    intro i m s hi hm hs
    obtain ⟨m, rfl⟩ : ∃ i, m = i + 1 := ⟨m - 1, by omega⟩
    have e : i = a.length := by omega
    subst e
    rw [List.drop_length]
    simp [iterK_succ, dotS]
  | succ d ih =>
    intro i m s hi hm hs
    obtain ⟨m, rfl⟩ : ∃ i, m = i + 1 := ⟨m - 1, by omega⟩
    have hia : i < a.length := by omega
    obtain ⟨e, he⟩ : ∃ e, e = a[i] := ⟨_, rfl⟩
    have hdrop : a.drop i = e :: a.drop (i + 1) := by rw [List.drop_eq_getElem_cons hia, ← he]
    have hme : e ∈ a := by rw [he]; exact List.getElem_mem _
    have g := vcs_get a i hia
    rw [← he] at g
    have hiK : (i + 1) * (2 * K + 2) ≤ (a.length + 1) * (2 * K + 2) := Nat.mul_le_mul_right _ (by omega)
    have hiK2 : (i + 1) * (2 * K + 2) = i * (2 * K + 2) + (2 * K + 2) := by rw [Nat.add_mul, Nat.one_mul]
    rw [hdrop, nums_cons, dotS]
    have hok := hKa e hme
    have hok2 : e.2.ok 2000000 := (ha.ents e hme).fr
    have hee := ha.ents e hme
    have tt := sp2_at hT (vOfA_mk (nl := nb) hb) (i64Of_mk hee.lo hee.hi) rfl
    have hy := atQ_sz hKb hK1 e.1
    simp only
    obtain ⟨y, hye⟩ : ∃ y, y = atQ (nums b) e.1 := ⟨_, rfl⟩
    rw [← hye] at tt hy ⊢
    have t1 := sp2_at hM hok2.qOf' (qOf_fV hy (by omega)) rfl
    have hp := Sz_mul (Sz_RF hok) hy hK1
    have t2 := sp2_at hA (qOf_fV hs (by omega)) (qOf_fV hp (by omega)) rfl
    have hs2 : Sz (1 + (i + 1) * (2 * K + 2)) (s + e.2.q * y) := (Sz_add hs hp (by omega)).mono (by omega)
    have e1 := ih (i + 1) m (s + e.2.q * y) (by omega) (by omega) hs2
    obtain ⟨p, hpe⟩ : ∃ p, p = e.2.q * y := ⟨_, rfl⟩
    rw [← hpe] at t1 t2 e1 ⊢
    obtain ⟨s2, hs2e⟩ : ∃ s2, s2 = s + p := ⟨_, rfl⟩
    rw [← hs2e] at t2 e1 ⊢
    rw [← e1]
    simp only [fV_agg] at t1 t2 tt
    have w5 : IntKind.i64.wrap ((i : Int) + 1) = (i : Int) + 1 := wrap64_id _ (by omega) (by omega)
    clear hpe hs2e hye
    simp [iterK_succ, hia, g, tt, t1, t2, w5, ← he, qF]

open Classical in
theorem dotR_run (hV : G 13 = spValidate) (hW : G 39 = spWhole) (hT : G 33 = spAt) (hA : G 18 = spAddFrac) (hM : G 19 = spMulFrac) : FSpec (fun args n => pureF G ic n c21F args) spDot := by
  intro args r h
  obtain ⟨a, b, c, l, m, nn, v, rfl, hx, hy, hz, hv, rfl⟩ := sp3_inv h
  have ta := sp2_at hV hx hz rfl
  have tb := sp2_at hV hy hz rfl
  have tz := sp1_at hW (i64Of_mk (n := 0) (by decide) (by decide)) rfl
  obtain ⟨nl1, rfl, hl1⟩ := vOfA_inv hx
  obtain ⟨nl2, rfl, hl2⟩ := vOfA_inv hy
  obtain ⟨rfl, n0, n1⟩ := i64Of_inv hz
  by_cases h1 : valid nn (nums l) ≠ 0
  · have he : errB nn (nums l) (nums m) = valid nn (nums l) := by unfold errB; rw [if_neg h1]
    rw [he, if_pos h1] at hv
    cases hv
    obtain ⟨v, hvv⟩ : ∃ v, v = valid nn (nums l) := ⟨_, rfl⟩
    rw [← hvv] at ta h1 ⊢
    refine ⟨{ val := .tup [.agg [.bool false, .imm true 1 [], .bool false, .imm true 1 []], .int .i64 v] }, ⟨0, ?_⟩, rfl, by simp [AV.weak, AV.weakL, AV.weakLL, fNil]⟩
    simp [pureF, runF, ta, h1, bne]
  · have h10 : valid nn (nums l) = 0 := by simpa using h1
    have he : errB nn (nums l) (nums m) = valid nn (nums m) := by unfold errB; rw [if_pos h10]
    rw [h10] at ta
    rw [he] at hv
    by_cases h2 : valid nn (nums m) ≠ 0
    · rw [if_pos h2] at hv
      cases hv
      obtain ⟨v, hvv⟩ : ∃ v, v = valid nn (nums m) := ⟨_, rfl⟩
      rw [← hvv] at tb h2 ⊢
      refine ⟨{ val := .tup [.agg [.bool false, .imm true 1 [], .bool false, .imm true 1 []], .int .i64 v] }, ⟨0, ?_⟩, rfl, by simp [AV.weak, AV.weakL, AV.weakLL, fNil]⟩
      simp [pureF, runF, ta, tb, h2, bne]
    · have h20 : valid nn (nums m) = 0 := by simpa using h2
      rw [if_neg h2] at hv
      obtain ⟨⟨K0, hKa0, hKb0, hK0⟩, hv⟩ := of_ite hv
      cases hv
      rw [h20] at tb
      obtain ⟨N, hN⟩ : ∃ N, N = l.length + 1 := ⟨_, rfl⟩
      have hnum : ∃ K, 1 ≤ K ∧ (∀ e ∈ l, e.2.ok K) ∧ (∀ e ∈ m, e.2.ok K) ∧ (l.length + 1) * (2 * K + 2) < 2000000 := by
        by_cases hK : 1 ≤ K0
        · exact ⟨K0, hK, hKa0, hKb0, hK0⟩
        · have hl0 : l = [] := List.eq_nil_iff_forall_not_mem.2 fun e he => by have := (hKa0 e he).b1; omega
          refine ⟨1, Nat.le_refl _, fun e he => (hKa0 e he).mono (by omega), fun e he => (hKb0 e he).mono (by omega), by rw [hl0]; simp⟩
      obtain ⟨K, hK1, hKa, hKb, hK⟩ := hnum
      have e := dotR_loop G ic N hT hA hM nl1 nl2 l m hl1 hl2 K hK1 hKa hKb hK { sz := 4, ty := 33, es := [[.bool false, .imm true 1 [], .bool false, .imm true 1 []]], refs := [] } l.length 0 N 0 (by omega) (by omega) (by simpa using Sz_zero)
      rw [List.drop_zero] at e
      obtain ⟨q, hq⟩ : ∃ q, q = dotS (nums m) (nums l) 0 := ⟨_, rfl⟩
      rw [← hq] at e ⊢
      obtain ⟨o, ho⟩ : ∃ o : Rat, o = 0 := ⟨_, rfl⟩
      rw [← ho] at e
      rw [show ((0 : Int) : Rat) = o by rw [ho]; rfl] at tz
      clear ho hq
      simp [c21_e0, c21_k0, qF] at e
      simp only [fV_agg] at tz
      refine ⟨{ val := .tup [fV q, .int .i64 0] }, ⟨N, ?_⟩, rfl, by simp [AV.weak, AV.weakL, weakLL_dg, fV]⟩
      simp [pureF, runF, ta, tb, tz, e, fV_agg, bne]

end
end Go.Proofs.Ythlpmghodgiknaa.C

/-
  The laws of the products, of the dense lists, and back.
-/
namespace Go.Proofs.Ythlpmghodgiknaa.C
open Go Go.Ev

theorem dotS_sz {b : List (Int × Rat)} {K : Nat} (hK : 1 ≤ K) (hb : ∀ i, Sz K (atQ b i)) : ∀ (a : List (Int × Rat)) (s : Rat) (c : Nat), (∀ x ∈ a, Sz K x.2) → 1 ≤ c → Sz c s → Sz (c + a.length * (2 * K + 1)) (dotS b a s)
  | [], s, c, _, _, hs => by simpa [dotS] using hs
  | x :: r, s, c, ha, hc, hs => by
    have h1 := Sz_add hs (Sz_mul (ha x (by simp)) (hb x.1) hK) hc
    have h2 := dotS_sz hK hb r _ (c + (K + K) + 1) (fun y hy => ha y (by simp [hy])) (by omega) h1
    rw [dotS]
    refine h2.mono ?_
    simp only [List.length_cons, Nat.add_mul, Nat.one_mul]
    omega

theorem dotV_sz {a b : List Ent} {K : Nat} (hK : 1 ≤ K) (ha : ∀ e ∈ a, e.2.ok K) (hb : ∀ e ∈ b, e.2.ok K) : Sz (1 + a.length * (2 * K + 1)) (dotS (nums b) (nums a) 0) := by
  have := dotS_sz hK (fun i => atQ_sz hb hK i) (nums a) 0 1 (fun x hx => by
    obtain ⟨e, he, rfl⟩ := List.mem_map.1 hx
    exact Sz_RF (ha e he)) (Nat.le_refl _) (by simpa using Sz_zero)
  simpa [nums] using this

theorem same_nil {G : Pure} (hS : G 20 = spSameFrac) : G 20 [fNil, fNil] = some { val := .bool true } := by
  have := sp2_at hS (rawOf_mk (s1 := false) (l1 := false) (s2 := false) (l2 := false) (d1 := []) (d2 := []) wf_nil (by decide) wf_nil (by decide)) (rawOf_mk (s1 := false) (l1 := false) (s2 := false) (l2 := false) (d1 := []) (d2 := []) wf_nil (by decide) wf_nil (by decide)) rfl
  simpa [dg, fNil] using this

theorem fit_fracA {u : AV} (h : FitA (true, ctF) u) : ∃ f : RF, u = .agg f.cells ∧ f.wide := by
  obtain ⟨cs, rfl, h1, h2⟩ := h
  obtain ⟨f, rfl, hf⟩ := fit_frac h1 h2
  exact ⟨f, rfl, hf⟩

theorem lightFr_at {G : Pure} (hL : G 14 = spLight2) (nl : Bool) (l : List RF) (hl : l.length ≤ 140737488355328) (h : ∀ f ∈ l, f.wide) :
    ∃ b, G 14 [.imm nl 4 (fcs l)] = some { val := .bool b } ∧ (b = true → l.length < 20 ∧ ∀ f ∈ l, f.ok 13) := by
  refine ⟨_, sp1_at hL (fsOfW_mk hl h) rfl, fun hb => ?_⟩
  simp only [Bool.and_eq_true, decide_eq_true_eq, List.all_eq_true] at hb
  exact ⟨hb.2, fun f hf => lightF_ok (h f hf) (hb.1 f hf)⟩

theorem addL_length (n : Int) (a b : List (Int × Rat)) (k : Rat) : (addL n a b k).length ≤ n.toNat := by
  have := gath_length 0 ((List.range n.toNat).map fun j : Nat => atQ a j + k * atQ b j)
  simpa [addL, gathF] using this

theorem gathF_val {n : Nat} {F : Nat → Rat} {x : Int × Rat} (h : x ∈ gathF n F) : ∃ j : Nat, x.1 = j ∧ j < n ∧ x.2 = F j := by
  have hc := gathF_cn n F
  obtain ⟨h1, h2, _⟩ := hc.el x h
  obtain ⟨j, hj⟩ : ∃ j : Nat, x.1 = j := ⟨x.1.toNat, by omega⟩
  refine ⟨j, hj, by omega, ?_⟩
  rw [← gathF_at (F := F) (show j < n by omega), ← hj]
  obtain ⟨k, hk, rfl⟩ := List.getElem_of_mem h
  exact (atQ_at hk fun i hi => by
    have := List.pairwise_iff_getElem.1 hc.so i k (by omega) hk hi
    omega).symm

theorem vF_ok {l : List (Int × Rat)} {K : Nat} (h : ∀ x ∈ l, Sz K x.2) {e : Ent} (he : e ∈ vF l) : e.2.ok (K + 1) := by
  obtain ⟨x, hx, rfl⟩ := List.mem_map.1 he
  exact qF_ok (h x hx) (by omega)

theorem vF_vec {n : Nat} {l : List (Int × Rat)} {K : Nat} (hn : n ≤ 4096) (hc : Cn 0 n l) (hl : l.length ≤ 4096) (h : ∀ x ∈ l, Sz K x.2) (hK : K < 2000000) : VecOk 2000000 (vF l) :=
  ⟨by simp; omega, fun e he => by
    have h1 := vF_ok h he
    obtain ⟨x, hx, rfl⟩ := List.mem_map.1 he
    have := hc.el x hx
    exact ⟨by simp only; omega, by simp only; omega, h1.mono (by omega)⟩⟩

theorem addL_sz {n : Int} {a b : List Ent} {k : Rat} {K : Nat} (hK : 1 ≤ K) (ha : ∀ e ∈ a, e.2.ok K) (hb : ∀ e ∈ b, e.2.ok K) (hk : Sz K k) : ∀ x ∈ addL n (nums a) (nums b) k, Sz (3 * K + 1) x.2 := fun x hx => by
  obtain ⟨j, _, _, h⟩ := gathF_val hx
  rw [h]
  exact (Sz_add (atQ_sz ha hK _) (Sz_mul hk (atQ_sz hb hK _) hK) hK).mono (by omega)

theorem addL_vec {n : Int} {a b : List Ent} {k : Rat} {K : Nat} (h0 : 0 ≤ n) (hn : n ≤ 4096) (hK : 1 ≤ K) (hK2 : 3 * K + 1 < 2000000) (ha : ∀ e ∈ a, e.2.ok K) (hb : ∀ e ∈ b, e.2.ok K) (hk : Sz K k) : VecOk 2000000 (vF (addL n (nums a) (nums b) k)) := by
  have := addL_length n (nums a) (nums b) k
  exact vF_vec (n := n.toNat) (by omega) (gathF_cn _ _) (by omega) (addL_sz hK ha hb hk) (by omega)

section
variable (G : Pure) (ic : Inl) (n : Nat)

/-- A result of AddScaled or Scale. -/
theorem addR_at {f1 f2 : FuncId} (h1 : G f1 = spAddScaled) (h2 : G f2 = spAddScaled) {ua ub uk un : AV} {a b : List Ent} {kq : Rat} {nn : Int} (hx : vOfA ua = some a) (hy : vOfA ub = some b) (hk : qOf uk = some kq) (hz : i64Of un = some nn)
    (K : Nat) (hK1 : 1 ≤ K) (hKa : ∀ e ∈ a, e.2.ok K) (hKb : ∀ e ∈ b, e.2.ok K) (hKk : Sz K kq) (hK : 4 * K + 4 < 2000000) :
    ∃ out vv, VecOk 2000000 out ∧ G f1 [ua, ub, uk, un] = some { val := .tup [.imm false 5 (vcs out), .int .i64 vv] } ∧ G f2 [ua, ub, uk, un] = some { val := .tup [.imm false 5 (vcs out), .int .i64 vv] } := by
  classical
  by_cases h0 : errB nn (nums a) (nums b) ≠ 0
  · exact ⟨[], _, ⟨by simp, by simp⟩, sp4_at h1 hx hy hk hz (if_pos h0), sp4_at h2 hx hy hk hz (if_pos h0)⟩
  · obtain ⟨g0, g1, _⟩ := errB_good (show errB nn (nums a) (nums b) = 0 by simpa using h0)
    exact ⟨_, _, addL_vec g0 g1 hK1 (by omega) hKa hKb hKk, sp4_at h1 hx hy hk hz (by rw [if_neg h0, if_pos ⟨K, hK1, hKa, hKb, hKk, hK⟩]), sp4_at h2 hx hy hk hz (by rw [if_neg h0, if_pos ⟨K, hK1, hKa, hKb, hKk, hK⟩])⟩

theorem scaleR_at {f1 f2 : FuncId} (h1 : G f1 = spScale) (h2 : G f2 = spScale) {ub uk un : AV} {b : List Ent} {kq : Rat} {nn : Int} (hy : vOfA ub = some b) (hk : qOf uk = some kq) (hz : i64Of un = some nn)
    (K : Nat) (hK1 : 1 ≤ K) (hKb : ∀ e ∈ b, e.2.ok K) (hKk : Sz K kq) (hK : 4 * K + 4 < 2000000) :
    ∃ out vv, VecOk 2000000 out ∧ G f1 [ub, uk, un] = some { val := .tup [.imm false 5 (vcs out), .int .i64 vv] } ∧ G f2 [ub, uk, un] = some { val := .tup [.imm false 5 (vcs out), .int .i64 vv] } := by
  classical
  by_cases h0 : errB nn [] (nums b) ≠ 0
  · exact ⟨[], _, ⟨by simp, by simp⟩, sp3_at h1 hy hk hz (if_pos h0), sp3_at h2 hy hk hz (if_pos h0)⟩
  · obtain ⟨g0, g1, _⟩ := errB_good (show errB nn [] (nums b) = 0 by simpa using h0)
    exact ⟨_, _, addL_vec (a := []) g0 g1 hK1 (by omega) (by simp) hKb hKk, sp3_at h1 hy hk hz (by rw [if_neg h0, if_pos ⟨K, hK1, hKb, hKk, hK⟩]; rfl), sp3_at h2 hy hk hz (by rw [if_neg h0, if_pos ⟨K, hK1, hKb, hKk, hK⟩]; rfl)⟩

/-- A dot product, by both sides, and compared with itself. -/
theorem dotB_at (hS : G 20 = spSameFrac) {f1 f2 : FuncId} (h1 : G f1 = spDot) (h2 : G f2 = spDot) {ua ub un : AV} {a b : List Ent} {nn : Int} (hx : vOfA ua = some a) (hy : vOfA ub = some b) (hz : i64Of un = some nn)
    (K : Nat) (hK1 : 1 ≤ K) (hKa : ∀ e ∈ a, e.2.ok K) (hKb : ∀ e ∈ b, e.2.ok K) (hK : (a.length + 1) * (2 * K + 2) < 2000000) :
    ∃ w vv, (∃ s1 s2 l1 l2 d1 d2, w = AV.agg [.bool s1, .imm l1 1 (dg d1), .bool s2, .imm l2 1 (dg d2)]) ∧ G f1 [ua, ub, un] = some { val := .tup [w, .int .i64 vv] } ∧ G f2 [ua, ub, un] = some { val := .tup [w, .int .i64 vv] } ∧ G 20 [w, w] = some { val := .bool true } := by
  classical
  by_cases h0 : errB nn (nums a) (nums b) ≠ 0
  · exact ⟨fNil, _, ⟨false, false, false, false, [], [], rfl⟩, sp3_at h1 hx hy hz (if_pos h0), sp3_at h2 hx hy hz (if_pos h0), same_nil hS⟩
  · refine ⟨_, _, ⟨_, _, _, _, _, _, rfl⟩, sp3_at h1 hx hy hz (by rw [if_neg h0, if_pos ⟨K, hKa, hKb, hK⟩]; rfl), sp3_at h2 hx hy hz (by rw [if_neg h0, if_pos ⟨K, hKa, hKb, hK⟩]; rfl), ?_⟩
    refine same_fV hS ((dotV_sz hK1 hKa hKb).mono ?_)
    have h6 : a.length * (2 * K + 1) ≤ (a.length + 1) * (2 * K + 2) := Nat.mul_le_mul (by omega) (by omega)
    have h7 : 1 * 2 ≤ (a.length + 1) * (2 * K + 2) := Nat.mul_le_mul (by omega) (by omega)
    omega

set_option maxRecDepth 20000 in
theorem sparseProducts_run (hL : G 10 = spLight3) (hF : G 14 = spLight2) (hm : G 15 = spSmall3) (hw : G 11 = spAwake)
    (hS : G 20 = spSameFrac) (hD1 : G 17 = spDot) (hD2 : G 21 = spDot) (hA1 : G 16 = spAddScaled) (hA2 : G 22 = spAddScaled)
    (hC1 : G 23 = spScale) (hC2 : G 24 = spScale) (hE : G 25 = spSameVec) :
    ∀ us, FitAll [(false, [ctV]), (false, [ctV]), (true, ctF), (false, [.int .i64])] us → ∃ n, pureF G ic n c5F us = some { val := .bool true } := by
  intro us hus
  match us, hus with
  | [u1, u2, u3, u4], ⟨⟨t1, e1, f1⟩, ⟨t2, e2, f2⟩, f3, ⟨t4, e4, f4⟩, _⟩ =>
    cases e1
    cases e2
    cases e4
    obtain ⟨na, a, rfl, hwa⟩ := fit_vec f1
    obtain ⟨nb, b, rfl, hwb⟩ := fit_vec f2
    obtain ⟨k, rfl, hwk⟩ := fit_fracA f3
    obtain ⟨nn, rfl, hn⟩ := fit_int f4
    have hn' := wf_i64 hn
    have ta := sp0_at hw
    obtain ⟨b1, tl, hb1⟩ := light_at hL false [(na, a), (nb, b)] (by simp) (fun v hv => by
      simp at hv
      rcases hv with rfl | rfl
      · exact hwa
      · exact hwb)
    obtain ⟨b2, tf, hb2⟩ := lightFr_at hF false [k] (by simp) (by simpa using hwk)
    simp only [vvs, List.map_cons, List.map_nil, vcell] at tl
    simp only [fcs, List.map_cons, List.map_nil, RF.cells] at tf
    have ts := sp1_at hm (i64Of_mk hn'.1 hn'.2) rfl
    obtain ⟨b3, hb3⟩ : ∃ b3, b3 = (decide (nn ≤ 60) || decide (4096 < nn)) := ⟨_, rfl⟩
    rw [← hb3] at ts
    refine ⟨0, ?_⟩
    cases b1 with
    | false => simp [pureF, runF, tl, ta]
    | true =>
    cases b2 with
    | false => simp [pureF, runF, tl, tf, ta]
    | true =>
    cases b3 with
    | false => simp [pureF, runF, tl, tf, ts, ta]
    | true =>
      obtain ⟨ga, la, ka⟩ := (hb1 rfl).vec (v := (na, a)) (by simp)
      obtain ⟨gb, lb, kb⟩ := (hb1 rfl).vec (v := (nb, b)) (by simp)
      have kk := (hb2 rfl).2 k (by simp)
      have xa := vOfA_mk (nl := na) ga
      have xb := vOfA_mk (nl := nb) gb
      have xn := i64Of_mk hn'.1 hn'.2
      have xk := (kk.mono (by decide) : k.ok 2000000).qOf'
      have hK : (a.length + 1) * (2 * 13 + 2) < 2000000 := by simp only at la; omega
      obtain ⟨w, vv, ⟨p1, p2, p3, p4, p5, p6, rfl⟩, d1, d2, d3⟩ := dotB_at G hS hD1 hD2 xa xb xn 13 (by decide) ka kb hK
      obtain ⟨o1, v1, q1, q2, q3⟩ := addR_at G hA1 hA2 xa xb xk xn 13 (by decide) ka kb (Sz_RF kk) (by decide)
      obtain ⟨o2, v2, r1, r2, r3⟩ := scaleR_at G hC1 hC2 xa xk xn 13 (by decide) ka (Sz_RF kk) (by decide)
      have e1 := sp2_at hE (vOfA_mk (nl := false) q1) (vOfA_mk (nl := false) q1) (if_pos rfl)
      have e2 := sp2_at hE (vOfA_mk (nl := false) r1) (vOfA_mk (nl := false) r1) (if_pos rfl)
      simp [pureF, runF, tl, tf, ts, ta, d1, d2, d3, q2, q3, r2, r3, e1, e2]

end
end Go.Proofs.Ythlpmghodgiknaa.C

/-
  The laws of the dense lists, of the way back, and of linearity.
-/
namespace Go.Proofs.Ythlpmghodgiknaa.C
open Go Go.Ev

theorem gath_mem : ∀ (i : Int) (L : List Rat) (x : Int × Rat), x ∈ gath i L → x.2 ∈ L
  | _, [], _, h => by simp [gath] at h
  | i, q :: r, x, h => by
    by_cases h0 : q = 0
    · rw [gath_zero h0] at h
      exact List.mem_cons_of_mem _ (gath_mem _ _ _ h)
    · rw [gath_next h0] at h
      rcases List.mem_cons.1 h with rfl | h
      · simp
      · exact List.mem_cons_of_mem _ (gath_mem _ _ _ h)

/-! ### Sums -/

def sumQ : Nat → (Nat → Rat) → Rat
  | 0, _ => 0
  | n + 1, f => sumQ n f + f n

theorem sumQ_congr {n : Nat} {f g : Nat → Rat} (h : ∀ j, j < n → f j = g j) : sumQ n f = sumQ n g := by
  induction n with
  | zero => rfl
  | succ n ih => simp only [sumQ]; rw [ih fun j hj => h j (by omega), h n (by omega)]
theorem sumQ_add (n : Nat) (f g : Nat → Rat) : sumQ n (fun j => f j + g j) = sumQ n f + sumQ n g := by
  induction n with
  | zero => simp [sumQ, Rat.add_zero]
  | succ n ih =>
    simp only [sumQ]
    rw [ih, Rat.add_assoc, Rat.add_assoc]
    congr 1
    rw [← Rat.add_assoc, Rat.add_comm (sumQ n g) (f n), Rat.add_assoc]
theorem sumQ_mul (n : Nat) (c : Rat) (f : Nat → Rat) : sumQ n (fun j => c * f j) = c * sumQ n f := by
  induction n with
  | zero => simp [sumQ, Rat.mul_zero]
  | succ n ih => simp only [sumQ]; rw [ih, Rat.mul_add]
theorem sumQ_zero (n : Nat) : sumQ n (fun _ => 0) = 0 := by
  induction n with
  | zero => rfl
  | succ n ih => simp only [sumQ]; rw [ih, Rat.add_zero]
theorem sumQ_delta (n k : Nat) (c : Rat) : sumQ n (fun j => if j = k then c else 0) = if k < n then c else 0 := by
  induction n with
  | zero => simp [sumQ]
  | succ n ih =>
    simp only [sumQ]
    rw [ih]
    by_cases h : k < n
    · rw [if_pos h, if_neg (by omega), if_pos (by omega), Rat.add_zero]
    · rw [if_neg h]
      by_cases h2 : n = k
      · rw [if_pos h2, if_pos (by omega), Rat.zero_add]
      · rw [if_neg h2, if_neg (by omega), Rat.add_zero]

theorem dotS_sum (b : List (Int × Rat)) (n : Nat) : ∀ (l : List (Int × Rat)) (lo : Int) (s : Rat), 0 ≤ lo → Cn lo n l → dotS b l s = s + sumQ n fun j => atQ l j * atQ b j
  | [], _, s, _, _ => by
    rw [sumQ_congr (g := fun _ => 0) (fun j _ => by simp [atQ, Rat.zero_mul]), sumQ_zero, Rat.add_zero]; rfl
  | x :: r, lo, s, h0, h => by
    have hx := h.el x (by simp)
    obtain ⟨k, hk⟩ : ∃ k : Nat, x.1 = k := ⟨x.1.toNat, by omega⟩
    rw [dotS, dotS_sum b n r (x.1 + 1) _ (by omega) h.tail, Rat.add_assoc]
    congr 1
    have e1 : (fun j : Nat => atQ (x :: r) j * atQ b j) = fun j : Nat => (if j = k then x.2 * atQ b x.1 else 0) + atQ r j * atQ b j := by
      funext j
      rw [atQ_cons]
      by_cases hj : j = k
      · rw [if_pos (by omega), if_pos hj, h.tail.at_lo (by omega), Rat.zero_mul, Rat.add_zero, hk, hj]
      · rw [if_neg (by omega), if_neg hj, Rat.zero_add]
    rw [e1, sumQ_add, sumQ_delta, if_pos (by omega)]

theorem dot_linear {n : Int} {a b c : List (Int × Rat)} (h0 : 0 ≤ n) (ha : Cn 0 n a) (hb : Cn 0 n b) (hc : Cn 0 n c) (k : Rat) :
    dotS c (addL n a b k) 0 = dotS c a 0 + k * dotS c b 0 ∧ dotS (addL n a b k) c 0 = dotS c a 0 + k * dotS c b 0 := by
  obtain ⟨m, rfl⟩ : ∃ m : Nat, n = m := ⟨n.toNat, by omega⟩
  have hs : Cn 0 m (addL m a b k) := gathF_cn m _
  have hat : ∀ j, j < m → atQ (addL m a b k) (j : Int) = atQ a j + k * atQ b j := fun j hj => gathF_at hj
  have key : sumQ m (fun j => atQ (addL m a b k) j * atQ c j) = sumQ m (fun j => atQ a j * atQ c j) + k * sumQ m (fun j => atQ b j * atQ c j) := by
    rw [← sumQ_mul, ← sumQ_add]
    exact sumQ_congr fun j hj => by rw [hat j hj, Rat.add_mul, Rat.mul_assoc]
  rw [dotS_sum c m _ 0 0 (Int.le_refl _) hs, dotS_sum c m _ 0 0 (Int.le_refl _) ha, dotS_sum c m _ 0 0 (Int.le_refl _) hb, dotS_sum _ m _ 0 0 (Int.le_refl _) hc]
  simp only [Rat.zero_add]
  refine ⟨key, ?_⟩
  rw [← key]
  exact sumQ_congr fun j _ => Rat.mul_comm _ _

theorem cn_valE (n : Int) : ∀ (l : List (Int × Rat)) (p : Option Int) (lo : Int), (∀ j, p = some j → j < lo) → 0 ≤ lo → Cn lo n l → valE n p l = 0
  | [], _, _, _, _, _ => rfl
  | (i, q) :: r, p, lo, hp, h0, h => by
    have hx := h.el (i, q) (by simp)
    simp only at hx
    rw [valE_next (by omega) (by rintro ⟨j, hj, hle⟩; have := hp j hj; omega) hx.2.2]
    exact cn_valE n r (some i) (i + 1) (fun j hj => by cases hj; omega) (by omega) h.tail

theorem cn_valid {n : Int} {l : List (Int × Rat)} (h0 : 0 ≤ n) (h1 : n ≤ 4096) (h : Cn 0 n l) : valid n l = 0 := by
  unfold valid
  rw [if_neg (by omega)]
  exact cn_valE n l none 0 (by simp) (Int.le_refl _) h

section
variable (G : Pure) (ic : Inl) (n : Nat)

/-! ### SparseDense -/

theorem fromDense_at {f1 f2 : FuncId} (h1 : G f1 = spFromDense) (h2 : G f2 = spFromDense) (nl : Bool) {l : List RF} {K : Nat} (hl : l.length ≤ 4096) (hK : K < 2000000) (h : ∀ f ∈ l, f.ok K) :
    ∃ out, VecOk 2000000 out ∧ G f1 [.imm nl 4 (fcs l)] = some { val := .tup [.imm false 5 (vcs out), .int .i64 0] } ∧ G f2 [.imm nl 4 (fcs l)] = some { val := .tup [.imm false 5 (vcs out), .int .i64 0] } := by
  have hx := fsOf_mk (nl := nl) (l := l) ⟨by omega, fun f hf => (h f hf).mono (by omega)⟩
  have hc := gath_cn 0 (l.map RF.q)
  rw [List.length_map, Int.zero_add] at hc
  have hg := gath_length 0 (l.map RF.q)
  rw [List.length_map] at hg
  refine ⟨_, vF_vec (n := l.length) hl hc (by omega) (fun x hx => ?_) hK, sp1_at h1 hx (if_neg (by omega)), sp1_at h2 hx (if_neg (by omega))⟩
  have := gath_mem _ _ _ hx
  obtain ⟨f, hf, he⟩ := List.mem_map.1 this
  rw [← he]
  exact Sz_RF (h f hf)

set_option maxRecDepth 20000 in
theorem sparseDense_run (hL : G 10 = spLight3) (hF : G 14 = spLight2) (hm : G 15 = spSmall3) (hw : G 11 = spAwake)
    (hS : G 20 = spSameFrac) (hD1 : G 27 = spFromDense) (hD2 : G 29 = spFromDense) (hT1 : G 26 = spToDense) (hT2 : G 30 = spToDenseF)
    (hA1 : G 32 = spAt) (hA2 : G 33 = spAt) (hE : G 25 = spSameVec) (hF2 : G 31 = spSameFracs) :
    ∀ us, FitAll [(false, [.sl ctF]), (false, [ctV]), (false, [.int .i64]), (false, [.int .i64])] us → ∃ n, pureF G ic n c7F us = some { val := .bool true } := by
  intro us hus
  match us, hus with
  | [u1, u2, u3, u4], ⟨⟨t1, e1, f1⟩, ⟨t2, e2, f2⟩, ⟨t3, e3, f3⟩, ⟨t4, e4, f4⟩, _⟩ =>
    cases e1
    cases e2
    cases e3
    cases e4
    obtain ⟨nd, l, rfl, hll, hwl⟩ := fit_fracs f1
    obtain ⟨na, a, rfl, hwa⟩ := fit_vec f2
    obtain ⟨nn, rfl, hn⟩ := fit_int f3
    obtain ⟨ii, rfl, hi⟩ := fit_int f4
    have hn' := wf_i64 hn
    have hi' := wf_i64 hi
    have ta := sp0_at hw
    obtain ⟨b1, tl, hb1⟩ := light_at hL false [(na, a)] (by simp) (by simpa using hwa)
    obtain ⟨b2, tf, hb2⟩ := lightFr_at hF nd l hll hwl
    simp only [vvs, List.map_cons, List.map_nil, vcell] at tl
    have ts := sp1_at hm (i64Of_mk hn'.1 hn'.2) rfl
    obtain ⟨b3, hb3⟩ : ∃ b3, b3 = (decide (nn ≤ 60) || decide (4096 < nn)) := ⟨_, rfl⟩
    rw [← hb3] at ts
    refine ⟨0, ?_⟩
    cases b1 with
    | false => simp [pureF, runF, tl, ta]
    | true =>
    cases b2 with
    | false => simp [pureF, runF, tl, tf, ta]
    | true =>
    cases b3 with
    | false => simp [pureF, runF, tl, tf, ts, ta]
    | true =>
      obtain ⟨ga, la, ka⟩ := (hb1 rfl).vec (v := (na, a)) (by simp)
      obtain ⟨l20, kl⟩ := hb2 rfl
      have xa := vOfA_mk (nl := na) ga
      have xn := i64Of_mk hn'.1 hn'.2
      have xi := i64Of_mk hi'.1 hi'.2
      obtain ⟨o1, q1, q2, q3⟩ := fromDense_at G hD1 hD2 nd (K := 13) (by omega) (by decide) kl
      have e1 := sp2_at hE (vOfA_mk (nl := false) q1) (vOfA_mk (nl := false) q1) (if_pos rfl)
      have a1 := sp2_at hA1 xa xi rfl
      have a2 := sp2_at hA2 xa xi rfl
      have a3 := same_fV hS (q := atQ (nums a) ii) ((atQ_sz ka (by decide) ii).mono (by decide))
      have td2 : G 30 [.imm na 5 (vcs a), .int .i64 nn] = if valid nn (nums a) ≠ 0 then some { val := .tup [.imm false 4 [], .int .i64 (valid nn (nums a))] }
          else some { val := .tup [.sl 0 0 nn.toNat, .int .i64 0], objs := [{ sz := 4, ty := 33, es := fcs (rowQ nn.toNat fun j => atQ (nums a) j), refs := [] }] } := by
        rw [hT2]; simp only [spToDenseF, xa, xn]
      obtain ⟨q, hq⟩ : ∃ q, q = atQ (nums a) ii := ⟨_, rfl⟩
      rw [← hq] at a1 a2 a3
      simp only [fV_agg] at a1 a2 a3
      by_cases h0 : valid nn (nums a) ≠ 0
      · have td1 := sp2_at hT1 xa xn (if_pos h0)
        rw [if_pos h0] at td2
        have s0 := sp2_at hF2 (fsOf_mk (nl := false) (l := []) ⟨by simp, by simp⟩) (fsOf_mk (nl := false) (l := []) ⟨by simp, by simp⟩) (if_pos rfl)
        obtain ⟨v, hv⟩ : ∃ v, v = valid nn (nums a) := ⟨_, rfl⟩
        rw [← hv] at td1 td2
        simp [fcs] at s0
        clear hq hb3
        simp [pureF, runF, tl, tf, ts, ta, q2, q3, e1, td1, td2, s0, a1, a2, a3, AV.rk, AV.rkL]
      · have td1 := sp2_at hT1 xa xn (if_neg h0)
        rw [if_neg h0] at td2
        obtain ⟨g0, g1, _⟩ := valid_ok (show valid nn (nums a) = 0 by simpa using h0)
        obtain ⟨N, rfl⟩ : ∃ N : Nat, nn = N := ⟨nn.toNat, by omega⟩
        rw [Int.toNat_natCast] at td1 td2
        have fo := rowQ_ok (N := N) (F := fun j => atQ (nums a) j) (by omega) (fun j => atQ_sz ka (by decide) _) (by decide)
        have s0 := sp2_at hF2 (fsOf_mk (nl := false) fo) (fsOf_mk (nl := false) fo) (if_pos rfl)
        obtain ⟨R, hR⟩ : ∃ R, R = fcs (rowQ N fun j => atQ (nums a) j) := ⟨_, rfl⟩
        have hRl : R.length = N := by rw [hR]; simp
        have hRT : R.take N = R := by rw [← hRl, List.take_length]
        rw [← hR] at td1 td2 s0
        clear hq hb3 hR fo
        simp [pureF, runF, tl, tf, ts, ta, q2, q3, e1, td1, td2, s0, a1, a2, a3, AV.rk, AV.rkL, hRl, hRT]

/-! ### SparseBack -/

theorem back_loop (hS : G 20 = spSameFrac) (hC : G 28 = spReduce) (nl : Bool) (l : List Ent) (hl : VecOk 2000000 l) (K : Nat) (hK : K < 2000000) (hlK : ∀ e ∈ l, e.2.ok K) : ∀ d i m, i + d = l.length → d < m →
    blockE (some c6_e0) 0 (iterK G ic n c6_k0 c6_b0Q m ⟨[(0, .imm nl 5 (vcs l)), (7, .imm false 5 (vcs (vF (nums l)))), (9, .int .i64 i)], [], [], [], []⟩) =
      some (.normal, ⟨[], [], [], [], []⟩) := by
  have hlen := hl.len
  intro d
  induction d with
  | zero =>
    intro i m hi hm
    obtain ⟨m, rfl⟩ : ∃ i, m = i + 1 := ⟨m - 1, by omega⟩
    have e : i = l.length := by omega
    subst e
    simp [iterK_succ]
  | succ d ih =>
    intro i m hi hm
    obtain ⟨m, rfl⟩ : ∃ i, m = i + 1 := ⟨m - 1, by omega⟩
    have hil : i < l.length := by omega
    obtain ⟨e, he⟩ : ∃ e, e = l[i] := ⟨_, rfl⟩
    have hmem : e ∈ l := by rw [he]; exact List.getElem_mem _
    have hek := hl.ents e hmem
    have g := vcs_get l i hil
    rw [← he] at g
    have g2 : (vcs (vF (nums l)))[i]? = some (ecells (e.1, qF e.2.q)) := by
      have h2 : i < (vF (nums l)).length := by simpa [nums] using hil
      rw [vcs_get _ i h2]
      congr 2
      simp [vF, nums, ← he]
    have e1 := ih (i + 1) m (by omega) (by omega)
    have tc := reduceF_at hC hek.fr
    have ts := same_fV hS (q := e.2.q) ((Sz_RF (hlK e hmem)).mono (by omega))
    have w5 : IntKind.i64.wrap ((i : Int) + 1) = (i : Int) + 1 := wrap64_id _ (by omega) (by omega)
    obtain ⟨q, hq⟩ : ∃ q, q = e.2.q := ⟨_, rfl⟩
    rw [← hq] at tc ts g2
    simp only [fV_agg] at tc ts
    rw [← e1]
    obtain ⟨W, hW⟩ : ∃ W, W = vcs (vF (nums l)) := ⟨_, rfl⟩
    have hWl : W.length = l.length := by rw [hW]; simp [nums]
    rw [← hW] at g2 ⊢
    have g3 : ∀ h : i < W.length, W[i] = ecells (e.1, qF q) := fun h => by
      have := g2
      rw [List.getElem?_eq_getElem h] at this
      exact Option.some.inj this
    clear e1 hq hW g2
    simp [qF] at g3
    simp [iterK_succ, hil, g, g3, hWl, tc, ts, ← he, w5]

theorem sparseBack_run (hL : G 10 = spLight3) (hm : G 15 = spSmall3) (hw : G 11 = spAwake) (hV : G 13 = spValidate)
    (hS : G 20 = spSameFrac) (hC : G 28 = spReduce) (hD1 : G 27 = spFromDense) (hT1 : G 26 = spToDense) :
    ∀ us, FitAll [(false, [ctV]), (false, [.int .i64])] us → ∃ n, pureF G ic n c6F us = some { val := .bool true } := by
  intro us hus
  match us, hus with
  | [u1, u2], ⟨⟨t1, e1, f1⟩, ⟨t2, e2, f2⟩, _⟩ =>
    cases e1
    cases e2
    obtain ⟨na, a, rfl, hwa⟩ := fit_vec f1
    obtain ⟨nn, rfl, hn⟩ := fit_int f2
    have hn' := wf_i64 hn
    have ta := sp0_at hw
    obtain ⟨b1, tl, hb1⟩ := light_at hL false [(na, a)] (by simp) (by simpa using hwa)
    simp only [vvs, List.map_cons, List.map_nil, vcell] at tl
    have ts := sp1_at hm (i64Of_mk hn'.1 hn'.2) rfl
    obtain ⟨b3, hb3⟩ : ∃ b3, b3 = (decide (nn ≤ 60) || decide (4096 < nn)) := ⟨_, rfl⟩
    rw [← hb3] at ts
    cases b1 with
    | false => exact ⟨0, by simp [pureF, runF, tl, ta]⟩
    | true =>
    cases b3 with
    | false => exact ⟨0, by simp [pureF, runF, tl, ts, ta]⟩
    | true =>
      obtain ⟨ga, la, ka⟩ := (hb1 rfl).vec (v := (na, a)) (by simp)
      have xa := vOfA_mk (nl := na) ga
      have xn := i64Of_mk hn'.1 hn'.2
      have tv := sp2_at hV xa xn rfl
      by_cases h0 : valid nn (nums a) = 0
      · have td1 := sp2_at hT1 xa xn (if_neg (by rw [h0]; simp))
        obtain ⟨g0, g1, _⟩ := valid_ok h0
        obtain ⟨N, rfl⟩ : ∃ N : Nat, nn = N := ⟨nn.toNat, by omega⟩
        rw [Int.toNat_natCast] at td1
        rw [h0] at tv
        have hc := valid_cn h0
        have fo := rowQ_ok (N := N) (F := fun j => atQ (nums a) j) (by omega) (fun j => atQ_sz ka (by decide) _) (by decide)
        have hg : gath 0 ((rowQ N fun j => atQ (nums a) j).map RF.q) = nums a := by
          rw [rowQ_q]
          exact (Cn.gathF hc (fun j _ => rfl)).symm
        have tf := sp1_at hD1 (fsOf_mk (nl := false) fo) (by rw [rowQ_length, if_neg (by omega), hg])
        obtain ⟨M, hM⟩ : ∃ M, M = a.length + 1 := ⟨_, rfl⟩
        have e := back_loop G ic M hS hC na a ga 13 (by decide) ka a.length 0 M (by omega) (by omega)
        obtain ⟨R, hR⟩ : ∃ R, R = fcs (rowQ N fun j => atQ (nums a) j) := ⟨_, rfl⟩
        have hRl : R.length = N := by rw [hR]; simp
        obtain ⟨W, hW⟩ : ∃ W, W = vcs (vF (nums a)) := ⟨_, rfl⟩
        have hWl : W.length = a.length := by rw [hW]; simp [nums]
        rw [← hR] at td1 tf
        rw [← hW] at tf e
        clear hb3 hR fo hg hW
        simp [c6_e0, c6_k0] at e
        refine ⟨M, ?_⟩
        simp [pureF, runF, tl, ts, ta, tv, td1, tf, hRl, hWl, e]
      · obtain ⟨v, hv⟩ : ∃ v, v = valid nn (nums a) := ⟨_, rfl⟩
        rw [← hv] at tv h0
        exact ⟨0, by simp [pureF, runF, tl, ts, ta, tv, h0]⟩

/-! ### SparseLinear -/

set_option maxRecDepth 20000 in
theorem sparseLinear_run (hL : G 10 = spLight3) (hF : G 14 = spLight2) (hm : G 15 = spSmall3) (hw : G 11 = spAwake) (hV : G 13 = spValidate)
    (hS : G 20 = spSameFrac) (hD : G 17 = spDot) (hA : G 16 = spAddScaled) (hPA : G 18 = spAddFrac) (hPM : G 19 = spMulFrac) :
    ∀ us, FitAll [(false, [ctV]), (false, [ctV]), (false, [ctV]), (true, ctF), (false, [.int .i64])] us → ∃ n, pureF G ic n c4F us = some { val := .bool true } := by
  classical
  intro us hus
  match us, hus with
  | [u1, u2, u3, u4, u5], ⟨⟨t1, e1, f1⟩, ⟨t2, e2, f2⟩, ⟨t3, e3, f3⟩, f4, ⟨t5, e5, f5⟩, _⟩ =>
    cases e1
    cases e2
    cases e3
    cases e5
    obtain ⟨na, a, rfl, hwa⟩ := fit_vec f1
    obtain ⟨nb, b, rfl, hwb⟩ := fit_vec f2
    obtain ⟨nc, c, rfl, hwc⟩ := fit_vec f3
    obtain ⟨k, rfl, hwk⟩ := fit_fracA f4
    obtain ⟨nn, rfl, hn⟩ := fit_int f5
    have hn' := wf_i64 hn
    have ta := sp0_at hw
    obtain ⟨b1, tl, hb1⟩ := light_at hL false [(na, a), (nb, b), (nc, c)] (by simp) (fun v hv => by
      simp at hv
      rcases hv with rfl | rfl | rfl
      · exact hwa
      · exact hwb
      · exact hwc)
    obtain ⟨b2, tf, hb2⟩ := lightFr_at hF false [k] (by simp) (by simpa using hwk)
    simp only [vvs, List.map_cons, List.map_nil, vcell] at tl
    simp only [fcs, List.map_cons, List.map_nil, RF.cells] at tf
    have ts := sp1_at hm (i64Of_mk hn'.1 hn'.2) rfl
    obtain ⟨b3, hb3⟩ : ∃ b3, b3 = (decide (nn ≤ 60) || decide (4096 < nn)) := ⟨_, rfl⟩
    rw [← hb3] at ts
    refine ⟨0, ?_⟩
    cases b1 with
    | false => simp [pureF, runF, tl, ta]
    | true =>
    cases b2 with
    | false => simp [pureF, runF, tl, tf, ta]
    | true =>
    cases b3 with
    | false => simp [pureF, runF, tl, tf, ts, ta]
    | true =>
      obtain ⟨ga, la, ka⟩ := (hb1 rfl).vec (v := (na, a)) (by simp)
      obtain ⟨gb, lb, kb⟩ := (hb1 rfl).vec (v := (nb, b)) (by simp)
      obtain ⟨gc, lc, kc⟩ := (hb1 rfl).vec (v := (nc, c)) (by simp)
      have kk := (hb2 rfl).2 k (by simp)
      have xa := vOfA_mk (nl := na) ga
      have xb := vOfA_mk (nl := nb) gb
      have xc := vOfA_mk (nl := nc) gc
      have xn := i64Of_mk hn'.1 hn'.2
      have xk := (kk.mono (by decide) : k.ok 2000000).qOf'
      have tva := sp2_at hV xa xn rfl
      have tvb := sp2_at hV xb xn rfl
      have tvc := sp2_at hV xc xn rfl
      by_cases va : valid nn (nums a) = 0
      case neg =>
        obtain ⟨v, hv⟩ : ∃ v, v = valid nn (nums a) := ⟨_, rfl⟩
        rw [← hv] at tva va
        simp [pureF, runF, tl, tf, ts, ta, tva, va]
      rw [va] at tva
      by_cases vb : valid nn (nums b) = 0
      case neg =>
        obtain ⟨v, hv⟩ : ∃ v, v = valid nn (nums b) := ⟨_, rfl⟩
        rw [← hv] at tvb vb
        simp [pureF, runF, tl, tf, ts, ta, tva, tvb, vb]
      rw [vb] at tvb
      by_cases vc : valid nn (nums c) = 0
      case neg =>
        obtain ⟨v, hv⟩ : ∃ v, v = valid nn (nums c) := ⟨_, rfl⟩
        rw [← hv] at tvc vc
        simp [pureF, runF, tl, tf, ts, ta, tva, tvb, tvc, vc]
      rw [vc] at tvc
      obtain ⟨g0, g1, _⟩ := valid_ok va
      have n60 : nn ≤ 60 := by
        have hb3' := hb3.symm
        simp only [Bool.or_eq_true, decide_eq_true_eq] at hb3'
        omega
      obtain ⟨x1, x2⟩ := dot_linear g0 (valid_cn va) (valid_cn vb) (valid_cn vc) k.q
      have eab : errB nn (nums a) (nums b) = 0 := by unfold errB; rw [if_pos va, vb]
      have tS := sp4_at hA xa xb xk xn (by rw [if_neg (by rw [eab]; simp), if_pos ⟨13, by decide, ka, kb, Sz_RF kk, by decide⟩])
      have hsv := addL_vec (n := nn) g0 g1 (K := 13) (by decide) (by decide) ka kb (Sz_RF kk)
      have hsz := addL_sz (n := nn) (K := 13) (by decide) ka kb (Sz_RF kk)
      have hsl := addL_length nn (nums a) (nums b) k.q
      have hsc : Cn 0 nn (addL nn (nums a) (nums b) k.q) := by
        have := gathF_cn nn.toNat fun j => atQ (nums a) j + k.q * atQ (nums b) j
        rw [Int.toNat_of_nonneg g0] at this
        exact this
      have vs := cn_valid g0 g1 hsc
      obtain ⟨S, hSe⟩ : ∃ S, S = addL nn (nums a) (nums b) k.q := ⟨_, rfl⟩
      rw [← hSe] at tS hsv hsz hsl vs x1 x2
      have xS := vOfA_mk (nl := false) hsv
      have kS : ∀ e ∈ vF S, e.2.ok 41 := fun e he => vF_ok hsz he
      have lS : (vF S).length ≤ 60 := by simp; omega
      have esc : errB nn (nums (vF S)) (nums c) = 0 := by unfold errB; rw [nums_vF, if_pos vs, vc]
      have ecs : errB nn (nums c) (nums (vF S)) = 0 := by unfold errB; rw [nums_vF, if_pos vc, vs]
      have eac : errB nn (nums a) (nums c) = 0 := by unfold errB; rw [if_pos va, vc]
      have ebc : errB nn (nums b) (nums c) = 0 := by unfold errB; rw [if_pos vb, vc]
      have m41 : ∀ {l : List Ent}, (∀ e ∈ l, e.2.ok 13) → ∀ e ∈ l, e.2.ok 41 := fun h e he => (h e he).mono (by decide)
      simp only at la lb lc
      have d1 := sp3_at hD xS xc xn (by rw [if_neg (by rw [esc]; simp), if_pos ⟨41, kS, m41 kc, by omega⟩])
      have d2 := sp3_at hD xa xc xn (by rw [if_neg (by rw [eac]; simp), if_pos ⟨13, ka, kc, by show (a.length + 1) * (2 * 13 + 2) < 2000000; omega⟩])
      have d3 := sp3_at hD xb xc xn (by rw [if_neg (by rw [ebc]; simp), if_pos ⟨13, kb, kc, by show (b.length + 1) * (2 * 13 + 2) < 2000000; omega⟩])
      have d4 := sp3_at hD xc xS xn (by rw [if_neg (by rw [ecs]; simp), if_pos ⟨41, m41 kc, kS, by show (c.length + 1) * (2 * 41 + 2) < 2000000; omega⟩])
      rw [nums_vF, x1] at d1
      rw [nums_vF, x2] at d4
      have zp := dotV_sz (by decide) ka kc
      have zq := dotV_sz (by decide) kb kc
      have hla : 1 + a.length * (2 * 13 + 1) ≤ 10000 := by omega
      have hlb : 1 + b.length * (2 * 13 + 1) ≤ 10000 := by omega
      replace zp := zp.mono hla
      replace zq := zq.mono hlb
      obtain ⟨P, hP⟩ : ∃ P, P = dotS (nums c) (nums a) 0 := ⟨_, rfl⟩
      obtain ⟨Q, hQ⟩ : ∃ Q, Q = dotS (nums c) (nums b) 0 := ⟨_, rfl⟩
      rw [← hP] at d1 d2 d4 zp
      rw [← hQ] at d1 d3 d4 zq
      have zm := Sz_mul (Sz_RF kk) zq (by decide)
      have tm := sp2_at hPM xk (qOf_fV zq (by decide)) rfl
      obtain ⟨M, hM⟩ : ∃ M, M = k.q * Q := ⟨_, rfl⟩
      rw [← hM] at d1 d4 zm tm
      have zy := Sz_add zp zm (by decide)
      have ty := sp2_at hPA (qOf_fV zp (by decide)) (qOf_fV zm (by decide)) rfl
      obtain ⟨Y, hY⟩ : ∃ Y, Y = P + M := ⟨_, rfl⟩
      rw [← hY] at d1 d4 zy ty
      have se := same_fV hS (q := Y) (zy.mono (by decide))
      simp only [fV_agg] at d1 d2 d3 d4 tm ty se
      obtain ⟨Sv, hSv⟩ : ∃ Sv, Sv = vcs (vF S) := ⟨_, rfl⟩
      rw [← hSv] at tS d1 d4
      clear hP hQ hM hY hSv hSe x1 x2 hb3
      simp [pureF, runF, tl, tf, ts, ta, tva, tvb, tvc, tS, d1, d2, d3, d4, tm, ty, se]

end
end Go.Proofs.Ythlpmghodgiknaa.C
