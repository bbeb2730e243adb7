/-
  Light vectors; the validity of vectors.
-/
import Derived.Test.YthlpmghodgiknaaSqA
import Derived.Test.YthlpmghodgiknaaVc
namespace Go.Proofs.Ythlpmghodgiknaa.C
open Go Go.Ev

section
variable (G : Pure) (ic : Inl) (n : Nat)

/-! ### Validate -/

/-- The error of the entries; 'p': the index before. -/
def valE (n : Int) : Option Int → List (Int × Rat) → Int
  | _, [] => 0
  | p, (i, q) :: r => if i < 0 ∨ n ≤ i then 5 else if (∃ j, p = some j ∧ i ≤ j) then 8 else if q = 0 then 11 else valE n (some i) r

def valid (n : Int) (l : List (Int × Rat)) : Int := if n < 0 ∨ 4096 < n then 5 else valE n none l

theorem valE_vals (n : Int) : ∀ (l : List (Int × Rat)) (p : Option Int), valE n p l = 0 ∨ valE n p l = 5 ∨ valE n p l = 8 ∨ valE n p l = 11
  | [], _ => .inl rfl
  | (i, q) :: r, p => by
    unfold valE
    split
    · simp
    · split
      · simp
      · split
        · simp
        · exact valE_vals n r (some i)

/-- How the loop ends: with the error, or none. -/
def errOut (v : Int) : Out := if v = 0 then some (.normal, ⟨[], [], [], [], []⟩) else some (.ret, ⟨[(4, .int .i64 v)], [], [], [], []⟩)
theorem errOut_0 : errOut 0 = some (.normal, ⟨[], [], [], [], []⟩) := rfl
theorem errOut_ne {v : Int} (h : v ≠ 0) : errOut v = some (.ret, ⟨[(4, .int .i64 v)], [], [], [], []⟩) := by unfold errOut; rw [if_neg h]
theorem errOut_5 : errOut 5 = some (.ret, ⟨[(4, .int .i64 5)], [], [], [], []⟩) := rfl
theorem errOut_8 : errOut 8 = some (.ret, ⟨[(4, .int .i64 8)], [], [], [], []⟩) := rfl
theorem errOut_11 : errOut 11 = some (.ret, ⟨[(4, .int .i64 11)], [], [], [], []⟩) := rfl

theorem valE_range {n i : Int} {p : Option Int} {q : Rat} {r : List (Int × Rat)} (h : i < 0 ∨ n ≤ i) : valE n p ((i, q) :: r) = 5 := by unfold valE; rw [if_pos h]
theorem valE_order {n i : Int} {p : Option Int} {q : Rat} {r : List (Int × Rat)} (h : ¬ (i < 0 ∨ n ≤ i)) (h2 : ∃ j, p = some j ∧ i ≤ j) : valE n p ((i, q) :: r) = 8 := by unfold valE; rw [if_neg h, if_pos h2]
theorem valE_zero {n i : Int} {p : Option Int} {q : Rat} {r : List (Int × Rat)} (h : ¬ (i < 0 ∨ n ≤ i)) (h2 : ¬ ∃ j, p = some j ∧ i ≤ j) (h3 : q = 0) : valE n p ((i, q) :: r) = 11 := by unfold valE; rw [if_neg h, if_neg h2, if_pos h3]
theorem valE_next {n i : Int} {p : Option Int} {q : Rat} {r : List (Int × Rat)} (h : ¬ (i < 0 ∨ n ≤ i)) (h2 : ¬ ∃ j, p = some j ∧ i ≤ j) (h3 : q ≠ 0) : valE n p ((i, q) :: r) = valE n (some i) r := by conv => { lhs; unfold valE }; rw [if_neg h, if_neg h2, if_neg h3]

noncomputable def spValidate : List AV → Option PRes := sp2 vOfA i64Of fun l n => some (.int .i64 (valid n (nums l)))

def prevI (l : List Ent) (i : Nat) : Option Int := if i = 0 then none else (l[i - 1]?).map (·.1)

theorem num_zero_cmp (q : Rat) : cmpZ q.num 0 = 0 ↔ q = 0 := by
  unfold cmpZ
  rw [← Rat.num_eq_zero]
  split
  · constructor <;> omega
  · split <;> constructor <;> omega

theorem validateP_loop (hS : G 40 = spSignFrac) (nl : Bool) (l : List Ent) (hl : VecOk 2000000 l) (nn : Int) (hn : 0 ≤ nn ∧ nn ≤ 4096) : ∀ d i m, i + d = l.length → d < m →
    blockE (some c12_e0) 0 (iterK G ic n c12_k0 c12_b0Q m ⟨[(0, .imm nl 5 (vcs l)), (1, .int .i64 nn), (13, .imm nl 5 (vcs l)), (14, .int .i64 l.length), (15, .int .i64 i)], [], [], [], []⟩) =
      errOut (valE nn (prevI l i) (nums (l.drop i))) := by
  have hlen := hl.len
  intro d
  induction d with
  | zero =>
    intro i m hi hm
    obtain ⟨m, rfl⟩ : ∃ i, m = i + 1 := ⟨m - 1, by omega⟩
    have e : i = l.length := by omega
    subst e
    rw [List.drop_length, show valE nn (prevI l l.length) (nums []) = 0 from rfl, errOut_0]
    simp [iterK_succ]
  | succ d ih =>
    intro i m hi hm
    obtain ⟨m, rfl⟩ : ∃ i, m = i + 1 := ⟨m - 1, by omega⟩
    have hil : i < l.length := by omega
    obtain ⟨e, he⟩ : ∃ e, e = l[i] := ⟨_, rfl⟩
    have hdrop : l.drop i = e :: l.drop (i + 1) := by rw [List.drop_eq_getElem_cons hil, ← he]
    have hek := hl.ents e (by rw [he]; exact List.getElem_mem _)
    have g := vcs_get l i hil
    rw [← he] at g
    have e1 := ih (i + 1) m (by omega) (by omega)
    have hprev : prevI l (i + 1) = some e.1 := by unfold prevI; rw [if_neg (by omega)]; simp [hil, ← he]
    rw [hprev] at e1
    have tq := sp1_at hS hek.fr.qOf' rfl
    have w5 : IntKind.i64.wrap ((i : Int) + 1) = (i : Int) + 1 := wrap64_id _ (by omega) (by omega)
    rw [hdrop, nums_cons]
    by_cases c1 : e.1 < 0
    · rw [valE_range (.inl c1), errOut_5]
      simp [iterK_succ, hil, g, c1, ← he]
    · by_cases c2 : nn ≤ e.1
      · rw [valE_range (.inr c2), errOut_5]
        simp [iterK_succ, hil, g, c1, c2, ← he]
      · have c12 : ¬ (e.1 < 0 ∨ nn ≤ e.1) := by omega
        by_cases hi0 : i = 0
        · have hp : ¬ ∃ j, prevI l i = some j ∧ e.1 ≤ j := by unfold prevI; rw [if_pos hi0]; simp
          subst hi0
          by_cases hq : e.2.q = 0
          · rw [valE_zero c12 hp hq, errOut_11]
            rw [(num_zero_cmp _).2 hq] at tq
            simp [iterK_succ, hil, g, c1, c2, tq, ← he]
          · rw [valE_next c12 hp hq, ← e1]
            have hc : ¬ cmpZ e.2.q.num 0 = 0 := fun h => hq ((num_zero_cmp _).1 h)
            have w1 : IntKind.i64.wrap (1 : Int) = 1 := wrap64_id _ (by omega) (by omega)
            simp [iterK_succ, hil, g, c1, c2, tq, hc, ← he, w1]
        · obtain ⟨j, rfl⟩ : ∃ j, i = j + 1 := ⟨i - 1, by omega⟩
          have hjl : j < l.length := by omega
          obtain ⟨f, hf⟩ : ∃ f, f = l[j] := ⟨_, rfl⟩
          have gf := vcs_get l j hjl
          rw [← hf] at gf
          have hp : prevI l (j + 1) = some f.1 := by unfold prevI; rw [if_neg (by omega)]; simp [hjl, ← hf]
          have w6 : IntKind.i64.wrap ((j : Int)) = (j : Int) := wrap64_id _ (by omega) (by omega)
          have p1 : (0 : Int) < (j : Int) + 1 := by omega
          have p0 : (0 : Int) ≤ (j : Int) + 1 := by omega
          have p2 : (j : Int) + 1 < l.length := by omega
          have w5' : IntKind.i64.wrap ((j : Int) + 1 + 1) = (j : Int) + 1 + 1 := wrap64_id _ (by omega) (by omega)
          by_cases c3 : e.1 ≤ f.1
          · rw [valE_order c12 ⟨f.1, hp, c3⟩, errOut_8]
            simp [iterK_succ, hil, g, c1, c2, gf, hjl, w6, p0, p1, p2, c3, ← he, ← hf]
          · have hp2 : ¬ ∃ i, prevI l (j + 1) = some i ∧ e.1 ≤ i := by rw [hp]; rintro ⟨j, hj, hle⟩; cases hj; exact c3 hle
            by_cases hq : e.2.q = 0
            · rw [valE_zero c12 hp2 hq, errOut_11]
              rw [(num_zero_cmp _).2 hq] at tq
              simp [iterK_succ, hil, g, c1, c2, gf, hjl, w6, p0, p1, p2, c3, tq, ← he, ← hf]
            · rw [valE_next c12 hp2 hq, ← e1]
              have hc : ¬ cmpZ e.2.q.num 0 = 0 := fun h => hq ((num_zero_cmp _).1 h)
              simp [iterK_succ, hil, g, c1, c2, gf, hjl, w6, p0, p1, p2, c3, tq, hc, ← he, ← hf, w5']

theorem validateP_run (hS : G 40 = spSignFrac) : FSpec (fun args n => pureF G ic n c12F args) spValidate := by
  intro args r h
  obtain ⟨a, b, l, nn, v, rfl, hx, hy, hv, rfl⟩ := sp2_inv h
  cases hv
  obtain ⟨nl, rfl, hl⟩ := vOfA_inv hx
  obtain ⟨rfl, n0, n1⟩ := i64Of_inv hy
  obtain ⟨N, hN⟩ : ∃ N, N = l.length + 1 := ⟨_, rfl⟩
  refine ⟨{ val := .int .i64 (valid nn (nums l)) }, ⟨N, ?_⟩, rfl, rfl⟩
  unfold valid
  by_cases c1 : nn < 0
  · rw [if_pos (.inl c1)]
    simp [pureF, runF, c1]
  · by_cases c2 : 4096 < nn
    · rw [if_pos (.inr c2)]
      simp [pureF, runF, c1, c2]
    · rw [if_neg (by omega)]
      have e := validateP_loop G ic N hS nl l hl nn (by omega) l.length 0 N (by omega) (by omega)
      simp [c12_e0, c12_k0, prevI] at e
      by_cases h0 : valE nn none (nums l) = 0
      · rw [h0, errOut_0] at e
        simp [pureF, runF, c1, c2, e, h0]
      · rw [errOut_ne h0] at e
        simp [pureF, runF, c1, c2, e]

theorem validateR_loop (hS : G 41 = spSignFrac) (nl : Bool) (l : List Ent) (hl : VecOk 2000000 l) (nn : Int) (hn : 0 ≤ nn ∧ nn ≤ 4096) : ∀ d i m, i + d = l.length → d < m →
    blockE (some c13_e0) 0 (iterK G ic n c13_k0 c13_b0Q m ⟨[(0, .imm nl 5 (vcs l)), (1, .int .i64 nn), (5, .int .i64 i)], [], [], [], []⟩) =
      errOut (valE nn (prevI l i) (nums (l.drop i))) := by
  have hlen := hl.len
  intro d
  induction d with
  | zero =>
    intro i m hi hm
    obtain ⟨m, rfl⟩ : ∃ i, m = i + 1 := ⟨m - 1, by omega⟩
    have e : i = l.length := by omega
    subst e
    rw [List.drop_length, show valE nn (prevI l l.length) (nums []) = 0 from rfl, errOut_0]
    simp [iterK_succ]
  | succ d ih =>
    intro i m hi hm
    obtain ⟨m, rfl⟩ : ∃ i, m = i + 1 := ⟨m - 1, by omega⟩
    have hil : i < l.length := by omega
    obtain ⟨e, he⟩ : ∃ e, e = l[i] := ⟨_, rfl⟩
    have hdrop : l.drop i = e :: l.drop (i + 1) := by rw [List.drop_eq_getElem_cons hil, ← he]
    have hek := hl.ents e (by rw [he]; exact List.getElem_mem _)
    have g := vcs_get l i hil
    rw [← he] at g
    have e1 := ih (i + 1) m (by omega) (by omega)
    have hprev : prevI l (i + 1) = some e.1 := by unfold prevI; rw [if_neg (by omega)]; simp [hil, ← he]
    rw [hprev] at e1
    have tq := sp1_at hS hek.fr.qOf' rfl
    have w5 : IntKind.i64.wrap ((i : Int) + 1) = (i : Int) + 1 := wrap64_id _ (by omega) (by omega)
    rw [hdrop, nums_cons]
    by_cases c1 : e.1 < 0
    · rw [valE_range (.inl c1), errOut_5]
      simp [iterK_succ, hil, g, c1, ← he]
    · by_cases c2 : nn ≤ e.1
      · rw [valE_range (.inr c2), errOut_5]
        simp [iterK_succ, hil, g, c1, c2, ← he]
      · have c12 : ¬ (e.1 < 0 ∨ nn ≤ e.1) := by omega
        by_cases hi0 : i = 0
        · have hp : ¬ ∃ j, prevI l i = some j ∧ e.1 ≤ j := by unfold prevI; rw [if_pos hi0]; simp
          subst hi0
          by_cases hq : e.2.q = 0
          · rw [valE_zero c12 hp hq, errOut_11]
            rw [(num_zero_cmp _).2 hq] at tq
            simp [iterK_succ, hil, g, c1, c2, tq, ← he]
          · rw [valE_next c12 hp hq, ← e1]
            have hc : ¬ cmpZ e.2.q.num 0 = 0 := fun h => hq ((num_zero_cmp _).1 h)
            have w1 : IntKind.i64.wrap (1 : Int) = 1 := wrap64_id _ (by omega) (by omega)
            simp [iterK_succ, hil, g, c1, c2, tq, hc, ← he, w1]
        · obtain ⟨j, rfl⟩ : ∃ j, i = j + 1 := ⟨i - 1, by omega⟩
          have hjl : j < l.length := by omega
          obtain ⟨f, hf⟩ : ∃ f, f = l[j] := ⟨_, rfl⟩
          have gf := vcs_get l j hjl
          rw [← hf] at gf
          have hp : prevI l (j + 1) = some f.1 := by unfold prevI; rw [if_neg (by omega)]; simp [hjl, ← hf]
          have w6 : IntKind.i64.wrap ((j : Int)) = (j : Int) := wrap64_id _ (by omega) (by omega)
          have p1 : (0 : Int) < (j : Int) + 1 := by omega
          have p0 : (0 : Int) ≤ (j : Int) + 1 := by omega
          have p2 : (j : Int) + 1 < l.length := by omega
          have w5' : IntKind.i64.wrap ((j : Int) + 1 + 1) = (j : Int) + 1 + 1 := wrap64_id _ (by omega) (by omega)
          by_cases c3 : e.1 ≤ f.1
          · rw [valE_order c12 ⟨f.1, hp, c3⟩, errOut_8]
            simp [iterK_succ, hil, g, c1, c2, gf, hjl, w6, p0, p1, p2, c3, ← he, ← hf]
          · have hp2 : ¬ ∃ i, prevI l (j + 1) = some i ∧ e.1 ≤ i := by rw [hp]; rintro ⟨j, hj, hle⟩; cases hj; exact c3 hle
            by_cases hq : e.2.q = 0
            · rw [valE_zero c12 hp2 hq, errOut_11]
              rw [(num_zero_cmp _).2 hq] at tq
              simp [iterK_succ, hil, g, c1, c2, gf, hjl, w6, p0, p1, p2, c3, tq, ← he, ← hf]
            · rw [valE_next c12 hp2 hq, ← e1]
              have hc : ¬ cmpZ e.2.q.num 0 = 0 := fun h => hq ((num_zero_cmp _).1 h)
              simp [iterK_succ, hil, g, c1, c2, gf, hjl, w6, p0, p1, p2, c3, tq, hc, ← he, ← hf, w5']

theorem validateR_run (hS : G 41 = spSignFrac) : FSpec (fun args n => pureF G ic n c13F args) spValidate := by
  intro args r h
  obtain ⟨a, b, l, nn, v, rfl, hx, hy, hv, rfl⟩ := sp2_inv h
  cases hv
  obtain ⟨nl, rfl, hl⟩ := vOfA_inv hx
  obtain ⟨rfl, n0, n1⟩ := i64Of_inv hy
  obtain ⟨N, hN⟩ : ∃ N, N = l.length + 1 := ⟨_, rfl⟩
  refine ⟨{ val := .int .i64 (valid nn (nums l)) }, ⟨N, ?_⟩, rfl, rfl⟩
  unfold valid
  by_cases c1 : nn < 0
  · rw [if_pos (.inl c1)]
    simp [pureF, runF, c1]
  · by_cases c2 : 4096 < nn
    · rw [if_pos (.inr c2)]
      simp [pureF, runF, c1, c2]
    · rw [if_neg (by omega)]
      have e := validateR_loop G ic N hS nl l hl nn (by omega) l.length 0 N (by omega) (by omega)
      simp [c13_e0, c13_k0, prevI] at e
      by_cases h0 : valE nn none (nums l) = 0
      · rw [h0, errOut_0] at e
        simp [pureF, runF, c1, c2, e, h0]
      · rw [errOut_ne h0] at e
        simp [pureF, runF, c1, c2, e]

end
end Go.Proofs.Ythlpmghodgiknaa.C
