/-
  Long division by estimated digits (plain numbers).
-/
import Derived.Test.YthlpmghodgiknaaNum2
namespace Go.Ev

theorem dpad_get {l n i : Nat} (h : i < l) : (dpad l n)[i]? = some (n / W32 ^ i % W32) := by
  induction l generalizing n i with
  | zero => omega
  | succ l ih =>
    cases i with
    | zero => simp [dpad]
    | succ i =>
      simp only [dpad, List.getElem?_cons_succ]
      rw [ih (by omega), Nat.div_div_eq_div_mul, Nat.pow_succ, Nat.mul_comm (W32 ^ i)]

theorem dpad_take {l n i : Nat} (h : i ≤ l) : (dpad l n).take i = dpad i n := by
  induction l generalizing n i with
  | zero => have : i = 0 := by omega
            subst this; rfl
  | succ l ih =>
    cases i with
    | zero => rfl
    | succ i => simp only [dpad, List.take_succ_cons]; rw [ih (by omega)]

theorem dpad_snoc (i n : Nat) : dpad (i + 1) n = dpad i n ++ [n / W32 ^ i % W32] := by
  have h := dpad_take (l := i + 1) (n := n) (i := i) (by omega)
  have e := List.take_append_drop i (dpad (i + 1) n)
  rw [h] at e
  have hd : (dpad (i + 1) n).drop i = [n / W32 ^ i % W32] := by
    have hl := dpad_length (i + 1) n
    have hg := dpad_get (l := i + 1) (n := n) (i := i) (by omega)
    rw [List.getElem?_eq_getElem (by omega)] at hg
    rw [List.drop_eq_getElem_cons (by omega), List.drop_eq_nil_of_le (by omega)]
    injection hg with hg
    rw [hg]
  rw [hd] at e
  exact e.symm

/-- Digits in the middle of a list. -/
theorem set_mid {α : Type} (A : List α) (y x : α) (R : List α) : (A ++ y :: R).set A.length x = A ++ x :: R := by
  rw [List.set_append_right _ _ (Nat.le_refl _), Nat.sub_self, List.set_cons_zero]

theorem drop_cons {ds : List Nat} {i : Nat} (h : i < ds.length) : ds.drop i = ds[i] :: ds.drop (i + 1) := List.drop_eq_getElem_cons h

theorem dv_drop_div {ds : List Nat} (h : Wf ds) (i : Nat) : dv (ds.drop i) = dv ds / W32 ^ i := by
  rcases Nat.lt_or_ge ds.length i with lt | ge
  · rw [List.drop_eq_nil_of_le (by omega)]
    have := dv_lt_of_le h (k := i) (by omega)
    rw [Nat.div_eq_of_lt this]; rfl
  · have e := dv_split' ge
    have h1 := dv_lt (wf_take h i)
    rw [List.length_take, Nat.min_eq_left ge] at h1
    rw [e, Nat.add_mul_div_left _ _ (Nat.pow_pos (by decide)), Nat.div_eq_of_lt h1, Nat.zero_add]

/-- One digit of a division by a small number. -/
theorem short_step {k d M' : Nat} (hd : d < W32) (hk : k < W32) (hk0 : k ≠ 0) (l : Nat) :
    dpad (l + 1) ((d + W32 * M') / k) = ((M' % k) * W32 + d) / k :: dpad l (M' / k) ∧ (d + W32 * M') % k = ((M' % k) * W32 + d) % k ∧ ((M' % k) * W32 + d) / k < W32 := by
  have hr := Nat.mod_lt M' (show 0 < k by omega)
  have hm := Nat.div_add_mod M' k
  obtain ⟨q, hq⟩ : ∃ q, q = M' / k := ⟨_, rfl⟩
  obtain ⟨r, hrr⟩ : ∃ r, r = M' % k := ⟨_, rfl⟩
  rw [← hq, ← hrr] at hm
  rw [← hrr] at hr ⊢
  rw [← hq]
  have e : d + W32 * M' = (r * W32 + d) + k * (W32 * q) := by
    rw [← hm, Nat.mul_add]
    rw [show W32 * (k * q) = k * (W32 * q) by rw [Nat.mul_left_comm], Nat.mul_comm r W32]
    omega
  have hlt : (r * W32 + d) / k < W32 := by
    refine Nat.div_lt_of_lt_mul ?_
    have : (r + 1) * W32 ≤ k * W32 := Nat.mul_le_mul_right _ hr
    rw [Nat.add_mul] at this
    omega
  have e1 : (d + W32 * M') / k = (r * W32 + d) / k + W32 * q := by
    rw [e, Nat.add_mul_div_left _ _ (by omega)]
  refine ⟨?_, ?_, hlt⟩
  · rw [e1, dpad, Nat.add_mul_mod_self_left, Nat.mod_eq_of_lt hlt, Nat.add_mul_div_left _ _ (by decide), Nat.div_eq_of_lt hlt, Nat.zero_add]
  · rw [e, Nat.add_mul_mod_self_left]

/-! ### The estimated digit -/

/-- The state of the correction: the estimate is never below the quotient's digit. -/
structure Est (W T S h n t q r : Nat) : Prop where
  sum : q * T + r = h * W + n
  up : ∀ p, p < W → p * (T * W + S) ≤ (h * W + n) * W + t → p ≤ q

theorem est_start {W T S h n t : Nat} (hT : 0 < T) (ht : t < W) : Est W T S h n t ((h * W + n) / T) ((h * W + n) % T) := by
  refine ⟨by rw [Nat.mul_comm]; exact Nat.div_add_mod _ _, fun p _ hp => ?_⟩
  rw [Nat.le_div_iff_mul_le hT]
  rw [Nat.mul_add, ← Nat.mul_assoc] at hp
  have h1 : p * T * W < (h * W + n + 1) * W := by rw [Nat.add_mul (h * W + n)]; omega
  have := Nat.lt_of_mul_lt_mul_right h1
  omega

theorem est_step {W T S h n t q r : Nat} (hW : 1 ≤ W) (e : Est W T S h n t q r) (hc : W ≤ q ∨ r * W + t < q * S) : Est W T S h n t (q - 1) (r + T) ∧ 1 ≤ q := by
  have hq : 1 ≤ q := by
    rcases hc with hc | hc
    · omega
    · rcases Nat.eq_zero_or_pos q with h0 | h0
      · subst h0; rw [Nat.zero_mul] at hc; omega
      · exact h0
  refine ⟨⟨?_, fun p hp hpl => ?_⟩, hq⟩
  · have h1 := e.sum
    obtain ⟨k, rfl⟩ : ∃ k, q = k + 1 := ⟨q - 1, by omega⟩
    rw [Nat.add_mul] at h1
    rw [Nat.add_sub_cancel]
    omega
  · have h1 := e.up p hp hpl
    rcases hc with hc | hc
    · omega
    · rcases Nat.lt_or_ge p q with lt | ge
      · omega
      · exfalso
        have hpq : p = q := by omega
        subst hpq
        have h2 := e.sum
        rw [← h2, Nat.mul_add, Nat.add_mul, ← Nat.mul_assoc] at hpl
        omega

theorem est_end {W T S h n t q r : Nat} (hW : 1 ≤ W) (e : Est W T S h n t q r) (hq : q < W) (hc : q * S ≤ r * W + t) : q = min (((h * W + n) * W + t) / (T * W + S)) (W - 1) ∨ T * W + S = 0 := by
  rcases Nat.eq_zero_or_pos (T * W + S) with h0 | h0
  · exact .inr h0
  · left
    have h2 : q * (T * W + S) ≤ (h * W + n) * W + t := by rw [← e.sum, Nat.mul_add, Nat.add_mul, ← Nat.mul_assoc]; omega
    have h3 : q ≤ ((h * W + n) * W + t) / (T * W + S) := (Nat.le_div_iff_mul_le h0).2 h2
    have h4 := e.up (min (((h * W + n) * W + t) / (T * W + S)) (W - 1)) (by omega) (by
      refine Nat.le_trans (Nat.mul_le_mul_right _ (Nat.min_le_left _ _)) ?_
      exact Nat.div_mul_le_self _ _)
    omega

/-- The estimated digit is the quotient's, or one more. -/
theorem knuth {W N V W3 V2 P low lowv q : Nat} (hW : 1 ≤ W) (hN : N = W3 * P + low) (hlow : low < P) (hV : V = V2 * P + lowv) (hlowv : lowv < P) (hV2 : W ≤ V2) (hNV : N < W * V) (hq : q = min (W3 / V2) (W - 1)) :
    (q * V ≤ N ∧ N / V = q) ∨ (1 ≤ q ∧ (q - 1) * V ≤ N ∧ N < q * V ∧ N / V = q - 1) := by
  have hP : 0 < P := by omega
  have hVpos : 0 < V := by
    have : V2 * P ≥ 1 * 1 := Nat.mul_le_mul (by omega) hP
    omega
  have hle : N / V ≤ q := by
    have h1 : N / V < W := Nat.div_lt_of_lt_mul (by rw [Nat.mul_comm]; exact hNV)
    have h2 : N / V * V ≤ N := Nat.div_mul_le_self _ _
    have h3 : N / V * V2 ≤ W3 := by
      have h4 : N / V * V2 * P < (W3 + 1) * P := by
        have : N / V * (V2 * P) ≤ N / V * V := Nat.mul_le_mul_left _ (by omega)
        rw [← Nat.mul_assoc] at this
        rw [Nat.add_mul]
        omega
      have := Nat.lt_of_mul_lt_mul_right h4
      omega
    have h5 : N / V ≤ W3 / V2 := (Nat.le_div_iff_mul_le (by omega)).2 h3
    omega
  rcases Nat.lt_or_ge N (q * V) with hlt | hge
  · right
    have hq1 : 1 ≤ q := by
      rcases Nat.eq_zero_or_pos q with h0 | h0
      · subst h0; rw [Nat.zero_mul] at hlt; omega
      · exact h0
    have hdown : (q - 1) * V ≤ N := by
      obtain ⟨k, rfl⟩ : ∃ k, q = k + 1 := ⟨q - 1, by omega⟩
      rw [Nat.add_sub_cancel]
      have h1 : (k + 1) * V2 ≤ W3 := by
        refine Nat.le_trans (Nat.mul_le_mul_right V2 (show k + 1 ≤ W3 / V2 by omega)) (Nat.div_mul_le_self _ _)
      have h2 : k < W := by omega
      have h3 : k * V ≤ k * (V2 * P + P) := Nat.mul_le_mul_left _ (by omega)
      have h4 : k * (V2 * P + P) = (k * V2 + k) * P := by rw [Nat.mul_add, Nat.add_mul, Nat.mul_assoc]
      have h5 : k * V2 + k ≤ W3 := by rw [Nat.add_mul] at h1; omega
      have h6 : (k * V2 + k) * P ≤ W3 * P := Nat.mul_le_mul_right _ h5
      omega
    refine ⟨hq1, hdown, hlt, ?_⟩
    have h1 : N / V < q := Nat.div_lt_of_lt_mul (by rw [Nat.mul_comm]; exact hlt)
    have h2 : q - 1 ≤ N / V := (Nat.le_div_iff_mul_le hVpos).2 hdown
    omega
  · left
    refine ⟨hge, ?_⟩
    have h2 : q ≤ N / V := (Nat.le_div_iff_mul_le hVpos).2 hge
    omega

/-- The estimate. -/
def estD (T S h n t : Nat) : Nat := min (((h * W32 + n) * W32 + t) / (T * W32 + S)) (W32 - 1)

theorem estD_lt (T S h n t : Nat) : estD T S h n t < W32 := by
  unfold estD
  exact Nat.lt_of_le_of_lt (Nat.min_le_right _ _) (by decide)

theorem alg3 (P W a b c L : Nat) : L + P * c + (P * W) * b + (P * W * W) * a = ((a * W + b) * W + c) * P + L := by grind
theorem alg2 (P W a b L : Nat) : L + P * b + (P * W) * a = (a * W + b) * P + L := by grind

theorem top3 (ds : List Nat) (j : Nat) : dv (ds.take (j + 1 + 1 + 1)) = ((dgt ds (j + 1 + 1) * W32 + dgt ds (j + 1)) * W32 + dgt ds j) * W32 ^ j + dv (ds.take j) := by
  rw [dv_take_dgt, dv_take_dgt, dv_take_dgt, Nat.pow_succ, Nat.pow_succ]
  exact alg3 _ _ _ _ _ _

theorem top2 (ds : List Nat) (j : Nat) : dv (ds.take (j + 1 + 1)) = (dgt ds (j + 1) * W32 + dgt ds j) * W32 ^ j + dv (ds.take j) := by
  rw [dv_take_dgt, dv_take_dgt, Nat.pow_succ]
  exact alg2 _ _ _ _ _

theorem dgt_drop (ds : List Nat) (a i : Nat) : dgt (ds.drop a) i = dgt ds (a + i) := by
  unfold dgt
  rw [List.getD_eq_getElem?_getD, List.getD_eq_getElem?_getD, List.getElem?_drop]

theorem lt_mul_of {W a D V : Nat} (ha : a < W) (hD : D < V) : a + W * D < W * V := by
  have : W * (D + 1) ≤ W * V := Nat.mul_le_mul_left _ hD
  rw [Nat.mul_add] at this
  omega

/-- The highest digit of what is left is not above the divisor's. -/
theorem high_le {P h T D V : Nat} (h1 : P * h ≤ D) (hDV : D < V) (h2 : V < P * (T + 1)) : h ≤ T := by
  have e3 : P * h < P * (T + 1) := by omega
  have := Nat.lt_of_mul_lt_mul_left e3
  omega

theorem set_alg {p V q' r N a b s s' : Nat} (hdm : V * q' + r = N) (hs : s' = s + p * q') : a + p * r + V * s' = a + p * N + V * s := by
  subst hdm; subst hs; grind

/-- One digit of the long division, in plain numbers. -/
theorem long_step {U vs Q : List Nat} {k mm V : Nat} (hU : Wf U) (hvs : Wf vs) (hm : vs.length = mm + 2) (hV : dv vs = V) (hT : 2147483648 ≤ dgt vs (mm + 1)) (hk : k + (mm + 2) < U.length) (hinv : dv (U.drop (k + 1)) < V) (hkQ : k < Q.length) (hQ0 : dgt Q k = 0) :
    ∃ N q', dgt U (k + (mm + 2)) ≤ dgt vs (mm + 1) ∧ dv ((U.drop k).take (mm + 2 + 1)) = N ∧
      ((estD (dgt vs (mm + 1)) (dgt vs mm) (dgt U (k + (mm + 2))) (dgt U (k + (mm + 1))) (dgt U (k + mm)) * V ≤ N ∧ q' = estD (dgt vs (mm + 1)) (dgt vs mm) (dgt U (k + (mm + 2))) (dgt U (k + (mm + 1))) (dgt U (k + mm))) ∨
        (1 ≤ estD (dgt vs (mm + 1)) (dgt vs mm) (dgt U (k + (mm + 2))) (dgt U (k + (mm + 1))) (dgt U (k + mm)) ∧ (estD (dgt vs (mm + 1)) (dgt vs mm) (dgt U (k + (mm + 2))) (dgt U (k + (mm + 1))) (dgt U (k + mm)) - 1) * V ≤ N ∧ N < estD (dgt vs (mm + 1)) (dgt vs mm) (dgt U (k + (mm + 2))) (dgt U (k + (mm + 1))) (dgt U (k + mm)) * V ∧ q' = estD (dgt vs (mm + 1)) (dgt vs mm) (dgt U (k + (mm + 2))) (dgt U (k + (mm + 1))) (dgt U (k + mm)) - 1)) ∧ q' < W32 ∧
      Wf (U.take k ++ dpad (mm + 2 + 1) (N - q' * V) ++ U.drop (k + (mm + 2 + 1))) ∧ (U.take k ++ dpad (mm + 2 + 1) (N - q' * V) ++ U.drop (k + (mm + 2 + 1))).length = U.length ∧
      dv ((U.take k ++ dpad (mm + 2 + 1) (N - q' * V) ++ U.drop (k + (mm + 2 + 1))).drop k) < V ∧
      dv (U.take k ++ dpad (mm + 2 + 1) (N - q' * V) ++ U.drop (k + (mm + 2 + 1))) + V * dv (Q.set k q') = dv U + V * dv Q := by
  have hVlt : V < W32 ^ (mm + 2) := by rw [← hV, ← hm]; exact dv_lt hvs
  have hVpos : 0 < V := by omega
  obtain ⟨D, hD⟩ : ∃ D, D = dv (U.drop (k + 1)) := ⟨_, rfl⟩
  rw [← hD] at hinv
  have hdrop : dv (U.drop k) = dgt U k + W32 * D := by rw [hD]; exact dv_drop_dgt U k
  have hNlt : dv (U.drop k) < W32 * V := by rw [hdrop]; exact lt_mul_of (dgt_lt hU k) hinv
  have hNlt2 : dv (U.drop k) < W32 ^ (mm + 2 + 1) := by
    refine Nat.lt_trans hNlt ?_
    rw [Nat.pow_succ, Nat.mul_comm]
    exact Nat.mul_lt_mul_of_pos_right hVlt (by decide)
  have hN : dv ((U.drop k).take (mm + 2 + 1)) = dv (U.drop k) := dv_take_of_lt hNlt2
  obtain ⟨N, hNe⟩ : ∃ N, N = dv (U.drop k) := ⟨_, rfl⟩
  rw [← hNe] at hN hNlt hNlt2
  have h3 := top3 (U.drop k) mm
  rw [show mm + 1 + 1 + 1 = mm + 2 + 1 by omega, hN, dgt_drop, dgt_drop, dgt_drop] at h3
  have hlow := dv_lt (wf_take (wf_drop hU k) mm)
  have hlow2 : dv ((U.drop k).take mm) < W32 ^ mm := Nat.lt_of_lt_of_le hlow (Nat.pow_le_pow_right (by decide) (by rw [List.length_take]; omega))
  have h2 := top2 vs mm
  rw [List.take_of_length_le (by omega), hV] at h2
  have hlv := dv_lt (wf_take hvs mm)
  have hlv2 : dv (vs.take mm) < W32 ^ mm := Nat.lt_of_lt_of_le hlv (Nat.pow_le_pow_right (by decide) (by rw [List.length_take]; omega))
  -- the highest digit
  have hh : dgt U (k + (mm + 2)) ≤ dgt vs (mm + 1) := by
    refine high_le (P := W32 ^ (mm + 1)) (D := D) (V := V) ?_ hinv ?_
    · have h4 : dv ((U.drop (k + 1)).take (mm + 1 + 1)) = D := by rw [hD]; exact dv_take_of_lt (by rw [← hD]; exact Nat.lt_trans hinv hVlt)
      rw [dv_take_dgt, dgt_drop, show k + 1 + (mm + 1) = k + (mm + 2) by omega] at h4
      rw [← h4]; exact Nat.le_add_left _ _
    · have h4 : dv (vs.take (mm + 1 + 1)) = V := by rw [List.take_of_length_le (by omega), hV]
      rw [dv_take_dgt] at h4
      have h5 := dv_lt (wf_take hvs (mm + 1))
      rw [List.length_take, Nat.min_eq_left (by omega)] at h5
      rw [Nat.mul_add, Nat.mul_one, ← h4, Nat.add_comm]
      exact Nat.add_lt_add_left h5 _
  obtain ⟨h, hhe⟩ : ∃ h, h = dgt U (k + (mm + 2)) := ⟨_, rfl⟩
  obtain ⟨n1, hn1e⟩ : ∃ n1, n1 = dgt U (k + (mm + 1)) := ⟨_, rfl⟩
  obtain ⟨t, hte⟩ : ∃ t, t = dgt U (k + mm) := ⟨_, rfl⟩
  obtain ⟨T, hTe⟩ : ∃ T, T = dgt vs (mm + 1) := ⟨_, rfl⟩
  obtain ⟨S, hSe⟩ : ∃ S, S = dgt vs mm := ⟨_, rfl⟩
  have h3' : N = ((h * W32 + n1) * W32 + t) * W32 ^ mm + dv ((U.drop k).take mm) := by rw [h3, hhe, hn1e, hte]
  have h2' : V = (T * W32 + S) * W32 ^ mm + dv (vs.take mm) := by rw [h2, hTe, hSe]
  rw [← hhe, ← hn1e, ← hte, ← hTe, ← hSe]
  rw [← hhe, ← hTe] at hh
  rw [← hTe] at hT
  have hV2 : W32 ≤ T * W32 + S := by
    have : 1 * W32 ≤ T * W32 := Nat.mul_le_mul_right _ (by omega)
    rw [Nat.one_mul] at this
    exact Nat.le_trans this (Nat.le_add_right _ _)
  have hkn := knuth (W := W32) (by decide) h3' hlow2 h2' hlv2 hV2 hNlt (q := estD T S h n1 t) rfl
  have hq4 := estD_lt T S h n1 t
  obtain ⟨q, hq⟩ : ∃ q, q = estD T S h n1 t := ⟨_, rfl⟩
  rw [← hq] at hkn hq4 ⊢
  obtain ⟨q', hq'⟩ : ∃ q', q' = N / V := ⟨_, rfl⟩
  have hq4' : q' < W32 := by rw [hq']; exact Nat.div_lt_of_lt_mul (by rw [Nat.mul_comm]; exact hNlt)
  have hrem : N - q' * V = N % V := by rw [hq']; have := Nat.div_add_mod N V; rw [Nat.mul_comm] at this; omega
  have hreml : N % V < V := Nat.mod_lt _ hVpos
  have hz : dv (U.drop (k + (mm + 2 + 1))) = 0 := by
    have e := dv_split' (ds := U.drop k) (k := mm + 2 + 1) (by rw [List.length_drop]; omega)
    rw [hN, List.drop_drop, ← hNe] at e
    have hp : 0 < W32 ^ (mm + 2 + 1) := Nat.pow_pos (by decide)
    rcases Nat.eq_zero_or_pos (dv (U.drop (k + (mm + 2 + 1)))) with h0 | h0
    · exact h0
    · have : 0 < W32 ^ (mm + 2 + 1) * dv (U.drop (k + (mm + 2 + 1))) := Nat.mul_pos hp h0
      omega
  have hdp : dv (dpad (mm + 2 + 1) (N % V)) = N % V := dv_dpad (Nat.lt_trans hreml (Nat.lt_of_lt_of_le hVlt (Nat.pow_le_pow_right (by decide) (by omega))))
  have htk : (U.take k).length = k := by rw [List.length_take]; omega
  have hUd : dv U = dv (U.take k) + W32 ^ k * N := by rw [hNe]; exact dv_split' (by omega)
  refine ⟨N, q', hh, hN, ?_, hq4', ?_, ?_, ?_, ?_⟩
  · rcases hkn with ⟨h5, h6⟩ | ⟨h5, h6, h7, h8⟩
    · exact .inl ⟨h5, by rw [hq']; exact h6⟩
    · exact .inr ⟨h5, h6, h7, by rw [hq']; exact h8⟩
  · exact wf_append.2 ⟨wf_append.2 ⟨wf_take hU _, wf_dpad _ _⟩, wf_drop hU _⟩
  · simp [dpad_length]; omega
  · rw [hrem, List.append_assoc, List.drop_append, List.drop_of_length_le (by omega), htk, Nat.sub_self, List.drop_zero, List.nil_append, dv_append, hz, hdp, Nat.mul_zero, Nat.add_zero]
    exact hreml
  · have hset := dv_set (ds := Q) (j := k) (q := q') hkQ
    rw [← dgt_get hkQ, hQ0, Nat.mul_zero, Nat.add_zero] at hset
    rw [hrem, List.append_assoc, dv_append, dv_append, hz, hdp, htk, Nat.mul_zero, Nat.add_zero, hUd]
    have hdm := Nat.div_add_mod N V
    rw [← hq'] at hdm
    exact set_alg (b := 0) hdm hset

end Go.Ev
