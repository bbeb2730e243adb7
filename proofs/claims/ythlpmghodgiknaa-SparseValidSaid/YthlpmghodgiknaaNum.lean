/-
  Digits to the base 2^32 (the lowest first) and the numbers that they stand for.
-/
namespace Go.Ev

abbrev W32 : Nat := 4294967296

def dv : List Nat → Nat
  | [] => 0
  | d :: ds => d + W32 * dv ds

def digs (n : Nat) : List Nat := if h : n = 0 then [] else (n % W32) :: digs (n / W32)
  termination_by n
  decreasing_by exact Nat.div_lt_self (Nat.pos_of_ne_zero h) (by decide)

def Wf (ds : List Nat) : Prop := ∀ d ∈ ds, d < W32

theorem digs_zero : digs 0 = [] := by rw [digs]; simp
theorem digs_pos {n : Nat} (h : n ≠ 0) : digs n = (n % W32) :: digs (n / W32) := by rw [digs]; simp [h]

theorem dv_digs (n : Nat) : dv (digs n) = n := by
  induction n using Nat.strongRecOn with
  | _ n ih =>
    by_cases h : n = 0
    · subst h; rw [digs_zero]; rfl
    · rw [digs_pos h, dv, ih (n / W32) (Nat.div_lt_self (Nat.pos_of_ne_zero h) (by decide))]
      exact Nat.mod_add_div n W32

theorem wf_digs (n : Nat) : Wf (digs n) := by
  induction n using Nat.strongRecOn with
  | _ n ih =>
    by_cases h : n = 0
    · subst h; rw [digs_zero]; intro d hd; simp at hd
    · rw [digs_pos h]
      intro d hd
      rcases List.mem_cons.1 hd with rfl | hd
      · exact Nat.mod_lt _ (by decide)
      · exact ih (n / W32) (Nat.div_lt_self (Nat.pos_of_ne_zero h) (by decide)) d hd

theorem wf_cons {d : Nat} {ds : List Nat} : Wf (d :: ds) ↔ d < W32 ∧ Wf ds := by simp [Wf]
theorem wf_append {a b : List Nat} : Wf (a ++ b) ↔ Wf a ∧ Wf b := by
  simp only [Wf, List.mem_append]
  exact ⟨fun h => ⟨fun d hd => h d (.inl hd), fun d hd => h d (.inr hd)⟩, fun h d hd => hd.elim (h.1 d) (h.2 d)⟩
theorem wf_take {ds : List Nat} (h : Wf ds) (n : Nat) : Wf (ds.take n) := fun d hd => h d (List.mem_of_mem_take hd)
theorem wf_drop {ds : List Nat} (h : Wf ds) (n : Nat) : Wf (ds.drop n) := fun d hd => h d (List.mem_of_mem_drop hd)
theorem wf_get {ds : List Nat} (h : Wf ds) {i : Nat} (hi : i < ds.length) : ds[i] < W32 := h _ (List.getElem_mem hi)
theorem wf_nil : Wf [] := by simp [Wf]

theorem dv_append (a b : List Nat) : dv (a ++ b) = dv a + W32 ^ a.length * dv b := by
  induction a with
  | nil => simp [dv]
  | cons d a ih => simp only [List.cons_append, dv, ih, List.length_cons, Nat.pow_succ, Nat.mul_add]; rw [Nat.mul_comm (W32 ^ a.length) W32, Nat.mul_assoc]; omega

theorem dv_lt {ds : List Nat} (h : Wf ds) : dv ds < W32 ^ ds.length := by
  induction ds with
  | nil => simp [dv]
  | cons d ds ih =>
    obtain ⟨h1, h2⟩ := wf_cons.1 h
    have := ih h2
    simp only [dv, List.length_cons, Nat.pow_succ]
    have : (dv ds + 1) * W32 ≤ W32 ^ ds.length * W32 := Nat.mul_le_mul_right _ this
    have h1' : d < 4294967296 := h1
    simp only [W32] at *
    omega

theorem dv_split' {ds : List Nat} {k : Nat} (hk : k ≤ ds.length) : dv ds = dv (ds.take k) + W32 ^ k * dv (ds.drop k) := by
  conv => lhs; rw [← List.take_append_drop k ds]
  rw [dv_append, List.length_take, Nat.min_eq_left hk]

theorem dv_take_succ {ds : List Nat} {k : Nat} (hk : k < ds.length) : dv (ds.take (k + 1)) = dv (ds.take k) + W32 ^ k * ds[k] := by
  rw [List.take_succ_eq_append_getElem hk, dv_append]
  simp only [dv, Nat.mul_zero, Nat.add_zero, List.length_take]
  rw [Nat.min_eq_left (by omega)]

theorem digs_cons {d : Nat} {ds : List Nat} (hd : d < W32) (h : d + W32 * dv ds ≠ 0) : digs (d + W32 * dv ds) = d :: digs (dv ds) := by
  rw [digs_pos h]
  have h1 : (d + W32 * dv ds) % W32 = d := by rw [Nat.add_mul_mod_self_left, Nat.mod_eq_of_lt hd]
  have h2 : (d + W32 * dv ds) / W32 = dv ds := by rw [Nat.add_mul_div_left _ _ (by decide), Nat.div_eq_of_lt hd, Nat.zero_add]
  rw [h1, h2]

/-- The digits that do not end in 0 are the digits of their number. -/
theorem digs_dv {ds : List Nat} (h : Wf ds) (hl : ∀ hne : ds ≠ [], ds.getLast hne ≠ 0) : digs (dv ds) = ds := by
  induction ds with
  | nil => exact digs_zero
  | cons d ds ih =>
    obtain ⟨h1, h2⟩ := wf_cons.1 h
    have ihd : digs (dv ds) = ds := ih h2 fun hne => by have := hl (by simp); rwa [List.getLast_cons hne] at this
    have hpos : d + W32 * dv ds ≠ 0 := by
      intro h0
      have hd0 : d = 0 := by omega
      have hv0 : dv ds = 0 := by simp only [W32] at h0; omega
      have hds : ds = [] := by rw [← ihd, hv0, digs_zero]
      subst hds
      exact hl (by simp) (by simpa using hd0)
    rw [dv, digs_cons h1 hpos, ihd]

theorem dv_take_zero {ds : List Nat} {k : Nat} (hk : k < ds.length) (h0 : ds[k] = 0) : dv (ds.take (k + 1)) = dv (ds.take k) := by rw [dv_take_succ hk, h0]; simp

theorem digs_take {ds : List Nat} {k : Nat} (h : Wf ds) (hk : k < ds.length) (h0 : ds[k] ≠ 0) : digs (dv (ds.take (k + 1))) = ds.take (k + 1) := by
  refine digs_dv (wf_take h _) fun hne => ?_
  rw [List.getLast_eq_getElem]
  simp only [List.length_take, List.getElem_take]
  have : min (k + 1) ds.length - 1 = k := by omega
  simp only [this]
  exact h0

theorem digs_length_le {n k : Nat} (h : n < W32 ^ k) : (digs n).length ≤ k := by
  induction k generalizing n with
  | zero => have : n = 0 := by simpa using h
            subst this; rw [digs_zero]; simp
  | succ k ih =>
    by_cases h0 : n = 0
    · subst h0; rw [digs_zero]; simp
    · rw [digs_pos h0, List.length_cons]
      have : n / W32 < W32 ^ k := Nat.div_lt_of_lt_mul (by rw [Nat.mul_comm, ← Nat.pow_succ]; exact h)
      have := ih this
      omega

theorem digs_length_dv {ds : List Nat} (h : Wf ds) : (digs (dv ds)).length ≤ ds.length := digs_length_le (dv_lt h)

theorem digs_eq_nil {n : Nat} : digs n = [] ↔ n = 0 := by
  constructor
  · intro h; have := dv_digs n; rw [h] at this; exact this.symm
  · rintro rfl; exact digs_zero

theorem digs_inj {a b : Nat} (h : digs a = digs b) : a = b := by rw [← dv_digs a, ← dv_digs b, h]

theorem lt_of_digs_length {n k : Nat} (h : (digs n).length ≤ k) : n < W32 ^ k := by
  have := dv_lt (wf_digs n)
  rw [dv_digs] at this
  exact Nat.lt_of_lt_of_le this (Nat.pow_le_pow_right (by decide) h)

theorem lt_of_len {m n : Nat} (h : (digs m).length < (digs n).length) : m < n := by
  rcases Nat.lt_or_ge m n with lt | ge
  · exact lt
  · exfalso
    have h1 := dv_lt (wf_digs m)
    rw [dv_digs] at h1
    have := digs_length_le (n := n) (k := (digs m).length) (by omega)
    omega

theorem digs_len_mono {m n : Nat} (h : m ≤ n) : (digs m).length ≤ (digs n).length := by
  have h1 := dv_lt (wf_digs n)
  rw [dv_digs] at h1
  exact digs_length_le (by omega)

/-- Digit 'i', 0 beyond the end. -/
def dgt (ds : List Nat) (i : Nat) : Nat := ds.getD i 0

theorem dgt_lt {ds : List Nat} (h : Wf ds) (i : Nat) : dgt ds i < W32 := by
  unfold dgt
  rcases Nat.lt_or_ge i ds.length with lt | ge
  · simp [lt]; exact wf_get h lt
  · simp [ge]

theorem dgt_get {ds : List Nat} {i : Nat} (h : i < ds.length) : dgt ds i = ds[i] := by simp [dgt, h]
theorem dgt_end {ds : List Nat} {i : Nat} (h : ds.length ≤ i) : dgt ds i = 0 := by simp [dgt, h]

theorem dv_take_dgt (ds : List Nat) (i : Nat) : dv (ds.take (i + 1)) = dv (ds.take i) + W32 ^ i * dgt ds i := by
  rcases Nat.lt_or_ge i ds.length with lt | ge
  · rw [dv_take_succ lt, dgt_get lt]
  · rw [dgt_end ge, List.take_of_length_le (by omega), List.take_of_length_le ge]; simp

theorem dv_drop_dgt (ds : List Nat) (i : Nat) : dv (ds.drop i) = dgt ds i + W32 * dv (ds.drop (i + 1)) := by
  rcases Nat.lt_or_ge i ds.length with lt | ge
  · rw [List.drop_eq_getElem_cons lt, dv, dgt_get lt]
  · rw [dgt_end ge, List.drop_eq_nil_of_le ge, List.drop_eq_nil_of_le (by omega)]; simp [dv]

theorem take_set_succ {ds : List Nat} {i x : Nat} (h : i < ds.length) : (ds.set i x).take (i + 1) = ds.take i ++ [x] := by
  rw [List.take_succ_eq_append_getElem (by simpa using h), List.getElem_set_self]
  congr 1
  refine List.ext_getElem? fun j => ?_
  rw [List.getElem?_take, List.getElem?_take]
  split
  · rw [List.getElem?_set_ne (by omega)]
  · rfl

theorem dv_take_set {ds : List Nat} {i x : Nat} (h : i < ds.length) : dv ((ds.set i x).take (i + 1)) = dv (ds.take i) + W32 ^ i * x := by
  rw [take_set_succ h, dv_append, List.length_take, Nat.min_eq_left (by omega)]; simp [dv]

theorem wf_set {ds : List Nat} {i x : Nat} (h : Wf ds) (hx : x < W32) : Wf (ds.set i x) := fun d hd => by
  rcases List.mem_or_eq_of_mem_set hd with h1 | rfl
  · exact h d h1
  · exact hx

theorem wf_replicate (n : Nat) : Wf (List.replicate n 0) := fun d hd => by rw [(List.mem_replicate.1 hd).2]; decide

theorem carry_zero {W k a b s c : Nat} (hW : 2 ≤ W) (ha : a < W ^ k) (hb : b < W ^ k) (h : s + W ^ (k + 1) * c = a + b) : c = 0 := by
  rcases Nat.eq_zero_or_pos c with h0 | h0
  · exact h0
  · exfalso
    have h1 : W ^ (k + 1) * 1 ≤ W ^ (k + 1) * c := Nat.mul_le_mul_left _ h0
    have h2 : W ^ (k + 1) = W ^ k * W := Nat.pow_succ W k
    have h3 : W ^ k * 2 ≤ W ^ k * W := Nat.mul_le_mul_left _ hW
    omega

theorem dv_lt_of_le {ds : List Nat} (h : Wf ds) {k : Nat} (hk : ds.length ≤ k) : dv ds < W32 ^ k := Nat.lt_of_lt_of_le (dv_lt h) (Nat.pow_le_pow_right (by decide) hk)

theorem sub_step {W p sa sb ta q A B c c' : Nat} (h : sa + sb = ta + p * c) (hq : q + B + c = A + W * c') : (sa + p * q) + (sb + p * B) = (ta + p * A) + p * (W * c') := by
  have e : p * (q + B + c) = p * (A + W * c') := by rw [hq]
  rw [Nat.mul_add, Nat.mul_add, Nat.mul_add] at e
  omega

theorem borrow_zero {p s b a c : Nat} (hs : s < p) (hb : b ≤ a) (h : s + b = a + p * c) : c = 0 := by
  rcases Nat.eq_zero_or_pos c with h0 | h0
  · exact h0
  · exfalso
    have h1 : p * 1 ≤ p * c := Nat.mul_le_mul_left _ h0
    omega

theorem dv_take_of_lt {ds : List Nat} {n : Nat} (h : dv ds < W32 ^ n) : dv (ds.take n) = dv ds := by
  rcases Nat.lt_or_ge ds.length n with lt | ge
  · rw [List.take_of_length_le (by omega)]
  · have e := dv_split' ge
    rcases Nat.eq_zero_or_pos (dv (ds.drop n)) with h0 | h0
    · rw [h0, Nat.mul_zero, Nat.add_zero] at e; exact e.symm
    · exfalso
      have : W32 ^ n * 1 ≤ W32 ^ n * dv (ds.drop n) := Nat.mul_le_mul_left _ h0
      omega

theorem dv_set {ds : List Nat} {j q : Nat} (h : j < ds.length) : dv (ds.set j q) + W32 ^ j * ds[j] = dv ds + W32 ^ j * q := by
  have e1 := dv_split' (ds := ds) (k := j + 1) (by omega)
  have e2 := dv_split' (ds := ds.set j q) (k := j + 1) (by simp; omega)
  rw [dv_take_succ h] at e1
  rw [dv_take_set h] at e2
  have e3 : (ds.set j q).drop (j + 1) = ds.drop (j + 1) := by
    refine List.ext_getElem? fun i => ?_
    rw [List.getElem?_drop, List.getElem?_drop, List.getElem?_set_ne (by omega)]
  rw [e3] at e2
  omega

theorem dgt_set_ne {ds : List Nat} {i j q : Nat} (h : i ≠ j) : dgt (ds.set i q) j = dgt ds j := by
  unfold dgt
  rw [List.getD_eq_getElem?_getD, List.getD_eq_getElem?_getD, List.getElem?_set_ne h]

theorem mul_step {W P s s0 s' sj q e c A B D : Nat} (hinv : s + P * c = s0 + D) (hset : s' + P * sj = s + P * q) (hq : q + W * e = c + sj + A * B) : s' + P * (W * e) = s0 + (D + P * (A * B)) := by
  have h : P * (q + W * e) = P * (c + sj + A * B) := by rw [hq]
  rw [Nat.mul_add, Nat.mul_add, Nat.mul_add] at h
  omega

theorem mul_bound {c s A B : Nat} (hc : c < W32) (hs : s < W32) (hA : A < W32) (hB : B < W32) : c + s + A * B < W32 * W32 ∧ A * B < W32 * W32 := by
  have h1 : A * B ≤ 4294967295 * 4294967295 := Nat.mul_le_mul (by simp only [W32] at hA; omega) (by simp only [W32] at hB; omega)
  simp only [W32] at *
  omega

theorem dv_replicate (n : Nat) : dv (List.replicate n 0) = 0 := by
  induction n with
  | zero => rfl
  | succ n ih => rw [List.replicate_succ, dv, ih, Nat.mul_zero]

theorem dgt_replicate (n j : Nat) : dgt (List.replicate n 0) j = 0 := by
  unfold dgt
  rw [List.getD_eq_getElem?_getD, List.getElem?_replicate]
  split <;> rfl

/-- The highest digit is not 0. -/
theorem digs_last {n : Nat} : ∀ {k : Nat} (hk : k + 1 = (digs n).length), (digs n)[k]'(by omega) ≠ 0 := by
  induction n using Nat.strongRecOn with
  | _ n ih =>
    intro k hk
    by_cases h : n = 0
    · subst h; rw [digs_zero] at hk; simp at hk
    · have hn : n / W32 < n := Nat.div_lt_self (Nat.pos_of_ne_zero h) (by decide)
      have hlen : (digs n).length = (digs (n / W32)).length + 1 := by rw [digs_pos h]; rfl
      have hget : ∀ (j : Nat) (hj : j < (digs n).length), (digs n)[j] = if h0 : j = 0 then n % W32 else (digs (n / W32))[j - 1]'(by omega) := fun j hj => by
        have e := digs_pos h
        cases j with
        | zero => simp only [e, List.getElem_cons_zero, dif_pos]
        | succ j => simp only [e, List.getElem_cons_succ]; rw [dif_neg (by omega)]; simp
      rw [hget k (by omega)]
      split
      · rename_i hk0
        have h1 : (digs (n / W32)).length = 0 := by omega
        have h2 : n / W32 = 0 := digs_eq_nil.1 (List.eq_nil_of_length_eq_zero h1)
        have := Nat.mod_add_div n W32
        rw [h2] at this
        omega
      · exact ih (n / W32) hn (k := k - 1) (by omega)

end Go.Ev
