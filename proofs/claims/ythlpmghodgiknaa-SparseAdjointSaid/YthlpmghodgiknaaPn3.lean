/- A part of the verified evaluator and of what the functions compute (joined by program). -/
import Derived.Test.YthlpmghodgiknaaProg
import Derived.Test.YthlpmghodgiknaaPn2
import Derived.Lib.Strings
import Derived.Lib.Slices
import Derived.Lib.Small
import Derived.Lib.Walk
import Derived.Lib.BitFns
set_option linter.unusedVariables false
set_option linter.unusedSimpArgs false
/-
  Digits to the base 2^32 (the lowest first) and the numbers that they stand for.
-/
namespace Go.Ev

abbrev W32 : Nat := 4294967296

def dv : List Nat → Nat
  | [] => 0
  | d :: ds => d + W32 * dv ds

def digs (n : Nat) : List Nat := if h : n = 0 then [] else (n % W32) :: digs (n / W32)
  termination_by n
  decreasing_by exact Nat.div_lt_self (Nat.pos_of_ne_zero h) (by decide)

def Wf (ds : List Nat) : Prop := ∀ d ∈ ds, d < W32

theorem digs_zero : digs 0 = [] := by rw [digs]; simp
theorem digs_pos {n : Nat} (h : n ≠ 0) : digs n = (n % W32) :: digs (n / W32) := by rw [digs]; simp [h]

theorem dv_digs (n : Nat) : dv (digs n) = n := by
  induction n using Nat.strongRecOn with
  | _ n ih =>
    by_cases h : n = 0
    · subst h; rw [digs_zero]; rfl
    · rw [digs_pos h, dv, ih (n / W32) (Nat.div_lt_self (Nat.pos_of_ne_zero h) (by decide))]
      exact Nat.mod_add_div n W32

theorem wf_digs (n : Nat) : Wf (digs n) := by
  induction n using Nat.strongRecOn with
  | _ n ih =>
    by_cases h : n = 0
    · subst h; rw [digs_zero]; intro d hd; simp at hd
    · rw [digs_pos h]
      intro d hd
      rcases List.mem_cons.1 hd with rfl | hd
      · exact Nat.mod_lt _ (by decide)
      · exact ih (n / W32) (Nat.div_lt_self (Nat.pos_of_ne_zero h) (by decide)) d hd

theorem wf_cons {d : Nat} {ds : List Nat} : Wf (d :: ds) ↔ d < W32 ∧ Wf ds := by simp [Wf]
theorem wf_append {a b : List Nat} : Wf (a ++ b) ↔ Wf a ∧ Wf b := by
  simp only [Wf, List.mem_append]
  exact ⟨fun h => ⟨fun d hd => h d (.inl hd), fun d hd => h d (.inr hd)⟩, fun h d hd => hd.elim (h.1 d) (h.2 d)⟩
theorem wf_take {ds : List Nat} (h : Wf ds) (n : Nat) : Wf (ds.take n) := fun d hd => h d (List.mem_of_mem_take hd)
theorem wf_drop {ds : List Nat} (h : Wf ds) (n : Nat) : Wf (ds.drop n) := fun d hd => h d (List.mem_of_mem_drop hd)
theorem wf_get {ds : List Nat} (h : Wf ds) {i : Nat} (hi : i < ds.length) : ds[i] < W32 := h _ (List.getElem_mem hi)
theorem wf_nil : Wf [] := by simp [Wf]

theorem dv_append (a b : List Nat) : dv (a ++ b) = dv a + W32 ^ a.length * dv b := by
  induction a with
  | nil => simp [dv]
  | cons d a ih => simp only [List.cons_append, dv, ih, List.length_cons, Nat.pow_succ, Nat.mul_add]; rw [Nat.mul_comm (W32 ^ a.length) W32, Nat.mul_assoc]; omega

theorem dv_lt {ds : List Nat} (h : Wf ds) : dv ds < W32 ^ ds.length := by
  induction ds with
  | nil => simp [dv]
  | cons d ds ih =>
    obtain ⟨h1, h2⟩ := wf_cons.1 h
    have := ih h2
    simp only [dv, List.length_cons, Nat.pow_succ]
    have : (dv ds + 1) * W32 ≤ W32 ^ ds.length * W32 := Nat.mul_le_mul_right _ this
    have h1' : d < 4294967296 := h1
    simp only [W32] at *
    omega

theorem dv_split' {ds : List Nat} {k : Nat} (hk : k ≤ ds.length) : dv ds = dv (ds.take k) + W32 ^ k * dv (ds.drop k) := by
  conv => lhs; rw [← List.take_append_drop k ds]
  rw [dv_append, List.length_take, Nat.min_eq_left hk]

theorem dv_take_succ {ds : List Nat} {k : Nat} (hk : k < ds.length) : dv (ds.take (k + 1)) = dv (ds.take k) + W32 ^ k * ds[k] := by
  rw [List.take_succ_eq_append_getElem hk, dv_append]
  simp only [dv, Nat.mul_zero, Nat.add_zero, List.length_take]
  rw [Nat.min_eq_left (by omega)]

theorem digs_cons {d : Nat} {ds : List Nat} (hd : d < W32) (h : d + W32 * dv ds ≠ 0) : digs (d + W32 * dv ds) = d :: digs (dv ds) := by
  rw [digs_pos h]
  have h1 : (d + W32 * dv ds) % W32 = d := by rw [Nat.add_mul_mod_self_left, Nat.mod_eq_of_lt hd]
  have h2 : (d + W32 * dv ds) / W32 = dv ds := by rw [Nat.add_mul_div_left _ _ (by decide), Nat.div_eq_of_lt hd, Nat.zero_add]
  rw [h1, h2]

/-- The digits that do not end in 0 are the digits of their number. -/
theorem digs_dv {ds : List Nat} (h : Wf ds) (hl : ∀ hne : ds ≠ [], ds.getLast hne ≠ 0) : digs (dv ds) = ds := by
  induction ds with
  | nil => exact digs_zero
  | cons d ds ih =>
    obtain ⟨h1, h2⟩ := wf_cons.1 h
    have ihd : digs (dv ds) = ds := ih h2 fun hne => by have := hl (by simp); rwa [List.getLast_cons hne] at this
    have hpos : d + W32 * dv ds ≠ 0 := by
      intro h0
      have hd0 : d = 0 := by omega
      have hv0 : dv ds = 0 := by simp only [W32] at h0; omega
      have hds : ds = [] := by rw [← ihd, hv0, digs_zero]
      subst hds
      exact hl (by simp) (by simpa using hd0)
    rw [dv, digs_cons h1 hpos, ihd]

theorem dv_take_zero {ds : List Nat} {k : Nat} (hk : k < ds.length) (h0 : ds[k] = 0) : dv (ds.take (k + 1)) = dv (ds.take k) := by rw [dv_take_succ hk, h0]; simp

theorem digs_take {ds : List Nat} {k : Nat} (h : Wf ds) (hk : k < ds.length) (h0 : ds[k] ≠ 0) : digs (dv (ds.take (k + 1))) = ds.take (k + 1) := by
  refine digs_dv (wf_take h _) fun hne => ?_
  rw [List.getLast_eq_getElem]
  simp only [List.length_take, List.getElem_take]
  have : min (k + 1) ds.length - 1 = k := by omega
  simp only [this]
  exact h0

theorem digs_length_le {n k : Nat} (h : n < W32 ^ k) : (digs n).length ≤ k := by
  induction k generalizing n with
  | zero => have : n = 0 := by simpa using h
            subst this; rw [digs_zero]; simp
  | succ k ih =>
    by_cases h0 : n = 0
    · subst h0; rw [digs_zero]; simp
    · rw [digs_pos h0, List.length_cons]
      have : n / W32 < W32 ^ k := Nat.div_lt_of_lt_mul (by rw [Nat.mul_comm, ← Nat.pow_succ]; exact h)
      have := ih this
      omega

theorem digs_length_dv {ds : List Nat} (h : Wf ds) : (digs (dv ds)).length ≤ ds.length := digs_length_le (dv_lt h)

theorem digs_eq_nil {n : Nat} : digs n = [] ↔ n = 0 := by
  constructor
  · intro h; have := dv_digs n; rw [h] at this; exact this.symm
  · rintro rfl; exact digs_zero

theorem lt_of_digs_length {n k : Nat} (h : (digs n).length ≤ k) : n < W32 ^ k := by
  have := dv_lt (wf_digs n)
  rw [dv_digs] at this
  exact Nat.lt_of_lt_of_le this (Nat.pow_le_pow_right (by decide) h)

theorem lt_of_len {m n : Nat} (h : (digs m).length < (digs n).length) : m < n := by
  rcases Nat.lt_or_ge m n with lt | ge
  · exact lt
  · exfalso
    have h1 := dv_lt (wf_digs m)
    rw [dv_digs] at h1
    have := digs_length_le (n := n) (k := (digs m).length) (by omega)
    omega

theorem digs_len_mono {m n : Nat} (h : m ≤ n) : (digs m).length ≤ (digs n).length := by
  have h1 := dv_lt (wf_digs n)
  rw [dv_digs] at h1
  exact digs_length_le (by omega)

/-- Digit 'i', 0 beyond the end. -/
def dgt (ds : List Nat) (i : Nat) : Nat := ds.getD i 0

theorem dgt_lt {ds : List Nat} (h : Wf ds) (i : Nat) : dgt ds i < W32 := by
  unfold dgt
  rcases Nat.lt_or_ge i ds.length with lt | ge
  · simp [lt]; exact wf_get h lt
  · simp [ge]

theorem dgt_get {ds : List Nat} {i : Nat} (h : i < ds.length) : dgt ds i = ds[i] := by simp [dgt, h]
theorem dgt_end {ds : List Nat} {i : Nat} (h : ds.length ≤ i) : dgt ds i = 0 := by simp [dgt, h]

theorem dv_take_dgt (ds : List Nat) (i : Nat) : dv (ds.take (i + 1)) = dv (ds.take i) + W32 ^ i * dgt ds i := by
  rcases Nat.lt_or_ge i ds.length with lt | ge
  · rw [dv_take_succ lt, dgt_get lt]
  · rw [dgt_end ge, List.take_of_length_le (by omega), List.take_of_length_le ge]; simp

theorem dv_drop_dgt (ds : List Nat) (i : Nat) : dv (ds.drop i) = dgt ds i + W32 * dv (ds.drop (i + 1)) := by
  rcases Nat.lt_or_ge i ds.length with lt | ge
  · rw [List.drop_eq_getElem_cons lt, dv, dgt_get lt]
  · rw [dgt_end ge, List.drop_eq_nil_of_le ge, List.drop_eq_nil_of_le (by omega)]; simp [dv]

theorem take_set_succ {ds : List Nat} {i x : Nat} (h : i < ds.length) : (ds.set i x).take (i + 1) = ds.take i ++ [x] := by
  rw [List.take_succ_eq_append_getElem (by simpa using h), List.getElem_set_self]
  congr 1
  refine List.ext_getElem? fun j => ?_
  rw [List.getElem?_take, List.getElem?_take]
  split
  · rw [List.getElem?_set_ne (by omega)]
  · rfl

theorem dv_take_set {ds : List Nat} {i x : Nat} (h : i < ds.length) : dv ((ds.set i x).take (i + 1)) = dv (ds.take i) + W32 ^ i * x := by
  rw [take_set_succ h, dv_append, List.length_take, Nat.min_eq_left (by omega)]; simp [dv]

theorem wf_set {ds : List Nat} {i x : Nat} (h : Wf ds) (hx : x < W32) : Wf (ds.set i x) := fun d hd => by
  rcases List.mem_or_eq_of_mem_set hd with h1 | rfl
  · exact h d h1
  · exact hx

theorem wf_replicate (n : Nat) : Wf (List.replicate n 0) := fun d hd => by rw [(List.mem_replicate.1 hd).2]; decide

theorem carry_zero {W k a b s c : Nat} (hW : 2 ≤ W) (ha : a < W ^ k) (hb : b < W ^ k) (h : s + W ^ (k + 1) * c = a + b) : c = 0 := by
  rcases Nat.eq_zero_or_pos c with h0 | h0
  · exact h0
  · exfalso
    have h1 : W ^ (k + 1) * 1 ≤ W ^ (k + 1) * c := Nat.mul_le_mul_left _ h0
    have h2 : W ^ (k + 1) = W ^ k * W := Nat.pow_succ W k
    have h3 : W ^ k * 2 ≤ W ^ k * W := Nat.mul_le_mul_left _ hW
    omega

theorem dv_lt_of_le {ds : List Nat} (h : Wf ds) {k : Nat} (hk : ds.length ≤ k) : dv ds < W32 ^ k := Nat.lt_of_lt_of_le (dv_lt h) (Nat.pow_le_pow_right (by decide) hk)

theorem sub_step {W p sa sb ta q A B c c' : Nat} (h : sa + sb = ta + p * c) (hq : q + B + c = A + W * c') : (sa + p * q) + (sb + p * B) = (ta + p * A) + p * (W * c') := by
  have e : p * (q + B + c) = p * (A + W * c') := by rw [hq]
  rw [Nat.mul_add, Nat.mul_add, Nat.mul_add] at e
  omega

theorem borrow_zero {p s b a c : Nat} (hs : s < p) (hb : b ≤ a) (h : s + b = a + p * c) : c = 0 := by
  rcases Nat.eq_zero_or_pos c with h0 | h0
  · exact h0
  · exfalso
    have h1 : p * 1 ≤ p * c := Nat.mul_le_mul_left _ h0
    omega

theorem dv_take_of_lt {ds : List Nat} {n : Nat} (h : dv ds < W32 ^ n) : dv (ds.take n) = dv ds := by
  rcases Nat.lt_or_ge ds.length n with lt | ge
  · rw [List.take_of_length_le (by omega)]
  · have e := dv_split' ge
    rcases Nat.eq_zero_or_pos (dv (ds.drop n)) with h0 | h0
    · rw [h0, Nat.mul_zero, Nat.add_zero] at e; exact e.symm
    · exfalso
      have : W32 ^ n * 1 ≤ W32 ^ n * dv (ds.drop n) := Nat.mul_le_mul_left _ h0
      omega

theorem dv_set {ds : List Nat} {j q : Nat} (h : j < ds.length) : dv (ds.set j q) + W32 ^ j * ds[j] = dv ds + W32 ^ j * q := by
  have e1 := dv_split' (ds := ds) (k := j + 1) (by omega)
  have e2 := dv_split' (ds := ds.set j q) (k := j + 1) (by simp; omega)
  rw [dv_take_succ h] at e1
  rw [dv_take_set h] at e2
  have e3 : (ds.set j q).drop (j + 1) = ds.drop (j + 1) := by
    refine List.ext_getElem? fun i => ?_
    rw [List.getElem?_drop, List.getElem?_drop, List.getElem?_set_ne (by omega)]
  rw [e3] at e2
  omega

theorem dgt_set_ne {ds : List Nat} {i j q : Nat} (h : i ≠ j) : dgt (ds.set i q) j = dgt ds j := by
  unfold dgt
  rw [List.getD_eq_getElem?_getD, List.getD_eq_getElem?_getD, List.getElem?_set_ne h]

theorem mul_step {W P s s0 s' sj q e c A B D : Nat} (hinv : s + P * c = s0 + D) (hset : s' + P * sj = s + P * q) (hq : q + W * e = c + sj + A * B) : s' + P * (W * e) = s0 + (D + P * (A * B)) := by
  have h : P * (q + W * e) = P * (c + sj + A * B) := by rw [hq]
  rw [Nat.mul_add, Nat.mul_add, Nat.mul_add] at h
  omega

theorem mul_bound {c s A B : Nat} (hc : c < W32) (hs : s < W32) (hA : A < W32) (hB : B < W32) : c + s + A * B < W32 * W32 ∧ A * B < W32 * W32 := by
  have h1 : A * B ≤ 4294967295 * 4294967295 := Nat.mul_le_mul (by simp only [W32] at hA; omega) (by simp only [W32] at hB; omega)
  simp only [W32] at *
  omega

theorem dv_replicate (n : Nat) : dv (List.replicate n 0) = 0 := by
  induction n with
  | zero => rfl
  | succ n ih => rw [List.replicate_succ, dv, ih, Nat.mul_zero]

theorem dgt_replicate (n j : Nat) : dgt (List.replicate n 0) j = 0 := by
  unfold dgt
  rw [List.getD_eq_getElem?_getD, List.getElem?_replicate]
  split <;> rfl

/-- The highest digit is not 0. -/
theorem digs_last {n : Nat} : ∀ {k : Nat} (hk : k + 1 = (digs n).length), (digs n)[k]'(by omega) ≠ 0 := by
  induction n using Nat.strongRecOn with
  | _ n ih =>
    intro k hk
    by_cases h : n = 0
    · subst h; rw [digs_zero] at hk; simp at hk
    · have hn : n / W32 < n := Nat.div_lt_self (Nat.pos_of_ne_zero h) (by decide)
      have hlen : (digs n).length = (digs (n / W32)).length + 1 := by rw [digs_pos h]; rfl
      have hget : ∀ (j : Nat) (hj : j < (digs n).length), (digs n)[j] = if h0 : j = 0 then n % W32 else (digs (n / W32))[j - 1]'(by omega) := fun j hj => by
        have e := digs_pos h
        cases j with
        | zero => simp only [e, List.getElem_cons_zero, dif_pos]
        | succ j => simp only [e, List.getElem_cons_succ]; rw [dif_neg (by omega)]; simp
      rw [hget k (by omega)]
      split
      · rename_i hk0
        have h1 : (digs (n / W32)).length = 0 := by omega
        have h2 : n / W32 = 0 := digs_eq_nil.1 (List.eq_nil_of_length_eq_zero h1)
        have := Nat.mod_add_div n W32
        rw [h2] at this
        omega
      · exact ih (n / W32) hn (k := k - 1) (by omega)

end Go.Ev

/-
  Bits of numbers.
-/
namespace Go.Ev

/-- How many bits a number has. -/
def bl (n : Nat) : Nat := if h : n = 0 then 0 else bl (n / 2) + 1
  termination_by n
  decreasing_by exact Nat.div_lt_self (Nat.pos_of_ne_zero h) (by decide)

theorem bl_zero : bl 0 = 0 := by rw [bl]; simp
theorem bl_pos {n : Nat} (h : n ≠ 0) : bl n = bl (n / 2) + 1 := by rw [bl]; simp [h]

theorem lt_bl (n : Nat) : n < 2 ^ bl n := by
  induction n using Nat.strongRecOn with
  | _ n ih =>
    by_cases h : n = 0
    · subst h; rw [bl_zero]; decide
    · rw [bl_pos h, Nat.pow_succ]
      have := ih (n / 2) (Nat.div_lt_self (Nat.pos_of_ne_zero h) (by decide))
      omega

theorem bl_le {n : Nat} (h : n ≠ 0) : 2 ^ (bl n - 1) ≤ n := by
  induction n using Nat.strongRecOn with
  | _ n ih =>
    rw [bl_pos h, Nat.add_sub_cancel]
    by_cases h2 : n / 2 = 0
    · rw [h2, bl_zero]; simp; omega
    · have := ih (n / 2) (Nat.div_lt_self (Nat.pos_of_ne_zero h) (by decide)) h2
      have h3 : bl (n / 2) ≠ 0 := by rw [bl_pos h2]; omega
      obtain ⟨k, hk⟩ : ∃ k, bl (n / 2) = k + 1 := ⟨bl (n / 2) - 1, by omega⟩
      rw [hk, Nat.add_sub_cancel] at this
      rw [hk, Nat.pow_succ]
      omega

theorem bl_unique {n k : Nat} (h1 : 2 ^ k ≤ n) (h2 : n < 2 ^ (k + 1)) : bl n = k + 1 := by
  have h0 : n ≠ 0 := by have := Nat.pow_pos (n := k) (show 0 < 2 by decide); omega
  have a := lt_bl n
  have b := bl_le h0
  have c : k < bl n := (Nat.pow_lt_pow_iff_right (by decide : 1 < 2)).1 (Nat.lt_of_le_of_lt h1 a)
  have d : bl n - 1 < k + 1 := (Nat.pow_lt_pow_iff_right (by decide : 1 < 2)).1 (Nat.lt_of_le_of_lt b h2)
  omega

theorem W32_pow (k : Nat) : W32 ^ k = 2 ^ (32 * k) := by
  rw [Nat.pow_mul]

theorem bl_digit {d : Nat} (h : d < W32) : bl d ≤ 32 := by
  by_cases h0 : d = 0
  · subst h0; rw [bl_zero]; omega
  · have b := bl_le h0
    have : bl d - 1 < 32 := (Nat.pow_lt_pow_iff_right (by decide : 1 < 2)).1 (Nat.lt_of_le_of_lt b (by simpa [W32] using h))
    omega

/-- The bits of a number by its highest digit. -/
theorem bl_dv {ds : List Nat} {k : Nat} (h : Wf ds) (hl : ds.length = k + 1) (h0 : ds[k]'(by omega) ≠ 0) : bl (dv ds) = 32 * k + bl (ds[k]'(by omega)) := by
  have hk : k < ds.length := by omega
  have e := dv_take_succ hk
  rw [List.take_of_length_le (by omega)] at e
  have h1 := dv_lt (wf_take h k)
  rw [List.length_take, Nat.min_eq_left (by omega)] at h1
  have a := lt_bl ds[k]
  have b := bl_le h0
  obtain ⟨m, hm⟩ : ∃ m, bl ds[k] = m + 1 := ⟨bl ds[k] - 1, by rw [bl_pos h0]; omega⟩
  rw [hm] at a b ⊢
  rw [Nat.add_sub_cancel] at b
  rw [W32_pow] at e h1
  rw [← Nat.add_assoc]
  refine bl_unique ?_ ?_
  · rw [Nat.pow_add]
    have := Nat.mul_le_mul_left (2 ^ (32 * k)) b
    omega
  · rw [Nat.add_assoc, Nat.pow_add]
    have : 2 ^ (32 * k) * (ds[k] + 1) ≤ 2 ^ (32 * k) * 2 ^ (m + 1) := Nat.mul_le_mul_left _ a
    rw [Nat.mul_add, Nat.mul_one] at this
    omega

theorem half_step {W P s o a t A B : Nat} (h : 2 * s + o = a + P * (A % 2)) (ht : 2 * t + A % 2 = A + W * (B % 2)) : 2 * (s + P * t) + o = (a + P * A) + P * (W * (B % 2)) := by
  have e : P * (2 * t + A % 2) = P * (A + W * (B % 2)) := by rw [ht]
  rw [Nat.mul_add, Nat.mul_add, Nat.mul_left_comm] at e
  omega

/-- What is shifted by fewer than 32 bits: its lower and its upper part. -/
theorem shl_parts {x r : Nat} (hr : r < 32) (hx : x < W32) : ∃ z, (x * 2 ^ r) % W32 = 2 ^ r * z ∧ (x * 2 ^ r) / W32 < 2 ^ r ∧ 2 ^ r * z + 2 ^ r ≤ W32 ∧ x * 2 ^ r < W32 * W32 := by
  have hp : 0 < 2 ^ r := Nat.pow_pos (by decide)
  have hW : W32 = 2 ^ r * 2 ^ (32 - r) := by rw [← Nat.pow_add, show r + (32 - r) = 32 by omega]
  refine ⟨x % 2 ^ (32 - r), ?_, ?_, ?_, ?_⟩
  · rw [hW, Nat.mul_comm x, Nat.mul_mod_mul_left]
  · exact Nat.div_lt_of_lt_mul (Nat.mul_lt_mul_of_pos_right hx hp)
  · have h1 : x % 2 ^ (32 - r) < 2 ^ (32 - r) := Nat.mod_lt _ (Nat.pow_pos (by decide))
    have h2 : 2 ^ r * (x % 2 ^ (32 - r) + 1) ≤ 2 ^ r * 2 ^ (32 - r) := Nat.mul_le_mul_left _ h1
    rw [Nat.mul_add, Nat.mul_one] at h2
    rw [hW]; exact h2
  · have h3 : 2 ^ r ≤ W32 := by rw [hW]; exact Nat.le_mul_of_pos_right _ (Nat.pow_pos (by decide))
    exact Nat.mul_lt_mul_of_lt_of_le hx h3 (by decide)

theorem shift_step {i w r S S1 D A T t q e x : Nat} (hv : S = W32 ^ w * (2 ^ r * D)) (h1 : S1 + W32 ^ (i + w) * T = S + W32 ^ (i + w) * t) (ht : t = T + q) (hqe : q + W32 * e = x) (hx : x = A * 2 ^ r) :
    S1 + W32 ^ (i + w + 1) * e = W32 ^ w * (2 ^ r * (D + W32 ^ i * A)) := by
  have e1 : S1 = S + W32 ^ (i + w) * q := by rw [ht, Nat.mul_add] at h1; omega
  have e2 : W32 ^ (i + w) * q + W32 ^ (i + w) * (W32 * e) = W32 ^ (i + w) * (A * 2 ^ r) := by rw [← Nat.mul_add, hqe, hx]
  rw [Nat.pow_succ, Nat.mul_assoc, e1, Nat.add_assoc, e2, hv, Nat.mul_add (2 ^ r), Nat.mul_add (W32 ^ w)]
  congr 1
  rw [Nat.add_comm i w, Nat.pow_add, Nat.mul_assoc]
  congr 1
  rw [Nat.mul_comm A, Nat.mul_left_comm]

/-- A digit by division. -/
theorem dgt_dv {ds : List Nat} (h : Wf ds) (j : Nat) : dgt ds j = dv ds / W32 ^ j % W32 := by
  induction ds generalizing j with
  | nil => simp [dgt, dv]
  | cons d ds ih =>
    obtain ⟨h1, h2⟩ := wf_cons.1 h
    cases j with
    | zero =>
      rw [Nat.pow_zero, Nat.div_one, dv, Nat.add_mul_mod_self_left, Nat.mod_eq_of_lt h1]; rfl
    | succ j =>
      have e : (d + W32 * dv ds) / W32 ^ (j + 1) = dv ds / W32 ^ j := by
        rw [Nat.pow_succ, Nat.mul_comm (W32 ^ j) W32, ← Nat.div_div_eq_div_mul, Nat.add_mul_div_left _ _ (by decide), Nat.div_eq_of_lt h1, Nat.zero_add]
      rw [dv, e, ← ih h2 j]
      simp [dgt]

/-- A digit of a multiple of a power of 2. -/
theorem dgt_mul {ds : List Nat} (h : Wf ds) {i Z : Nat} (hv : dv ds = 2 ^ (i + 1) * Z) : ∃ z, dgt ds (i / 32) = 2 ^ (i % 32 + 1) * z := by
  have e1 : i + 1 = 32 * (i / 32) + (i % 32 + 1) := by omega
  have hW : W32 = 2 ^ (i % 32 + 1) * 2 ^ (31 - i % 32) := by rw [← Nat.pow_add, show i % 32 + 1 + (31 - i % 32) = 32 by omega]
  refine ⟨Z % 2 ^ (31 - i % 32), ?_⟩
  rw [dgt_dv h, hv, e1, Nat.pow_add, W32_pow, Nat.mul_assoc, Nat.mul_div_cancel_left _ (Nat.pow_pos (by decide)), hW, Nat.mul_mod_mul_left]

theorem len_of_le {n X E : Nat} (h : n ≤ X) (hX : X < W32 ^ E) (hE : E < 100000000) : (digs n).length < 100000000 := by
  have := digs_length_le (Nat.lt_of_le_of_lt h hX)
  omega

theorem bl_dv_le {ds : List Nat} (h : Wf ds) : bl (dv ds) ≤ 32 * ds.length := by
  by_cases h0 : dv ds = 0
  · rw [h0, bl_zero]; omega
  · have h1 := dv_lt h
    rw [W32_pow] at h1
    have h2 := bl_le h0
    have : bl (dv ds) - 1 < 32 * ds.length := (Nat.pow_lt_pow_iff_right (by decide : 1 < 2)).1 (Nat.lt_of_le_of_lt h2 h1)
    omega

theorem bl_mono {a b : Nat} (h : bl a < bl b) : a < b := by
  have h1 := lt_bl a
  have hb : b ≠ 0 := by rintro rfl; rw [bl_zero] at h; omega
  have h2 := bl_le hb
  have h3 : 2 ^ bl a ≤ 2 ^ (bl b - 1) := Nat.pow_le_pow_right (by decide) (by omega)
  omega


/-- The digits of a number, so many of them. -/
def dpad : Nat → Nat → List Nat
  | 0, _ => []
  | l + 1, n => n % W32 :: dpad l (n / W32)

theorem dpad_length (l n : Nat) : (dpad l n).length = l := by
  induction l generalizing n with
  | zero => rfl
  | succ l ih => simp [dpad, ih]

theorem wf_dpad (l n : Nat) : Wf (dpad l n) := by
  induction l generalizing n with
  | zero => exact wf_nil
  | succ l ih => exact wf_cons.2 ⟨Nat.mod_lt _ (by decide), ih _⟩

theorem dpad_dv {ds : List Nat} (h : Wf ds) : dpad ds.length (dv ds) = ds := by
  induction ds with
  | nil => rfl
  | cons d ds ih =>
    obtain ⟨h1, h2⟩ := wf_cons.1 h
    have e1 : (d + W32 * dv ds) % W32 = d := by rw [Nat.add_mul_mod_self_left, Nat.mod_eq_of_lt h1]
    have e2 : (d + W32 * dv ds) / W32 = dv ds := by rw [Nat.add_mul_div_left _ _ (by decide), Nat.div_eq_of_lt h1, Nat.zero_add]
    simp only [List.length_cons, dpad, dv]
    rw [e1, e2, ih h2]

theorem dpad_of {ds : List Nat} {l n : Nat} (h : Wf ds) (hl : ds.length = l) (hn : dv ds = n) : ds = dpad l n := by
  subst hl; subst hn; exact (dpad_dv h).symm

theorem dv_dpad {l n : Nat} (h : n < W32 ^ l) : dv (dpad l n) = n := by
  induction l generalizing n with
  | zero => have : n = 0 := by simpa using h
            subst this; rfl
  | succ l ih =>
    simp only [dpad, dv]
    rw [ih (Nat.div_lt_of_lt_mul (by rw [Nat.mul_comm, ← Nat.pow_succ]; exact h))]
    exact Nat.mod_add_div n W32

end Go.Ev

/-
  bits.Len32, walked in the library's own text (after the shelf's template), as a callee of the evaluator.
-/
namespace Go.Proofs.Ythlpmghodgiknaa.C
open Go Go.RowKit

set_option maxHeartbeats 4000000 in
set_option maxRecDepth 100000 in
theorem bits_Len32 (x : Int) (w : World) (h0 : 0 ≤ x) (h1 : x ≤ 4294967295) :
    Calls Try.prog 105 #[.int .u32 x] w fun e w' => e = .returned (.int .i64 (Lib.bitLen x.toNat)) ∧ w' = w := by
  go_enter Try.func105, Try.ntmps105
  go_wp2
  all_goals (go_ret; refine ⟨congrArg Ending.returned (congrArg (Value.int IntKind.i64) ?_), rfl⟩)
  all_goals first
    | (rw [Lib.len8_of (x / 65536 / 256 % 256) (by omega) (by omega)]
       have e : (x / 65536 / 256 % 256).toNat = x.toNat / 16777216 := by omega
       have l := Lib.bitLen_le8' (x / 65536 / 256 % 256) (by omega) (by omega)
       have s := Lib.bitLen_shift24 x.toNat (by omega) (by omega)
       rw [e] at l ⊢
       omega)
    | (rw [Lib.len8_of (x / 65536 % 256) (by omega) (by omega)]
       have e : (x / 65536 % 256).toNat = x.toNat / 65536 := by omega
       have l := Lib.bitLen_le8' (x / 65536 % 256) (by omega) (by omega)
       have s := Lib.bitLen_shift16 x.toNat (by omega) (by omega)
       rw [e] at l ⊢
       omega)
    | (rw [Lib.len8_of (x / 256 % 256) (by omega) (by omega)]
       have e : (x / 256 % 256).toNat = x.toNat / 256 := by omega
       have l := Lib.bitLen_le8' (x / 256 % 256) (by omega) (by omega)
       have s := Lib.bitLen_shift8 x.toNat (by omega) (by omega)
       rw [e] at l ⊢
       omega)
    | (rw [Lib.len8_of (x % 256) (by omega) (by omega)]
       have e : (x % 256).toNat = x.toNat := by omega
       have l := Lib.bitLen_le8' (x % 256) (by omega) (by omega)
       rw [e] at l ⊢
       omega)

theorem bitLen_bl (x : Nat) (h : x < 2 ^ 64) : Lib.bitLen x = Ev.bl x := by
  induction x using Nat.strongRecOn with
  | _ x ih =>
    by_cases h0 : x = 0
    · subst h0; rw [Ev.bl_zero]; decide
    · rw [Lib.bitLen_half x h0 h, Ev.bl_pos h0, ih (x / 2) (by omega) (by omega), Nat.add_comm]

open Go.Ev

def u32Of : AV → Option Nat
  | .int .u32 n => if 0 ≤ n ∧ n < 4294967296 then some n.toNat else none
  | _ => none

def spLen32 : List AV → Option PRes
  | [a] => match u32Of a with | some x => some { val := .int .i64 (bl x : Nat) } | none => none
  | _ => none

theorem len32_meets : Meets Try.prog 105 spLen32 := by
  intro args r h w vs ok0 hok hl hrep
  unfold spLen32 at h
  split at h
  case h_2 => cases h
  rename_i a
  split at h
  case h_2 => cases h
  rename_i x hx
  cases h
  unfold u32Of at hx
  split at hx
  case h_2 => cases hx
  rename_i n
  by_cases hc : 0 ≤ n ∧ n < 4294967296
  case neg => rw [if_neg hc] at hx; cases hx
  rw [if_pos hc] at hx
  cases hx
  obtain ⟨v, rfl⟩ : ∃ v, vs = #[v] := by
    obtain ⟨l⟩ := vs
    match l, hl with
    | [v], _ => exact ⟨v, rfl⟩
  have hv := hrep 0 (.int .u32 n) v rfl rfl
  cases hv
  refine (bits_Len32 n w hc.1 (by omega)).mono ?_
  rintro e w' ⟨rfl, rfl⟩
  refine ⟨_, rfl, fun _ => none, simH_start ok0 _, ?_, by simp [AV.keys]⟩
  rw [bitLen_bl _ (by omega)]
  exact .data (.int _ _)

end Go.Proofs.Ythlpmghodgiknaa.C
