/-
  Bits of numbers.
-/
import Derived.Test.YthlpmghodgiknaaNum
namespace Go.Ev

/-- How many bits a number has. -/
def bl (n : Nat) : Nat := if h : n = 0 then 0 else bl (n / 2) + 1
  termination_by n
  decreasing_by exact Nat.div_lt_self (Nat.pos_of_ne_zero h) (by decide)

theorem bl_zero : bl 0 = 0 := by rw [bl]; simp
theorem bl_pos {n : Nat} (h : n ≠ 0) : bl n = bl (n / 2) + 1 := by rw [bl]; simp [h]

theorem lt_bl (n : Nat) : n < 2 ^ bl n := by
  induction n using Nat.strongRecOn with
  | _ n ih =>
    by_cases h : n = 0
    · subst h; rw [bl_zero]; decide
    · rw [bl_pos h, Nat.pow_succ]
      have := ih (n / 2) (Nat.div_lt_self (Nat.pos_of_ne_zero h) (by decide))
      omega

theorem bl_le {n : Nat} (h : n ≠ 0) : 2 ^ (bl n - 1) ≤ n := by
  induction n using Nat.strongRecOn with
  | _ n ih =>
    rw [bl_pos h, Nat.add_sub_cancel]
    by_cases h2 : n / 2 = 0
    · rw [h2, bl_zero]; simp; omega
    · have := ih (n / 2) (Nat.div_lt_self (Nat.pos_of_ne_zero h) (by decide)) h2
      have h3 : bl (n / 2) ≠ 0 := by rw [bl_pos h2]; omega
      obtain ⟨k, hk⟩ : ∃ k, bl (n / 2) = k + 1 := ⟨bl (n / 2) - 1, by omega⟩
      rw [hk, Nat.add_sub_cancel] at this
      rw [hk, Nat.pow_succ]
      omega

theorem bl_unique {n k : Nat} (h1 : 2 ^ k ≤ n) (h2 : n < 2 ^ (k + 1)) : bl n = k + 1 := by
  have h0 : n ≠ 0 := by have := Nat.pow_pos (n := k) (show 0 < 2 by decide); omega
  have a := lt_bl n
  have b := bl_le h0
  have c : k < bl n := (Nat.pow_lt_pow_iff_right (by decide : 1 < 2)).1 (Nat.lt_of_le_of_lt h1 a)
  have d : bl n - 1 < k + 1 := (Nat.pow_lt_pow_iff_right (by decide : 1 < 2)).1 (Nat.lt_of_le_of_lt b h2)
  omega

theorem W32_pow (k : Nat) : W32 ^ k = 2 ^ (32 * k) := by
  rw [Nat.pow_mul]

theorem bl_digit {d : Nat} (h : d < W32) : bl d ≤ 32 := by
  by_cases h0 : d = 0
  · subst h0; rw [bl_zero]; omega
  · have b := bl_le h0
    have : bl d - 1 < 32 := (Nat.pow_lt_pow_iff_right (by decide : 1 < 2)).1 (Nat.lt_of_le_of_lt b (by simpa [W32] using h))
    omega

/-- The bits of a number by its highest digit. -/
theorem bl_dv {ds : List Nat} {k : Nat} (h : Wf ds) (hl : ds.length = k + 1) (h0 : ds[k]'(by omega) ≠ 0) : bl (dv ds) = 32 * k + bl (ds[k]'(by omega)) := by
  have hk : k < ds.length := by omega
  have e := dv_take_succ hk
  rw [List.take_of_length_le (by omega)] at e
  have h1 := dv_lt (wf_take h k)
  rw [List.length_take, Nat.min_eq_left (by omega)] at h1
  have a := lt_bl ds[k]
  have b := bl_le h0
  obtain ⟨m, hm⟩ : ∃ m, bl ds[k] = m + 1 := ⟨bl ds[k] - 1, by rw [bl_pos h0]; omega⟩
  rw [hm] at a b ⊢
  rw [Nat.add_sub_cancel] at b
  rw [W32_pow] at e h1
  rw [← Nat.add_assoc]
  refine bl_unique ?_ ?_
  · rw [Nat.pow_add]
    have := Nat.mul_le_mul_left (2 ^ (32 * k)) b
    omega
  · rw [Nat.add_assoc, Nat.pow_add]
    have : 2 ^ (32 * k) * (ds[k] + 1) ≤ 2 ^ (32 * k) * 2 ^ (m + 1) := Nat.mul_le_mul_left _ a
    rw [Nat.mul_add, Nat.mul_one] at this
    omega

theorem half_step {W P s o a t A B : Nat} (h : 2 * s + o = a + P * (A % 2)) (ht : 2 * t + A % 2 = A + W * (B % 2)) : 2 * (s + P * t) + o = (a + P * A) + P * (W * (B % 2)) := by
  have e : P * (2 * t + A % 2) = P * (A + W * (B % 2)) := by rw [ht]
  rw [Nat.mul_add, Nat.mul_add, Nat.mul_left_comm] at e
  omega

/-- What is shifted by fewer than 32 bits: its lower and its upper part. -/
theorem shl_parts {x r : Nat} (hr : r < 32) (hx : x < W32) : ∃ z, (x * 2 ^ r) % W32 = 2 ^ r * z ∧ (x * 2 ^ r) / W32 < 2 ^ r ∧ 2 ^ r * z + 2 ^ r ≤ W32 ∧ x * 2 ^ r < W32 * W32 := by
  have hp : 0 < 2 ^ r := Nat.pow_pos (by decide)
  have hW : W32 = 2 ^ r * 2 ^ (32 - r) := by rw [← Nat.pow_add, show r + (32 - r) = 32 by omega]
  refine ⟨x % 2 ^ (32 - r), ?_, ?_, ?_, ?_⟩
  · rw [hW, Nat.mul_comm x, Nat.mul_mod_mul_left]
  · exact Nat.div_lt_of_lt_mul (Nat.mul_lt_mul_of_pos_right hx hp)
  · have h1 : x % 2 ^ (32 - r) < 2 ^ (32 - r) := Nat.mod_lt _ (Nat.pow_pos (by decide))
    have h2 : 2 ^ r * (x % 2 ^ (32 - r) + 1) ≤ 2 ^ r * 2 ^ (32 - r) := Nat.mul_le_mul_left _ h1
    rw [Nat.mul_add, Nat.mul_one] at h2
    rw [hW]; exact h2
  · have h3 : 2 ^ r ≤ W32 := by rw [hW]; exact Nat.le_mul_of_pos_right _ (Nat.pow_pos (by decide))
    exact Nat.mul_lt_mul_of_lt_of_le hx h3 (by decide)

theorem shift_step {i w r S S1 D A T t q e x : Nat} (hv : S = W32 ^ w * (2 ^ r * D)) (h1 : S1 + W32 ^ (i + w) * T = S + W32 ^ (i + w) * t) (ht : t = T + q) (hqe : q + W32 * e = x) (hx : x = A * 2 ^ r) :
    S1 + W32 ^ (i + w + 1) * e = W32 ^ w * (2 ^ r * (D + W32 ^ i * A)) := by
  have e1 : S1 = S + W32 ^ (i + w) * q := by rw [ht, Nat.mul_add] at h1; omega
  have e2 : W32 ^ (i + w) * q + W32 ^ (i + w) * (W32 * e) = W32 ^ (i + w) * (A * 2 ^ r) := by rw [← Nat.mul_add, hqe, hx]
  rw [Nat.pow_succ, Nat.mul_assoc, e1, Nat.add_assoc, e2, hv, Nat.mul_add (2 ^ r), Nat.mul_add (W32 ^ w)]
  congr 1
  rw [Nat.add_comm i w, Nat.pow_add, Nat.mul_assoc]
  congr 1
  rw [Nat.mul_comm A, Nat.mul_left_comm]

/-- A digit by division. -/
theorem dgt_dv {ds : List Nat} (h : Wf ds) (j : Nat) : dgt ds j = dv ds / W32 ^ j % W32 := by
  induction ds generalizing j with
  | nil => simp [dgt, dv]
  | cons d ds ih =>
    obtain ⟨h1, h2⟩ := wf_cons.1 h
    cases j with
    | zero =>
      rw [Nat.pow_zero, Nat.div_one, dv, Nat.add_mul_mod_self_left, Nat.mod_eq_of_lt h1]; rfl
    | succ j =>
      have e : (d + W32 * dv ds) / W32 ^ (j + 1) = dv ds / W32 ^ j := by
        rw [Nat.pow_succ, Nat.mul_comm (W32 ^ j) W32, ← Nat.div_div_eq_div_mul, Nat.add_mul_div_left _ _ (by decide), Nat.div_eq_of_lt h1, Nat.zero_add]
      rw [dv, e, ← ih h2 j]
      simp [dgt]

/-- A digit of a multiple of a power of 2. -/
theorem dgt_mul {ds : List Nat} (h : Wf ds) {i Z : Nat} (hv : dv ds = 2 ^ (i + 1) * Z) : ∃ z, dgt ds (i / 32) = 2 ^ (i % 32 + 1) * z := by
  have e1 : i + 1 = 32 * (i / 32) + (i % 32 + 1) := by omega
  have hW : W32 = 2 ^ (i % 32 + 1) * 2 ^ (31 - i % 32) := by rw [← Nat.pow_add, show i % 32 + 1 + (31 - i % 32) = 32 by omega]
  refine ⟨Z % 2 ^ (31 - i % 32), ?_⟩
  rw [dgt_dv h, hv, e1, Nat.pow_add, W32_pow, Nat.mul_assoc, Nat.mul_div_cancel_left _ (Nat.pow_pos (by decide)), hW, Nat.mul_mod_mul_left]

theorem len_of_le {n X E : Nat} (h : n ≤ X) (hX : X < W32 ^ E) (hE : E < 100000000) : (digs n).length < 100000000 := by
  have := digs_length_le (Nat.lt_of_le_of_lt h hX)
  omega

theorem bl_dv_le {ds : List Nat} (h : Wf ds) : bl (dv ds) ≤ 32 * ds.length := by
  by_cases h0 : dv ds = 0
  · rw [h0, bl_zero]; omega
  · have h1 := dv_lt h
    rw [W32_pow] at h1
    have h2 := bl_le h0
    have : bl (dv ds) - 1 < 32 * ds.length := (Nat.pow_lt_pow_iff_right (by decide : 1 < 2)).1 (Nat.lt_of_le_of_lt h2 h1)
    omega

theorem bl_mono {a b : Nat} (h : bl a < bl b) : a < b := by
  have h1 := lt_bl a
  have hb : b ≠ 0 := by rintro rfl; rw [bl_zero] at h; omega
  have h2 := bl_le hb
  have h3 : 2 ^ bl a ≤ 2 ^ (bl b - 1) := Nat.pow_le_pow_right (by decide) (by omega)
  omega


/-- The digits of a number, so many of them. -/
def dpad : Nat → Nat → List Nat
  | 0, _ => []
  | l + 1, n => n % W32 :: dpad l (n / W32)

theorem dpad_length (l n : Nat) : (dpad l n).length = l := by
  induction l generalizing n with
  | zero => rfl
  | succ l ih => simp [dpad, ih]

theorem wf_dpad (l n : Nat) : Wf (dpad l n) := by
  induction l generalizing n with
  | zero => exact wf_nil
  | succ l ih => exact wf_cons.2 ⟨Nat.mod_lt _ (by decide), ih _⟩

theorem dpad_dv {ds : List Nat} (h : Wf ds) : dpad ds.length (dv ds) = ds := by
  induction ds with
  | nil => rfl
  | cons d ds ih =>
    obtain ⟨h1, h2⟩ := wf_cons.1 h
    have e1 : (d + W32 * dv ds) % W32 = d := by rw [Nat.add_mul_mod_self_left, Nat.mod_eq_of_lt h1]
    have e2 : (d + W32 * dv ds) / W32 = dv ds := by rw [Nat.add_mul_div_left _ _ (by decide), Nat.div_eq_of_lt h1, Nat.zero_add]
    simp only [List.length_cons, dpad, dv]
    rw [e1, e2, ih h2]

theorem dpad_of {ds : List Nat} {l n : Nat} (h : Wf ds) (hl : ds.length = l) (hn : dv ds = n) : ds = dpad l n := by
  subst hl; subst hn; exact (dpad_dv h).symm

theorem dv_dpad {l n : Nat} (h : n < W32 ^ l) : dv (dpad l n) = n := by
  induction l generalizing n with
  | zero => have : n = 0 := by simpa using h
            subst this; rfl
  | succ l ih =>
    simp only [dpad, dv]
    rw [ih (Nat.div_lt_of_lt_mul (by rw [Nat.mul_comm, ← Nat.pow_succ]; exact h))]
    exact Nat.mod_add_div n W32

end Go.Ev
