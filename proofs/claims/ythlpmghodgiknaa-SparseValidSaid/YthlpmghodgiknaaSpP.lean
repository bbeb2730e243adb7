/-
  The program's integers: copies, leading zeros, sums and differences of digits.
-/
import Derived.Test.YthlpmghodgiknaaSpL
import Derived.Test.YthlpmghodgiknaaLen
namespace Go.Proofs.Ythlpmghodgiknaa.C
open Go Go.Ev

section
variable (G : Pure) (ic : Inl) (n : Nat)

/-! ### Add32, Sub32 -/

theorem u32Of_inv {a : AV} {n : Nat} (h : u32Of a = some n) : a = .int .u32 n ∧ n < 4294967296 := by
  unfold u32Of at h
  split at h
  · obtain ⟨h1, h2⟩ := of_ite h
    cases h2
    exact ⟨by congr 1; omega, by omega⟩
  · cases h
theorem u32Of_mk {n : Nat} (h : n < 4294967296) : u32Of (.int .u32 n) = some n := by
  have : (0 : Int) ≤ n ∧ (n : Int) < 4294967296 := by omega
  simp [u32Of, this]

def spAdd32 : List AV → Option PRes := sp3 u32Of u32Of u32Of fun x y c => some (.tup [.int .u32 ((x + y + c) % 4294967296 : Nat), .int .u32 ((x + y + c) / 4294967296 : Nat)])

theorem add32_run : FSpec (fun args n => pureF G ic n c103F args) spAdd32 := by
  intro args r h
  obtain ⟨a, b, c, x, y, z, v, rfl, hx, hy, hz, hv, rfl⟩ := sp3_inv h
  cases hv
  obtain ⟨rfl, hx⟩ := u32Of_inv hx
  obtain ⟨rfl, hy⟩ := u32Of_inv hy
  obtain ⟨rfl, hz⟩ := u32Of_inv hz
  have w1 : IntKind.u64.wrap (x : Int) = (x : Int) := wrapu64_id _ (by omega) (by omega)
  have w2 : IntKind.u64.wrap (y : Int) = (y : Int) := wrapu64_id _ (by omega) (by omega)
  have w3 : IntKind.u64.wrap (z : Int) = (z : Int) := wrapu64_id _ (by omega) (by omega)
  have w4 : IntKind.u64.wrap ((x : Int) + y) = (x : Int) + y := wrapu64_id _ (by omega) (by omega)
  obtain ⟨t, ht⟩ : ∃ t, t = x + y + z := ⟨_, rfl⟩
  have w5 : IntKind.u64.wrap ((x : Int) + y + z) = (t : Int) := w64_nat (by omega) (by omega)
  rw [← ht]
  obtain ⟨q, hq⟩ : ∃ q, q = t % 4294967296 := ⟨_, rfl⟩
  obtain ⟨e, he⟩ : ∃ e, e = t / 4294967296 := ⟨_, rfl⟩
  rw [← hq, ← he]
  have w6 : IntKind.u32.wrap (t : Int) = (q : Int) := w32_nat hq
  have w7 : (t : Int).fdiv 4294967296 = (e : Int) := fdiv_nat he
  have w8 : IntKind.u32.wrap (e : Int) = (e : Int) := wrapu32_id _ (by omega) (by omega)
  refine ⟨{ val := .tup [.int .u32 q, .int .u32 e] }, ⟨0, ?_⟩, rfl, by simp [AV.weak, AV.weakL]⟩
  simp [pureF, runF, w1, w2, w3, w4, w5, w6, w7, w8]

theorem not_u32 {x : Nat} (hx : x < 4294967296) : (((if IntKind.u32.signed = true then -1 else IntKind.u32.max) % 2 ^ IntKind.u32.bits).toNat ^^^ x % 2 ^ IntKind.u32.bits) = 4294967295 - x := by
  show (4294967295 ^^^ x % 4294967296) = _
  rw [Nat.mod_eq_of_lt hx]
  have e1 : 4294967295 = 2 ^ 32 - 1 := by decide
  have e2 : 4294967295 - x = 2 ^ 32 - (x + 1) := by omega
  refine Nat.eq_of_testBit_eq fun i => ?_
  rw [Nat.testBit_xor, e2, Nat.testBit_two_pow_sub_succ (by omega), e1, Nat.testBit_two_pow_sub_one]
  by_cases hi : i < 32
  · simp [hi]
  · have : x.testBit i = false := Nat.testBit_lt_two_pow (Nat.lt_of_lt_of_le (show x < 2 ^ 32 by omega) (Nat.pow_le_pow_right (by decide) (by omega)))
    simp [hi, this]

theorem top_bit {v : Nat} (h : v < 4294967296) : v.testBit 31 = decide (2147483648 ≤ v) := by
  rw [Nat.testBit_eq_decide_div_mod_eq]
  simp only [Nat.reducePow]
  congr 1
  simp only [eq_iff_iff]
  omega

theorem borrow_eq {x y z d : Nat} (hx : x < 4294967296) (hy : y < 4294967296) (hz : z ≤ 1) (hd : d = (x + 4294967296 - y - z) % 4294967296) :
    ((4294967295 - x) &&& y ||| ((4294967295 - (x ^^^ y)) &&& d)) / 2147483648 = if x < y + z then 1 else 0 := by
  have hxy : x ^^^ y < 4294967296 := Nat.xor_lt_two_pow (n := 32) hx hy
  have hdl : d < 4294967296 := by omega
  have k1 : ((4294967295 - x) &&& y) < 4294967296 := Nat.and_lt_two_pow (n := 32) _ hy
  have k2 : ((4294967295 - (x ^^^ y)) &&& d) < 4294967296 := Nat.and_lt_two_pow (n := 32) _ hdl
  obtain ⟨v, hv⟩ : ∃ v, v = ((4294967295 - x) &&& y ||| ((4294967295 - (x ^^^ y)) &&& d)) := ⟨_, rfl⟩
  have hvl : v < 4294967296 := by rw [hv]; exact Nat.or_lt_two_pow (n := 32) k1 k2
  have ht := top_bit hvl
  have t1 := top_bit hx
  have t2 := top_bit hy
  have t3 := top_bit hdl
  have t4 := top_bit (show 4294967295 - x < 4294967296 by omega)
  have t5 := top_bit (show 4294967295 - (x ^^^ y) < 4294967296 by omega)
  have t6 := top_bit hxy
  rw [Nat.testBit_xor, t1, t2] at t6
  have t7 := ht
  rw [hv, Nat.testBit_or, Nat.testBit_and, Nat.testBit_and, t2, t3, t4, t5] at t7
  rw [← hv] at t7 ⊢
  by_cases a1 : 2147483648 ≤ x <;> by_cases a2 : 2147483648 ≤ y <;> by_cases a3 : 2147483648 ≤ x ^^^ y <;> by_cases a4 : 2147483648 ≤ d <;> by_cases a5 : 2147483648 ≤ v <;> by_cases a6 : 2147483648 ≤ 4294967295 - (x ^^^ y) <;> by_cases a7 : 2147483648 ≤ 4294967295 - x <;>
    simp [a1, a2, a3, a4, a5, a6, a7] at t6 t7 <;> split <;> omega

def spSub32 : List AV → Option PRes := sp3 u32Of u32Of u32Of fun x y c => if c ≤ 1 then some (.tup [.int .u32 ((x + 4294967296 - y - c) % 4294967296 : Nat), .int .u32 (if x < y + c then 1 else 0 : Nat)]) else none

theorem sub32_run : FSpec (fun args n => pureF G ic n c104F args) spSub32 := by
  intro args r h
  obtain ⟨a, b, c, x, y, z, v, rfl, ux, uy, uz, hv, rfl⟩ := sp3_inv h
  obtain ⟨hz1, hv⟩ := of_ite hv
  cases hv
  obtain ⟨rfl, hx⟩ := u32Of_inv ux
  obtain ⟨rfl, hy⟩ := u32Of_inv uy
  obtain ⟨rfl, hz⟩ := u32Of_inv uz
  obtain ⟨d, hd⟩ : ∃ d, d = (x + 4294967296 - y - z) % 4294967296 := ⟨_, rfl⟩
  obtain ⟨e, he⟩ : ∃ e, e = if x < y + z then 1 else 0 := ⟨_, rfl⟩
  have hb := borrow_eq hx hy hz1 hd
  rw [← he] at hb
  rw [← hd, ← he]
  have hxy : x ^^^ y < 4294967296 := Nat.xor_lt_two_pow (n := 32) hx hy
  have hdl : d < 4294967296 := by omega
  have n1 := not_u32 hx
  have n2 := not_u32 hxy
  obtain ⟨X, hX⟩ : ∃ X, X = x ^^^ y := ⟨_, rfl⟩
  rw [← hX] at n2 hb hxy
  obtain ⟨A, hA⟩ : ∃ A, A = 4294967295 - x := ⟨_, rfl⟩
  obtain ⟨B, hB⟩ : ∃ B, B = 4294967295 - X := ⟨_, rfl⟩
  rw [← hA, ← hB] at hb
  rw [← hA] at n1
  rw [← hB] at n2
  have k1 : (A &&& y) < 4294967296 := Nat.and_lt_two_pow (n := 32) _ hy
  have k2 : (B &&& d) < 4294967296 := Nat.and_lt_two_pow (n := 32) _ hdl
  have k3 : (A &&& y ||| B &&& d) < 4294967296 := Nat.or_lt_two_pow (n := 32) k1 k2
  have m : ∀ v : Nat, v < 4294967296 → IntKind.u32.wrap (v : Int) = v := fun v hv => wrapu32_id _ (by omega) (by omega)
  have md : ∀ v : Nat, v < 4294967296 → v % 2 ^ IntKind.u32.bits = v := fun v hv => Nat.mod_eq_of_lt hv
  have mi : ∀ v : Nat, v < 4294967296 → ((v : Int) % 2 ^ IntKind.u32.bits).toNat = v := fun v hv => by
    show ((v : Int) % 4294967296).toNat = v
    omega
  have w1 : IntKind.u32.wrap (IntKind.u32.wrap ((x : Int) - y) - z) = (d : Int) := by rw [wrapu32, wrapu32]; omega
  have f : ((A &&& y ||| B &&& d : Nat) : Int).fdiv 2147483648 = (e : Int) := by rw [Int.fdiv_eq_ediv_of_nonneg _ (by decide)]; omega
  have x1 : (x % 2 ^ IntKind.u32.bits ^^^ y % 2 ^ IntKind.u32.bits) = X := by rw [md x hx, md y hy, hX]
  rw [md X hxy] at n2
  rw [md x hx] at n1 x1
  rw [md y hy] at x1
  refine ⟨{ val := .tup [.int .u32 d, .int .u32 e] }, ⟨0, ?_⟩, rfl, by simp [AV.weak, AV.weakL]⟩
  have lA : A < 4294967296 := by omega
  have lB : B < 4294967296 := by omega
  clear hX hA hB
  have mA := m A lA
  have mB := m B lB
  have e1 := m (A &&& y) k1
  have e2 := m (B &&& d) k2
  have e3 := m (A &&& y ||| B &&& d) k3
  have e4 := m X hxy
  have i1 := mi A lA
  have i2 := mi B lB
  have i3 := mi X hxy
  have i4 := mi d hdl
  have i5 := mi _ k1
  have i6 := mi _ k2
  have i7 := md y hy
  have j1 := md x hx
  have j2 := md A lA
  have j3 := md B lB
  have j4 := md X hxy
  have j5 := md d hdl
  have j6 := md _ k1
  have j7 := md _ k2
  simp [pureF, runF, w1, n1, x1, mA, e4, i3, n2, mB, i1, i2, i7, e1, i4, e2, i5, i6, e3, f, j1, j2, j3, j4, j5, j6, j7]

end
end Go.Proofs.Ythlpmghodgiknaa.C
