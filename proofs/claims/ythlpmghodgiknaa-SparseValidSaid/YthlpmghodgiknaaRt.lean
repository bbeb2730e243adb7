/-
  Fractions as the evaluator has them.
-/
import Derived.Test.YthlpmghodgiknaaBas
namespace Go.Ev
open Go

/-- Numerator and denominator as they are written. -/
def rawOf : AV → Option ((Bool × List Nat) × (Bool × List Nat))
  | .agg [b1, d1, b2, d2] => match intOf (.agg [b1, d1]), intOf (.agg [b2, d2]) with | some x, some y => some (x, y) | _, _ => none
  | _ => none

theorem rawOf_inv {a : AV} {s1 s2 : Bool} {d1 d2 : List Nat} (h : rawOf a = some ((s1, d1), (s2, d2))) :
    ∃ l1 l2, a = .agg [.bool s1, .imm l1 1 (dg d1), .bool s2, .imm l2 1 (dg d2)] ∧ Wf d1 ∧ d1.length < 30000000 ∧ Wf d2 ∧ d2.length < 30000000 := by
  unfold rawOf at h
  split at h
  · split at h
    · rename_i hx hy
      cases h
      obtain ⟨l1, e1, w1, k1⟩ := intOf_inv hx
      obtain ⟨l2, e2, w2, k2⟩ := intOf_inv hy
      simp only [AV.agg.injEq, List.cons.injEq, and_true] at e1 e2
      obtain ⟨rfl, rfl⟩ := e1
      obtain ⟨rfl, rfl⟩ := e2
      exact ⟨l1, l2, rfl, w1, k1, w2, k2⟩
    · cases h
  · cases h

theorem rawOf_mk {s1 s2 l1 l2 : Bool} {d1 d2 : List Nat} (w1 : Wf d1) (k1 : d1.length < 30000000) (w2 : Wf d2) (k2 : d2.length < 30000000) :
    rawOf (.agg [.bool s1, .imm l1 1 (dg d1), .bool s2, .imm l2 1 (dg d2)]) = some ((s1, d1), (s2, d2)) := by
  simp [rawOf, intOf_iA w1 k1, intOf_iA w2 k2]

def vOf (x : Bool × List Nat) : Int := sg x.1 (dv x.2)

/-- The number that a fraction stands for; a denominator 0 gives 0. -/
def qOf (a : AV) : Option Rat :=
  match rawOf a with
  | some (x, y) => if x.2.length < 2000000 ∧ y.2.length < 2000000 then some (Rat.divInt (vOf x) (vOf y)) else none
  | none => none

theorem qOf_inv {a : AV} {q : Rat} (h : qOf a = some q) : ∃ s1 l1 d1 s2 l2 d2, a = .agg [.bool s1, .imm l1 1 (dg d1), .bool s2, .imm l2 1 (dg d2)] ∧ Wf d1 ∧ d1.length < 2000000 ∧ Wf d2 ∧ d2.length < 2000000 ∧ q = Rat.divInt (sg s1 (dv d1)) (sg s2 (dv d2)) := by
  unfold qOf at h
  split at h
  · rename_i x y hr
    obtain ⟨s1, d1⟩ := x
    obtain ⟨s2, d2⟩ := y
    obtain ⟨hc, he⟩ := of_ite h
    cases he
    obtain ⟨l1, l2, rfl, w1, _, w2, _⟩ := rawOf_inv hr
    exact ⟨s1, l1, d1, s2, l2, d2, rfl, w1, hc.1, w2, hc.2, rfl⟩
  · cases h

theorem qOf_mk {s1 s2 l1 l2 : Bool} {d1 d2 : List Nat} (w1 : Wf d1) (k1 : d1.length < 2000000) (w2 : Wf d2) (k2 : d2.length < 2000000) :
    qOf (.agg [.bool s1, .imm l1 1 (dg d1), .bool s2, .imm l2 1 (dg d2)]) = some (Rat.divInt (sg s1 (dv d1)) (sg s2 (dv d2))) := by
  simp [qOf, rawOf_mk w1 (show d1.length < 30000000 by omega) w2 (show d2.length < 30000000 by omega), k1, k2, vOf]

/-- A fraction in canonical form. -/
def fV (q : Rat) : AV := .agg [.bool (decide (q.num < 0)), .imm false 1 (dg (digs q.num.natAbs)), .bool false, .imm false 1 (dg (digs q.den))]

theorem fV_agg (q : Rat) : fV q = .agg [.bool (decide (q.num < 0)), .imm false 1 (dg (digs q.num.natAbs)), .bool false, .imm false 1 (dg (digs q.den))] := rfl

theorem weak_raw (s1 s2 l1 l2 : Bool) (d1 d2 : List Nat) : AV.weak (.agg [.bool s1, .imm l1 1 (dg d1), .bool s2, .imm l2 1 (dg d2)]) = .agg [.bool s1, .imm false 1 (dg d1), .bool s2, .imm false 1 (dg d2)] := by simp [AV.weak, AV.weakL, weakLL_dg]
theorem weak_fV (q : Rat) : (fV q).weak = fV q := by unfold fV; rw [weak_raw]

theorem sg_self (z : Int) : sg (decide (z < 0)) z.natAbs = z := by by_cases h : z < 0 <;> simp [sg, h] <;> omega

/-- How long numerator and denominator are. -/
def Sz (k : Nat) (q : Rat) : Prop := zl q.num ≤ k ∧ (digs q.den).length ≤ k

theorem Sz.mono {k k' : Nat} {q : Rat} (h : Sz k q) (hk : k ≤ k') : Sz k' q := ⟨Nat.le_trans h.1 hk, Nat.le_trans h.2 hk⟩

theorem divInt_nd (q : Rat) : Rat.divInt q.num (q.den : Int) = q := Rat.num_divInt_den q

theorem qOf_fV {k : Nat} {q : Rat} (h : Sz k q) (hk : k < 2000000) : qOf (fV q) = some q := by
  obtain ⟨h1, h2⟩ := h
  simp only [zl] at h1
  rw [fV, qOf_mk (wf_digs _) (by omega) (wf_digs _) (by omega), dv_digs, dv_digs, sg_self]
  simp only [sg, Bool.false_eq_true, if_false]
  rw [divInt_nd]

theorem rawOf_fV {q : Rat} (h : Sz 29999999 q) : rawOf (fV q) = some ((decide (q.num < 0), digs q.num.natAbs), (false, digs q.den)) := by
  obtain ⟨h1, h2⟩ := h
  simp only [zl] at h1
  exact rawOf_mk (wf_digs _) (by omega) (wf_digs _) (by omega)

theorem fV_inj {p q : Rat} (h : ((decide (p.num < 0), digs p.num.natAbs), (false, digs p.den)) = ((decide (q.num < 0), digs q.num.natAbs), (false, digs q.den))) : p = q := by
  simp only [Prod.mk.injEq] at h
  obtain ⟨⟨h1, h2⟩, _, h3⟩ := h
  have e1 := digs_inj h2
  have e2 := digs_inj h3
  refine Rat.ext ?_ e2
  have a := sg_self p.num
  rw [h1, e1, sg_self] at a
  exact a.symm

/-- Numerator and denominator in lowest terms. -/
theorem divInt_parts {n d : Int} (hd : 0 < d) : n.fdiv (Int.gcd n d : Nat) = (Rat.divInt n d).num ∧ d.fdiv (Int.gcd n d : Nat) = ((Rat.divInt n d).den : Int) := by
  rw [Int.fdiv_eq_ediv_of_nonneg _ (by omega), Int.fdiv_eq_ediv_of_nonneg _ (by omega)]
  rw [Rat.num_divInt, Rat.den_divInt, if_neg (by omega), Int.sign_eq_one_of_pos hd, Int.one_mul, Int.gcd_comm n d]
  refine ⟨rfl, ?_⟩
  have : (d.natAbs : Int) = d := by omega
  rw [Int.natCast_ediv, this]

theorem divInt_num_le (n d : Int) : (Rat.divInt n d).num.natAbs ≤ n.natAbs := by
  rw [Rat.num_divInt]
  have h1 := Int.natAbs_ediv_le_natAbs (d.sign * n) (d.gcd n : Nat)
  refine Nat.le_trans h1 ?_
  rw [Int.natAbs_mul]
  have : d.sign.natAbs ≤ 1 := by rw [Int.natAbs_sign]; split <;> omega
  calc d.sign.natAbs * n.natAbs ≤ 1 * n.natAbs := Nat.mul_le_mul_right _ this
    _ = n.natAbs := Nat.one_mul _

theorem divInt_den_le (n d : Int) : (Rat.divInt n d).den ≤ max 1 d.natAbs := by
  rw [Rat.den_divInt]
  split
  · omega
  · exact Nat.le_trans (Nat.div_le_self _ _) (by omega)

theorem Sz_divInt {n d : Int} {k : Nat} (hn : zl n ≤ k) (hd : zl d ≤ k) (hk : 1 ≤ k) : Sz k (Rat.divInt n d) := by
  refine ⟨Nat.le_trans (digs_len_mono (divInt_num_le n d)) hn, ?_⟩
  refine Nat.le_trans (digs_len_mono (divInt_den_le n d)) ?_
  rcases Nat.le_total 1 d.natAbs with h | h
  · rw [Nat.max_eq_right h]; exact hd
  · rw [Nat.max_eq_left h]; exact Nat.le_trans (zl_small (z := 1) (by decide)) hk

theorem Sz_qOf {a : AV} {q : Rat} (h : qOf a = some q) : Sz 1999999 q := by
  obtain ⟨s1, l1, d1, s2, l2, d2, rfl, w1, k1, w2, k2, rfl⟩ := qOf_inv h
  have q1 := digs_length_dv w1
  have q2 := digs_length_dv w2
  exact Sz_divInt (by rw [zl_sg]; omega) (by rw [zl_sg]; omega) (by decide)

theorem Sz_add {j k : Nat} {p q : Rat} (hp : Sz j p) (hq : Sz k q) (h1 : 1 ≤ j) : Sz (j + k + 1) (p + q) := by
  obtain ⟨a1, a2⟩ := hp
  obtain ⟨b1, b2⟩ := hq
  have a2' : zl (p.den : Int) ≤ j := by simpa [zl] using a2
  have b2' : zl (q.den : Int) ≤ k := by simpa [zl] using b2
  rw [Rat.add_def', ← Rat.divInt_ofNat, Int.natCast_mul]
  refine Sz_divInt ?_ ?_ (by omega)
  · have := zl_add' (p.num * q.den) (q.num * p.den)
    have := zl_mul p.num q.den
    have := zl_mul q.num p.den
    omega
  · have := zl_mul p.den q.den
    omega

theorem Sz_mul {j k : Nat} {p q : Rat} (hp : Sz j p) (hq : Sz k q) (h1 : 1 ≤ j) : Sz (j + k) (p * q) := by
  obtain ⟨a1, a2⟩ := hp
  obtain ⟨b1, b2⟩ := hq
  have a2' : zl (p.den : Int) ≤ j := by simpa [zl] using a2
  have b2' : zl (q.den : Int) ≤ k := by simpa [zl] using b2
  rw [Rat.mul_def', ← Rat.divInt_ofNat, Int.natCast_mul]
  refine Sz_divInt ?_ ?_ (by omega)
  · have := zl_mul p.num q.num; omega
  · have := zl_mul p.den q.den; omega

theorem Sz_int {z : Int} {k : Nat} (h : zl z ≤ k) (hk : 1 ≤ k) : Sz k (z : Rat) := by
  refine ⟨by simpa using h, ?_⟩
  rw [Rat.den_intCast]
  exact Nat.le_trans (zl_small (z := 1) (by decide)) hk

theorem Sz_zero : Sz 1 (0 : Rat) := Sz_int (z := 0) (by rw [zl_le]; decide) (by decide)

end Go.Ev
