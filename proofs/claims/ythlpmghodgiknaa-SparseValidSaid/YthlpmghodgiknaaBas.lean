/-
  Digits as the evaluator has them; what the machine's arithmetic gives on small numbers.
-/
import Derived.Test.YthlpmghodgiknaaEvH
import Derived.Test.YthlpmghodgiknaaNum
namespace Go.Ev
open Go

def dg (ds : List Nat) : List (List AV) := ds.map fun d : Nat => [AV.int .u32 d]
@[simp] theorem dg_length (ds : List Nat) : (dg ds).length = ds.length := by simp [dg]
theorem dg_get (ds : List Nat) (k : Nat) (h : k < ds.length) : (dg ds)[k]? = some [.int .u32 (ds[k] : Nat)] := by simp [dg, h]
theorem dg_take (ds : List Nat) (k : Nat) : (dg ds).take k = dg (ds.take k) := by simp [dg]
theorem dg_drop (ds : List Nat) (k : Nat) : (dg ds).drop k = dg (ds.drop k) := by simp [dg]
theorem dg_append (a b : List Nat) : dg (a ++ b) = dg a ++ dg b := by simp [dg]
theorem dg_set (ds : List Nat) (k d : Nat) : (dg ds).set k [.int .u32 d] = dg (ds.set k d) := by simp [dg, List.map_set]
theorem dg_replicate (n : Nat) : List.replicate n [AV.int .u32 0] = dg (List.replicate n 0) := by simp [dg]
theorem all_dg (ds : List Nat) : ((dg ds).all fun cs => decide (cs.length = 1) && cs.all AV.isCell) = true := by simp [dg]
theorem keysLL_dg : ∀ (ds : List Nat), keysLL (dg ds) = []
  | [] => rfl
  | d :: ds => by
    have := keysLL_dg ds
    simp only [dg] at this
    simp only [dg, List.map_cons, keysLL, this]
    simp
theorem take_dg (ds : List Nat) : (dg ds).take ds.length = dg ds := by rw [dg_take, List.take_length]
theorem dg_getElem (ds : List Nat) (k : Nat) (h : k < (dg ds).length) : (dg ds)[k] = [.int .u32 (ds[k]'(by simpa using h) : Nat)] := by simp [dg]
attribute [simp] dg_getElem all_dg keysLL_dg take_dg
theorem dg_nil : dg [] = [] := rfl
theorem dg_eq_nil {ds : List Nat} : dg ds = [] ↔ ds = [] := by simp [dg]

theorem wrap64_id (x : Int) (h0 : -9223372036854775808 ≤ x) (h1 : x < 9223372036854775808) : IntKind.i64.wrap x = x := by
  unfold IntKind.wrap; simp [IntKind.bits, IntKind.signed]; split <;> omega
theorem wrapu64_id (x : Int) (h0 : 0 ≤ x) (h1 : x < 18446744073709551616) : IntKind.u64.wrap x = x := by
  unfold IntKind.wrap; simp [IntKind.bits, IntKind.signed]; omega
theorem wrapu32_id (x : Int) (h0 : 0 ≤ x) (h1 : x < 4294967296) : IntKind.u32.wrap x = x := by
  unfold IntKind.wrap; simp [IntKind.bits, IntKind.signed]; omega
theorem wrapu32 (x : Int) : IntKind.u32.wrap x = x % 4294967296 := by
  unfold IntKind.wrap; simp [IntKind.bits, IntKind.signed]
theorem wrapu64 (x : Int) : IntKind.u64.wrap x = x % 18446744073709551616 := by
  unfold IntKind.wrap; simp [IntKind.bits, IntKind.signed]

theorem weakLL_dg (ds : List Nat) : AV.weakLL (dg ds) = dg ds := by
  rw [weakLL_eq]
  simp [dg, AV.weakL, AV.weak]

/-- The digits of a slice. -/
def digOf : AV → Option (List Nat)
  | .imm _ 1 es =>
    if es.length < 100000000 then es.mapM fun cs => match cs with | [.int .u32 n] => if 0 ≤ n ∧ n < 4294967296 then some n.toNat else none | _ => none
    else none
  | _ => none

theorem mapM_dg : ∀ (es : List (List AV)) (ds : List Nat), (es.mapM fun cs => match cs with | [AV.int .u32 n] => if 0 ≤ n ∧ n < 4294967296 then some n.toNat else none | _ => none) = some ds → es = dg ds ∧ Wf ds
  | [], ds, h => by simp at h; subst h; exact ⟨rfl, wf_nil⟩
  | cs :: es, ds, h => by
    rw [List.mapM_cons] at h
    split at h
    · rename_i n
      by_cases hn : 0 ≤ n ∧ n < 4294967296
      · rw [if_pos hn] at h
        simp only [Option.pure_def, Option.bind_eq_bind, Option.bind_some] at h
        cases hr : es.mapM fun cs => match cs with | [AV.int .u32 n] => if 0 ≤ n ∧ n < 4294967296 then some n.toNat else none | _ => none with
        | none => rw [hr] at h; cases h
        | some r =>
          rw [hr] at h
          cases h
          obtain ⟨h1, h2⟩ := mapM_dg es r hr
          refine ⟨?_, wf_cons.2 ⟨by simp only [W32]; omega, h2⟩⟩
          rw [h1]
          simp only [dg, List.map_cons, List.cons.injEq, AV.int.injEq, true_and, and_true]
          omega
      · rw [if_neg hn] at h; cases h
    · cases h

theorem digOf_inv {a : AV} {ds : List Nat} (h : digOf a = some ds) : ∃ nl, a = .imm nl 1 (dg ds) ∧ Wf ds ∧ ds.length < 100000000 := by
  unfold digOf at h
  split at h
  · rename_i nl es
    obtain ⟨h1, h2⟩ := of_ite h
    obtain ⟨h3, h4⟩ := mapM_dg es ds h2
    exact ⟨nl, by rw [h3], h4, by rw [h3, dg_length] at h1; exact h1⟩
  · cases h

theorem digOf_dg {nl : Bool} {ds : List Nat} (h : Wf ds) (hl : ds.length < 100000000) : digOf (.imm nl 1 (dg ds)) = some ds := by
  unfold digOf
  simp only [dg_length, hl, if_true]
  clear hl
  induction ds with
  | nil => rfl
  | cons d ds ih =>
    obtain ⟨h1, h2⟩ := wf_cons.1 h
    have h1' : d < 4294967296 := h1
    have := ih h2
    simp only [dg] at this
    simp only [dg, List.map_cons, List.mapM_cons, this]
    rw [if_pos (by omega)]
    simp

/-- The digits as a value. -/
def dA (ds : List Nat) : AV := .imm false 1 (dg ds)
/-- An integer: its sign and its digits. -/
def iA (b : Bool) (ds : List Nat) : AV := .agg [.bool b, .imm false 1 (dg ds)]

def intOf : AV → Option (Bool × List Nat)
  | .agg [.bool b, d] => match digOf d with | some ds => if ds.length < 30000000 then some (b, ds) else none | none => none
  | _ => none

theorem intOf_inv {a : AV} {b : Bool} {ds : List Nat} (h : intOf a = some (b, ds)) : ∃ nl, a = .agg [.bool b, .imm nl 1 (dg ds)] ∧ Wf ds ∧ ds.length < 30000000 := by
  unfold intOf at h
  split at h
  · rename_i b' d
    split at h
    · rename_i x hx
      obtain ⟨hl, he⟩ := of_ite h
      cases he
      obtain ⟨nl, rfl, h2, h3⟩ := digOf_inv hx
      exact ⟨nl, rfl, h2, hl⟩
    · cases h
  · cases h

theorem intOf_iA {b nl : Bool} {ds : List Nat} (h : Wf ds) (hl : ds.length < 30000000) : intOf (.agg [.bool b, .imm nl 1 (dg ds)]) = some (b, ds) := by simp [intOf, digOf_dg h (by omega), hl]


/-- Sign and magnitude. -/
def sg (b : Bool) (n : Nat) : Int := if b then -(n : Int) else n
/-- An integer in canonical form. -/
def iV (z : Int) : AV := iA (decide (z < 0)) (digs z.natAbs)

theorem sg_natAbs (b : Bool) (n : Nat) : (sg b n).natAbs = n := by cases b <;> simp [sg]
theorem iV_zero : iV 0 = iA false [] := by simp [iV, digs_zero]
theorem iV_sg_zero (b : Bool) : iV (sg b 0) = iA false [] := by cases b <;> simp [sg, iV, digs_zero]
theorem iV_sg {b : Bool} {n : Nat} (h : n ≠ 0) : iV (sg b n) = iA b (digs n) := by
  unfold iV
  rw [sg_natAbs]
  congr 1
  cases b <;> simp [sg] <;> omega

/-- The number that an integer stands for. -/
def zOf (a : AV) : Option Int := (intOf a).map fun x => sg x.1 (dv x.2)

theorem zOf_inv {a : AV} {z : Int} (h : zOf a = some z) : ∃ b nl ds, a = .agg [.bool b, .imm nl 1 (dg ds)] ∧ Wf ds ∧ ds.length < 30000000 ∧ z = sg b (dv ds) := by
  unfold zOf at h
  rw [Option.map_eq_some_iff] at h
  obtain ⟨⟨b, ds⟩, h1, rfl⟩ := h
  obtain ⟨nl, rfl, h2, h3⟩ := intOf_inv h1
  exact ⟨b, nl, ds, rfl, h2, h3, rfl⟩

theorem zOf_mk {b nl : Bool} {ds : List Nat} (h : Wf ds) (hl : ds.length < 30000000) : zOf (.agg [.bool b, .imm nl 1 (dg ds)]) = some (sg b (dv ds)) := by simp [zOf, intOf_iA h hl]

theorem zOf_iV {z : Int} (h : (digs z.natAbs).length < 30000000) : zOf (iV z) = some z := by
  unfold iV iA
  rw [zOf_mk (wf_digs _) h, dv_digs]
  congr 1
  by_cases hz : z < 0
  · simp [sg, hz]; omega
  · simp [sg, hz]; omega

theorem weak_iA (b nl : Bool) (ds : List Nat) : AV.weak (.agg [.bool b, .imm nl 1 (dg ds)]) = iA b ds := by simp [AV.weak, AV.weakL, weakLL_dg, iA]
theorem weak_dA (nl : Bool) (ds : List Nat) : AV.weak (.imm nl 1 (dg ds)) = dA ds := by simp [AV.weak, weakLL_dg, dA]


theorem w32_nat {t q : Nat} (h : q = t % 4294967296) : IntKind.u32.wrap (t : Int) = (q : Int) := by rw [wrapu32]; omega
theorem w64_nat {x : Int} {t : Nat} (h : x = t) (hb : t < 18446744073709551616) : IntKind.u64.wrap x = (t : Int) := by rw [h]; exact wrapu64_id _ (by omega) (by omega)
theorem fdiv_nat {t e : Nat} (h : e = t / 4294967296) : (t : Int).fdiv 4294967296 = (e : Int) := by rw [Int.fdiv_eq_ediv_of_nonneg _ (by decide)]; omega
@[simp] theorem minb_u64 (n : Nat) : min n IntKind.u64.bits = min n 64 := rfl
@[simp] theorem minb_u32 (n : Nat) : min n IntKind.u32.bits = min n 32 := rfl
@[simp] theorem minb_i64 (n : Nat) : min n IntKind.i64.bits = min n 64 := rfl


/-! ### Specifications over decoded arguments -/

def sp0 (v : AV) : List AV → Option PRes
  | [] => some { val := v }
  | _ => none
def sp1 {α : Type} (da : AV → Option α) (f : α → Option AV) : List AV → Option PRes
  | [a] => match da a with | some x => (f x).map fun v => { val := v } | none => none
  | _ => none
def sp2 {α β : Type} (da : AV → Option α) (db : AV → Option β) (f : α → β → Option AV) : List AV → Option PRes
  | [a, b] => match da a, db b with | some x, some y => (f x y).map fun v => { val := v } | _, _ => none
  | _ => none
def sp3 {α β γ : Type} (da : AV → Option α) (db : AV → Option β) (dc : AV → Option γ) (f : α → β → γ → Option AV) : List AV → Option PRes
  | [a, b, c] => match da a, db b, dc c with | some x, some y, some z => (f x y z).map fun v => { val := v } | _, _, _ => none
  | _ => none
def sp4 {α β γ δ : Type} (da : AV → Option α) (db : AV → Option β) (dc : AV → Option γ) (dd : AV → Option δ) (f : α → β → γ → δ → Option AV) : List AV → Option PRes
  | [a, b, c, d] => match da a, db b, dc c, dd d with | some x, some y, some z, some t => (f x y z t).map fun v => { val := v } | _, _, _, _ => none
  | _ => none

theorem sp0_inv {v : AV} {args : List AV} {r : PRes} (h : sp0 v args = some r) : args = [] ∧ r = { val := v } := by
  unfold sp0 at h; split at h
  · cases h; exact ⟨rfl, rfl⟩
  · cases h
theorem sp1_inv {α : Type} {da : AV → Option α} {f : α → Option AV} {args : List AV} {r : PRes} (h : sp1 da f args = some r) : ∃ a x v, args = [a] ∧ da a = some x ∧ f x = some v ∧ r = { val := v } := by
  unfold sp1 at h
  split at h
  · split at h
    · rename_i hx
      rw [Option.map_eq_some_iff] at h
      obtain ⟨v, hv, rfl⟩ := h
      exact ⟨_, _, v, rfl, hx, hv, rfl⟩
    · cases h
  · cases h
theorem sp2_inv {α β : Type} {da : AV → Option α} {db : AV → Option β} {f : α → β → Option AV} {args : List AV} {r : PRes} (h : sp2 da db f args = some r) : ∃ a b x y v, args = [a, b] ∧ da a = some x ∧ db b = some y ∧ f x y = some v ∧ r = { val := v } := by
  unfold sp2 at h
  split at h
  · split at h
    · rename_i hx hy
      rw [Option.map_eq_some_iff] at h
      obtain ⟨v, hv, rfl⟩ := h
      exact ⟨_, _, _, _, v, rfl, hx, hy, hv, rfl⟩
    · cases h
  · cases h
theorem sp3_inv {α β γ : Type} {da : AV → Option α} {db : AV → Option β} {dc : AV → Option γ} {f : α → β → γ → Option AV} {args : List AV} {r : PRes} (h : sp3 da db dc f args = some r) :
    ∃ a b c x y z v, args = [a, b, c] ∧ da a = some x ∧ db b = some y ∧ dc c = some z ∧ f x y z = some v ∧ r = { val := v } := by
  unfold sp3 at h
  split at h
  · split at h
    · rename_i hx hy hz
      rw [Option.map_eq_some_iff] at h
      obtain ⟨v, hv, rfl⟩ := h
      exact ⟨_, _, _, _, _, _, v, rfl, hx, hy, hz, hv, rfl⟩
    · cases h
  · cases h
theorem sp4_inv {α β γ δ : Type} {da : AV → Option α} {db : AV → Option β} {dc : AV → Option γ} {dd : AV → Option δ} {f : α → β → γ → δ → Option AV} {args : List AV} {r : PRes} (h : sp4 da db dc dd f args = some r) :
    ∃ a b c d x y z t v, args = [a, b, c, d] ∧ da a = some x ∧ db b = some y ∧ dc c = some z ∧ dd d = some t ∧ f x y z t = some v ∧ r = { val := v } := by
  unfold sp4 at h
  split at h
  · split at h
    · rename_i hx hy hz ht
      rw [Option.map_eq_some_iff] at h
      obtain ⟨v, hv, rfl⟩ := h
      exact ⟨_, _, _, _, _, _, _, _, v, rfl, hx, hy, hz, ht, hv, rfl⟩
    · cases h
  · cases h
theorem sp0_at {G : Pure} {f : FuncId} {v : AV} (hG : G f = sp0 v) : G f [] = some { val := v } := by rw [hG]; rfl
theorem sp1_at {G : Pure} {f : FuncId} {α : Type} {da : AV → Option α} {F : α → Option AV} {a v : AV} {x : α} (hG : G f = sp1 da F) (ha : da a = some x) (hv : F x = some v) : G f [a] = some { val := v } := by
  rw [hG]; simp [sp1, ha, hv]
theorem sp2_at {G : Pure} {f : FuncId} {α β : Type} {da : AV → Option α} {db : AV → Option β} {F : α → β → Option AV} {a b v : AV} {x : α} {y : β} (hG : G f = sp2 da db F) (ha : da a = some x) (hb : db b = some y) (hv : F x y = some v) : G f [a, b] = some { val := v } := by
  rw [hG]; simp [sp2, ha, hb, hv]
theorem sp3_at {G : Pure} {f : FuncId} {α β γ : Type} {da : AV → Option α} {db : AV → Option β} {dc : AV → Option γ} {F : α → β → γ → Option AV} {a b c v : AV} {x : α} {y : β} {z : γ} (hG : G f = sp3 da db dc F) (ha : da a = some x) (hb : db b = some y) (hc : dc c = some z) (hv : F x y z = some v) : G f [a, b, c] = some { val := v } := by
  rw [hG]; simp [sp3, ha, hb, hc, hv]
theorem sp4_at {G : Pure} {f : FuncId} {α β γ δ : Type} {da : AV → Option α} {db : AV → Option β} {dc : AV → Option γ} {dd : AV → Option δ} {F : α → β → γ → δ → Option AV} {a b c d v : AV} {x : α} {y : β} {z : γ} {t : δ} (hG : G f = sp4 da db dc dd F) (ha : da a = some x) (hb : db b = some y) (hc : dc c = some z) (hd : dd d = some t) (hv : F x y z t = some v) : G f [a, b, c, d] = some { val := v } := by
  rw [hG]; simp [sp4, ha, hb, hc, hd, hv]

def i64Of : AV → Option Int
  | .int .i64 n => if -9223372036854775808 ≤ n ∧ n < 9223372036854775808 then some n else none
  | _ => none
theorem i64Of_inv {a : AV} {n : Int} (h : i64Of a = some n) : a = .int .i64 n ∧ -9223372036854775808 ≤ n ∧ n < 9223372036854775808 := by
  unfold i64Of at h
  split at h
  · obtain ⟨h1, h2⟩ := of_ite h
    cases h2
    exact ⟨rfl, h1⟩
  · cases h
theorem i64Of_mk {n : Int} (h0 : -9223372036854775808 ≤ n) (h1 : n < 9223372036854775808) : i64Of (.int .i64 n) = some n := by simp [i64Of, h0, h1]
def boolOf : AV → Option Bool
  | .bool b => some b
  | _ => none
theorem boolOf_inv {a : AV} {b : Bool} (h : boolOf a = some b) : a = .bool b := by
  unfold boolOf at h
  split at h <;> cases h
  rfl

theorem sg_add_same (b : Bool) (m n : Nat) : sg b (m + n) = sg b m + sg b n := by cases b <;> simp [sg] <;> omega
theorem sg_sub_same {b c : Bool} {m n : Nat} (h : n ≤ m) (hbc : b ≠ c) : sg b (m - n) = sg b m + sg c n := by cases b <;> cases c <;> simp_all [sg] <;> omega
theorem sg_mul (b c : Bool) (m n : Nat) : sg (b != c) (m * n) = sg b m * sg c n := by cases b <;> cases c <;> simp [sg, Int.neg_mul, Int.mul_neg]

/-- The number of digits of an integer. -/
def zl (z : Int) : Nat := (digs z.natAbs).length
theorem zl_sg (b : Bool) (n : Nat) : zl (sg b n) = (digs n).length := by simp [zl, sg_natAbs]
theorem zOf_zl {a : AV} {z : Int} (h : zOf a = some z) : zl z < 30000000 := by
  obtain ⟨b, nl, ds, rfl, hw, hl, rfl⟩ := zOf_inv h
  rw [zl_sg]
  have := digs_length_dv hw
  omega
theorem zl_le {z : Int} {k : Nat} : zl z ≤ k ↔ z.natAbs < W32 ^ k := ⟨lt_of_digs_length, digs_length_le⟩
theorem zl_neg (z : Int) : zl (-z) = zl z := by simp [zl]
theorem zl_add (x y : Int) : zl (x + y) ≤ zl x + zl y + 1 := by
  rw [zl_le]
  have hx := zl_le.1 (Nat.le_refl (zl x))
  have hy := zl_le.1 (Nat.le_refl (zl y))
  have h1 : W32 ^ zl x ≤ W32 ^ (zl x + zl y) := Nat.pow_le_pow_right (by decide) (by omega)
  have h2 : W32 ^ zl y ≤ W32 ^ (zl x + zl y) := Nat.pow_le_pow_right (by decide) (by omega)
  have h3 : W32 ^ (zl x + zl y + 1) = W32 ^ (zl x + zl y) * W32 := Nat.pow_succ _ _
  have h4 : W32 ^ (zl x + zl y) * 2 ≤ W32 ^ (zl x + zl y) * W32 := Nat.mul_le_mul_left _ (by decide)
  omega
theorem zl_add' (x y : Int) : zl (x + y) ≤ max (zl x) (zl y) + 1 := by
  rw [zl_le]
  have hx := zl_le.1 (Nat.le_refl (zl x))
  have hy := zl_le.1 (Nat.le_refl (zl y))
  have h1 : W32 ^ zl x ≤ W32 ^ max (zl x) (zl y) := Nat.pow_le_pow_right (by decide) (by omega)
  have h2 : W32 ^ zl y ≤ W32 ^ max (zl x) (zl y) := Nat.pow_le_pow_right (by decide) (by omega)
  have h3 : W32 ^ (max (zl x) (zl y) + 1) = W32 ^ max (zl x) (zl y) * W32 := Nat.pow_succ _ _
  have h4 : W32 ^ max (zl x) (zl y) * 2 ≤ W32 ^ max (zl x) (zl y) * W32 := Nat.mul_le_mul_left _ (by decide)
  omega
theorem zl_sub (x y : Int) : zl (x - y) ≤ zl x + zl y + 1 := by rw [Int.sub_eq_add_neg, ← zl_neg y]; exact zl_add _ _
theorem zl_mul (x y : Int) : zl (x * y) ≤ zl x + zl y := by
  rw [zl_le, Int.natAbs_mul, Nat.pow_add]
  have hx := zl_le.1 (Nat.le_refl (zl x))
  have hy := zl_le.1 (Nat.le_refl (zl y))
  exact Nat.mul_lt_mul'' hx hy
theorem zl_mono {x y : Int} (h : x.natAbs ≤ y.natAbs) : zl x ≤ zl y := digs_len_mono h
theorem zl_small {z : Int} (h : z.natAbs < 4294967296) : zl z ≤ 1 := zl_le.2 (by simpa using h)

end Go.Ev
