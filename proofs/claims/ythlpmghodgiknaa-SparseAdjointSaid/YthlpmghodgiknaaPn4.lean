/- A part of the verified evaluator and of what the functions compute (joined by program). -/
import Derived.Test.YthlpmghodgiknaaPn2
import Derived.Test.YthlpmghodgiknaaPn3
import Derived.Test.YthlpmghodgiknaaPn1
import Derived.Test.YthlpmghodgiknaaProg
import Derived.KernelRfl
set_option linter.unusedVariables false
set_option linter.unusedSimpArgs false
/-
  Digits as the evaluator has them; what the machine's arithmetic gives on small numbers.
-/
namespace Go.Ev
open Go

def dg (ds : List Nat) : List (List AV) := ds.map fun d : Nat => [AV.int .u32 d]
@[simp] theorem dg_length (ds : List Nat) : (dg ds).length = ds.length := by simp [dg]
theorem dg_get (ds : List Nat) (k : Nat) (h : k < ds.length) : (dg ds)[k]? = some [.int .u32 (ds[k] : Nat)] := by simp [dg, h]
theorem dg_take (ds : List Nat) (k : Nat) : (dg ds).take k = dg (ds.take k) := by simp [dg]
theorem dg_set (ds : List Nat) (k d : Nat) : (dg ds).set k [.int .u32 d] = dg (ds.set k d) := by simp [dg, List.map_set]
theorem dg_replicate (n : Nat) : List.replicate n [AV.int .u32 0] = dg (List.replicate n 0) := by simp [dg]
theorem all_dg (ds : List Nat) : ((dg ds).all fun cs => decide (cs.length = 1) && cs.all AV.isCell) = true := by simp [dg]
theorem keysLL_dg : ∀ (ds : List Nat), keysLL (dg ds) = []
  | [] => rfl
  | d :: ds => by
    have := keysLL_dg ds
    simp only [dg] at this
    simp only [dg, List.map_cons, keysLL, this]
    simp
theorem take_dg (ds : List Nat) : (dg ds).take ds.length = dg ds := by rw [dg_take, List.take_length]
theorem dg_getElem (ds : List Nat) (k : Nat) (h : k < (dg ds).length) : (dg ds)[k] = [.int .u32 (ds[k]'(by simpa using h) : Nat)] := by simp [dg]
attribute [simp] dg_getElem all_dg keysLL_dg take_dg
theorem dg_nil : dg [] = [] := rfl
theorem dg_eq_nil {ds : List Nat} : dg ds = [] ↔ ds = [] := by simp [dg]

theorem wrap64_id (x : Int) (h0 : -9223372036854775808 ≤ x) (h1 : x < 9223372036854775808) : IntKind.i64.wrap x = x := by
  unfold IntKind.wrap; simp [IntKind.bits, IntKind.signed]; split <;> omega
theorem wrapu64_id (x : Int) (h0 : 0 ≤ x) (h1 : x < 18446744073709551616) : IntKind.u64.wrap x = x := by
  unfold IntKind.wrap; simp [IntKind.bits, IntKind.signed]; omega
theorem wrapu32_id (x : Int) (h0 : 0 ≤ x) (h1 : x < 4294967296) : IntKind.u32.wrap x = x := by
  unfold IntKind.wrap; simp [IntKind.bits, IntKind.signed]; omega
theorem wrapu32 (x : Int) : IntKind.u32.wrap x = x % 4294967296 := by
  unfold IntKind.wrap; simp [IntKind.bits, IntKind.signed]
theorem wrapu64 (x : Int) : IntKind.u64.wrap x = x % 18446744073709551616 := by
  unfold IntKind.wrap; simp [IntKind.bits, IntKind.signed]

theorem weakLL_dg (ds : List Nat) : AV.weakLL (dg ds) = dg ds := by
  rw [weakLL_eq]
  simp [dg, AV.weakL, AV.weak]

/-- The digits of a slice. -/
def digOf : AV → Option (List Nat)
  | .imm _ 1 es =>
    if es.length < 100000000 then es.mapM fun cs => match cs with | [.int .u32 n] => if 0 ≤ n ∧ n < 4294967296 then some n.toNat else none | _ => none
    else none
  | _ => none

theorem mapM_dg : ∀ (es : List (List AV)) (ds : List Nat), (es.mapM fun cs => match cs with | [AV.int .u32 n] => if 0 ≤ n ∧ n < 4294967296 then some n.toNat else none | _ => none) = some ds → es = dg ds ∧ Wf ds
  | [], ds, h => by simp at h; subst h; exact ⟨rfl, wf_nil⟩
  | cs :: es, ds, h => by
    rw [List.mapM_cons] at h
    split at h
    · rename_i n
      by_cases hn : 0 ≤ n ∧ n < 4294967296
      · rw [if_pos hn] at h
        simp only [Option.pure_def, Option.bind_eq_bind, Option.bind_some] at h
        cases hr : es.mapM fun cs => match cs with | [AV.int .u32 n] => if 0 ≤ n ∧ n < 4294967296 then some n.toNat else none | _ => none with
        | none => rw [hr] at h; cases h
        | some r =>
          rw [hr] at h
          cases h
          obtain ⟨h1, h2⟩ := mapM_dg es r hr
          refine ⟨?_, wf_cons.2 ⟨by simp only [W32]; omega, h2⟩⟩
          rw [h1]
          simp only [dg, List.map_cons, List.cons.injEq, AV.int.injEq, true_and, and_true]
          omega
      · rw [if_neg hn] at h; cases h
    · cases h

theorem digOf_inv {a : AV} {ds : List Nat} (h : digOf a = some ds) : ∃ nl, a = .imm nl 1 (dg ds) ∧ Wf ds ∧ ds.length < 100000000 := by
  unfold digOf at h
  split at h
  · rename_i nl es
    obtain ⟨h1, h2⟩ := of_ite h
    obtain ⟨h3, h4⟩ := mapM_dg es ds h2
    exact ⟨nl, by rw [h3], h4, by rw [h3, dg_length] at h1; exact h1⟩
  · cases h

theorem digOf_dg {nl : Bool} {ds : List Nat} (h : Wf ds) (hl : ds.length < 100000000) : digOf (.imm nl 1 (dg ds)) = some ds := by
  unfold digOf
  simp only [dg_length, hl, if_true]
  clear hl
  induction ds with
  | nil => rfl
  | cons d ds ih =>
    obtain ⟨h1, h2⟩ := wf_cons.1 h
    have h1' : d < 4294967296 := h1
    have := ih h2
    simp only [dg] at this
    simp only [dg, List.map_cons, List.mapM_cons, this]
    rw [if_pos (by omega)]
    simp

/-- The digits as a value. -/
def dA (ds : List Nat) : AV := .imm false 1 (dg ds)
/-- An integer: its sign and its digits. -/
def iA (b : Bool) (ds : List Nat) : AV := .agg [.bool b, .imm false 1 (dg ds)]

def intOf : AV → Option (Bool × List Nat)
  | .agg [.bool b, d] => match digOf d with | some ds => if ds.length < 30000000 then some (b, ds) else none | none => none
  | _ => none

theorem intOf_inv {a : AV} {b : Bool} {ds : List Nat} (h : intOf a = some (b, ds)) : ∃ nl, a = .agg [.bool b, .imm nl 1 (dg ds)] ∧ Wf ds ∧ ds.length < 30000000 := by
  unfold intOf at h
  split at h
  · rename_i b' d
    split at h
    · rename_i x hx
      obtain ⟨hl, he⟩ := of_ite h
      cases he
      obtain ⟨nl, rfl, h2, h3⟩ := digOf_inv hx
      exact ⟨nl, rfl, h2, hl⟩
    · cases h
  · cases h

theorem intOf_iA {b nl : Bool} {ds : List Nat} (h : Wf ds) (hl : ds.length < 30000000) : intOf (.agg [.bool b, .imm nl 1 (dg ds)]) = some (b, ds) := by simp [intOf, digOf_dg h (by omega), hl]


/-- Sign and magnitude. -/
def sg (b : Bool) (n : Nat) : Int := if b then -(n : Int) else n
/-- An integer in canonical form. -/
def iV (z : Int) : AV := iA (decide (z < 0)) (digs z.natAbs)

theorem sg_natAbs (b : Bool) (n : Nat) : (sg b n).natAbs = n := by cases b <;> simp [sg]
theorem iV_zero : iV 0 = iA false [] := by simp [iV, digs_zero]
theorem iV_sg_zero (b : Bool) : iV (sg b 0) = iA false [] := by cases b <;> simp [sg, iV, digs_zero]
theorem iV_sg {b : Bool} {n : Nat} (h : n ≠ 0) : iV (sg b n) = iA b (digs n) := by
  unfold iV
  rw [sg_natAbs]
  congr 1
  cases b <;> simp [sg] <;> omega

/-- The number that an integer stands for. -/
def zOf (a : AV) : Option Int := (intOf a).map fun x => sg x.1 (dv x.2)

theorem zOf_inv {a : AV} {z : Int} (h : zOf a = some z) : ∃ b nl ds, a = .agg [.bool b, .imm nl 1 (dg ds)] ∧ Wf ds ∧ ds.length < 30000000 ∧ z = sg b (dv ds) := by
  unfold zOf at h
  rw [Option.map_eq_some_iff] at h
  obtain ⟨⟨b, ds⟩, h1, rfl⟩ := h
  obtain ⟨nl, rfl, h2, h3⟩ := intOf_inv h1
  exact ⟨b, nl, ds, rfl, h2, h3, rfl⟩

theorem zOf_mk {b nl : Bool} {ds : List Nat} (h : Wf ds) (hl : ds.length < 30000000) : zOf (.agg [.bool b, .imm nl 1 (dg ds)]) = some (sg b (dv ds)) := by simp [zOf, intOf_iA h hl]

theorem zOf_iV {z : Int} (h : (digs z.natAbs).length < 30000000) : zOf (iV z) = some z := by
  unfold iV iA
  rw [zOf_mk (wf_digs _) h, dv_digs]
  congr 1
  by_cases hz : z < 0
  · simp [sg, hz]; omega
  · simp [sg, hz]; omega

theorem weak_iA (b nl : Bool) (ds : List Nat) : AV.weak (.agg [.bool b, .imm nl 1 (dg ds)]) = iA b ds := by simp [AV.weak, AV.weakL, weakLL_dg, iA]
theorem weak_dA (nl : Bool) (ds : List Nat) : AV.weak (.imm nl 1 (dg ds)) = dA ds := by simp [AV.weak, weakLL_dg, dA]


theorem w32_nat {t q : Nat} (h : q = t % 4294967296) : IntKind.u32.wrap (t : Int) = (q : Int) := by rw [wrapu32]; omega
theorem w64_nat {x : Int} {t : Nat} (h : x = t) (hb : t < 18446744073709551616) : IntKind.u64.wrap x = (t : Int) := by rw [h]; exact wrapu64_id _ (by omega) (by omega)
theorem fdiv_nat {t e : Nat} (h : e = t / 4294967296) : (t : Int).fdiv 4294967296 = (e : Int) := by rw [Int.fdiv_eq_ediv_of_nonneg _ (by decide)]; omega
@[simp] theorem minb_u64 (n : Nat) : min n IntKind.u64.bits = min n 64 := rfl
@[simp] theorem minb_u32 (n : Nat) : min n IntKind.u32.bits = min n 32 := rfl
@[simp] theorem minb_i64 (n : Nat) : min n IntKind.i64.bits = min n 64 := rfl


/-! ### Specifications over decoded arguments -/

def sp0 (v : AV) : List AV → Option PRes
  | [] => some { val := v }
  | _ => none
def sp1 {α : Type} (da : AV → Option α) (f : α → Option AV) : List AV → Option PRes
  | [a] => match da a with | some x => (f x).map fun v => { val := v } | none => none
  | _ => none
def sp2 {α β : Type} (da : AV → Option α) (db : AV → Option β) (f : α → β → Option AV) : List AV → Option PRes
  | [a, b] => match da a, db b with | some x, some y => (f x y).map fun v => { val := v } | _, _ => none
  | _ => none
def sp3 {α β γ : Type} (da : AV → Option α) (db : AV → Option β) (dc : AV → Option γ) (f : α → β → γ → Option AV) : List AV → Option PRes
  | [a, b, c] => match da a, db b, dc c with | some x, some y, some z => (f x y z).map fun v => { val := v } | _, _, _ => none
  | _ => none
theorem sp0_inv {v : AV} {args : List AV} {r : PRes} (h : sp0 v args = some r) : args = [] ∧ r = { val := v } := by
  unfold sp0 at h; split at h
  · cases h; exact ⟨rfl, rfl⟩
  · cases h
theorem sp1_inv {α : Type} {da : AV → Option α} {f : α → Option AV} {args : List AV} {r : PRes} (h : sp1 da f args = some r) : ∃ a x v, args = [a] ∧ da a = some x ∧ f x = some v ∧ r = { val := v } := by
  unfold sp1 at h
  split at h
  · split at h
    · rename_i hx
      rw [Option.map_eq_some_iff] at h
      obtain ⟨v, hv, rfl⟩ := h
      exact ⟨_, _, v, rfl, hx, hv, rfl⟩
    · cases h
  · cases h
theorem sp2_inv {α β : Type} {da : AV → Option α} {db : AV → Option β} {f : α → β → Option AV} {args : List AV} {r : PRes} (h : sp2 da db f args = some r) : ∃ a b x y v, args = [a, b] ∧ da a = some x ∧ db b = some y ∧ f x y = some v ∧ r = { val := v } := by
  unfold sp2 at h
  split at h
  · split at h
    · rename_i hx hy
      rw [Option.map_eq_some_iff] at h
      obtain ⟨v, hv, rfl⟩ := h
      exact ⟨_, _, _, _, v, rfl, hx, hy, hv, rfl⟩
    · cases h
  · cases h
theorem sp3_inv {α β γ : Type} {da : AV → Option α} {db : AV → Option β} {dc : AV → Option γ} {f : α → β → γ → Option AV} {args : List AV} {r : PRes} (h : sp3 da db dc f args = some r) :
    ∃ a b c x y z v, args = [a, b, c] ∧ da a = some x ∧ db b = some y ∧ dc c = some z ∧ f x y z = some v ∧ r = { val := v } := by
  unfold sp3 at h
  split at h
  · split at h
    · rename_i hx hy hz
      rw [Option.map_eq_some_iff] at h
      obtain ⟨v, hv, rfl⟩ := h
      exact ⟨_, _, _, _, _, _, v, rfl, hx, hy, hz, hv, rfl⟩
    · cases h
  · cases h
theorem sp0_at {G : Pure} {f : FuncId} {v : AV} (hG : G f = sp0 v) : G f [] = some { val := v } := by rw [hG]; rfl
theorem sp1_at {G : Pure} {f : FuncId} {α : Type} {da : AV → Option α} {F : α → Option AV} {a v : AV} {x : α} (hG : G f = sp1 da F) (ha : da a = some x) (hv : F x = some v) : G f [a] = some { val := v } := by
  rw [hG]; simp [sp1, ha, hv]
theorem sp2_at {G : Pure} {f : FuncId} {α β : Type} {da : AV → Option α} {db : AV → Option β} {F : α → β → Option AV} {a b v : AV} {x : α} {y : β} (hG : G f = sp2 da db F) (ha : da a = some x) (hb : db b = some y) (hv : F x y = some v) : G f [a, b] = some { val := v } := by
  rw [hG]; simp [sp2, ha, hb, hv]
theorem sp3_at {G : Pure} {f : FuncId} {α β γ : Type} {da : AV → Option α} {db : AV → Option β} {dc : AV → Option γ} {F : α → β → γ → Option AV} {a b c v : AV} {x : α} {y : β} {z : γ} (hG : G f = sp3 da db dc F) (ha : da a = some x) (hb : db b = some y) (hc : dc c = some z) (hv : F x y z = some v) : G f [a, b, c] = some { val := v } := by
  rw [hG]; simp [sp3, ha, hb, hc, hv]
def i64Of : AV → Option Int
  | .int .i64 n => if -9223372036854775808 ≤ n ∧ n < 9223372036854775808 then some n else none
  | _ => none
theorem i64Of_inv {a : AV} {n : Int} (h : i64Of a = some n) : a = .int .i64 n ∧ -9223372036854775808 ≤ n ∧ n < 9223372036854775808 := by
  unfold i64Of at h
  split at h
  · obtain ⟨h1, h2⟩ := of_ite h
    cases h2
    exact ⟨rfl, h1⟩
  · cases h
theorem i64Of_mk {n : Int} (h0 : -9223372036854775808 ≤ n) (h1 : n < 9223372036854775808) : i64Of (.int .i64 n) = some n := by simp [i64Of, h0, h1]
def boolOf : AV → Option Bool
  | .bool b => some b
  | _ => none
theorem boolOf_inv {a : AV} {b : Bool} (h : boolOf a = some b) : a = .bool b := by
  unfold boolOf at h
  split at h <;> cases h
  rfl

theorem sg_add_same (b : Bool) (m n : Nat) : sg b (m + n) = sg b m + sg b n := by cases b <;> simp [sg] <;> omega
theorem sg_sub_same {b c : Bool} {m n : Nat} (h : n ≤ m) (hbc : b ≠ c) : sg b (m - n) = sg b m + sg c n := by cases b <;> cases c <;> simp_all [sg] <;> omega
theorem sg_mul (b c : Bool) (m n : Nat) : sg (b != c) (m * n) = sg b m * sg c n := by cases b <;> cases c <;> simp [sg, Int.neg_mul, Int.mul_neg]

/-- The number of digits of an integer. -/
def zl (z : Int) : Nat := (digs z.natAbs).length
theorem zl_sg (b : Bool) (n : Nat) : zl (sg b n) = (digs n).length := by simp [zl, sg_natAbs]
theorem zOf_zl {a : AV} {z : Int} (h : zOf a = some z) : zl z < 30000000 := by
  obtain ⟨b, nl, ds, rfl, hw, hl, rfl⟩ := zOf_inv h
  rw [zl_sg]
  have := digs_length_dv hw
  omega
theorem zl_le {z : Int} {k : Nat} : zl z ≤ k ↔ z.natAbs < W32 ^ k := ⟨lt_of_digs_length, digs_length_le⟩
theorem zl_neg (z : Int) : zl (-z) = zl z := by simp [zl]
theorem zl_add (x y : Int) : zl (x + y) ≤ zl x + zl y + 1 := by
  rw [zl_le]
  have hx := zl_le.1 (Nat.le_refl (zl x))
  have hy := zl_le.1 (Nat.le_refl (zl y))
  have h1 : W32 ^ zl x ≤ W32 ^ (zl x + zl y) := Nat.pow_le_pow_right (by decide) (by omega)
  have h2 : W32 ^ zl y ≤ W32 ^ (zl x + zl y) := Nat.pow_le_pow_right (by decide) (by omega)
  have h3 : W32 ^ (zl x + zl y + 1) = W32 ^ (zl x + zl y) * W32 := Nat.pow_succ _ _
  have h4 : W32 ^ (zl x + zl y) * 2 ≤ W32 ^ (zl x + zl y) * W32 := Nat.mul_le_mul_left _ (by decide)
  omega
theorem zl_add' (x y : Int) : zl (x + y) ≤ max (zl x) (zl y) + 1 := by
  rw [zl_le]
  have hx := zl_le.1 (Nat.le_refl (zl x))
  have hy := zl_le.1 (Nat.le_refl (zl y))
  have h1 : W32 ^ zl x ≤ W32 ^ max (zl x) (zl y) := Nat.pow_le_pow_right (by decide) (by omega)
  have h2 : W32 ^ zl y ≤ W32 ^ max (zl x) (zl y) := Nat.pow_le_pow_right (by decide) (by omega)
  have h3 : W32 ^ (max (zl x) (zl y) + 1) = W32 ^ max (zl x) (zl y) * W32 := Nat.pow_succ _ _
  have h4 : W32 ^ max (zl x) (zl y) * 2 ≤ W32 ^ max (zl x) (zl y) * W32 := Nat.mul_le_mul_left _ (by decide)
  omega
theorem zl_mul (x y : Int) : zl (x * y) ≤ zl x + zl y := by
  rw [zl_le, Int.natAbs_mul, Nat.pow_add]
  have hx := zl_le.1 (Nat.le_refl (zl x))
  have hy := zl_le.1 (Nat.le_refl (zl y))
  exact Nat.mul_lt_mul'' hx hy
theorem zl_mono {x y : Int} (h : x.natAbs ≤ y.natAbs) : zl x ≤ zl y := digs_len_mono h
theorem zl_small {z : Int} (h : z.natAbs < 4294967296) : zl z ≤ 1 := zl_le.2 (by simpa using h)

end Go.Ev

/- The code of the functions, as the evaluator takes it (printed by program). -/
namespace Go.Proofs.Ythlpmghodgiknaa.C
open Go Go.Ev
def ks : Kinds := { pure := [(3, false), (4, false), (5, false), (6, false), (7, false), (8, false), (9, false), (10, false), (11, false), (12, false), (13, false), (14, false), (15, false), (16, false), (17, false), (18, false), (19, false), (20, false), (21, false), (22, false), (23, false), (24, false), (25, false), (26, false), (27, false), (28, false), (29, false), (30, true), (31, false), (32, false), (33, false), (34, false), (35, false), (36, false), (37, false), (38, false), (39, false), (40, false), (41, false), (42, false), (43, false), (45, false), (46, false), (47, false), (48, false), (49, false), (50, false), (51, false), (52, false), (53, true), (54, false), (55, false), (56, false), (57, false), (58, false), (59, false), (60, false), (61, false), (62, false), (63, false), (64, false), (65, false), (66, false), (67, false), (68, false), (69, false), (70, false), (71, false), (72, false), (73, false), (74, false), (75, false), (76, false), (77, false), (78, false), (79, false), (80, false), (81, false), (82, false), (83, false), (84, false), (85, false), (86, false), (87, false), (88, false), (89, false), (90, false), (91, true), (92, false), (93, false), (94, false), (95, false), (96, false), (98, false), (99, true), (101, false), (103, false), (104, false), (105, false)], upd := [(97, 0, 88), (100, 0, 88), (102, 0, 88)] }
/-! pairing/rational.Mul -/
def c46_kr : Option Keep := some { slots := [4], drops := [736032, 736048, 736080, 736096, 736112, 736128] }
def c46_r0a : List AI := [⟨(some 2), none, .box 736032 33 4 (.t 0)⟩,
  ⟨(some 3), none, .box 736048 33 4 (.t 1)⟩,
  ⟨(some 4), none, .alloc 736064 33 [.bool false, .imm true 1 [], .bool false, .imm true 1 []]⟩]
def c46_r0aQ : List AI := c46_r0a
theorem c46_r0a_e (G : Pure) (ic : Inl) (s : SL) : runL G ic c46_r0aQ s = runL G ic c46_r0a s := rfl
def c46_r1a : List AI := [⟨(some 10), none, .load (some 4) (.t 2)⟩,
  ⟨(some 11), none, .call 736176 62 [(.t 10)] false⟩,
  ⟨(some 9), none, .mv (.t 11)⟩,
  ⟨(some 12), none, .extract (.t 9) 0⟩,
  ⟨(some 13), none, .extract (.t 9) 1⟩,
  ⟨(some 5), none, .alloc 736080 31 [.bool false, .imm true 1 []]⟩,
  ⟨(some 6), none, .alloc 736096 31 [.bool false, .imm true 1 []]⟩,
  ⟨none, none, .store 2 (.t 5) (.t 12)⟩,
  ⟨none, none, .store 2 (.t 6) (.t 13)⟩]
def c46_r1aQ : List AI := c46_r1a
theorem c46_r1a_e (G : Pure) (ic : Inl) (s : SL) : runL G ic c46_r1aQ s = runL G ic c46_r1a s := rfl
def c46_r2a : List AI := [⟨(some 15), none, .load (some 4) (.t 3)⟩,
  ⟨(some 16), none, .call 736256 62 [(.t 15)] false⟩,
  ⟨(some 14), none, .mv (.t 16)⟩,
  ⟨(some 17), none, .extract (.t 14) 0⟩,
  ⟨(some 18), none, .extract (.t 14) 1⟩,
  ⟨(some 7), none, .alloc 736112 31 [.bool false, .imm true 1 []]⟩,
  ⟨(some 8), none, .alloc 736128 31 [.bool false, .imm true 1 []]⟩,
  ⟨none, none, .store 2 (.t 7) (.t 17)⟩,
  ⟨none, none, .store 2 (.t 8) (.t 18)⟩]
def c46_r2aQ : List AI := c46_r2a
theorem c46_r2a_e (G : Pure) (ic : Inl) (s : SL) : runL G ic c46_r2aQ s = runL G ic c46_r2a s := rfl
def c46_r3a : List AI := [⟨(some 19), none, .load (some 2) (.t 5)⟩,
  ⟨(some 20), none, .load (some 2) (.t 7)⟩,
  ⟨(some 21), none, .call 736336 66 [(.t 19), (.t 20)] false⟩,
  ⟨(some 22), none, .load (some 2) (.t 6)⟩,
  ⟨(some 23), none, .load (some 2) (.t 8)⟩,
  ⟨(some 24), none, .call 736384 66 [(.t 22), (.t 23)] false⟩,
  ⟨(some 25), none, .call 736400 65 [(.t 21), (.t 24)] false⟩,
  ⟨none, none, .store 4 (.t 4) (.t 25)⟩]
def c46_r3aQ : List AI := c46_r3a
theorem c46_r3a_e (G : Pure) (ic : Inl) (s : SL) : runL G ic c46_r3aQ s = runL G ic c46_r3a s := rfl
def c46 : ACode := .seq (.reg [] c46_r0aQ []) (.seq (.reg [] c46_r1aQ []) (.seq (.reg [] c46_r2aQ []) (.seq (.reg [] c46_r3aQ []) (.ret c46_kr))))
def c46F : AFun := { params := 2, code := c46, results := [.cell 4 (some 4)] }
attribute [simp] c46_kr c46_r0a_e c46_r0a c46_r1a_e c46_r1a c46_r2a_e c46_r2a c46_r3a_e c46_r3a c46 c46F
theorem c46_ok : IsFun Try.prog ks 46 c46F := by unfold IsFun; kernel_rfl
/-! pairing/rational.Add -/
def c47_kr : Option Keep := some { slots := [4], drops := [752032, 752048, 752080, 752096, 752112, 752128] }
def c47_r0a : List AI := [⟨(some 2), none, .box 752032 33 4 (.t 0)⟩,
  ⟨(some 3), none, .box 752048 33 4 (.t 1)⟩,
  ⟨(some 4), none, .alloc 752064 33 [.bool false, .imm true 1 [], .bool false, .imm true 1 []]⟩]
def c47_r0aQ : List AI := c47_r0a
theorem c47_r0a_e (G : Pure) (ic : Inl) (s : SL) : runL G ic c47_r0aQ s = runL G ic c47_r0a s := rfl
def c47_r1a : List AI := [⟨(some 10), none, .load (some 4) (.t 2)⟩,
  ⟨(some 11), none, .call 752176 62 [(.t 10)] false⟩,
  ⟨(some 9), none, .mv (.t 11)⟩,
  ⟨(some 12), none, .extract (.t 9) 0⟩,
  ⟨(some 13), none, .extract (.t 9) 1⟩,
  ⟨(some 5), none, .alloc 752080 31 [.bool false, .imm true 1 []]⟩,
  ⟨(some 6), none, .alloc 752096 31 [.bool false, .imm true 1 []]⟩,
  ⟨none, none, .store 2 (.t 5) (.t 12)⟩,
  ⟨none, none, .store 2 (.t 6) (.t 13)⟩]
def c47_r1aQ : List AI := c47_r1a
theorem c47_r1a_e (G : Pure) (ic : Inl) (s : SL) : runL G ic c47_r1aQ s = runL G ic c47_r1a s := rfl
def c47_r2a : List AI := [⟨(some 15), none, .load (some 4) (.t 3)⟩,
  ⟨(some 16), none, .call 752256 62 [(.t 15)] false⟩,
  ⟨(some 14), none, .mv (.t 16)⟩,
  ⟨(some 17), none, .extract (.t 14) 0⟩,
  ⟨(some 18), none, .extract (.t 14) 1⟩,
  ⟨(some 7), none, .alloc 752112 31 [.bool false, .imm true 1 []]⟩,
  ⟨(some 8), none, .alloc 752128 31 [.bool false, .imm true 1 []]⟩,
  ⟨none, none, .store 2 (.t 7) (.t 17)⟩,
  ⟨none, none, .store 2 (.t 8) (.t 18)⟩]
def c47_r2aQ : List AI := c47_r2a
theorem c47_r2a_e (G : Pure) (ic : Inl) (s : SL) : runL G ic c47_r2aQ s = runL G ic c47_r2a s := rfl
def c47_r3a : List AI := [⟨(some 19), none, .load (some 2) (.t 5)⟩,
  ⟨(some 20), none, .load (some 2) (.t 8)⟩,
  ⟨(some 21), none, .call 752336 66 [(.t 19), (.t 20)] false⟩,
  ⟨(some 22), none, .load (some 2) (.t 7)⟩,
  ⟨(some 23), none, .load (some 2) (.t 6)⟩,
  ⟨(some 24), none, .call 752384 66 [(.t 22), (.t 23)] false⟩,
  ⟨(some 25), none, .call 752400 67 [(.t 21), (.t 24)] false⟩,
  ⟨(some 26), none, .load (some 2) (.t 6)⟩,
  ⟨(some 27), none, .load (some 2) (.t 8)⟩,
  ⟨(some 28), none, .call 752448 66 [(.t 26), (.t 27)] false⟩,
  ⟨(some 29), none, .call 752464 65 [(.t 25), (.t 28)] false⟩,
  ⟨none, none, .store 4 (.t 4) (.t 29)⟩]
def c47_r3aQ : List AI := c47_r3a
theorem c47_r3a_e (G : Pure) (ic : Inl) (s : SL) : runL G ic c47_r3aQ s = runL G ic c47_r3a s := rfl
def c47 : ACode := .seq (.reg [] c47_r0aQ []) (.seq (.reg [] c47_r1aQ []) (.seq (.reg [] c47_r2aQ []) (.seq (.reg [] c47_r3aQ []) (.ret c47_kr))))
def c47F : AFun := { params := 2, code := c47, results := [.cell 4 (some 4)] }
attribute [simp] c47_kr c47_r0a_e c47_r0a c47_r1a_e c47_r1a c47_r2a_e c47_r2a c47_r3a_e c47_r3a c47 c47F
theorem c47_ok : IsFun Try.prog ks 47 c47F := by unfold IsFun; kernel_rfl
/-! pairing/sparse.zero -/
def c48_kr : Option Keep := some { slots := [0], drops := [] }
def c48_r0a : List AI := [⟨(some 0), none, .alloc 768000 33 [.bool false, .imm true 1 [], .bool false, .imm true 1 []]⟩]
def c48_r0aQ : List AI := c48_r0a
theorem c48_r0a_e (G : Pure) (ic : Inl) (s : SL) : runL G ic c48_r0aQ s = runL G ic c48_r0a s := rfl
def c48_r1a : List AI := [⟨(some 1), none, .call 768016 69 [(.c (.int .i64 0))] false⟩,
  ⟨(some 2), none, .call 768032 68 [(.t 1)] false⟩,
  ⟨none, none, .store 4 (.t 0) (.t 2)⟩]
def c48_r1aQ : List AI := c48_r1a
theorem c48_r1a_e (G : Pure) (ic : Inl) (s : SL) : runL G ic c48_r1aQ s = runL G ic c48_r1a s := rfl
def c48 : ACode := .seq (.reg [] c48_r0aQ []) (.seq (.reg [] c48_r1aQ []) (.ret c48_kr))
def c48F : AFun := { params := 0, code := c48, results := [.cell 0 (some 4)] }
attribute [simp] c48_kr c48_r0a_e c48_r0a c48_r1a_e c48_r1a c48 c48F
theorem c48_ok : IsFun Try.prog ks 48 c48F := by unfold IsFun; kernel_rfl
/-! pairing/pairingref1.Add -/
def c49_kr : Option Keep := some { slots := [4], drops := [784032, 784048] }
def c49_r0a : List AI := [⟨(some 2), none, .box 784032 31 2 (.t 0)⟩,
  ⟨(some 3), none, .box 784048 31 2 (.t 1)⟩,
  ⟨(some 4), none, .alloc 784064 31 [.bool false, .imm true 1 []]⟩]
def c49_r0aQ : List AI := c49_r0a
theorem c49_r0a_e (G : Pure) (ic : Inl) (s : SL) : runL G ic c49_r0aQ s = runL G ic c49_r0a s := rfl
def c49_r1a : List AI := [⟨(some 5), none, .faddr 0 (.t 2)⟩,
  ⟨(some 6), none, .load none (.t 5)⟩,
  ⟨(some 7), none, .faddr 0 (.t 3)⟩,
  ⟨(some 8), none, .load none (.t 7)⟩,
  ⟨(some 9), none, .binb .eql (.t 6) (.t 8)⟩]
def c49_r1aQ : List AI := c49_r1a
theorem c49_r1a_e (G : Pure) (ic : Inl) (s : SL) : runL G ic c49_r1aQ s = runL G ic c49_r1a s := rfl
def c49_r2a : List AI := [⟨(some 10), none, .faddr 0 (.t 2)⟩,
  ⟨(some 11), none, .load none (.t 10)⟩,
  ⟨(some 12), none, .faddr 1 (.t 2)⟩,
  ⟨(some 13), none, .load none (.t 12)⟩,
  ⟨(some 14), none, .faddr 1 (.t 3)⟩,
  ⟨(some 15), none, .load none (.t 14)⟩,
  ⟨(some 16), none, .call 784256 71 [(.t 13), (.t 15)] false⟩,
  ⟨(some 17), none, .call 784272 70 [(.t 11), (.t 16)] false⟩,
  ⟨none, none, .store 2 (.t 4) (.t 17)⟩]
def c49_r2aQ : List AI := c49_r2a
theorem c49_r2a_e (G : Pure) (ic : Inl) (s : SL) : runL G ic c49_r2aQ s = runL G ic c49_r2a s := rfl
def c49_r3a : List AI := [⟨(some 18), none, .faddr 1 (.t 2)⟩,
  ⟨(some 19), none, .load none (.t 18)⟩,
  ⟨(some 20), none, .faddr 1 (.t 3)⟩,
  ⟨(some 21), none, .load none (.t 20)⟩,
  ⟨(some 22), none, .call 784352 72 [(.t 19), (.t 21)] false⟩,
  ⟨(some 23), none, .bin .geq (.t 22) (.c (.int .i64 0))⟩]
def c49_r3aQ : List AI := c49_r3a
theorem c49_r3a_e (G : Pure) (ic : Inl) (s : SL) : runL G ic c49_r3aQ s = runL G ic c49_r3a s := rfl
def c49_r4a : List AI := [⟨(some 24), none, .faddr 0 (.t 2)⟩,
  ⟨(some 25), none, .load none (.t 24)⟩,
  ⟨(some 26), none, .faddr 1 (.t 2)⟩,
  ⟨(some 27), none, .load none (.t 26)⟩,
  ⟨(some 28), none, .faddr 1 (.t 3)⟩,
  ⟨(some 29), none, .load none (.t 28)⟩,
  ⟨(some 30), none, .call 784480 74 [(.t 29)] false⟩,
  ⟨(some 31), none, .call 784496 73 [(.t 27), (.t 30)] false⟩,
  ⟨(some 32), none, .call 784512 70 [(.t 25), (.t 31)] false⟩,
  ⟨none, none, .store 2 (.t 4) (.t 32)⟩]
def c49_r4aQ : List AI := c49_r4a
theorem c49_r4a_e (G : Pure) (ic : Inl) (s : SL) : runL G ic c49_r4aQ s = runL G ic c49_r4a s := rfl
def c49_r5a : List AI := [⟨(some 33), none, .faddr 0 (.t 3)⟩,
  ⟨(some 34), none, .load none (.t 33)⟩,
  ⟨(some 35), none, .faddr 1 (.t 3)⟩,
  ⟨(some 36), none, .load none (.t 35)⟩,
  ⟨(some 37), none, .faddr 1 (.t 2)⟩,
  ⟨(some 38), none, .load none (.t 37)⟩,
  ⟨(some 39), none, .call 784624 74 [(.t 38)] false⟩,
  ⟨(some 40), none, .call 784640 73 [(.t 36), (.t 39)] false⟩,
  ⟨(some 41), none, .call 784656 70 [(.t 34), (.t 40)] false⟩,
  ⟨none, none, .store 2 (.t 4) (.t 41)⟩]
def c49_r5aQ : List AI := c49_r5a
theorem c49_r5a_e (G : Pure) (ic : Inl) (s : SL) : runL G ic c49_r5aQ s = runL G ic c49_r5a s := rfl
def c49 : ACode := .seq (.reg [] c49_r0aQ []) (.seq (.seq (.reg [] c49_r1aQ []) (.cond (.t 9) (.seq (.reg [] c49_r2aQ []) (.ret c49_kr)) (.skip))) (.seq (.seq (.reg [] c49_r3aQ []) (.cond (.t 23) (.seq (.reg [] c49_r4aQ []) (.ret c49_kr)) (.skip))) (.seq (.reg [] c49_r5aQ []) (.ret c49_kr))))
def c49F : AFun := { params := 2, code := c49, results := [.cell 4 (some 2)] }
attribute [simp] c49_kr c49_r0a_e c49_r0a c49_r1a_e c49_r1a c49_r2a_e c49_r2a c49_r3a_e c49_r3a c49_r4a_e c49_r4a c49_r5a_e c49_r5a c49 c49F
theorem c49_ok : IsFun Try.prog ks 49 c49F := by unfold IsFun; kernel_rfl
/-! pairing/pairingref1.Mul -/
def c50_kr : Option Keep := some { slots := [4], drops := [800032, 800048] }
def c50_r0a : List AI := [⟨(some 2), none, .box 800032 31 2 (.t 0)⟩,
  ⟨(some 3), none, .box 800048 31 2 (.t 1)⟩,
  ⟨(some 4), none, .alloc 800064 31 [.bool false, .imm true 1 []]⟩]
def c50_r0aQ : List AI := c50_r0a
theorem c50_r0a_e (G : Pure) (ic : Inl) (s : SL) : runL G ic c50_r0aQ s = runL G ic c50_r0a s := rfl
def c50_r1a : List AI := [⟨(some 5), none, .faddr 0 (.t 2)⟩,
  ⟨(some 6), none, .load none (.t 5)⟩,
  ⟨(some 7), none, .faddr 0 (.t 3)⟩,
  ⟨(some 8), none, .load none (.t 7)⟩,
  ⟨(some 9), none, .binb .neq (.t 6) (.t 8)⟩,
  ⟨(some 10), none, .faddr 1 (.t 2)⟩,
  ⟨(some 11), none, .load none (.t 10)⟩,
  ⟨(some 12), none, .faddr 1 (.t 3)⟩,
  ⟨(some 13), none, .load none (.t 12)⟩,
  ⟨(some 14), none, .call 800224 75 [(.t 11), (.t 13)] false⟩,
  ⟨(some 15), none, .call 800240 70 [(.t 9), (.t 14)] false⟩,
  ⟨none, none, .store 2 (.t 4) (.t 15)⟩]
def c50_r1aQ : List AI := c50_r1a
theorem c50_r1a_e (G : Pure) (ic : Inl) (s : SL) : runL G ic c50_r1aQ s = runL G ic c50_r1a s := rfl
def c50 : ACode := .seq (.reg [] c50_r0aQ []) (.seq (.reg [] c50_r1aQ []) (.ret c50_kr))
def c50F : AFun := { params := 2, code := c50, results := [.cell 4 (some 2)] }
attribute [simp] c50_kr c50_r0a_e c50_r0a c50_r1a_e c50_r1a c50 c50F
/-! pairing/pairingref1.SameInt -/
def c51_kr : Option Keep := some { slots := [4], drops := [816032, 816048] }
def c51_r0a : List AI := [⟨(some 2), none, .box 816032 31 2 (.t 0)⟩,
  ⟨(some 3), none, .box 816048 31 2 (.t 1)⟩,
  ⟨(some 4), none, .mv (.c (.bool false))⟩]
def c51_r0aQ : List AI := c51_r0a
theorem c51_r0a_e (G : Pure) (ic : Inl) (s : SL) : runL G ic c51_r0aQ s = runL G ic c51_r0a s := rfl
def c51_r1a : List AI := [⟨(some 6), none, .faddr 0 (.t 2)⟩,
  ⟨(some 7), none, .load none (.t 6)⟩,
  ⟨(some 8), none, .faddr 0 (.t 3)⟩,
  ⟨(some 9), none, .load none (.t 8)⟩,
  ⟨(some 10), none, .binb .neq (.t 7) (.t 9)⟩,
  ⟨(some 11), none, .mv (.t 10)⟩,
  ⟨(some 12), (some (11, false)), .faddr 1 (.t 2)⟩,
  ⟨(some 13), (some (11, false)), .load none (.t 12)⟩,
  ⟨(some 14), (some (11, false)), .len (.t 13)⟩,
  ⟨(some 15), (some (11, false)), .faddr 1 (.t 3)⟩,
  ⟨(some 16), (some (11, false)), .load none (.t 15)⟩,
  ⟨(some 17), (some (11, false)), .len (.t 16)⟩,
  ⟨(some 18), (some (11, false)), .bin .neq (.t 14) (.t 17)⟩,
  ⟨(some 19), none, .pick (.t 11) (.c (.bool true)) (.t 18)⟩]
def c51_r1aQ : List AI := c51_r1a
theorem c51_r1a_e (G : Pure) (ic : Inl) (s : SL) : runL G ic c51_r1aQ s = runL G ic c51_r1a s := rfl
def c51_r2a : List AI := [⟨(some 4), none, .mv (.c (.bool false))⟩]
def c51_r2aQ : List AI := c51_r2a
theorem c51_r2a_e (G : Pure) (ic : Inl) (s : SL) : runL G ic c51_r2aQ s = runL G ic c51_r2a s := rfl
def c51_r3a : List AI := [⟨(some 5), none, .mv (.c (.int .i64 0))⟩]
def c51_r3aQ : List AI := c51_r3a
theorem c51_r3a_e (G : Pure) (ic : Inl) (s : SL) : runL G ic c51_r3aQ s = runL G ic c51_r3a s := rfl
def c51_r4a : List AI := [⟨(some 20), none, .mv (.t 5)⟩,
  ⟨(some 21), none, .faddr 1 (.t 2)⟩,
  ⟨(some 22), none, .load none (.t 21)⟩,
  ⟨(some 23), none, .len (.t 22)⟩,
  ⟨(some 24), none, .bin .lss (.t 20) (.t 23)⟩]
def c51_r4aQ : List AI := c51_r4a
theorem c51_r4a_e (G : Pure) (ic : Inl) (s : SL) : runL G ic c51_r4aQ s = runL G ic c51_r4a s := rfl
def c51_r6a : List AI := [⟨(some 27), none, .faddr 1 (.t 2)⟩,
  ⟨(some 28), none, .load none (.t 27)⟩,
  ⟨(some 29), none, .mv (.t 5)⟩,
  ⟨(some 30), none, .iaddr 1 (.t 28) (.t 29)⟩,
  ⟨(some 31), none, .load none (.t 30)⟩,
  ⟨(some 32), none, .faddr 1 (.t 3)⟩,
  ⟨(some 33), none, .load none (.t 32)⟩,
  ⟨(some 34), none, .mv (.t 5)⟩,
  ⟨(some 35), none, .iaddr 1 (.t 33) (.t 34)⟩,
  ⟨(some 36), none, .load none (.t 35)⟩,
  ⟨(some 37), none, .bin .neq (.t 31) (.t 36)⟩]
def c51_r6aQ : List AI := c51_r6a
theorem c51_r6a_e (G : Pure) (ic : Inl) (s : SL) : runL G ic c51_r6aQ s = runL G ic c51_r6a s := rfl
def c51_r7a : List AI := [⟨(some 4), none, .mv (.c (.bool false))⟩]
def c51_r7aQ : List AI := c51_r7a
theorem c51_r7a_e (G : Pure) (ic : Inl) (s : SL) : runL G ic c51_r7aQ s = runL G ic c51_r7a s := rfl
def c51_r5a : List AI := [⟨(some 25), none, .mv (.t 5)⟩,
  ⟨(some 26), none, .bin .add (.t 25) (.c (.int .i64 1))⟩,
  ⟨(some 5), none, .mv (.t 26)⟩]
def c51_r5aQ : List AI := c51_r5a
theorem c51_r5a_e (G : Pure) (ic : Inl) (s : SL) : runL G ic c51_r5aQ s = runL G ic c51_r5a s := rfl
def c51_b0 : ACode := .seq (.seq (.reg [] c51_r4aQ []) (.cond (.t 24) (.skip) (.exit 0))) (.seq (.block none 1 (.seq (.reg [] c51_r6aQ []) (.cond (.t 37) (.seq (.reg [] c51_r7aQ []) (.ret c51_kr)) (.skip)))) (.reg [] c51_r5aQ []))
def c51_b0Q : ACode := c51_b0
theorem c51_b0_e (G : Pure) (ic : Inl) (n : Nat) (s : SL) : evalC G ic n c51_b0Q s = evalC G ic n c51_b0 s := rfl
def c51_k0 : Keep := { slots := [2, 3, 5], drops := [], adopt := [] }
def c51_e0 : Keep := { slots := [], drops := [] }
def c51_r8a : List AI := [⟨(some 4), none, .mv (.c (.bool true))⟩]
def c51_r8aQ : List AI := c51_r8a
theorem c51_r8a_e (G : Pure) (ic : Inl) (s : SL) : runL G ic c51_r8aQ s = runL G ic c51_r8a s := rfl
def c51 : ACode := .seq (.reg [] c51_r0aQ []) (.seq (.seq (.reg [] c51_r1aQ []) (.cond (.t 19) (.seq (.reg [] c51_r2aQ []) (.ret c51_kr)) (.skip))) (.seq (.seq (.reg [] c51_r3aQ []) (.block (some c51_e0) 0 (.loop c51_k0 c51_b0Q))) (.seq (.reg [] c51_r8aQ []) (.ret c51_kr))))
def c51F : AFun := { params := 2, code := c51, results := [.tmp 4] }
attribute [simp] c51_kr c51_r0a_e c51_r0a c51_r1a_e c51_r1a c51_r2a_e c51_r2a c51_r3a_e c51_r3a c51_r4a_e c51_r4a c51_r6a_e c51_r6a c51_r7a_e c51_r7a c51_r5a_e c51_r5a c51_b0_e c51_b0 c51_k0 c51_e0 c51_r8a_e c51_r8a c51 c51F
theorem c51_ok : IsFun Try.prog ks 51 c51F := by unfold IsFun; kernel_rfl
/-! pairing/pairingref1.SameVector -/
def c52_kr : Option Keep := some { slots := [4], drops := [] }
def c52_r0a : List AI := [⟨(some 4), none, .mv (.c (.bool false))⟩]
def c52_r0aQ : List AI := c52_r0a
theorem c52_r0a_e (G : Pure) (ic : Inl) (s : SL) : runL G ic c52_r0aQ s = runL G ic c52_r0a s := rfl
def c52_r1a : List AI := [⟨(some 6), none, .mv (.t 0)⟩,
  ⟨(some 7), none, .len (.t 6)⟩,
  ⟨(some 8), none, .mv (.t 1)⟩,
  ⟨(some 9), none, .len (.t 8)⟩,
  ⟨(some 10), none, .bin .neq (.t 7) (.t 9)⟩]
def c52_r1aQ : List AI := c52_r1a
theorem c52_r1a_e (G : Pure) (ic : Inl) (s : SL) : runL G ic c52_r1aQ s = runL G ic c52_r1a s := rfl
def c52_r2a : List AI := [⟨(some 4), none, .mv (.c (.bool false))⟩]
def c52_r2aQ : List AI := c52_r2a
theorem c52_r2a_e (G : Pure) (ic : Inl) (s : SL) : runL G ic c52_r2aQ s = runL G ic c52_r2a s := rfl
def c52_r3a : List AI := [⟨(some 5), none, .mv (.c (.int .i64 0))⟩]
def c52_r3aQ : List AI := c52_r3a
theorem c52_r3a_e (G : Pure) (ic : Inl) (s : SL) : runL G ic c52_r3aQ s = runL G ic c52_r3a s := rfl
def c52_r4a : List AI := [⟨(some 11), none, .mv (.t 5)⟩,
  ⟨(some 12), none, .mv (.t 0)⟩,
  ⟨(some 13), none, .len (.t 12)⟩,
  ⟨(some 14), none, .bin .lss (.t 11) (.t 13)⟩]
def c52_r4aQ : List AI := c52_r4a
theorem c52_r4a_e (G : Pure) (ic : Inl) (s : SL) : runL G ic c52_r4aQ s = runL G ic c52_r4a s := rfl
def c52_r6a : List AI := [⟨(some 17), none, .mv (.t 0)⟩,
  ⟨(some 18), none, .mv (.t 5)⟩,
  ⟨(some 19), none, .iaddr 5 (.t 17) (.t 18)⟩,
  ⟨(some 20), none, .faddr 0 (.t 19)⟩,
  ⟨(some 21), none, .load none (.t 20)⟩,
  ⟨(some 22), none, .mv (.t 1)⟩,
  ⟨(some 23), none, .mv (.t 5)⟩,
  ⟨(some 24), none, .iaddr 5 (.t 22) (.t 23)⟩,
  ⟨(some 25), none, .faddr 0 (.t 24)⟩,
  ⟨(some 26), none, .load none (.t 25)⟩,
  ⟨(some 27), none, .bin .neq (.t 21) (.t 26)⟩,
  ⟨(some 28), none, .mv (.t 27)⟩,
  ⟨(some 29), (some (28, false)), .mv (.t 0)⟩,
  ⟨(some 30), (some (28, false)), .mv (.t 5)⟩,
  ⟨(some 31), (some (28, false)), .iaddr 5 (.t 29) (.t 30)⟩,
  ⟨(some 32), (some (28, false)), .faddr 1 (.t 31)⟩,
  ⟨(some 33), (some (28, false)), .load (some 4) (.t 32)⟩,
  ⟨(some 34), (some (28, false)), .mv (.t 1)⟩,
  ⟨(some 35), (some (28, false)), .mv (.t 5)⟩,
  ⟨(some 36), (some (28, false)), .iaddr 5 (.t 34) (.t 35)⟩,
  ⟨(some 37), (some (28, false)), .faddr 1 (.t 36)⟩,
  ⟨(some 38), (some (28, false)), .load (some 4) (.t 37)⟩,
  ⟨(some 39), (some (28, false)), .call 832624 20 [(.t 33), (.t 38)] false⟩,
  ⟨(some 40), (some (28, false)), .un .not (.t 39)⟩,
  ⟨(some 41), none, .pick (.t 28) (.c (.bool true)) (.t 40)⟩]
def c52_r6aQ : List AI := c52_r6a
theorem c52_r6a_e (G : Pure) (ic : Inl) (s : SL) : runL G ic c52_r6aQ s = runL G ic c52_r6a s := rfl
def c52_r7a : List AI := [⟨(some 4), none, .mv (.c (.bool false))⟩]
def c52_r7aQ : List AI := c52_r7a
theorem c52_r7a_e (G : Pure) (ic : Inl) (s : SL) : runL G ic c52_r7aQ s = runL G ic c52_r7a s := rfl
def c52_r5a : List AI := [⟨(some 15), none, .mv (.t 5)⟩,
  ⟨(some 16), none, .bin .add (.t 15) (.c (.int .i64 1))⟩,
  ⟨(some 5), none, .mv (.t 16)⟩]
def c52_r5aQ : List AI := c52_r5a
theorem c52_r5a_e (G : Pure) (ic : Inl) (s : SL) : runL G ic c52_r5aQ s = runL G ic c52_r5a s := rfl
def c52_b0 : ACode := .seq (.seq (.reg [] c52_r4aQ []) (.cond (.t 14) (.skip) (.exit 0))) (.seq (.block none 1 (.seq (.reg [] c52_r6aQ []) (.cond (.t 41) (.seq (.reg [] c52_r7aQ []) (.ret c52_kr)) (.skip)))) (.reg [] c52_r5aQ []))
def c52_b0Q : ACode := c52_b0
theorem c52_b0_e (G : Pure) (ic : Inl) (n : Nat) (s : SL) : evalC G ic n c52_b0Q s = evalC G ic n c52_b0 s := rfl
def c52_k0 : Keep := { slots := [0, 1, 5], drops := [], adopt := [] }
def c52_e0 : Keep := { slots := [], drops := [] }
def c52_r8a : List AI := [⟨(some 4), none, .mv (.c (.bool true))⟩]
def c52_r8aQ : List AI := c52_r8a
theorem c52_r8a_e (G : Pure) (ic : Inl) (s : SL) : runL G ic c52_r8aQ s = runL G ic c52_r8a s := rfl
def c52 : ACode := .seq (.reg [] c52_r0aQ []) (.seq (.seq (.reg [] c52_r1aQ []) (.cond (.t 10) (.seq (.reg [] c52_r2aQ []) (.ret c52_kr)) (.skip))) (.seq (.seq (.reg [] c52_r3aQ []) (.block (some c52_e0) 0 (.loop c52_k0 c52_b0Q))) (.seq (.reg [] c52_r8aQ []) (.ret c52_kr))))
def c52F : AFun := { params := 2, code := c52, results := [.tmp 4] }
attribute [simp] c52_kr c52_r0a_e c52_r0a c52_r1a_e c52_r1a c52_r2a_e c52_r2a c52_r3a_e c52_r3a c52_r4a_e c52_r4a c52_r6a_e c52_r6a c52_r7a_e c52_r7a c52_r5a_e c52_r5a c52_b0_e c52_b0 c52_k0 c52_e0 c52_r8a_e c52_r8a c52 c52F
/-! pairing/sparse.zeros -/
def c53_kr : Option Keep := some { slots := [2], drops := [] }
def c53_r0a : List AI := [⟨(some 2), none, .mv (.c (.imm true 4 []))⟩]
def c53_r0aQ : List AI := c53_r0a
theorem c53_r0a_e (G : Pure) (ic : Inl) (s : SL) : runL G ic c53_r0aQ s = runL G ic c53_r0a s := rfl
def c53_r1a : List AI := [⟨(some 5), none, .mv (.t 0)⟩,
  ⟨(some 6), none, .make 848096 33 4 64 [.bool false, .imm true 1 [], .bool false, .imm true 1 []] (.t 5) (.t 5)⟩,
  ⟨(some 3), none, .mv (.t 6)⟩]
def c53_r1aQ : List AI := c53_r1a
theorem c53_r1a_e (G : Pure) (ic : Inl) (s : SL) : runL G ic c53_r1aQ s = runL G ic c53_r1a s := rfl
def c53_r2a : List AI := [⟨(some 7), none, .mv (.t 3)⟩,
  ⟨(some 8), none, .len (.t 7)⟩,
  ⟨(some 9), none, .mv (.c (.int .i64 0))⟩]
def c53_r2aQ : List AI := c53_r2a
theorem c53_r2a_e (G : Pure) (ic : Inl) (s : SL) : runL G ic c53_r2aQ s = runL G ic c53_r2a s := rfl
def c53_r3a : List AI := [⟨(some 10), none, .bin .lss (.t 9) (.t 8)⟩]
def c53_r3aQ : List AI := c53_r3a
theorem c53_r3a_e (G : Pure) (ic : Inl) (s : SL) : runL G ic c53_r3aQ s = runL G ic c53_r3a s := rfl
def c53_r4a : List AI := [⟨(some 11), none, .mv (.t 9)⟩,
  ⟨(some 4), none, .mv (.t 11)⟩]
def c53_r4aQ : List AI := c53_r4a
theorem c53_r4a_e (G : Pure) (ic : Inl) (s : SL) : runL G ic c53_r4aQ s = runL G ic c53_r4a s := rfl
def c53_r5a : List AI := [⟨(some 12), none, .mv (.t 3)⟩,
  ⟨(some 13), none, .mv (.t 4)⟩,
  ⟨(some 14), none, .call 848224 48 [] false⟩,
  ⟨(some 15), none, .iaddr 4 (.t 12) (.t 13)⟩,
  ⟨none, none, .store 4 (.t 15) (.t 14)⟩]
def c53_r5aQ : List AI := c53_r5a
theorem c53_r5a_e (G : Pure) (ic : Inl) (s : SL) : runL G ic c53_r5aQ s = runL G ic c53_r5a s := rfl
def c53_r6a : List AI := [⟨(some 16), none, .bin .add (.t 9) (.c (.int .i64 1))⟩,
  ⟨(some 9), none, .mv (.t 16)⟩]
def c53_r6aQ : List AI := c53_r6a
theorem c53_r6a_e (G : Pure) (ic : Inl) (s : SL) : runL G ic c53_r6aQ s = runL G ic c53_r6a s := rfl
def c53_b0 : ACode := .seq (.reg [] c53_r3aQ []) (.seq (.cond (.t 10) (.skip) (.exit 0)) (.seq (.block none 1 (.seq (.reg [] c53_r4aQ []) (.reg [] c53_r5aQ []))) (.reg [] c53_r6aQ [])))
def c53_b0Q : ACode := c53_b0
theorem c53_b0_e (G : Pure) (ic : Inl) (n : Nat) (s : SL) : evalC G ic n c53_b0Q s = evalC G ic n c53_b0 s := rfl
def c53_k0 : Keep := { slots := [3, 8, 9], drops := [], adopt := [] }
def c53_e0 : Keep := { slots := [3], drops := [] }
def c53_r7a : List AI := [⟨(some 17), none, .mv (.t 3)⟩,
  ⟨(some 2), none, .mv (.t 17)⟩]
def c53_r7aQ : List AI := c53_r7a
theorem c53_r7a_e (G : Pure) (ic : Inl) (s : SL) : runL G ic c53_r7aQ s = runL G ic c53_r7a s := rfl
def c53 : ACode := .seq (.reg [] c53_r0aQ []) (.seq (.reg [] c53_r1aQ []) (.seq (.seq (.reg [] c53_r2aQ []) (.block (some c53_e0) 0 (.loop c53_k0 c53_b0Q))) (.seq (.reg [] c53_r7aQ []) (.ret c53_kr))))
def c53F : AFun := { params := 1, code := c53, results := [.tmp 2] }
attribute [simp] c53_kr c53_r0a_e c53_r0a c53_r1a_e c53_r1a c53_r2a_e c53_r2a c53_r3a_e c53_r3a c53_r4a_e c53_r4a c53_r5a_e c53_r5a c53_r6a_e c53_r6a c53_b0_e c53_b0 c53_k0 c53_e0 c53_r7a_e c53_r7a c53 c53F
theorem c53_ok : IsFun Try.prog ks 53 c53F := by unfold IsFun; kernel_rfl
/-! pairing/sparse.gathered -/
def c54_kr : Option Keep := some { slots := [2], drops := [864080] }
def c54_r0a : List AI := [⟨(some 2), none, .mv (.c (.imm true 5 []))⟩]
def c54_r0aQ : List AI := c54_r0a
theorem c54_r0a_e (G : Pure) (ic : Inl) (s : SL) : runL G ic c54_r0aQ s = runL G ic c54_r0a s := rfl
def c54_r1a : List AI := [⟨(some 3), none, .mv (.c (.imm true 5 []))⟩]
def c54_r1aQ : List AI := c54_r1a
theorem c54_r1a_e (G : Pure) (ic : Inl) (s : SL) : runL G ic c54_r1aQ s = runL G ic c54_r1a s := rfl
def c54_r2a : List AI := [⟨(some 6), none, .mv (.t 0)⟩,
  ⟨(some 7), none, .len (.t 6)⟩,
  ⟨(some 8), none, .mv (.c (.int .i64 0))⟩]
def c54_r2aQ : List AI := c54_r2a
theorem c54_r2a_e (G : Pure) (ic : Inl) (s : SL) : runL G ic c54_r2aQ s = runL G ic c54_r2a s := rfl
def c54_r3a : List AI := [⟨(some 9), none, .bin .lss (.t 8) (.t 7)⟩]
def c54_r3aQ : List AI := c54_r3a
theorem c54_r3a_e (G : Pure) (ic : Inl) (s : SL) : runL G ic c54_r3aQ s = runL G ic c54_r3a s := rfl
def c54_r4a : List AI := [⟨(some 10), none, .mv (.t 8)⟩,
  ⟨(some 11), none, .iaddr 4 (.t 6) (.t 8)⟩,
  ⟨(some 12), none, .load (some 4) (.t 11)⟩,
  ⟨(some 5), none, .alloc 864080 33 [.bool false, .imm true 1 [], .bool false, .imm true 1 []]⟩,
  ⟨(some 4), none, .mv (.t 10)⟩,
  ⟨none, none, .store 4 (.t 5) (.t 12)⟩]
def c54_r4aQ : List AI := c54_r4a
theorem c54_r4a_e (G : Pure) (ic : Inl) (s : SL) : runL G ic c54_r4aQ s = runL G ic c54_r4a s := rfl
def c54_r5a : List AI := [⟨(some 13), none, .load (some 4) (.t 5)⟩,
  ⟨(some 14), none, .call 864224 40 [(.t 13)] false⟩,
  ⟨(some 15), none, .bin .neq (.t 14) (.c (.int .i64 0))⟩]
def c54_r5aQ : List AI := c54_r5a
theorem c54_r5a_e (G : Pure) (ic : Inl) (s : SL) : runL G ic c54_r5aQ s = runL G ic c54_r5a s := rfl
def c54_r6a : List AI := [⟨(some 16), none, .mv (.t 3)⟩,
  ⟨(some 17), none, .mv (.t 4)⟩,
  ⟨(some 18), none, .load (some 4) (.t 5)⟩,
  ⟨(some 19), none, .call 864304 45 [(.t 18)] false⟩,
  ⟨(some 20), none, .build [.int .i64 0, .bool false, .imm true 1 [], .bool false, .imm true 1 []] [(0, 1, (.t 17)), (1, 4, (.t 19))]⟩,
  ⟨(some 21), none, .bslice 51 5 1 [.int .i64 0, .bool false, .imm true 1 [], .bool false, .imm true 1 []] [(0, (.t 20))]⟩,
  ⟨(some 22), none, .app 864352 51 5 72 (.t 16) (.t 21)⟩,
  ⟨(some 3), none, .mv (.t 22)⟩]
def c54_r6aQ : List AI := c54_r6a
theorem c54_r6a_e (G : Pure) (ic : Inl) (s : SL) : runL G ic c54_r6aQ s = runL G ic c54_r6a s := rfl
def c54_r7a : List AI := [⟨(some 23), none, .bin .add (.t 8) (.c (.int .i64 1))⟩,
  ⟨(some 8), none, .mv (.t 23)⟩]
def c54_r7aQ : List AI := c54_r7a
theorem c54_r7a_e (G : Pure) (ic : Inl) (s : SL) : runL G ic c54_r7aQ s = runL G ic c54_r7a s := rfl
def c54_b0 : ACode := .seq (.reg [] c54_r3aQ []) (.seq (.cond (.t 9) (.skip) (.exit 0)) (.seq (.block none 1 (.seq (.reg [] c54_r4aQ []) (.seq (.reg [] c54_r5aQ []) (.cond (.t 15) (.reg [] c54_r6aQ []) (.skip))))) (.reg [] c54_r7aQ [])))
def c54_b0Q : ACode := c54_b0
theorem c54_b0_e (G : Pure) (ic : Inl) (n : Nat) (s : SL) : evalC G ic n c54_b0Q s = evalC G ic n c54_b0 s := rfl
def c54_k0 : Keep := { slots := [3, 6, 7, 8], drops := [864080], adopt := [] }
def c54_e0 : Keep := { slots := [3], drops := [864080] }
def c54_r8a : List AI := [⟨(some 24), none, .mv (.t 3)⟩,
  ⟨(some 2), none, .mv (.t 24)⟩]
def c54_r8aQ : List AI := c54_r8a
theorem c54_r8a_e (G : Pure) (ic : Inl) (s : SL) : runL G ic c54_r8aQ s = runL G ic c54_r8a s := rfl
def c54 : ACode := .seq (.reg [] c54_r0aQ []) (.seq (.reg [] c54_r1aQ []) (.seq (.seq (.reg [] c54_r2aQ []) (.block (some c54_e0) 0 (.loop c54_k0 c54_b0Q))) (.seq (.reg [] c54_r8aQ []) (.ret c54_kr))))
def c54F : AFun := { params := 1, code := c54, results := [.tmp 2] }
attribute [simp] c54_kr c54_r0a_e c54_r0a c54_r1a_e c54_r1a c54_r2a_e c54_r2a c54_r3a_e c54_r3a c54_r4a_e c54_r4a c54_r5a_e c54_r5a c54_r6a_e c54_r6a c54_r7a_e c54_r7a c54_b0_e c54_b0 c54_k0 c54_e0 c54_r8a_e c54_r8a c54 c54F
theorem c54_ok : IsFun Try.prog ks 54 c54F := by unfold IsFun; kernel_rfl
/-! pairing/pairingref1.Canon -/
def c55_kr : Option Keep := some { slots := [2], drops := [880016] }
def c55_r0a : List AI := [⟨(some 1), none, .box 880016 31 2 (.t 0)⟩,
  ⟨(some 2), none, .alloc 880032 31 [.bool false, .imm true 1 []]⟩]
def c55_r0aQ : List AI := c55_r0a
theorem c55_r0a_e (G : Pure) (ic : Inl) (s : SL) : runL G ic c55_r0aQ s = runL G ic c55_r0a s := rfl
def c55_r1a : List AI := [⟨(some 3), none, .faddr 0 (.t 1)⟩,
  ⟨(some 4), none, .load none (.t 3)⟩,
  ⟨(some 5), none, .faddr 1 (.t 1)⟩,
  ⟨(some 6), none, .load none (.t 5)⟩,
  ⟨(some 7), none, .call 880112 70 [(.t 4), (.t 6)] false⟩,
  ⟨none, none, .store 2 (.t 2) (.t 7)⟩]
def c55_r1aQ : List AI := c55_r1a
theorem c55_r1a_e (G : Pure) (ic : Inl) (s : SL) : runL G ic c55_r1aQ s = runL G ic c55_r1a s := rfl
def c55 : ACode := .seq (.reg [] c55_r0aQ []) (.seq (.reg [] c55_r1aQ []) (.ret c55_kr))
def c55F : AFun := { params := 1, code := c55, results := [.cell 2 (some 2)] }
attribute [simp] c55_kr c55_r0a_e c55_r0a c55_r1a_e c55_r1a c55 c55F
theorem c55_ok : IsFun Try.prog ks 55 c55F := by unfold IsFun; kernel_rfl
/-! pairing/pairingref1.one -/
def c56_kr : Option Keep := some { slots := [0], drops := [] }
def c56_r0a : List AI := [⟨(some 0), none, .alloc 896000 31 [.bool false, .imm true 1 []]⟩]
def c56_r0aQ : List AI := c56_r0a
theorem c56_r0a_e (G : Pure) (ic : Inl) (s : SL) : runL G ic c56_r0aQ s = runL G ic c56_r0a s := rfl
def c56_r1a : List AI := [⟨(some 1), none, .call 896016 61 [(.c (.int .i64 1))] false⟩,
  ⟨none, none, .store 2 (.t 0) (.t 1)⟩]
def c56_r1aQ : List AI := c56_r1a
theorem c56_r1a_e (G : Pure) (ic : Inl) (s : SL) : runL G ic c56_r1aQ s = runL G ic c56_r1a s := rfl
def c56 : ACode := .seq (.reg [] c56_r0aQ []) (.seq (.reg [] c56_r1aQ []) (.ret c56_kr))
def c56F : AFun := { params := 0, code := c56, results := [.cell 0 (some 2)] }
attribute [simp] c56_kr c56_r0a_e c56_r0a c56_r1a_e c56_r1a c56 c56F
theorem c56_ok : IsFun Try.prog ks 56 c56F := by unfold IsFun; kernel_rfl
/-! pairing/pairingref1.Negate -/
def c57_kr : Option Keep := some { slots := [2], drops := [912016] }
def c57_r0a : List AI := [⟨(some 1), none, .box 912016 31 2 (.t 0)⟩,
  ⟨(some 2), none, .alloc 912032 31 [.bool false, .imm true 1 []]⟩]
def c57_r0aQ : List AI := c57_r0a
theorem c57_r0a_e (G : Pure) (ic : Inl) (s : SL) : runL G ic c57_r0aQ s = runL G ic c57_r0a s := rfl
def c57_r1a : List AI := [⟨(some 3), none, .faddr 0 (.t 1)⟩,
  ⟨(some 4), none, .load none (.t 3)⟩,
  ⟨(some 5), none, .un .not (.t 4)⟩,
  ⟨(some 6), none, .faddr 1 (.t 1)⟩,
  ⟨(some 7), none, .load none (.t 6)⟩,
  ⟨(some 8), none, .call 912128 70 [(.t 5), (.t 7)] false⟩,
  ⟨none, none, .store 2 (.t 2) (.t 8)⟩]
def c57_r1aQ : List AI := c57_r1a
theorem c57_r1a_e (G : Pure) (ic : Inl) (s : SL) : runL G ic c57_r1aQ s = runL G ic c57_r1a s := rfl
def c57 : ACode := .seq (.reg [] c57_r0aQ []) (.seq (.reg [] c57_r1aQ []) (.ret c57_kr))
def c57F : AFun := { params := 1, code := c57, results := [.cell 2 (some 2)] }
attribute [simp] c57_kr c57_r0a_e c57_r0a c57_r1a_e c57_r1a c57 c57F
theorem c57_ok : IsFun Try.prog ks 57 c57F := by unfold IsFun; kernel_rfl
/-! pairing/pairingref1.GCD -/
def c58_kr : Option Keep := some { slots := [4], drops := [928032, 928048] }
def c58_r0a : List AI := [⟨(some 2), none, .box 928032 31 2 (.t 0)⟩,
  ⟨(some 3), none, .box 928048 31 2 (.t 1)⟩,
  ⟨(some 4), none, .alloc 928064 31 [.bool false, .imm true 1 []]⟩]
def c58_r0aQ : List AI := c58_r0a
theorem c58_r0a_e (G : Pure) (ic : Inl) (s : SL) : runL G ic c58_r0aQ s = runL G ic c58_r0a s := rfl
def c58_r1a : List AI := [⟨(some 9), none, .faddr 1 (.t 2)⟩,
  ⟨(some 10), none, .load none (.t 9)⟩,
  ⟨(some 11), none, .call 928176 74 [(.t 10)] false⟩,
  ⟨(some 12), none, .appn 928192 88 1 4 (.t 11)⟩,
  ⟨(some 13), none, .faddr 1 (.t 3)⟩,
  ⟨(some 14), none, .load none (.t 13)⟩,
  ⟨(some 15), none, .call 928240 74 [(.t 14)] false⟩,
  ⟨(some 16), none, .appn 928256 88 1 4 (.t 15)⟩,
  ⟨(some 5), none, .mv (.t 12)⟩,
  ⟨(some 6), none, .mv (.t 16)⟩]
def c58_r1aQ : List AI := c58_r1a
theorem c58_r1a_e (G : Pure) (ic : Inl) (s : SL) : runL G ic c58_r1aQ s = runL G ic c58_r1a s := rfl
theorem c58_r1a_l (G : Pure) (ic : Inl) (l : Logs) (s : SL) : logL G ic c58_r1aQ l s = logL G ic c58_r1a l s := rfl
def c58_r2a : List AI := [⟨(some 17), none, .mv (.t 6)⟩,
  ⟨(some 18), none, .len (.t 17)⟩,
  ⟨(some 19), none, .bin .gtr (.t 18) (.c (.int .i64 0))⟩]
def c58_r2aQ : List AI := c58_r2a
theorem c58_r2a_e (G : Pure) (ic : Inl) (s : SL) : runL G ic c58_r2aQ s = runL G ic c58_r2a s := rfl
def c58_r3a : List AI := [⟨(some 21), none, .mv (.t 5)⟩,
  ⟨(some 22), none, .mv (.t 6)⟩,
  ⟨(some 23), none, .call 928368 76 [(.t 21), (.t 22)] false⟩,
  ⟨(some 20), none, .mv (.t 23)⟩,
  ⟨(some 24), none, .extract (.t 20) 0⟩,
  ⟨(some 25), none, .extract (.t 20) 1⟩,
  ⟨(some 7), none, .mv (.t 24)⟩,
  ⟨(some 8), none, .mv (.t 25)⟩]
def c58_r3aQ : List AI := c58_r3a
theorem c58_r3a_e (G : Pure) (ic : Inl) (s : SL) : runL G ic c58_r3aQ s = runL G ic c58_r3a s := rfl
def c58_r4a : List AI := [⟨(some 26), none, .mv (.t 6)⟩,
  ⟨(some 27), none, .mv (.t 8)⟩,
  ⟨(some 5), none, .mv (.t 26)⟩,
  ⟨(some 6), none, .mv (.t 27)⟩]
def c58_r4aQ : List AI := c58_r4a
theorem c58_r4a_e (G : Pure) (ic : Inl) (s : SL) : runL G ic c58_r4aQ s = runL G ic c58_r4a s := rfl
def c58_b0 : ACode := .seq (.seq (.reg [] c58_r2aQ []) (.cond (.t 19) (.skip) (.exit 0))) (.block none 1 (.seq (.reg [] c58_r3aQ []) (.reg [] c58_r4aQ [])))
def c58_b0Q : ACode := c58_b0
theorem c58_b0_e (G : Pure) (ic : Inl) (n : Nat) (s : SL) : evalC G ic n c58_b0Q s = evalC G ic n c58_b0 s := rfl
def c58_k0 : Keep := { slots := [4, 5, 6], drops := [], adopt := [] }
def c58_e0 : Keep := { slots := [4, 5], drops := [] }
def c58_r5a : List AI := [⟨(some 28), none, .mv (.t 5)⟩,
  ⟨(some 29), none, .call 928464 70 [(.c (.bool false)), (.t 28)] false⟩,
  ⟨none, none, .store 2 (.t 4) (.t 29)⟩]
def c58_r5aQ : List AI := c58_r5a
theorem c58_r5a_e (G : Pure) (ic : Inl) (s : SL) : runL G ic c58_r5aQ s = runL G ic c58_r5a s := rfl
def c58 : ACode := .seq (.reg [] c58_r0aQ []) (.seq (.reg [(3, 5)] c58_r1aQ []) (.seq (.block (some c58_e0) 0 (.loop c58_k0 c58_b0Q)) (.seq (.reg [] c58_r5aQ []) (.ret c58_kr))))
def c58F : AFun := { params := 2, code := c58, results := [.cell 4 (some 2)] }
attribute [simp] c58_kr c58_r0a_e c58_r0a c58_r1a_e c58_r1a c58_r1a_l c58_r2a_e c58_r2a c58_r3a_e c58_r3a c58_r4a_e c58_r4a c58_b0_e c58_b0 c58_k0 c58_e0 c58_r5a_e c58_r5a c58 c58F
theorem c58_ok : IsFun Try.prog ks 58 c58F := by unfold IsFun; kernel_rfl
/-! pairing/pairingref1.DivMod -/
def c59_kr : Option Keep := some { slots := [4, 5, 6], drops := [944032, 944048, 944144, 944160] }
def c59_r0a : List AI := [⟨(some 2), none, .box 944032 31 2 (.t 0)⟩,
  ⟨(some 3), none, .box 944048 31 2 (.t 1)⟩,
  ⟨(some 4), none, .alloc 944064 31 [.bool false, .imm true 1 []]⟩,
  ⟨(some 5), none, .alloc 944080 31 [.bool false, .imm true 1 []]⟩,
  ⟨(some 6), none, .mv (.c (.int .i64 0))⟩]
def c59_r0aQ : List AI := c59_r0a
theorem c59_r0a_e (G : Pure) (ic : Inl) (s : SL) : runL G ic c59_r0aQ s = runL G ic c59_r0a s := rfl
def c59_r1a : List AI := [⟨(some 11), none, .load (some 2) (.t 2)⟩,
  ⟨(some 12), none, .call 944192 55 [(.t 11)] false⟩,
  ⟨(some 13), none, .load (some 2) (.t 3)⟩,
  ⟨(some 14), none, .call 944224 55 [(.t 13)] false⟩,
  ⟨none, none, .store 2 (.t 2) (.t 12)⟩,
  ⟨none, none, .store 2 (.t 3) (.t 14)⟩]
def c59_r1aQ : List AI := c59_r1a
theorem c59_r1a_e (G : Pure) (ic : Inl) (s : SL) : runL G ic c59_r1aQ s = runL G ic c59_r1a s := rfl
def c59_r2a : List AI := [⟨(some 15), none, .faddr 1 (.t 3)⟩,
  ⟨(some 16), none, .load none (.t 15)⟩,
  ⟨(some 17), none, .len (.t 16)⟩,
  ⟨(some 18), none, .bin .eql (.t 17) (.c (.int .i64 0))⟩]
def c59_r2aQ : List AI := c59_r2a
theorem c59_r2a_e (G : Pure) (ic : Inl) (s : SL) : runL G ic c59_r2aQ s = runL G ic c59_r2a s := rfl
def c59_r3a : List AI := [⟨(some 19), none, .build [.bool false, .imm true 1 []] []⟩,
  ⟨(some 20), none, .build [.bool false, .imm true 1 []] []⟩,
  ⟨none, none, .store 2 (.t 4) (.t 19)⟩,
  ⟨none, none, .store 2 (.t 5) (.t 20)⟩,
  ⟨(some 6), none, .mv (.c (.int .i64 11))⟩]
def c59_r3aQ : List AI := c59_r3a
theorem c59_r3a_e (G : Pure) (ic : Inl) (s : SL) : runL G ic c59_r3aQ s = runL G ic c59_r3a s := rfl
def c59_r4a : List AI := [⟨(some 22), none, .faddr 1 (.t 2)⟩,
  ⟨(some 23), none, .load none (.t 22)⟩,
  ⟨(some 24), none, .faddr 1 (.t 3)⟩,
  ⟨(some 25), none, .load none (.t 24)⟩,
  ⟨(some 26), none, .call 944416 76 [(.t 23), (.t 25)] false⟩,
  ⟨(some 21), none, .mv (.t 26)⟩,
  ⟨(some 27), none, .extract (.t 21) 0⟩,
  ⟨(some 28), none, .extract (.t 21) 1⟩,
  ⟨(some 7), none, .mv (.t 27)⟩,
  ⟨(some 8), none, .mv (.t 28)⟩]
def c59_r4aQ : List AI := c59_r4a
theorem c59_r4a_e (G : Pure) (ic : Inl) (s : SL) : runL G ic c59_r4aQ s = runL G ic c59_r4a s := rfl
def c59_r5a : List AI := [⟨(some 29), none, .faddr 0 (.t 2)⟩,
  ⟨(some 30), none, .load none (.t 29)⟩,
  ⟨(some 31), none, .faddr 0 (.t 3)⟩,
  ⟨(some 32), none, .load none (.t 31)⟩,
  ⟨(some 33), none, .binb .neq (.t 30) (.t 32)⟩,
  ⟨(some 34), none, .mv (.t 7)⟩,
  ⟨(some 35), none, .call 944560 70 [(.t 33), (.t 34)] false⟩,
  ⟨(some 36), none, .faddr 0 (.t 2)⟩,
  ⟨(some 37), none, .load none (.t 36)⟩,
  ⟨(some 38), none, .mv (.t 8)⟩,
  ⟨(some 39), none, .call 944624 70 [(.t 37), (.t 38)] false⟩,
  ⟨(some 9), none, .alloc 944144 31 [.bool false, .imm true 1 []]⟩,
  ⟨(some 10), none, .alloc 944160 31 [.bool false, .imm true 1 []]⟩,
  ⟨none, none, .store 2 (.t 9) (.t 35)⟩,
  ⟨none, none, .store 2 (.t 10) (.t 39)⟩]
def c59_r5aQ : List AI := c59_r5a
theorem c59_r5a_e (G : Pure) (ic : Inl) (s : SL) : runL G ic c59_r5aQ s = runL G ic c59_r5a s := rfl
theorem c59_r5a_l (G : Pure) (ic : Inl) (l : Logs) (s : SL) : logL G ic c59_r5aQ l s = logL G ic c59_r5a l s := rfl
def c59_r6a : List AI := [⟨(some 40), none, .faddr 1 (.t 10)⟩,
  ⟨(some 41), none, .load none (.t 40)⟩,
  ⟨(some 42), none, .len (.t 41)⟩,
  ⟨(some 43), none, .bin .gtr (.t 42) (.c (.int .i64 0))⟩,
  ⟨(some 44), none, .mv (.t 43)⟩,
  ⟨(some 45), (some (44, true)), .faddr 0 (.t 2)⟩,
  ⟨(some 46), (some (44, true)), .load none (.t 45)⟩,
  ⟨(some 47), (some (44, true)), .faddr 0 (.t 3)⟩,
  ⟨(some 48), (some (44, true)), .load none (.t 47)⟩,
  ⟨(some 49), (some (44, true)), .binb .neq (.t 46) (.t 48)⟩,
  ⟨(some 50), none, .pick (.t 44) (.t 49) (.c (.bool false))⟩]
def c59_r6aQ : List AI := c59_r6a
theorem c59_r6a_e (G : Pure) (ic : Inl) (s : SL) : runL G ic c59_r6aQ s = runL G ic c59_r6a s := rfl
def c59_r7a : List AI := [⟨(some 51), none, .load (some 2) (.t 9)⟩,
  ⟨(some 52), none, .call 944832 61 [(.c (.int .i64 1))] false⟩,
  ⟨(some 53), none, .call 944848 77 [(.t 51), (.t 52)] false⟩,
  ⟨(some 54), none, .load (some 2) (.t 10)⟩,
  ⟨(some 55), none, .load (some 2) (.t 3)⟩,
  ⟨(some 56), none, .call 944896 49 [(.t 54), (.t 55)] false⟩,
  ⟨none, none, .store 2 (.t 9) (.t 53)⟩,
  ⟨none, none, .store 2 (.t 10) (.t 56)⟩]
def c59_r7aQ : List AI := c59_r7a
theorem c59_r7a_e (G : Pure) (ic : Inl) (s : SL) : runL G ic c59_r7aQ s = runL G ic c59_r7a s := rfl
def c59_r8a : List AI := [⟨(some 57), none, .load (some 2) (.t 9)⟩,
  ⟨(some 58), none, .load (some 2) (.t 10)⟩,
  ⟨none, none, .store 2 (.t 4) (.t 57)⟩,
  ⟨none, none, .store 2 (.t 5) (.t 58)⟩,
  ⟨(some 6), none, .mv (.c (.int .i64 0))⟩]
def c59_r8aQ : List AI := c59_r8a
theorem c59_r8a_e (G : Pure) (ic : Inl) (s : SL) : runL G ic c59_r8aQ s = runL G ic c59_r8a s := rfl
theorem c59_r8a_l (G : Pure) (ic : Inl) (l : Logs) (s : SL) : logL G ic c59_r8aQ l s = logL G ic c59_r8a l s := rfl
def c59 : ACode := .seq (.reg [] c59_r0aQ []) (.seq (.reg [] c59_r1aQ []) (.seq (.seq (.reg [] c59_r2aQ []) (.cond (.t 18) (.seq (.reg [] c59_r3aQ []) (.ret c59_kr)) (.skip))) (.seq (.reg [] c59_r4aQ []) (.seq (.reg [(1, 11), (3, 11), (6, 11), (8, 11), (10, 11), (1, 12), (3, 12), (6, 12), (8, 12), (10, 12), (11, 12)] c59_r5aQ []) (.seq (.seq (.reg [] c59_r6aQ []) (.cond (.t 50) (.reg [] c59_r7aQ []) (.skip))) (.seq (.reg [(1, 2)] c59_r8aQ []) (.ret c59_kr)))))))
def c59F : AFun := { params := 2, code := c59, results := [.cell 4 (some 2), .cell 5 (some 2), .tmp 6] }
attribute [simp] c59_kr c59_r0a_e c59_r0a c59_r1a_e c59_r1a c59_r2a_e c59_r2a c59_r3a_e c59_r3a c59_r4a_e c59_r4a c59_r5a_e c59_r5a c59_r5a_l c59_r6a_e c59_r6a c59_r7a_e c59_r7a c59_r8a_e c59_r8a c59_r8a_l c59 c59F
theorem c59_ok : IsFun Try.prog ks 59 c59F := by unfold IsFun; kernel_rfl
/-! pairing/pairingref1.FromInt -/
def c60_kr : Option Keep := some { slots := [2], drops := [960016] }
def c60_r0a : List AI := [⟨(some 1), none, .box 960016 31 2 (.t 0)⟩,
  ⟨(some 2), none, .alloc 960032 33 [.bool false, .imm true 1 [], .bool false, .imm true 1 []]⟩]
def c60_r0aQ : List AI := c60_r0a
theorem c60_r0a_e (G : Pure) (ic : Inl) (s : SL) : runL G ic c60_r0aQ s = runL G ic c60_r0a s := rfl
def c60_r1a : List AI := [⟨(some 3), none, .load (some 2) (.t 1)⟩,
  ⟨(some 4), none, .call 960064 56 [] false⟩,
  ⟨(some 5), none, .build [.bool false, .imm true 1 [], .bool false, .imm true 1 []] [(0, 2, (.t 3)), (2, 2, (.t 4))]⟩,
  ⟨(some 6), none, .call 960096 28 [(.t 5)] false⟩,
  ⟨none, none, .store 4 (.t 2) (.t 6)⟩]
def c60_r1aQ : List AI := c60_r1a
theorem c60_r1a_e (G : Pure) (ic : Inl) (s : SL) : runL G ic c60_r1aQ s = runL G ic c60_r1a s := rfl
def c60 : ACode := .seq (.reg [] c60_r0aQ []) (.seq (.reg [] c60_r1aQ []) (.ret c60_kr))
def c60F : AFun := { params := 1, code := c60, results := [.cell 2 (some 4)] }
attribute [simp] c60_kr c60_r0a_e c60_r0a c60_r1a_e c60_r1a c60 c60F
theorem c60_ok : IsFun Try.prog ks 60 c60F := by unfold IsFun; kernel_rfl
/-! pairing/pairingref1.FromInt64 -/
def c61_kr : Option Keep := some { slots := [2], drops := [] }
def c61_r0a : List AI := [⟨(some 2), none, .alloc 976032 31 [.bool false, .imm true 1 []]⟩]
def c61_r0aQ : List AI := c61_r0a
theorem c61_r0a_e (G : Pure) (ic : Inl) (s : SL) : runL G ic c61_r0aQ s = runL G ic c61_r0a s := rfl
def c61_r1a : List AI := [⟨(some 4), none, .mv (.t 0)⟩,
  ⟨(some 5), none, .conv .u64 (.t 4)⟩,
  ⟨(some 3), none, .mv (.t 5)⟩]
def c61_r1aQ : List AI := c61_r1a
theorem c61_r1a_e (G : Pure) (ic : Inl) (s : SL) : runL G ic c61_r1aQ s = runL G ic c61_r1a s := rfl
def c61_r2a : List AI := [⟨(some 6), none, .mv (.t 0)⟩,
  ⟨(some 7), none, .bin .lss (.t 6) (.c (.int .i64 0))⟩]
def c61_r2aQ : List AI := c61_r2a
theorem c61_r2a_e (G : Pure) (ic : Inl) (s : SL) : runL G ic c61_r2aQ s = runL G ic c61_r2a s := rfl
def c61_r3a : List AI := [⟨(some 8), none, .mv (.t 3)⟩,
  ⟨(some 9), none, .un .neg (.t 8)⟩,
  ⟨(some 3), none, .mv (.t 9)⟩]
def c61_r3aQ : List AI := c61_r3a
theorem c61_r3a_e (G : Pure) (ic : Inl) (s : SL) : runL G ic c61_r3aQ s = runL G ic c61_r3a s := rfl
def c61_r4a : List AI := [⟨(some 10), none, .mv (.t 0)⟩,
  ⟨(some 11), none, .bin .lss (.t 10) (.c (.int .i64 0))⟩,
  ⟨(some 12), none, .mv (.t 3)⟩,
  ⟨(some 13), none, .conv .u32 (.t 12)⟩,
  ⟨(some 14), none, .mv (.t 3)⟩,
  ⟨(some 15), none, .bin .shr (.t 14) (.c (.int .u64 32))⟩,
  ⟨(some 16), none, .conv .u32 (.t 15)⟩,
  ⟨(some 17), none, .bslice 88 1 2 [.int .u32 0] [(0, (.t 13)), (1, (.t 16))]⟩,
  ⟨(some 18), none, .call 976288 70 [(.t 11), (.t 17)] false⟩,
  ⟨none, none, .store 2 (.t 2) (.t 18)⟩]
def c61_r4aQ : List AI := c61_r4a
theorem c61_r4a_e (G : Pure) (ic : Inl) (s : SL) : runL G ic c61_r4aQ s = runL G ic c61_r4a s := rfl
def c61 : ACode := .seq (.reg [] c61_r0aQ []) (.seq (.reg [] c61_r1aQ []) (.seq (.seq (.reg [] c61_r2aQ []) (.cond (.t 7) (.reg [] c61_r3aQ []) (.skip))) (.seq (.reg [] c61_r4aQ []) (.ret c61_kr))))
def c61F : AFun := { params := 1, code := c61, results := [.cell 2 (some 2)] }
attribute [simp] c61_kr c61_r0a_e c61_r0a c61_r1a_e c61_r1a c61_r2a_e c61_r2a c61_r3a_e c61_r3a c61_r4a_e c61_r4a c61 c61F
theorem c61_ok : IsFun Try.prog ks 61 c61F := by unfold IsFun; kernel_rfl
/-! pairing/rational.parts -/
def c62_kr : Option Keep := some { slots := [2, 3], drops := [992016] }
def c62_r0a : List AI := [⟨(some 1), none, .box 992016 33 4 (.t 0)⟩,
  ⟨(some 2), none, .alloc 992032 31 [.bool false, .imm true 1 []]⟩,
  ⟨(some 3), none, .alloc 992048 31 [.bool false, .imm true 1 []]⟩]
def c62_r0aQ : List AI := c62_r0a
theorem c62_r0a_e (G : Pure) (ic : Inl) (s : SL) : runL G ic c62_r0aQ s = runL G ic c62_r0a s := rfl
def c62_r1a : List AI := [⟨(some 4), none, .faddr 2 (.t 1)⟩,
  ⟨(some 5), none, .load (some 2) (.t 4)⟩,
  ⟨(some 6), none, .call 992096 63 [(.t 5)] false⟩,
  ⟨(some 7), none, .bin .eql (.t 6) (.c (.int .i64 0))⟩]
def c62_r1aQ : List AI := c62_r1a
theorem c62_r1a_e (G : Pure) (ic : Inl) (s : SL) : runL G ic c62_r1aQ s = runL G ic c62_r1a s := rfl
def c62_r2a : List AI := [⟨(some 8), none, .build [.bool false, .imm true 1 []] []⟩,
  ⟨(some 9), none, .call 992144 78 [] false⟩,
  ⟨none, none, .store 2 (.t 2) (.t 8)⟩,
  ⟨none, none, .store 2 (.t 3) (.t 9)⟩]
def c62_r2aQ : List AI := c62_r2a
theorem c62_r2a_e (G : Pure) (ic : Inl) (s : SL) : runL G ic c62_r2aQ s = runL G ic c62_r2a s := rfl
def c62_r3a : List AI := [⟨(some 10), none, .faddr 2 (.t 1)⟩,
  ⟨(some 11), none, .load (some 2) (.t 10)⟩,
  ⟨(some 12), none, .call 992192 63 [(.t 11)] false⟩,
  ⟨(some 13), none, .bin .lss (.t 12) (.c (.int .i64 0))⟩]
def c62_r3aQ : List AI := c62_r3a
theorem c62_r3a_e (G : Pure) (ic : Inl) (s : SL) : runL G ic c62_r3aQ s = runL G ic c62_r3a s := rfl
def c62_r4a : List AI := [⟨(some 14), none, .faddr 0 (.t 1)⟩,
  ⟨(some 15), none, .load (some 2) (.t 14)⟩,
  ⟨(some 16), none, .call 992256 79 [(.t 15)] false⟩,
  ⟨(some 17), none, .faddr 2 (.t 1)⟩,
  ⟨(some 18), none, .load (some 2) (.t 17)⟩,
  ⟨(some 19), none, .call 992304 79 [(.t 18)] false⟩,
  ⟨none, none, .store 2 (.t 2) (.t 16)⟩,
  ⟨none, none, .store 2 (.t 3) (.t 19)⟩]
def c62_r4aQ : List AI := c62_r4a
theorem c62_r4a_e (G : Pure) (ic : Inl) (s : SL) : runL G ic c62_r4aQ s = runL G ic c62_r4a s := rfl
def c62_r5a : List AI := [⟨(some 20), none, .faddr 0 (.t 1)⟩,
  ⟨(some 21), none, .load (some 2) (.t 20)⟩,
  ⟨(some 22), none, .faddr 2 (.t 1)⟩,
  ⟨(some 23), none, .load (some 2) (.t 22)⟩,
  ⟨none, none, .store 2 (.t 2) (.t 21)⟩,
  ⟨none, none, .store 2 (.t 3) (.t 23)⟩]
def c62_r5aQ : List AI := c62_r5a
theorem c62_r5a_e (G : Pure) (ic : Inl) (s : SL) : runL G ic c62_r5aQ s = runL G ic c62_r5a s := rfl
theorem c62_r5a_l (G : Pure) (ic : Inl) (l : Logs) (s : SL) : logL G ic c62_r5aQ l s = logL G ic c62_r5a l s := rfl
def c62 : ACode := .seq (.reg [] c62_r0aQ []) (.seq (.seq (.reg [] c62_r1aQ []) (.cond (.t 7) (.seq (.reg [] c62_r2aQ []) (.ret c62_kr)) (.skip))) (.seq (.seq (.reg [] c62_r3aQ []) (.cond (.t 13) (.seq (.reg [] c62_r4aQ []) (.ret c62_kr)) (.skip))) (.seq (.reg [(3, 4)] c62_r5aQ []) (.ret c62_kr))))
def c62F : AFun := { params := 1, code := c62, results := [.cell 2 (some 2), .cell 3 (some 2)] }
attribute [simp] c62_kr c62_r0a_e c62_r0a c62_r1a_e c62_r1a c62_r2a_e c62_r2a c62_r3a_e c62_r3a c62_r4a_e c62_r4a c62_r5a_e c62_r5a c62_r5a_l c62 c62F
theorem c62_ok : IsFun Try.prog ks 62 c62F := by unfold IsFun; kernel_rfl
/-! pairing/integer.Sign -/
def c63_kr : Option Keep := some { slots := [2], drops := [1008016] }
def c63_r0a : List AI := [⟨(some 1), none, .box 1008016 31 2 (.t 0)⟩,
  ⟨(some 2), none, .mv (.c (.int .i64 0))⟩]
def c63_r0aQ : List AI := c63_r0a
theorem c63_r0a_e (G : Pure) (ic : Inl) (s : SL) : runL G ic c63_r0aQ s = runL G ic c63_r0a s := rfl
def c63_r1a : List AI := [⟨(some 4), none, .load (some 2) (.t 1)⟩,
  ⟨(some 5), none, .call 1008080 80 [(.t 4)] false⟩,
  ⟨(some 6), none, .len (.t 5)⟩,
  ⟨(some 7), none, .bin .eql (.t 6) (.c (.int .i64 0))⟩,
  ⟨(some 3), none, .mv (.t 7)⟩]
def c63_r1aQ : List AI := c63_r1a
theorem c63_r1a_e (G : Pure) (ic : Inl) (s : SL) : runL G ic c63_r1aQ s = runL G ic c63_r1a s := rfl
def c63_r2a : List AI := [⟨(some 2), none, .mv (.c (.int .i64 0))⟩]
def c63_r2aQ : List AI := c63_r2a
theorem c63_r2a_e (G : Pure) (ic : Inl) (s : SL) : runL G ic c63_r2aQ s = runL G ic c63_r2a s := rfl
def c63_r3a : List AI := [⟨(some 9), none, .faddr 0 (.t 1)⟩,
  ⟨(some 10), none, .load none (.t 9)⟩,
  ⟨(some 8), none, .mv (.t 10)⟩]
def c63_r3aQ : List AI := c63_r3a
theorem c63_r3a_e (G : Pure) (ic : Inl) (s : SL) : runL G ic c63_r3aQ s = runL G ic c63_r3a s := rfl
def c63_r4a : List AI := [⟨(some 2), none, .mv (.c (.int .i64 (-1)))⟩]
def c63_r4aQ : List AI := c63_r4a
theorem c63_r4a_e (G : Pure) (ic : Inl) (s : SL) : runL G ic c63_r4aQ s = runL G ic c63_r4a s := rfl
def c63_r5a : List AI := [⟨(some 2), none, .mv (.c (.int .i64 1))⟩]
def c63_r5aQ : List AI := c63_r5a
theorem c63_r5a_e (G : Pure) (ic : Inl) (s : SL) : runL G ic c63_r5aQ s = runL G ic c63_r5a s := rfl
def c63 : ACode := .seq (.reg [] c63_r0aQ []) (.seq (.block none 0 (.seq (.reg [] c63_r1aQ []) (.cond (.t 3) (.seq (.reg [] c63_r2aQ []) (.ret c63_kr)) (.seq (.reg [] c63_r3aQ []) (.cond (.t 8) (.seq (.reg [] c63_r4aQ []) (.ret c63_kr)) (.skip)))))) (.seq (.reg [] c63_r5aQ []) (.ret c63_kr)))
def c63F : AFun := { params := 1, code := c63, results := [.tmp 2] }
attribute [simp] c63_kr c63_r0a_e c63_r0a c63_r1a_e c63_r1a c63_r2a_e c63_r2a c63_r3a_e c63_r3a c63_r4a_e c63_r4a c63_r5a_e c63_r5a c63 c63F
theorem c63_ok : IsFun Try.prog ks 63 c63F := by unfold IsFun; kernel_rfl
/-! pairing/pairingref1.Sign -/
def c64_kr : Option Keep := some { slots := [2], drops := [1024016] }
def c64_r0a : List AI := [⟨(some 1), none, .box 1024016 31 2 (.t 0)⟩,
  ⟨(some 2), none, .mv (.c (.int .i64 0))⟩]
def c64_r0aQ : List AI := c64_r0a
theorem c64_r0a_e (G : Pure) (ic : Inl) (s : SL) : runL G ic c64_r0aQ s = runL G ic c64_r0a s := rfl
def c64_r1a : List AI := [⟨(some 3), none, .load (some 2) (.t 1)⟩,
  ⟨(some 4), none, .build [.bool false, .imm true 1 []] []⟩,
  ⟨(some 5), none, .call 1024080 81 [(.t 3), (.t 4)] false⟩,
  ⟨(some 2), none, .mv (.t 5)⟩]
def c64_r1aQ : List AI := c64_r1a
theorem c64_r1a_e (G : Pure) (ic : Inl) (s : SL) : runL G ic c64_r1aQ s = runL G ic c64_r1a s := rfl
def c64 : ACode := .seq (.reg [] c64_r0aQ []) (.seq (.reg [] c64_r1aQ []) (.ret c64_kr))
def c64F : AFun := { params := 1, code := c64, results := [.tmp 2] }
attribute [simp] c64_kr c64_r0a_e c64_r0a c64_r1a_e c64_r1a c64 c64F
theorem c64_ok : IsFun Try.prog ks 64 c64F := by unfold IsFun; kernel_rfl
/-! pairing/rational.reduced -/
def c65_kr : Option Keep := some { slots := [4], drops := [1040032, 1040048, 1040080, 1040096, 1040112, 1040144, 1040160] }
def c65_r0a : List AI := [⟨(some 2), none, .box 1040032 31 2 (.t 0)⟩,
  ⟨(some 3), none, .box 1040048 31 2 (.t 1)⟩,
  ⟨(some 4), none, .alloc 1040064 33 [.bool false, .imm true 1 [], .bool false, .imm true 1 []]⟩]
def c65_r0aQ : List AI := c65_r0a
theorem c65_r0a_e (G : Pure) (ic : Inl) (s : SL) : runL G ic c65_r0aQ s = runL G ic c65_r0a s := rfl
def c65_r1a : List AI := [⟨(some 12), none, .load (some 2) (.t 2)⟩,
  ⟨(some 13), none, .call 1040208 63 [(.t 12)] false⟩,
  ⟨(some 14), none, .bin .eql (.t 13) (.c (.int .i64 0))⟩,
  ⟨(some 15), none, .mv (.t 14)⟩,
  ⟨(some 16), (some (15, false)), .load (some 2) (.t 3)⟩,
  ⟨(some 17), (some (15, false)), .call 1040272 63 [(.t 16)] false⟩,
  ⟨(some 18), (some (15, false)), .bin .eql (.t 17) (.c (.int .i64 0))⟩,
  ⟨(some 19), none, .pick (.t 15) (.c (.bool true)) (.t 18)⟩]
def c65_r1aQ : List AI := c65_r1a
theorem c65_r1a_e (G : Pure) (ic : Inl) (s : SL) : runL G ic c65_r1aQ s = runL G ic c65_r1a s := rfl
def c65_r2a : List AI := [⟨(some 20), none, .call 1040320 78 [] false⟩,
  ⟨(some 21), none, .build [.bool false, .imm true 1 [], .bool false, .imm true 1 []] [(2, 2, (.t 20))]⟩,
  ⟨none, none, .store 4 (.t 4) (.t 21)⟩]
def c65_r2aQ : List AI := c65_r2a
theorem c65_r2a_e (G : Pure) (ic : Inl) (s : SL) : runL G ic c65_r2aQ s = runL G ic c65_r2a s := rfl
def c65_r3a : List AI := [⟨(some 22), none, .load (some 2) (.t 2)⟩,
  ⟨(some 23), none, .load (some 2) (.t 3)⟩,
  ⟨(some 24), none, .call 1040384 82 [(.t 22), (.t 23)] false⟩,
  ⟨(some 5), none, .alloc 1040080 31 [.bool false, .imm true 1 []]⟩,
  ⟨none, none, .store 2 (.t 5) (.t 24)⟩]
def c65_r3aQ : List AI := c65_r3a
theorem c65_r3a_e (G : Pure) (ic : Inl) (s : SL) : runL G ic c65_r3aQ s = runL G ic c65_r3a s := rfl
def c65_r4a : List AI := [⟨(some 25), none, .load (some 2) (.t 3)⟩,
  ⟨(some 26), none, .call 1040416 63 [(.t 25)] false⟩,
  ⟨(some 27), none, .bin .lss (.t 26) (.c (.int .i64 0))⟩]
def c65_r4aQ : List AI := c65_r4a
theorem c65_r4a_e (G : Pure) (ic : Inl) (s : SL) : runL G ic c65_r4aQ s = runL G ic c65_r4a s := rfl
def c65_r5a : List AI := [⟨(some 28), none, .load (some 2) (.t 5)⟩,
  ⟨(some 29), none, .call 1040464 79 [(.t 28)] false⟩,
  ⟨none, none, .store 2 (.t 5) (.t 29)⟩]
def c65_r5aQ : List AI := c65_r5a
theorem c65_r5a_e (G : Pure) (ic : Inl) (s : SL) : runL G ic c65_r5aQ s = runL G ic c65_r5a s := rfl
def c65_r6a : List AI := [⟨(some 31), none, .load (some 2) (.t 2)⟩,
  ⟨(some 32), none, .load (some 2) (.t 5)⟩,
  ⟨(some 33), none, .call 1040528 83 [(.t 31), (.t 32)] false⟩,
  ⟨(some 30), none, .mv (.t 33)⟩,
  ⟨(some 34), none, .extract (.t 30) 0⟩,
  ⟨(some 35), none, .extract (.t 30) 1⟩,
  ⟨(some 36), none, .extract (.t 30) 2⟩,
  ⟨(some 6), none, .alloc 1040096 31 [.bool false, .imm true 1 []]⟩,
  ⟨(some 7), none, .alloc 1040112 31 [.bool false, .imm true 1 []]⟩,
  ⟨none, none, .store 2 (.t 6) (.t 34)⟩,
  ⟨none, none, .store 2 (.t 7) (.t 35)⟩,
  ⟨(some 8), none, .mv (.t 36)⟩]
def c65_r6aQ : List AI := c65_r6a
theorem c65_r6a_e (G : Pure) (ic : Inl) (s : SL) : runL G ic c65_r6aQ s = runL G ic c65_r6a s := rfl
def c65_r7a : List AI := [⟨(some 38), none, .load (some 2) (.t 3)⟩,
  ⟨(some 39), none, .load (some 2) (.t 5)⟩,
  ⟨(some 40), none, .call 1040640 83 [(.t 38), (.t 39)] false⟩,
  ⟨(some 37), none, .mv (.t 40)⟩,
  ⟨(some 41), none, .extract (.t 37) 0⟩,
  ⟨(some 42), none, .extract (.t 37) 1⟩,
  ⟨(some 43), none, .extract (.t 37) 2⟩,
  ⟨(some 9), none, .alloc 1040144 31 [.bool false, .imm true 1 []]⟩,
  ⟨(some 10), none, .alloc 1040160 31 [.bool false, .imm true 1 []]⟩,
  ⟨none, none, .store 2 (.t 9) (.t 41)⟩,
  ⟨none, none, .store 2 (.t 10) (.t 42)⟩,
  ⟨(some 11), none, .mv (.t 43)⟩]
def c65_r7aQ : List AI := c65_r7a
theorem c65_r7a_e (G : Pure) (ic : Inl) (s : SL) : runL G ic c65_r7aQ s = runL G ic c65_r7a s := rfl
def c65_r8a : List AI := [⟨(some 44), none, .load (some 2) (.t 6)⟩,
  ⟨(some 45), none, .load (some 2) (.t 9)⟩,
  ⟨(some 46), none, .build [.bool false, .imm true 1 [], .bool false, .imm true 1 []] [(0, 2, (.t 44)), (2, 2, (.t 45))]⟩,
  ⟨none, none, .store 4 (.t 4) (.t 46)⟩]
def c65_r8aQ : List AI := c65_r8a
theorem c65_r8a_e (G : Pure) (ic : Inl) (s : SL) : runL G ic c65_r8aQ s = runL G ic c65_r8a s := rfl
def c65 : ACode := .seq (.reg [] c65_r0aQ []) (.seq (.seq (.reg [] c65_r1aQ []) (.cond (.t 19) (.seq (.reg [] c65_r2aQ []) (.ret c65_kr)) (.skip))) (.seq (.reg [] c65_r3aQ []) (.seq (.seq (.reg [] c65_r4aQ []) (.cond (.t 27) (.reg [] c65_r5aQ []) (.skip))) (.seq (.reg [] c65_r6aQ []) (.seq (.reg [] c65_r7aQ []) (.seq (.reg [] c65_r8aQ []) (.ret c65_kr)))))))
def c65F : AFun := { params := 2, code := c65, results := [.cell 4 (some 4)] }
attribute [simp] c65_kr c65_r0a_e c65_r0a c65_r1a_e c65_r1a c65_r2a_e c65_r2a c65_r3a_e c65_r3a c65_r4a_e c65_r4a c65_r5a_e c65_r5a c65_r6a_e c65_r6a c65_r7a_e c65_r7a c65_r8a_e c65_r8a c65 c65F
theorem c65_ok : IsFun Try.prog ks 65 c65F := by unfold IsFun; kernel_rfl
/-! pairing/integer.Mul -/
def c66_kr : Option Keep := some { slots := [4], drops := [1056032, 1056048] }
def c66_r0a : List AI := [⟨(some 2), none, .box 1056032 31 2 (.t 0)⟩,
  ⟨(some 3), none, .box 1056048 31 2 (.t 1)⟩,
  ⟨(some 4), none, .alloc 1056064 31 [.bool false, .imm true 1 []]⟩]
def c66_r0aQ : List AI := c66_r0a
theorem c66_r0a_e (G : Pure) (ic : Inl) (s : SL) : runL G ic c66_r0aQ s = runL G ic c66_r0a s := rfl
def c66_r1a : List AI := [⟨(some 5), none, .faddr 0 (.t 2)⟩,
  ⟨(some 6), none, .load none (.t 5)⟩,
  ⟨(some 7), none, .faddr 0 (.t 3)⟩,
  ⟨(some 8), none, .load none (.t 7)⟩,
  ⟨(some 9), none, .binb .neq (.t 6) (.t 8)⟩,
  ⟨(some 10), none, .load (some 2) (.t 2)⟩,
  ⟨(some 11), none, .call 1056176 80 [(.t 10)] false⟩,
  ⟨(some 12), none, .load (some 2) (.t 3)⟩,
  ⟨(some 13), none, .call 1056208 80 [(.t 12)] false⟩,
  ⟨(some 14), none, .call 1056224 85 [(.t 11), (.t 13)] false⟩,
  ⟨(some 15), none, .call 1056240 84 [(.t 9), (.t 14)] false⟩,
  ⟨none, none, .store 2 (.t 4) (.t 15)⟩]
def c66_r1aQ : List AI := c66_r1a
theorem c66_r1a_e (G : Pure) (ic : Inl) (s : SL) : runL G ic c66_r1aQ s = runL G ic c66_r1a s := rfl
def c66 : ACode := .seq (.reg [] c66_r0aQ []) (.seq (.reg [] c66_r1aQ []) (.ret c66_kr))
def c66F : AFun := { params := 2, code := c66, results := [.cell 4 (some 2)] }
attribute [simp] c66_kr c66_r0a_e c66_r0a c66_r1a_e c66_r1a c66 c66F
theorem c66_ok : IsFun Try.prog ks 66 c66F := by unfold IsFun; kernel_rfl
/-! pairing/integer.Add -/
def c67_kr : Option Keep := some { slots := [4], drops := [1072032, 1072048] }
def c67_r0a : List AI := [⟨(some 2), none, .box 1072032 31 2 (.t 0)⟩,
  ⟨(some 3), none, .box 1072048 31 2 (.t 1)⟩,
  ⟨(some 4), none, .alloc 1072064 31 [.bool false, .imm true 1 []]⟩]
def c67_r0aQ : List AI := c67_r0a
theorem c67_r0a_e (G : Pure) (ic : Inl) (s : SL) : runL G ic c67_r0aQ s = runL G ic c67_r0a s := rfl
def c67_r1a : List AI := [⟨(some 5), none, .load (some 2) (.t 2)⟩,
  ⟨(some 6), none, .load (some 2) (.t 3)⟩,
  ⟨(some 7), none, .faddr 0 (.t 3)⟩,
  ⟨(some 8), none, .load none (.t 7)⟩,
  ⟨(some 9), none, .call 1072144 86 [(.t 5), (.t 6), (.t 8)] false⟩,
  ⟨none, none, .store 2 (.t 4) (.t 9)⟩]
def c67_r1aQ : List AI := c67_r1a
theorem c67_r1a_e (G : Pure) (ic : Inl) (s : SL) : runL G ic c67_r1aQ s = runL G ic c67_r1a s := rfl
def c67 : ACode := .seq (.reg [] c67_r0aQ []) (.seq (.reg [] c67_r1aQ []) (.ret c67_kr))
def c67F : AFun := { params := 2, code := c67, results := [.cell 4 (some 2)] }
attribute [simp] c67_kr c67_r0a_e c67_r0a c67_r1a_e c67_r1a c67 c67F
theorem c67_ok : IsFun Try.prog ks 67 c67F := by unfold IsFun; kernel_rfl
/-! pairing/rational.FromInt -/
def c68_kr : Option Keep := some { slots := [2], drops := [1088016] }
def c68_r0a : List AI := [⟨(some 1), none, .box 1088016 31 2 (.t 0)⟩,
  ⟨(some 2), none, .alloc 1088032 33 [.bool false, .imm true 1 [], .bool false, .imm true 1 []]⟩]
def c68_r0aQ : List AI := c68_r0a
theorem c68_r0a_e (G : Pure) (ic : Inl) (s : SL) : runL G ic c68_r0aQ s = runL G ic c68_r0a s := rfl
def c68_r1a : List AI := [⟨(some 3), none, .load (some 2) (.t 1)⟩,
  ⟨(some 4), none, .call 1088064 78 [] false⟩,
  ⟨(some 5), none, .call 1088080 65 [(.t 3), (.t 4)] false⟩,
  ⟨none, none, .store 4 (.t 2) (.t 5)⟩]
def c68_r1aQ : List AI := c68_r1a
theorem c68_r1a_e (G : Pure) (ic : Inl) (s : SL) : runL G ic c68_r1aQ s = runL G ic c68_r1a s := rfl
def c68 : ACode := .seq (.reg [] c68_r0aQ []) (.seq (.reg [] c68_r1aQ []) (.ret c68_kr))
def c68F : AFun := { params := 1, code := c68, results := [.cell 2 (some 4)] }
attribute [simp] c68_kr c68_r0a_e c68_r0a c68_r1a_e c68_r1a c68 c68F
theorem c68_ok : IsFun Try.prog ks 68 c68F := by unfold IsFun; kernel_rfl
/-! pairing/integer.FromInt64 -/
def c69_kr : Option Keep := some { slots := [2], drops := [] }
def c69_r0a : List AI := [⟨(some 2), none, .alloc 1104032 31 [.bool false, .imm true 1 []]⟩]
def c69_r0aQ : List AI := c69_r0a
theorem c69_r0a_e (G : Pure) (ic : Inl) (s : SL) : runL G ic c69_r0aQ s = runL G ic c69_r0a s := rfl
def c69_r1a : List AI := [⟨(some 4), none, .mv (.t 0)⟩,
  ⟨(some 5), none, .conv .u64 (.t 4)⟩,
  ⟨(some 3), none, .mv (.t 5)⟩]
def c69_r1aQ : List AI := c69_r1a
theorem c69_r1a_e (G : Pure) (ic : Inl) (s : SL) : runL G ic c69_r1aQ s = runL G ic c69_r1a s := rfl
def c69_r2a : List AI := [⟨(some 6), none, .mv (.t 0)⟩,
  ⟨(some 7), none, .bin .lss (.t 6) (.c (.int .i64 0))⟩]
def c69_r2aQ : List AI := c69_r2a
theorem c69_r2a_e (G : Pure) (ic : Inl) (s : SL) : runL G ic c69_r2aQ s = runL G ic c69_r2a s := rfl
def c69_r3a : List AI := [⟨(some 8), none, .mv (.t 3)⟩,
  ⟨(some 9), none, .un .neg (.t 8)⟩,
  ⟨(some 3), none, .mv (.t 9)⟩]
def c69_r3aQ : List AI := c69_r3a
theorem c69_r3a_e (G : Pure) (ic : Inl) (s : SL) : runL G ic c69_r3aQ s = runL G ic c69_r3a s := rfl
def c69_r4a : List AI := [⟨(some 10), none, .mv (.t 0)⟩,
  ⟨(some 11), none, .bin .lss (.t 10) (.c (.int .i64 0))⟩,
  ⟨(some 12), none, .mv (.t 3)⟩,
  ⟨(some 13), none, .conv .u32 (.t 12)⟩,
  ⟨(some 14), none, .mv (.t 3)⟩,
  ⟨(some 15), none, .bin .shr (.t 14) (.c (.int .u64 32))⟩,
  ⟨(some 16), none, .conv .u32 (.t 15)⟩,
  ⟨(some 17), none, .bslice 88 1 2 [.int .u32 0] [(0, (.t 13)), (1, (.t 16))]⟩,
  ⟨(some 18), none, .call 1104288 84 [(.t 11), (.t 17)] false⟩,
  ⟨none, none, .store 2 (.t 2) (.t 18)⟩]
def c69_r4aQ : List AI := c69_r4a
theorem c69_r4a_e (G : Pure) (ic : Inl) (s : SL) : runL G ic c69_r4aQ s = runL G ic c69_r4a s := rfl
def c69 : ACode := .seq (.reg [] c69_r0aQ []) (.seq (.reg [] c69_r1aQ []) (.seq (.seq (.reg [] c69_r2aQ []) (.cond (.t 7) (.reg [] c69_r3aQ []) (.skip))) (.seq (.reg [] c69_r4aQ []) (.ret c69_kr))))
def c69F : AFun := { params := 1, code := c69, results := [.cell 2 (some 2)] }
attribute [simp] c69_kr c69_r0a_e c69_r0a c69_r1a_e c69_r1a c69_r2a_e c69_r2a c69_r3a_e c69_r3a c69_r4a_e c69_r4a c69 c69F
theorem c69_ok : IsFun Try.prog ks 69 c69F := by unfold IsFun; kernel_rfl
/-! pairing/pairingref1.Make -/
def c70_kr : Option Keep := some { slots := [4], drops := [] }
def c70_r0a : List AI := [⟨(some 4), none, .alloc 1120064 31 [.bool false, .imm true 1 []]⟩]
def c70_r0aQ : List AI := c70_r0a
theorem c70_r0a_e (G : Pure) (ic : Inl) (s : SL) : runL G ic c70_r0aQ s = runL G ic c70_r0a s := rfl
def c70_r1a : List AI := [⟨(some 5), none, .mv (.t 1)⟩,
  ⟨(some 6), none, .call 1120096 74 [(.t 5)] false⟩,
  ⟨(some 1), none, .mv (.t 6)⟩]
def c70_r1aQ : List AI := c70_r1a
theorem c70_r1a_e (G : Pure) (ic : Inl) (s : SL) : runL G ic c70_r1aQ s = runL G ic c70_r1a s := rfl
def c70_r2a : List AI := [⟨(some 7), none, .mv (.t 1)⟩,
  ⟨(some 8), none, .len (.t 7)⟩,
  ⟨(some 9), none, .bin .eql (.t 8) (.c (.int .i64 0))⟩]
def c70_r2aQ : List AI := c70_r2a
theorem c70_r2a_e (G : Pure) (ic : Inl) (s : SL) : runL G ic c70_r2aQ s = runL G ic c70_r2a s := rfl
def c70_r3a : List AI := [⟨(some 10), none, .build [.bool false, .imm true 1 []] []⟩,
  ⟨none, none, .store 2 (.t 4) (.t 10)⟩]
def c70_r3aQ : List AI := c70_r3a
theorem c70_r3a_e (G : Pure) (ic : Inl) (s : SL) : runL G ic c70_r3aQ s = runL G ic c70_r3a s := rfl
def c70_r4a : List AI := [⟨(some 11), none, .mv (.t 0)⟩,
  ⟨(some 12), none, .mv (.t 1)⟩,
  ⟨(some 13), none, .appn 1120208 88 1 4 (.t 12)⟩,
  ⟨(some 14), none, .build [.bool false, .imm true 1 []] [(0, 1, (.t 11)), (1, 1, (.t 13))]⟩,
  ⟨none, none, .store 2 (.t 4) (.t 14)⟩]
def c70_r4aQ : List AI := c70_r4a
theorem c70_r4a_e (G : Pure) (ic : Inl) (s : SL) : runL G ic c70_r4aQ s = runL G ic c70_r4a s := rfl
def c70 : ACode := .seq (.reg [] c70_r0aQ []) (.seq (.reg [] c70_r1aQ []) (.seq (.seq (.reg [] c70_r2aQ []) (.cond (.t 9) (.seq (.reg [] c70_r3aQ []) (.ret c70_kr)) (.skip))) (.seq (.reg [] c70_r4aQ []) (.ret c70_kr))))
def c70F : AFun := { params := 2, code := c70, results := [.cell 4 (some 2)] }
attribute [simp] c70_kr c70_r0a_e c70_r0a c70_r1a_e c70_r1a c70_r2a_e c70_r2a c70_r3a_e c70_r3a c70_r4a_e c70_r4a c70 c70F
theorem c70_ok : IsFun Try.prog ks 70 c70F := by unfold IsFun; kernel_rfl
/-! pairing/pairingref1.addDigits -/
def c71_kr : Option Keep := some { slots := [4], drops := [] }
def c71_r0a : List AI := [⟨(some 4), none, .mv (.c (.imm true 1 []))⟩]
def c71_r0aQ : List AI := c71_r0a
theorem c71_r0a_e (G : Pure) (ic : Inl) (s : SL) : runL G ic c71_r0aQ s = runL G ic c71_r0a s := rfl
def c71_r1a : List AI := [⟨(some 9), none, .mv (.t 0)⟩,
  ⟨(some 10), none, .len (.t 9)⟩,
  ⟨(some 11), none, .mv (.t 1)⟩,
  ⟨(some 12), none, .len (.t 11)⟩,
  ⟨(some 13), none, .max (.t 10) (.t 12)⟩,
  ⟨(some 14), none, .bin .add (.t 13) (.c (.int .i64 1))⟩,
  ⟨(some 5), none, .mv (.t 14)⟩]
def c71_r1aQ : List AI := c71_r1a
theorem c71_r1a_e (G : Pure) (ic : Inl) (s : SL) : runL G ic c71_r1aQ s = runL G ic c71_r1a s := rfl
def c71_r2a : List AI := [⟨(some 15), none, .mv (.t 5)⟩,
  ⟨(some 16), none, .make 1136256 88 1 4 [.int .u32 0] (.t 15) (.t 15)⟩,
  ⟨(some 6), none, .mv (.t 16)⟩]
def c71_r2aQ : List AI := c71_r2a
theorem c71_r2a_e (G : Pure) (ic : Inl) (s : SL) : runL G ic c71_r2aQ s = runL G ic c71_r2a s := rfl
def c71_r3a : List AI := [⟨(some 7), none, .mv (.c (.int .u64 0))⟩]
def c71_r3aQ : List AI := c71_r3a
theorem c71_r3a_e (G : Pure) (ic : Inl) (s : SL) : runL G ic c71_r3aQ s = runL G ic c71_r3a s := rfl
def c71_r4a : List AI := [⟨(some 8), none, .mv (.c (.int .i64 0))⟩]
def c71_r4aQ : List AI := c71_r4a
theorem c71_r4a_e (G : Pure) (ic : Inl) (s : SL) : runL G ic c71_r4aQ s = runL G ic c71_r4a s := rfl
def c71_r5a : List AI := [⟨(some 17), none, .mv (.t 8)⟩,
  ⟨(some 18), none, .mv (.t 5)⟩,
  ⟨(some 19), none, .bin .lss (.t 17) (.t 18)⟩]
def c71_r5aQ : List AI := c71_r5a
theorem c71_r5a_e (G : Pure) (ic : Inl) (s : SL) : runL G ic c71_r5aQ s = runL G ic c71_r5a s := rfl
def c71_r7a : List AI := [⟨(some 22), none, .mv (.t 7)⟩,
  ⟨(some 23), none, .mv (.t 0)⟩,
  ⟨(some 24), none, .mv (.t 8)⟩,
  ⟨(some 25), none, .call 1136400 87 [(.t 23), (.t 24)] false⟩,
  ⟨(some 26), none, .bin .add (.t 22) (.t 25)⟩,
  ⟨(some 27), none, .mv (.t 1)⟩,
  ⟨(some 28), none, .mv (.t 8)⟩,
  ⟨(some 29), none, .call 1136464 87 [(.t 27), (.t 28)] false⟩,
  ⟨(some 30), none, .bin .add (.t 26) (.t 29)⟩,
  ⟨(some 7), none, .mv (.t 30)⟩]
def c71_r7aQ : List AI := c71_r7a
theorem c71_r7a_e (G : Pure) (ic : Inl) (s : SL) : runL G ic c71_r7aQ s = runL G ic c71_r7a s := rfl
def c71_r8a : List AI := [⟨(some 31), none, .mv (.t 6)⟩,
  ⟨(some 32), none, .mv (.t 8)⟩,
  ⟨(some 33), none, .mv (.t 7)⟩,
  ⟨(some 34), none, .conv .u32 (.t 33)⟩,
  ⟨(some 35), none, .iaddr 1 (.t 31) (.t 32)⟩,
  ⟨none, none, .store 1 (.t 35) (.t 34)⟩]
def c71_r8aQ : List AI := c71_r8a
theorem c71_r8a_e (G : Pure) (ic : Inl) (s : SL) : runL G ic c71_r8aQ s = runL G ic c71_r8a s := rfl
def c71_r9a : List AI := [⟨(some 36), none, .mv (.t 7)⟩,
  ⟨(some 37), none, .bin .shr (.t 36) (.c (.int .u64 32))⟩,
  ⟨(some 7), none, .mv (.t 37)⟩]
def c71_r9aQ : List AI := c71_r9a
theorem c71_r9a_e (G : Pure) (ic : Inl) (s : SL) : runL G ic c71_r9aQ s = runL G ic c71_r9a s := rfl
def c71_r6a : List AI := [⟨(some 20), none, .mv (.t 8)⟩,
  ⟨(some 21), none, .bin .add (.t 20) (.c (.int .i64 1))⟩,
  ⟨(some 8), none, .mv (.t 21)⟩]
def c71_r6aQ : List AI := c71_r6a
theorem c71_r6a_e (G : Pure) (ic : Inl) (s : SL) : runL G ic c71_r6aQ s = runL G ic c71_r6a s := rfl
def c71_b0 : ACode := .seq (.seq (.reg [] c71_r5aQ []) (.cond (.t 19) (.skip) (.exit 0))) (.seq (.block none 1 (.seq (.reg [] c71_r7aQ []) (.seq (.reg [] c71_r8aQ []) (.reg [] c71_r9aQ [])))) (.reg [] c71_r6aQ []))
def c71_b0Q : ACode := c71_b0
theorem c71_b0_e (G : Pure) (ic : Inl) (n : Nat) (s : SL) : evalC G ic n c71_b0Q s = evalC G ic n c71_b0 s := rfl
def c71_k0 : Keep := { slots := [0, 1, 5, 6, 7, 8], drops := [], adopt := [] }
def c71_e0 : Keep := { slots := [6], drops := [] }
def c71_r10a : List AI := [⟨(some 38), none, .mv (.t 6)⟩,
  ⟨(some 39), none, .call 1136624 74 [(.t 38)] false⟩,
  ⟨(some 4), none, .mv (.t 39)⟩]
def c71_r10aQ : List AI := c71_r10a
theorem c71_r10a_e (G : Pure) (ic : Inl) (s : SL) : runL G ic c71_r10aQ s = runL G ic c71_r10a s := rfl
def c71 : ACode := .seq (.reg [] c71_r0aQ []) (.seq (.reg [] c71_r1aQ []) (.seq (.reg [] c71_r2aQ []) (.seq (.reg [] c71_r3aQ []) (.seq (.seq (.reg [] c71_r4aQ []) (.block (some c71_e0) 0 (.loop c71_k0 c71_b0Q))) (.seq (.reg [] c71_r10aQ []) (.ret c71_kr))))))
def c71F : AFun := { params := 2, code := c71, results := [.tmp 4] }
attribute [simp] c71_kr c71_r0a_e c71_r0a c71_r1a_e c71_r1a c71_r2a_e c71_r2a c71_r3a_e c71_r3a c71_r4a_e c71_r4a c71_r5a_e c71_r5a c71_r7a_e c71_r7a c71_r8a_e c71_r8a c71_r9a_e c71_r9a c71_r6a_e c71_r6a c71_b0_e c71_b0 c71_k0 c71_e0 c71_r10a_e c71_r10a c71 c71F
theorem c71_ok : IsFun Try.prog ks 71 c71F := by unfold IsFun; kernel_rfl
/-! pairing/pairingref1.compareDigits -/
def c72_kr : Option Keep := some { slots := [4], drops := [] }
def c72_r0a : List AI := [⟨(some 4), none, .mv (.c (.int .i64 0))⟩]
def c72_r0aQ : List AI := c72_r0a
theorem c72_r0a_e (G : Pure) (ic : Inl) (s : SL) : runL G ic c72_r0aQ s = runL G ic c72_r0a s := rfl
def c72_r1a : List AI := [⟨(some 6), none, .mv (.t 0)⟩,
  ⟨(some 7), none, .call 1152112 74 [(.t 6)] false⟩,
  ⟨(some 8), none, .mv (.t 1)⟩,
  ⟨(some 9), none, .call 1152144 74 [(.t 8)] false⟩,
  ⟨(some 0), none, .mv (.t 7)⟩,
  ⟨(some 1), none, .mv (.t 9)⟩]
def c72_r1aQ : List AI := c72_r1a
theorem c72_r1a_e (G : Pure) (ic : Inl) (s : SL) : runL G ic c72_r1aQ s = runL G ic c72_r1a s := rfl
def c72_r2a : List AI := [⟨(some 10), none, .mv (.t 0)⟩,
  ⟨(some 11), none, .len (.t 10)⟩,
  ⟨(some 12), none, .mv (.t 1)⟩,
  ⟨(some 13), none, .len (.t 12)⟩,
  ⟨(some 14), none, .bin .neq (.t 11) (.t 13)⟩]
def c72_r2aQ : List AI := c72_r2a
theorem c72_r2a_e (G : Pure) (ic : Inl) (s : SL) : runL G ic c72_r2aQ s = runL G ic c72_r2a s := rfl
def c72_r3a : List AI := [⟨(some 15), none, .mv (.t 0)⟩,
  ⟨(some 16), none, .len (.t 15)⟩,
  ⟨(some 17), none, .mv (.t 1)⟩,
  ⟨(some 18), none, .len (.t 17)⟩,
  ⟨(some 19), none, .bin .lss (.t 16) (.t 18)⟩]
def c72_r3aQ : List AI := c72_r3a
theorem c72_r3a_e (G : Pure) (ic : Inl) (s : SL) : runL G ic c72_r3aQ s = runL G ic c72_r3a s := rfl
def c72_r4a : List AI := [⟨(some 4), none, .mv (.c (.int .i64 (-1)))⟩]
def c72_r4aQ : List AI := c72_r4a
theorem c72_r4a_e (G : Pure) (ic : Inl) (s : SL) : runL G ic c72_r4aQ s = runL G ic c72_r4a s := rfl
def c72_r5a : List AI := [⟨(some 4), none, .mv (.c (.int .i64 1))⟩]
def c72_r5aQ : List AI := c72_r5a
theorem c72_r5a_e (G : Pure) (ic : Inl) (s : SL) : runL G ic c72_r5aQ s = runL G ic c72_r5a s := rfl
def c72_r6a : List AI := [⟨(some 20), none, .mv (.t 0)⟩,
  ⟨(some 21), none, .len (.t 20)⟩,
  ⟨(some 22), none, .bin .sub (.t 21) (.c (.int .i64 1))⟩,
  ⟨(some 5), none, .mv (.t 22)⟩]
def c72_r6aQ : List AI := c72_r6a
theorem c72_r6a_e (G : Pure) (ic : Inl) (s : SL) : runL G ic c72_r6aQ s = runL G ic c72_r6a s := rfl
def c72_r7a : List AI := [⟨(some 23), none, .mv (.t 5)⟩,
  ⟨(some 24), none, .bin .geq (.t 23) (.c (.int .i64 0))⟩]
def c72_r7aQ : List AI := c72_r7a
theorem c72_r7a_e (G : Pure) (ic : Inl) (s : SL) : runL G ic c72_r7aQ s = runL G ic c72_r7a s := rfl
def c72_r9a : List AI := [⟨(some 27), none, .mv (.t 0)⟩,
  ⟨(some 28), none, .mv (.t 5)⟩,
  ⟨(some 29), none, .iaddr 1 (.t 27) (.t 28)⟩,
  ⟨(some 30), none, .load none (.t 29)⟩,
  ⟨(some 31), none, .mv (.t 1)⟩,
  ⟨(some 32), none, .mv (.t 5)⟩,
  ⟨(some 33), none, .iaddr 1 (.t 31) (.t 32)⟩,
  ⟨(some 34), none, .load none (.t 33)⟩,
  ⟨(some 35), none, .bin .lss (.t 30) (.t 34)⟩]
def c72_r9aQ : List AI := c72_r9a
theorem c72_r9a_e (G : Pure) (ic : Inl) (s : SL) : runL G ic c72_r9aQ s = runL G ic c72_r9a s := rfl
def c72_r10a : List AI := [⟨(some 4), none, .mv (.c (.int .i64 (-1)))⟩]
def c72_r10aQ : List AI := c72_r10a
theorem c72_r10a_e (G : Pure) (ic : Inl) (s : SL) : runL G ic c72_r10aQ s = runL G ic c72_r10a s := rfl
def c72_r11a : List AI := [⟨(some 36), none, .mv (.t 0)⟩,
  ⟨(some 37), none, .mv (.t 5)⟩,
  ⟨(some 38), none, .iaddr 1 (.t 36) (.t 37)⟩,
  ⟨(some 39), none, .load none (.t 38)⟩,
  ⟨(some 40), none, .mv (.t 1)⟩,
  ⟨(some 41), none, .mv (.t 5)⟩,
  ⟨(some 42), none, .iaddr 1 (.t 40) (.t 41)⟩,
  ⟨(some 43), none, .load none (.t 42)⟩,
  ⟨(some 44), none, .bin .gtr (.t 39) (.t 43)⟩]
def c72_r11aQ : List AI := c72_r11a
theorem c72_r11a_e (G : Pure) (ic : Inl) (s : SL) : runL G ic c72_r11aQ s = runL G ic c72_r11a s := rfl
def c72_r12a : List AI := [⟨(some 4), none, .mv (.c (.int .i64 1))⟩]
def c72_r12aQ : List AI := c72_r12a
theorem c72_r12a_e (G : Pure) (ic : Inl) (s : SL) : runL G ic c72_r12aQ s = runL G ic c72_r12a s := rfl
def c72_r8a : List AI := [⟨(some 25), none, .mv (.t 5)⟩,
  ⟨(some 26), none, .bin .sub (.t 25) (.c (.int .i64 1))⟩,
  ⟨(some 5), none, .mv (.t 26)⟩]
def c72_r8aQ : List AI := c72_r8a
theorem c72_r8a_e (G : Pure) (ic : Inl) (s : SL) : runL G ic c72_r8aQ s = runL G ic c72_r8a s := rfl
def c72_b0 : ACode := .seq (.seq (.reg [] c72_r7aQ []) (.cond (.t 24) (.skip) (.exit 0))) (.seq (.block none 1 (.seq (.seq (.reg [] c72_r9aQ []) (.cond (.t 35) (.seq (.reg [] c72_r10aQ []) (.ret c72_kr)) (.skip))) (.seq (.reg [] c72_r11aQ []) (.cond (.t 44) (.seq (.reg [] c72_r12aQ []) (.ret c72_kr)) (.skip))))) (.reg [] c72_r8aQ []))
def c72_b0Q : ACode := c72_b0
theorem c72_b0_e (G : Pure) (ic : Inl) (n : Nat) (s : SL) : evalC G ic n c72_b0Q s = evalC G ic n c72_b0 s := rfl
def c72_k0 : Keep := { slots := [0, 1, 5], drops := [], adopt := [] }
def c72_e0 : Keep := { slots := [], drops := [] }
def c72_r13a : List AI := [⟨(some 4), none, .mv (.c (.int .i64 0))⟩]
def c72_r13aQ : List AI := c72_r13a
theorem c72_r13a_e (G : Pure) (ic : Inl) (s : SL) : runL G ic c72_r13aQ s = runL G ic c72_r13a s := rfl
def c72 : ACode := .seq (.reg [] c72_r0aQ []) (.seq (.reg [] c72_r1aQ []) (.seq (.seq (.reg [] c72_r2aQ []) (.cond (.t 14) (.seq (.seq (.reg [] c72_r3aQ []) (.cond (.t 19) (.seq (.reg [] c72_r4aQ []) (.ret c72_kr)) (.skip))) (.seq (.reg [] c72_r5aQ []) (.ret c72_kr))) (.skip))) (.seq (.seq (.reg [] c72_r6aQ []) (.block (some c72_e0) 0 (.loop c72_k0 c72_b0Q))) (.seq (.reg [] c72_r13aQ []) (.ret c72_kr)))))
def c72F : AFun := { params := 2, code := c72, results := [.tmp 4] }
attribute [simp] c72_kr c72_r0a_e c72_r0a c72_r1a_e c72_r1a c72_r2a_e c72_r2a c72_r3a_e c72_r3a c72_r4a_e c72_r4a c72_r5a_e c72_r5a c72_r6a_e c72_r6a c72_r7a_e c72_r7a c72_r9a_e c72_r9a c72_r10a_e c72_r10a c72_r11a_e c72_r11a c72_r12a_e c72_r12a c72_r8a_e c72_r8a c72_b0_e c72_b0 c72_k0 c72_e0 c72_r13a_e c72_r13a c72 c72F
theorem c72_ok : IsFun Try.prog ks 72 c72F := by unfold IsFun; kernel_rfl
/-! pairing/pairingref1.subDigits -/
def c73_kr : Option Keep := some { slots := [4], drops := [] }
def c73_r0a : List AI := [⟨(some 4), none, .mv (.c (.imm true 1 []))⟩]
def c73_r0aQ : List AI := c73_r0a
theorem c73_r0a_e (G : Pure) (ic : Inl) (s : SL) : runL G ic c73_r0aQ s = runL G ic c73_r0a s := rfl
def c73_r1a : List AI := [⟨(some 9), none, .mv (.t 0)⟩,
  ⟨(some 10), none, .len (.t 9)⟩,
  ⟨(some 11), none, .make 1168176 88 1 4 [.int .u32 0] (.t 10) (.t 10)⟩,
  ⟨(some 5), none, .mv (.t 11)⟩]
def c73_r1aQ : List AI := c73_r1a
theorem c73_r1a_e (G : Pure) (ic : Inl) (s : SL) : runL G ic c73_r1aQ s = runL G ic c73_r1a s := rfl
def c73_r2a : List AI := [⟨(some 6), none, .mv (.c (.int .u64 0))⟩]
def c73_r2aQ : List AI := c73_r2a
theorem c73_r2a_e (G : Pure) (ic : Inl) (s : SL) : runL G ic c73_r2aQ s = runL G ic c73_r2a s := rfl
def c73_r3a : List AI := [⟨(some 7), none, .mv (.c (.int .i64 0))⟩]
def c73_r3aQ : List AI := c73_r3a
theorem c73_r3a_e (G : Pure) (ic : Inl) (s : SL) : runL G ic c73_r3aQ s = runL G ic c73_r3a s := rfl
def c73_r4a : List AI := [⟨(some 12), none, .mv (.t 7)⟩,
  ⟨(some 13), none, .mv (.t 0)⟩,
  ⟨(some 14), none, .len (.t 13)⟩,
  ⟨(some 15), none, .bin .lss (.t 12) (.t 14)⟩]
def c73_r4aQ : List AI := c73_r4a
theorem c73_r4a_e (G : Pure) (ic : Inl) (s : SL) : runL G ic c73_r4aQ s = runL G ic c73_r4a s := rfl
def c73_r6a : List AI := [⟨(some 18), none, .mv (.t 0)⟩,
  ⟨(some 19), none, .mv (.t 7)⟩,
  ⟨(some 20), none, .call 1168320 87 [(.t 18), (.t 19)] false⟩,
  ⟨(some 21), none, .bin .add (.t 20) (.c (.int .u64 4294967296))⟩,
  ⟨(some 22), none, .mv (.t 1)⟩,
  ⟨(some 23), none, .mv (.t 7)⟩,
  ⟨(some 24), none, .call 1168384 87 [(.t 22), (.t 23)] false⟩,
  ⟨(some 25), none, .bin .sub (.t 21) (.t 24)⟩,
  ⟨(some 26), none, .mv (.t 6)⟩,
  ⟨(some 27), none, .bin .sub (.t 25) (.t 26)⟩,
  ⟨(some 8), none, .mv (.t 27)⟩]
def c73_r6aQ : List AI := c73_r6a
theorem c73_r6a_e (G : Pure) (ic : Inl) (s : SL) : runL G ic c73_r6aQ s = runL G ic c73_r6a s := rfl
def c73_r7a : List AI := [⟨(some 28), none, .mv (.t 5)⟩,
  ⟨(some 29), none, .mv (.t 7)⟩,
  ⟨(some 30), none, .mv (.t 8)⟩,
  ⟨(some 31), none, .conv .u32 (.t 30)⟩,
  ⟨(some 32), none, .iaddr 1 (.t 28) (.t 29)⟩,
  ⟨none, none, .store 1 (.t 32) (.t 31)⟩]
def c73_r7aQ : List AI := c73_r7a
theorem c73_r7a_e (G : Pure) (ic : Inl) (s : SL) : runL G ic c73_r7aQ s = runL G ic c73_r7a s := rfl
def c73_r8a : List AI := [⟨(some 33), none, .mv (.t 8)⟩,
  ⟨(some 34), none, .bin .shr (.t 33) (.c (.int .u64 32))⟩,
  ⟨(some 35), none, .bin .sub (.c (.int .u64 1)) (.t 34)⟩,
  ⟨(some 6), none, .mv (.t 35)⟩]
def c73_r8aQ : List AI := c73_r8a
theorem c73_r8a_e (G : Pure) (ic : Inl) (s : SL) : runL G ic c73_r8aQ s = runL G ic c73_r8a s := rfl
def c73_r5a : List AI := [⟨(some 16), none, .mv (.t 7)⟩,
  ⟨(some 17), none, .bin .add (.t 16) (.c (.int .i64 1))⟩,
  ⟨(some 7), none, .mv (.t 17)⟩]
def c73_r5aQ : List AI := c73_r5a
theorem c73_r5a_e (G : Pure) (ic : Inl) (s : SL) : runL G ic c73_r5aQ s = runL G ic c73_r5a s := rfl
def c73_b0 : ACode := .seq (.seq (.reg [] c73_r4aQ []) (.cond (.t 15) (.skip) (.exit 0))) (.seq (.block none 1 (.seq (.reg [] c73_r6aQ []) (.seq (.reg [] c73_r7aQ []) (.reg [] c73_r8aQ [])))) (.reg [] c73_r5aQ []))
def c73_b0Q : ACode := c73_b0
theorem c73_b0_e (G : Pure) (ic : Inl) (n : Nat) (s : SL) : evalC G ic n c73_b0Q s = evalC G ic n c73_b0 s := rfl
def c73_k0 : Keep := { slots := [0, 1, 5, 6, 7], drops := [], adopt := [] }
def c73_e0 : Keep := { slots := [5], drops := [] }
def c73_r9a : List AI := [⟨(some 36), none, .mv (.t 5)⟩,
  ⟨(some 37), none, .call 1168592 74 [(.t 36)] false⟩,
  ⟨(some 4), none, .mv (.t 37)⟩]
def c73_r9aQ : List AI := c73_r9a
theorem c73_r9a_e (G : Pure) (ic : Inl) (s : SL) : runL G ic c73_r9aQ s = runL G ic c73_r9a s := rfl
def c73 : ACode := .seq (.reg [] c73_r0aQ []) (.seq (.reg [] c73_r1aQ []) (.seq (.reg [] c73_r2aQ []) (.seq (.seq (.reg [] c73_r3aQ []) (.block (some c73_e0) 0 (.loop c73_k0 c73_b0Q))) (.seq (.reg [] c73_r9aQ []) (.ret c73_kr)))))
def c73F : AFun := { params := 2, code := c73, results := [.tmp 4] }
attribute [simp] c73_kr c73_r0a_e c73_r0a c73_r1a_e c73_r1a c73_r2a_e c73_r2a c73_r3a_e c73_r3a c73_r4a_e c73_r4a c73_r6a_e c73_r6a c73_r7a_e c73_r7a c73_r8a_e c73_r8a c73_r5a_e c73_r5a c73_b0_e c73_b0 c73_k0 c73_e0 c73_r9a_e c73_r9a c73 c73F
theorem c73_ok : IsFun Try.prog ks 73 c73F := by unfold IsFun; kernel_rfl
/-! pairing/pairingref1.trim -/
def c74_kr : Option Keep := some { slots := [2], drops := [] }
def c74_r0a : List AI := [⟨(some 2), none, .mv (.c (.imm true 1 []))⟩]
def c74_r0aQ : List AI := c74_r0a
theorem c74_r0a_e (G : Pure) (ic : Inl) (s : SL) : runL G ic c74_r0aQ s = runL G ic c74_r0a s := rfl
def c74_r1a : List AI := [⟨(some 4), none, .mv (.t 0)⟩,
  ⟨(some 5), none, .len (.t 4)⟩,
  ⟨(some 3), none, .mv (.t 5)⟩]
def c74_r1aQ : List AI := c74_r1a
theorem c74_r1a_e (G : Pure) (ic : Inl) (s : SL) : runL G ic c74_r1aQ s = runL G ic c74_r1a s := rfl
def c74_r2a : List AI := [⟨(some 6), none, .mv (.t 3)⟩,
  ⟨(some 7), none, .bin .gtr (.t 6) (.c (.int .i64 0))⟩,
  ⟨(some 8), none, .mv (.t 7)⟩,
  ⟨(some 9), (some (8, true)), .mv (.t 0)⟩,
  ⟨(some 10), (some (8, true)), .mv (.t 3)⟩,
  ⟨(some 11), (some (8, true)), .bin .sub (.t 10) (.c (.int .i64 1))⟩,
  ⟨(some 12), (some (8, true)), .iaddr 1 (.t 9) (.t 11)⟩,
  ⟨(some 13), (some (8, true)), .load none (.t 12)⟩,
  ⟨(some 14), (some (8, true)), .bin .eql (.t 13) (.c (.int .u32 0))⟩,
  ⟨(some 15), none, .pick (.t 8) (.t 14) (.c (.bool false))⟩]
def c74_r2aQ : List AI := c74_r2a
theorem c74_r2a_e (G : Pure) (ic : Inl) (s : SL) : runL G ic c74_r2aQ s = runL G ic c74_r2a s := rfl
def c74_r3a : List AI := [⟨(some 16), none, .mv (.t 3)⟩,
  ⟨(some 17), none, .bin .sub (.t 16) (.c (.int .i64 1))⟩,
  ⟨(some 3), none, .mv (.t 17)⟩]
def c74_r3aQ : List AI := c74_r3a
theorem c74_r3a_e (G : Pure) (ic : Inl) (s : SL) : runL G ic c74_r3aQ s = runL G ic c74_r3a s := rfl
def c74_b0 : ACode := .seq (.seq (.reg [] c74_r2aQ []) (.cond (.t 15) (.skip) (.exit 0))) (.block none 1 (.reg [] c74_r3aQ []))
def c74_b0Q : ACode := c74_b0
theorem c74_b0_e (G : Pure) (ic : Inl) (n : Nat) (s : SL) : evalC G ic n c74_b0Q s = evalC G ic n c74_b0 s := rfl
def c74_k0 : Keep := { slots := [0, 3], drops := [], adopt := [] }
def c74_e0 : Keep := { slots := [0, 3], drops := [] }
def c74_r4a : List AI := [⟨(some 18), none, .mv (.t 0)⟩,
  ⟨(some 19), none, .mv (.t 3)⟩,
  ⟨(some 20), none, .slice 1 (.t 18) none (some (.t 19)) none⟩,
  ⟨(some 2), none, .mv (.t 20)⟩]
def c74_r4aQ : List AI := c74_r4a
theorem c74_r4a_e (G : Pure) (ic : Inl) (s : SL) : runL G ic c74_r4aQ s = runL G ic c74_r4a s := rfl
def c74 : ACode := .seq (.reg [] c74_r0aQ []) (.seq (.reg [] c74_r1aQ []) (.seq (.block (some c74_e0) 0 (.loop c74_k0 c74_b0Q)) (.seq (.reg [] c74_r4aQ []) (.ret c74_kr))))
def c74F : AFun := { params := 1, code := c74, results := [.tmp 2] }
attribute [simp] c74_kr c74_r0a_e c74_r0a c74_r1a_e c74_r1a c74_r2a_e c74_r2a c74_r3a_e c74_r3a c74_b0_e c74_b0 c74_k0 c74_e0 c74_r4a_e c74_r4a c74 c74F
theorem c74_ok : IsFun Try.prog ks 74 c74F := by unfold IsFun; kernel_rfl
/-! pairing/pairingref1.mulDigits -/
def c75_kr : Option Keep := some { slots := [4], drops := [] }
def c75_r0a : List AI := [⟨(some 4), none, .mv (.c (.imm true 1 []))⟩]
def c75_r0aQ : List AI := c75_r0a
theorem c75_r0a_e (G : Pure) (ic : Inl) (s : SL) : runL G ic c75_r0aQ s = runL G ic c75_r0a s := rfl
def c75_r1a : List AI := [⟨(some 9), none, .mv (.t 0)⟩,
  ⟨(some 10), none, .len (.t 9)⟩,
  ⟨(some 11), none, .mv (.t 1)⟩,
  ⟨(some 12), none, .len (.t 11)⟩,
  ⟨(some 13), none, .bin .add (.t 10) (.t 12)⟩,
  ⟨(some 14), none, .make 1200224 88 1 4 [.int .u32 0] (.t 13) (.t 13)⟩,
  ⟨(some 5), none, .mv (.t 14)⟩]
def c75_r1aQ : List AI := c75_r1a
theorem c75_r1a_e (G : Pure) (ic : Inl) (s : SL) : runL G ic c75_r1aQ s = runL G ic c75_r1a s := rfl
def c75_r2a : List AI := [⟨(some 6), none, .mv (.c (.int .i64 0))⟩]
def c75_r2aQ : List AI := c75_r2a
theorem c75_r2a_e (G : Pure) (ic : Inl) (s : SL) : runL G ic c75_r2aQ s = runL G ic c75_r2a s := rfl
def c75_r3a : List AI := [⟨(some 15), none, .mv (.t 6)⟩,
  ⟨(some 16), none, .mv (.t 0)⟩,
  ⟨(some 17), none, .len (.t 16)⟩,
  ⟨(some 18), none, .bin .lss (.t 15) (.t 17)⟩]
def c75_r3aQ : List AI := c75_r3a
theorem c75_r3a_e (G : Pure) (ic : Inl) (s : SL) : runL G ic c75_r3aQ s = runL G ic c75_r3a s := rfl
def c75_r5a : List AI := [⟨(some 7), none, .mv (.c (.int .u64 0))⟩]
def c75_r5aQ : List AI := c75_r5a
theorem c75_r5a_e (G : Pure) (ic : Inl) (s : SL) : runL G ic c75_r5aQ s = runL G ic c75_r5a s := rfl
def c75_r6a : List AI := [⟨(some 8), none, .mv (.c (.int .i64 0))⟩]
def c75_r6aQ : List AI := c75_r6a
theorem c75_r6a_e (G : Pure) (ic : Inl) (s : SL) : runL G ic c75_r6aQ s = runL G ic c75_r6a s := rfl
def c75_r7a : List AI := [⟨(some 21), none, .mv (.t 8)⟩,
  ⟨(some 22), none, .mv (.t 1)⟩,
  ⟨(some 23), none, .len (.t 22)⟩,
  ⟨(some 24), none, .bin .lss (.t 21) (.t 23)⟩]
def c75_r7aQ : List AI := c75_r7a
theorem c75_r7a_e (G : Pure) (ic : Inl) (s : SL) : runL G ic c75_r7aQ s = runL G ic c75_r7a s := rfl
def c75_r9a : List AI := [⟨(some 27), none, .mv (.t 7)⟩,
  ⟨(some 28), none, .mv (.t 5)⟩,
  ⟨(some 29), none, .mv (.t 6)⟩,
  ⟨(some 30), none, .mv (.t 8)⟩,
  ⟨(some 31), none, .bin .add (.t 29) (.t 30)⟩,
  ⟨(some 32), none, .iaddr 1 (.t 28) (.t 31)⟩,
  ⟨(some 33), none, .load none (.t 32)⟩,
  ⟨(some 34), none, .conv .u64 (.t 33)⟩,
  ⟨(some 35), none, .bin .add (.t 27) (.t 34)⟩,
  ⟨(some 36), none, .mv (.t 0)⟩,
  ⟨(some 37), none, .mv (.t 6)⟩,
  ⟨(some 38), none, .iaddr 1 (.t 36) (.t 37)⟩,
  ⟨(some 39), none, .load none (.t 38)⟩,
  ⟨(some 40), none, .conv .u64 (.t 39)⟩,
  ⟨(some 41), none, .mv (.t 1)⟩,
  ⟨(some 42), none, .mv (.t 8)⟩,
  ⟨(some 43), none, .iaddr 1 (.t 41) (.t 42)⟩,
  ⟨(some 44), none, .load none (.t 43)⟩,
  ⟨(some 45), none, .conv .u64 (.t 44)⟩,
  ⟨(some 46), none, .bin .mul (.t 40) (.t 45)⟩,
  ⟨(some 47), none, .bin .add (.t 35) (.t 46)⟩,
  ⟨(some 7), none, .mv (.t 47)⟩]
def c75_r9aQ : List AI := c75_r9a
theorem c75_r9a_e (G : Pure) (ic : Inl) (s : SL) : runL G ic c75_r9aQ s = runL G ic c75_r9a s := rfl
def c75_r10a : List AI := [⟨(some 48), none, .mv (.t 5)⟩,
  ⟨(some 49), none, .mv (.t 6)⟩,
  ⟨(some 50), none, .mv (.t 8)⟩,
  ⟨(some 51), none, .bin .add (.t 49) (.t 50)⟩,
  ⟨(some 52), none, .mv (.t 7)⟩,
  ⟨(some 53), none, .conv .u32 (.t 52)⟩,
  ⟨(some 54), none, .iaddr 1 (.t 48) (.t 51)⟩,
  ⟨none, none, .store 1 (.t 54) (.t 53)⟩]
def c75_r10aQ : List AI := c75_r10a
theorem c75_r10a_e (G : Pure) (ic : Inl) (s : SL) : runL G ic c75_r10aQ s = runL G ic c75_r10a s := rfl
def c75_r11a : List AI := [⟨(some 55), none, .mv (.t 7)⟩,
  ⟨(some 56), none, .bin .shr (.t 55) (.c (.int .u64 32))⟩,
  ⟨(some 7), none, .mv (.t 56)⟩]
def c75_r11aQ : List AI := c75_r11a
theorem c75_r11a_e (G : Pure) (ic : Inl) (s : SL) : runL G ic c75_r11aQ s = runL G ic c75_r11a s := rfl
def c75_r8a : List AI := [⟨(some 25), none, .mv (.t 8)⟩,
  ⟨(some 26), none, .bin .add (.t 25) (.c (.int .i64 1))⟩,
  ⟨(some 8), none, .mv (.t 26)⟩]
def c75_r8aQ : List AI := c75_r8a
theorem c75_r8a_e (G : Pure) (ic : Inl) (s : SL) : runL G ic c75_r8aQ s = runL G ic c75_r8a s := rfl
def c75_b0 : ACode := .seq (.seq (.reg [] c75_r7aQ []) (.cond (.t 24) (.skip) (.exit 2))) (.seq (.block none 3 (.seq (.reg [] c75_r9aQ []) (.seq (.reg [] c75_r10aQ []) (.reg [] c75_r11aQ [])))) (.reg [] c75_r8aQ []))
def c75_b0Q : ACode := c75_b0
theorem c75_b0_e (G : Pure) (ic : Inl) (n : Nat) (s : SL) : evalC G ic n c75_b0Q s = evalC G ic n c75_b0 s := rfl
def c75_k0 : Keep := { slots := [0, 1, 5, 6, 7, 8], drops := [], adopt := [] }
def c75_e0 : Keep := { slots := [0, 1, 5, 6, 7], drops := [] }
def c75_r12a : List AI := [⟨(some 57), none, .mv (.t 5)⟩,
  ⟨(some 58), none, .mv (.t 6)⟩,
  ⟨(some 59), none, .mv (.t 1)⟩,
  ⟨(some 60), none, .len (.t 59)⟩,
  ⟨(some 61), none, .bin .add (.t 58) (.t 60)⟩,
  ⟨(some 62), none, .mv (.t 7)⟩,
  ⟨(some 63), none, .conv .u32 (.t 62)⟩,
  ⟨(some 64), none, .iaddr 1 (.t 57) (.t 61)⟩,
  ⟨none, none, .store 1 (.t 64) (.t 63)⟩]
def c75_r12aQ : List AI := c75_r12a
theorem c75_r12a_e (G : Pure) (ic : Inl) (s : SL) : runL G ic c75_r12aQ s = runL G ic c75_r12a s := rfl
def c75_r4a : List AI := [⟨(some 19), none, .mv (.t 6)⟩,
  ⟨(some 20), none, .bin .add (.t 19) (.c (.int .i64 1))⟩,
  ⟨(some 6), none, .mv (.t 20)⟩]
def c75_r4aQ : List AI := c75_r4a
theorem c75_r4a_e (G : Pure) (ic : Inl) (s : SL) : runL G ic c75_r4aQ s = runL G ic c75_r4a s := rfl
def c75_b1 : ACode := .seq (.seq (.reg [] c75_r3aQ []) (.cond (.t 18) (.skip) (.exit 0))) (.seq (.block none 1 (.seq (.reg [] c75_r5aQ []) (.seq (.seq (.reg [] c75_r6aQ []) (.block (some c75_e0) 2 (.loop c75_k0 c75_b0Q))) (.reg [] c75_r12aQ [])))) (.reg [] c75_r4aQ []))
def c75_b1Q : ACode := c75_b1
theorem c75_b1_e (G : Pure) (ic : Inl) (n : Nat) (s : SL) : evalC G ic n c75_b1Q s = evalC G ic n c75_b1 s := rfl
def c75_k1 : Keep := { slots := [0, 1, 5, 6], drops := [], adopt := [] }
def c75_e1 : Keep := { slots := [5], drops := [] }
def c75_r13a : List AI := [⟨(some 65), none, .mv (.t 5)⟩,
  ⟨(some 66), none, .call 1201056 74 [(.t 65)] false⟩,
  ⟨(some 4), none, .mv (.t 66)⟩]
def c75_r13aQ : List AI := c75_r13a
theorem c75_r13a_e (G : Pure) (ic : Inl) (s : SL) : runL G ic c75_r13aQ s = runL G ic c75_r13a s := rfl
def c75 : ACode := .seq (.reg [] c75_r0aQ []) (.seq (.reg [] c75_r1aQ []) (.seq (.seq (.reg [] c75_r2aQ []) (.block (some c75_e1) 0 (.loop c75_k1 c75_b1Q))) (.seq (.reg [] c75_r13aQ []) (.ret c75_kr))))
def c75F : AFun := { params := 2, code := c75, results := [.tmp 4] }
attribute [simp] c75_kr c75_r0a_e c75_r0a c75_r1a_e c75_r1a c75_r2a_e c75_r2a c75_r3a_e c75_r3a c75_r5a_e c75_r5a c75_r6a_e c75_r6a c75_r7a_e c75_r7a c75_r9a_e c75_r9a c75_r10a_e c75_r10a c75_r11a_e c75_r11a c75_r8a_e c75_r8a c75_b0_e c75_b0 c75_k0 c75_e0 c75_r12a_e c75_r12a c75_r4a_e c75_r4a c75_b1_e c75_b1 c75_k1 c75_e1 c75_r13a_e c75_r13a c75 c75F
/-! pairing/pairingref1.divDigits -/
def c76_kr : Option Keep := some { slots := [4, 5], drops := [] }
def c76_r0a : List AI := [⟨(some 4), none, .mv (.c (.imm true 1 []))⟩,
  ⟨(some 5), none, .mv (.c (.imm true 1 []))⟩]
def c76_r0aQ : List AI := c76_r0a
theorem c76_r0a_e (G : Pure) (ic : Inl) (s : SL) : runL G ic c76_r0aQ s = runL G ic c76_r0a s := rfl
def c76_r1a : List AI := [⟨(some 11), none, .mv (.t 0)⟩,
  ⟨(some 12), none, .call 1216192 74 [(.t 11)] false⟩,
  ⟨(some 13), none, .appn 1216208 88 1 4 (.t 12)⟩,
  ⟨(some 6), none, .mv (.t 13)⟩]
def c76_r1aQ : List AI := c76_r1a
theorem c76_r1a_e (G : Pure) (ic : Inl) (s : SL) : runL G ic c76_r1aQ s = runL G ic c76_r1a s := rfl
def c76_r2a : List AI := [⟨(some 14), none, .mv (.t 0)⟩,
  ⟨(some 15), none, .call 1216240 88 [(.t 14)] false⟩,
  ⟨(some 16), none, .mv (.t 1)⟩,
  ⟨(some 17), none, .call 1216272 88 [(.t 16)] false⟩,
  ⟨(some 18), none, .bin .sub (.t 15) (.t 17)⟩,
  ⟨(some 7), none, .mv (.t 18)⟩]
def c76_r2aQ : List AI := c76_r2a
theorem c76_r2a_e (G : Pure) (ic : Inl) (s : SL) : runL G ic c76_r2aQ s = runL G ic c76_r2a s := rfl
def c76_r3a : List AI := [⟨(some 19), none, .mv (.t 7)⟩,
  ⟨(some 20), none, .bin .lss (.t 19) (.c (.int .i64 0))⟩]
def c76_r3aQ : List AI := c76_r3a
theorem c76_r3a_e (G : Pure) (ic : Inl) (s : SL) : runL G ic c76_r3aQ s = runL G ic c76_r3a s := rfl
def c76_r4a : List AI := [⟨(some 21), none, .mv (.t 6)⟩,
  ⟨(some 4), none, .mv (.c (.imm true 1 []))⟩,
  ⟨(some 5), none, .mv (.t 21)⟩]
def c76_r4aQ : List AI := c76_r4a
theorem c76_r4a_e (G : Pure) (ic : Inl) (s : SL) : runL G ic c76_r4aQ s = runL G ic c76_r4a s := rfl
def c76_r5a : List AI := [⟨(some 22), none, .mv (.t 7)⟩,
  ⟨(some 23), none, .bin .quo (.t 22) (.c (.int .i64 32))⟩,
  ⟨(some 24), none, .bin .add (.t 23) (.c (.int .i64 1))⟩,
  ⟨(some 25), none, .make 1216400 88 1 4 [.int .u32 0] (.t 24) (.t 24)⟩,
  ⟨(some 8), none, .mv (.t 25)⟩]
def c76_r5aQ : List AI := c76_r5a
theorem c76_r5a_e (G : Pure) (ic : Inl) (s : SL) : runL G ic c76_r5aQ s = runL G ic c76_r5a s := rfl
def c76_r6a : List AI := [⟨(some 26), none, .mv (.t 1)⟩,
  ⟨(some 27), none, .mv (.t 7)⟩,
  ⟨(some 28), none, .call 1216448 89 [(.t 26), (.t 27)] false⟩,
  ⟨(some 9), none, .mv (.t 28)⟩]
def c76_r6aQ : List AI := c76_r6a
theorem c76_r6a_e (G : Pure) (ic : Inl) (s : SL) : runL G ic c76_r6aQ s = runL G ic c76_r6a s := rfl
def c76_r7a : List AI := [⟨(some 29), none, .mv (.t 7)⟩,
  ⟨(some 10), none, .mv (.t 29)⟩]
def c76_r7aQ : List AI := c76_r7a
theorem c76_r7a_e (G : Pure) (ic : Inl) (s : SL) : runL G ic c76_r7aQ s = runL G ic c76_r7a s := rfl
def c76_r8a : List AI := [⟨(some 30), none, .mv (.t 10)⟩,
  ⟨(some 31), none, .bin .geq (.t 30) (.c (.int .i64 0))⟩]
def c76_r8aQ : List AI := c76_r8a
theorem c76_r8a_e (G : Pure) (ic : Inl) (s : SL) : runL G ic c76_r8aQ s = runL G ic c76_r8a s := rfl
def c76_r10a : List AI := [⟨(some 34), none, .mv (.t 6)⟩,
  ⟨(some 35), none, .mv (.t 9)⟩,
  ⟨(some 36), none, .call 1216576 72 [(.t 34), (.t 35)] false⟩,
  ⟨(some 37), none, .bin .geq (.t 36) (.c (.int .i64 0))⟩]
def c76_r10aQ : List AI := c76_r10a
theorem c76_r10a_e (G : Pure) (ic : Inl) (s : SL) : runL G ic c76_r10aQ s = runL G ic c76_r10a s := rfl
def c76_r11a : List AI := [⟨(some 38), none, .mv (.t 6)⟩,
  ⟨(some 39), none, .mv (.t 9)⟩,
  ⟨(some 40), none, .call 1216640 73 [(.t 38), (.t 39)] false⟩,
  ⟨(some 6), none, .mv (.t 40)⟩]
def c76_r11aQ : List AI := c76_r11a
theorem c76_r11a_e (G : Pure) (ic : Inl) (s : SL) : runL G ic c76_r11aQ s = runL G ic c76_r11a s := rfl
def c76_r12a : List AI := [⟨(some 41), none, .mv (.t 8)⟩,
  ⟨(some 42), none, .mv (.t 10)⟩,
  ⟨(some 43), none, .bin .quo (.t 42) (.c (.int .i64 32))⟩,
  ⟨(some 44), none, .mv (.t 8)⟩,
  ⟨(some 45), none, .mv (.t 10)⟩,
  ⟨(some 46), none, .bin .quo (.t 45) (.c (.int .i64 32))⟩,
  ⟨(some 47), none, .iaddr 1 (.t 44) (.t 46)⟩,
  ⟨(some 48), none, .load none (.t 47)⟩,
  ⟨(some 49), none, .mv (.t 10)⟩,
  ⟨(some 50), none, .bin .rem (.t 49) (.c (.int .i64 32))⟩,
  ⟨(some 51), none, .conv .u64 (.t 50)⟩,
  ⟨(some 52), none, .bin .shl (.c (.int .u32 1)) (.t 51)⟩,
  ⟨(some 53), none, .bin .or (.t 48) (.t 52)⟩,
  ⟨(some 54), none, .iaddr 1 (.t 41) (.t 43)⟩,
  ⟨none, none, .store 1 (.t 54) (.t 53)⟩]
def c76_r12aQ : List AI := c76_r12a
theorem c76_r12a_e (G : Pure) (ic : Inl) (s : SL) : runL G ic c76_r12aQ s = runL G ic c76_r12a s := rfl
def c76_r13a : List AI := [⟨(some 55), none, .mv (.t 9)⟩,
  ⟨(some 56), none, .call 1216896 90 [(.t 55)] false⟩,
  ⟨(some 9), none, .mv (.t 56)⟩]
def c76_r13aQ : List AI := c76_r13a
theorem c76_r13a_e (G : Pure) (ic : Inl) (s : SL) : runL G ic c76_r13aQ s = runL G ic c76_r13a s := rfl
def c76_r9a : List AI := [⟨(some 32), none, .mv (.t 10)⟩,
  ⟨(some 33), none, .bin .sub (.t 32) (.c (.int .i64 1))⟩,
  ⟨(some 10), none, .mv (.t 33)⟩]
def c76_r9aQ : List AI := c76_r9a
theorem c76_r9a_e (G : Pure) (ic : Inl) (s : SL) : runL G ic c76_r9aQ s = runL G ic c76_r9a s := rfl
def c76_b0 : ACode := .seq (.seq (.reg [] c76_r8aQ []) (.cond (.t 31) (.skip) (.exit 0))) (.seq (.block none 1 (.seq (.seq (.reg [] c76_r10aQ []) (.cond (.t 37) (.seq (.reg [] c76_r11aQ []) (.reg [] c76_r12aQ [])) (.skip))) (.reg [] c76_r13aQ []))) (.reg [] c76_r9aQ []))
def c76_b0Q : ACode := c76_b0
theorem c76_b0_e (G : Pure) (ic : Inl) (n : Nat) (s : SL) : evalC G ic n c76_b0Q s = evalC G ic n c76_b0 s := rfl
def c76_k0 : Keep := { slots := [6, 8, 9, 10], drops := [], adopt := [] }
def c76_e0 : Keep := { slots := [6, 8], drops := [] }
def c76_r14a : List AI := [⟨(some 57), none, .mv (.t 8)⟩,
  ⟨(some 58), none, .call 1216928 74 [(.t 57)] false⟩,
  ⟨(some 59), none, .mv (.t 6)⟩,
  ⟨(some 4), none, .mv (.t 58)⟩,
  ⟨(some 5), none, .mv (.t 59)⟩]
def c76_r14aQ : List AI := c76_r14a
theorem c76_r14a_e (G : Pure) (ic : Inl) (s : SL) : runL G ic c76_r14aQ s = runL G ic c76_r14a s := rfl
def c76 : ACode := .seq (.reg [] c76_r0aQ []) (.seq (.reg [] c76_r1aQ []) (.seq (.reg [] c76_r2aQ []) (.seq (.seq (.reg [] c76_r3aQ []) (.cond (.t 20) (.seq (.reg [] c76_r4aQ []) (.ret c76_kr)) (.skip))) (.seq (.reg [] c76_r5aQ []) (.seq (.reg [] c76_r6aQ []) (.seq (.seq (.reg [] c76_r7aQ []) (.block (some c76_e0) 0 (.loop c76_k0 c76_b0Q))) (.seq (.reg [] c76_r14aQ []) (.ret c76_kr))))))))
def c76F : AFun := { params := 2, code := c76, results := [.tmp 4, .tmp 5] }
attribute [simp] c76_kr c76_r0a_e c76_r0a c76_r1a_e c76_r1a c76_r2a_e c76_r2a c76_r3a_e c76_r3a c76_r4a_e c76_r4a c76_r5a_e c76_r5a c76_r6a_e c76_r6a c76_r7a_e c76_r7a c76_r8a_e c76_r8a c76_r10a_e c76_r10a c76_r11a_e c76_r11a c76_r12a_e c76_r12a c76_r13a_e c76_r13a c76_r9a_e c76_r9a c76_b0_e c76_b0 c76_k0 c76_e0 c76_r14a_e c76_r14a c76 c76F
theorem c76_ok : IsFun Try.prog ks 76 c76F := by unfold IsFun; kernel_rfl
/-! pairing/pairingref1.Sub -/
def c77_kr : Option Keep := some { slots := [4], drops := [1232032, 1232048] }
def c77_r0a : List AI := [⟨(some 2), none, .box 1232032 31 2 (.t 0)⟩,
  ⟨(some 3), none, .box 1232048 31 2 (.t 1)⟩,
  ⟨(some 4), none, .alloc 1232064 31 [.bool false, .imm true 1 []]⟩]
def c77_r0aQ : List AI := c77_r0a
theorem c77_r0a_e (G : Pure) (ic : Inl) (s : SL) : runL G ic c77_r0aQ s = runL G ic c77_r0a s := rfl
def c77_r1a : List AI := [⟨(some 5), none, .load (some 2) (.t 2)⟩,
  ⟨(some 6), none, .load (some 2) (.t 3)⟩,
  ⟨(some 7), none, .call 1232112 57 [(.t 6)] false⟩,
  ⟨(some 8), none, .call 1232128 49 [(.t 5), (.t 7)] false⟩,
  ⟨none, none, .store 2 (.t 4) (.t 8)⟩]
def c77_r1aQ : List AI := c77_r1a
theorem c77_r1a_e (G : Pure) (ic : Inl) (s : SL) : runL G ic c77_r1aQ s = runL G ic c77_r1a s := rfl
def c77 : ACode := .seq (.reg [] c77_r0aQ []) (.seq (.reg [] c77_r1aQ []) (.ret c77_kr))
def c77F : AFun := { params := 2, code := c77, results := [.cell 4 (some 2)] }
attribute [simp] c77_kr c77_r0a_e c77_r0a c77_r1a_e c77_r1a c77 c77F
theorem c77_ok : IsFun Try.prog ks 77 c77F := by unfold IsFun; kernel_rfl
/-! pairing/rational.one -/
def c78_kr : Option Keep := some { slots := [0], drops := [] }
def c78_r0a : List AI := [⟨(some 0), none, .alloc 1248000 31 [.bool false, .imm true 1 []]⟩]
def c78_r0aQ : List AI := c78_r0a
theorem c78_r0a_e (G : Pure) (ic : Inl) (s : SL) : runL G ic c78_r0aQ s = runL G ic c78_r0a s := rfl
def c78_r1a : List AI := [⟨(some 1), none, .call 1248016 69 [(.c (.int .i64 1))] false⟩,
  ⟨none, none, .store 2 (.t 0) (.t 1)⟩]
def c78_r1aQ : List AI := c78_r1a
theorem c78_r1a_e (G : Pure) (ic : Inl) (s : SL) : runL G ic c78_r1aQ s = runL G ic c78_r1a s := rfl
def c78 : ACode := .seq (.reg [] c78_r0aQ []) (.seq (.reg [] c78_r1aQ []) (.ret c78_kr))
def c78F : AFun := { params := 0, code := c78, results := [.cell 0 (some 2)] }
attribute [simp] c78_kr c78_r0a_e c78_r0a c78_r1a_e c78_r1a c78 c78F
theorem c78_ok : IsFun Try.prog ks 78 c78F := by unfold IsFun; kernel_rfl
/-! pairing/integer.Negate -/
def c79_kr : Option Keep := some { slots := [2], drops := [1264016] }
def c79_r0a : List AI := [⟨(some 1), none, .box 1264016 31 2 (.t 0)⟩,
  ⟨(some 2), none, .alloc 1264032 31 [.bool false, .imm true 1 []]⟩]
def c79_r0aQ : List AI := c79_r0a
theorem c79_r0a_e (G : Pure) (ic : Inl) (s : SL) : runL G ic c79_r0aQ s = runL G ic c79_r0a s := rfl
def c79_r1a : List AI := [⟨(some 3), none, .faddr 0 (.t 1)⟩,
  ⟨(some 4), none, .load none (.t 3)⟩,
  ⟨(some 5), none, .un .not (.t 4)⟩,
  ⟨(some 6), none, .load (some 2) (.t 1)⟩,
  ⟨(some 7), none, .call 1264112 80 [(.t 6)] false⟩,
  ⟨(some 8), none, .call 1264128 91 [(.t 7)] true⟩,
  ⟨(some 9), none, .call 1264144 84 [(.t 5), (.t 8)] false⟩,
  ⟨none, none, .store 2 (.t 2) (.t 9)⟩]
def c79_r1aQ : List AI := c79_r1a
theorem c79_r1a_e (G : Pure) (ic : Inl) (s : SL) : runL G ic c79_r1aQ s = runL G ic c79_r1a s := rfl
theorem c79_r1a_l (G : Pure) (ic : Inl) (l : Logs) (s : SL) : logL G ic c79_r1aQ l s = logL G ic c79_r1a l s := rfl
def c79 : ACode := .seq (.reg [] c79_r0aQ []) (.seq (.reg [(1, 5)] c79_r1aQ []) (.ret c79_kr))
def c79F : AFun := { params := 1, code := c79, results := [.cell 2 (some 2)] }
attribute [simp] c79_kr c79_r0a_e c79_r0a c79_r1a_e c79_r1a c79_r1a_l c79 c79F
theorem c79_ok : IsFun Try.prog ks 79 c79F := by unfold IsFun; kernel_rfl
/-! pairing/integer.magnitude -/
def c80_kr : Option Keep := some { slots := [2], drops := [1280016] }
def c80_r0a : List AI := [⟨(some 1), none, .box 1280016 31 2 (.t 0)⟩,
  ⟨(some 2), none, .mv (.c (.imm true 1 []))⟩]
def c80_r0aQ : List AI := c80_r0a
theorem c80_r0a_e (G : Pure) (ic : Inl) (s : SL) : runL G ic c80_r0aQ s = runL G ic c80_r0a s := rfl
def c80_r1a : List AI := [⟨(some 4), none, .faddr 1 (.t 1)⟩,
  ⟨(some 5), none, .load none (.t 4)⟩,
  ⟨(some 3), none, .mv (.t 5)⟩]
def c80_r1aQ : List AI := c80_r1a
theorem c80_r1a_e (G : Pure) (ic : Inl) (s : SL) : runL G ic c80_r1aQ s = runL G ic c80_r1a s := rfl
def c80_r2a : List AI := [⟨(some 6), none, .mv (.t 3)⟩,
  ⟨(some 7), none, .len (.t 6)⟩,
  ⟨(some 8), none, .bin .gtr (.t 7) (.c (.int .i64 0))⟩,
  ⟨(some 9), none, .mv (.t 8)⟩,
  ⟨(some 10), (some (9, true)), .mv (.t 3)⟩,
  ⟨(some 11), (some (9, true)), .mv (.t 3)⟩,
  ⟨(some 12), (some (9, true)), .len (.t 11)⟩,
  ⟨(some 13), (some (9, true)), .bin .sub (.t 12) (.c (.int .i64 1))⟩,
  ⟨(some 14), (some (9, true)), .iaddr 1 (.t 10) (.t 13)⟩,
  ⟨(some 15), (some (9, true)), .load none (.t 14)⟩,
  ⟨(some 16), (some (9, true)), .bin .eql (.t 15) (.c (.int .u32 0))⟩,
  ⟨(some 17), none, .pick (.t 9) (.t 16) (.c (.bool false))⟩]
def c80_r2aQ : List AI := c80_r2a
theorem c80_r2a_e (G : Pure) (ic : Inl) (s : SL) : runL G ic c80_r2aQ s = runL G ic c80_r2a s := rfl
def c80_r3a : List AI := [⟨(some 18), none, .mv (.t 3)⟩,
  ⟨(some 19), none, .mv (.t 3)⟩,
  ⟨(some 20), none, .len (.t 19)⟩,
  ⟨(some 21), none, .bin .sub (.t 20) (.c (.int .i64 1))⟩,
  ⟨(some 22), none, .slice 1 (.t 18) none (some (.t 21)) none⟩,
  ⟨(some 3), none, .mv (.t 22)⟩]
def c80_r3aQ : List AI := c80_r3a
theorem c80_r3a_e (G : Pure) (ic : Inl) (s : SL) : runL G ic c80_r3aQ s = runL G ic c80_r3a s := rfl
def c80_b0 : ACode := .seq (.seq (.reg [] c80_r2aQ []) (.cond (.t 17) (.skip) (.exit 0))) (.block none 1 (.reg [] c80_r3aQ []))
def c80_b0Q : ACode := c80_b0
theorem c80_b0_e (G : Pure) (ic : Inl) (n : Nat) (s : SL) : evalC G ic n c80_b0Q s = evalC G ic n c80_b0 s := rfl
def c80_k0 : Keep := { slots := [3], drops := [], adopt := [] }
def c80_e0 : Keep := { slots := [3], drops := [] }
def c80_r4a : List AI := [⟨(some 23), none, .mv (.t 3)⟩,
  ⟨(some 2), none, .mv (.t 23)⟩]
def c80_r4aQ : List AI := c80_r4a
theorem c80_r4a_e (G : Pure) (ic : Inl) (s : SL) : runL G ic c80_r4aQ s = runL G ic c80_r4a s := rfl
def c80 : ACode := .seq (.reg [] c80_r0aQ []) (.seq (.reg [] c80_r1aQ []) (.seq (.block (some c80_e0) 0 (.loop c80_k0 c80_b0Q)) (.seq (.reg [] c80_r4aQ []) (.ret c80_kr))))
def c80F : AFun := { params := 1, code := c80, results := [.tmp 2] }
attribute [simp] c80_kr c80_r0a_e c80_r0a c80_r1a_e c80_r1a c80_r2a_e c80_r2a c80_r3a_e c80_r3a c80_b0_e c80_b0 c80_k0 c80_e0 c80_r4a_e c80_r4a c80 c80F
theorem c80_ok : IsFun Try.prog ks 80 c80F := by unfold IsFun; kernel_rfl
/-! pairing/pairingref1.Compare -/
def c81_kr : Option Keep := some { slots := [4], drops := [1296032, 1296048] }
def c81_r0a : List AI := [⟨(some 2), none, .box 1296032 31 2 (.t 0)⟩,
  ⟨(some 3), none, .box 1296048 31 2 (.t 1)⟩,
  ⟨(some 4), none, .mv (.c (.int .i64 0))⟩]
def c81_r0aQ : List AI := c81_r0a
theorem c81_r0a_e (G : Pure) (ic : Inl) (s : SL) : runL G ic c81_r0aQ s = runL G ic c81_r0a s := rfl
def c81_r1a : List AI := [⟨(some 5), none, .load (some 2) (.t 2)⟩,
  ⟨(some 6), none, .call 1296096 55 [(.t 5)] false⟩,
  ⟨(some 7), none, .load (some 2) (.t 3)⟩,
  ⟨(some 8), none, .call 1296128 55 [(.t 7)] false⟩,
  ⟨none, none, .store 2 (.t 2) (.t 6)⟩,
  ⟨none, none, .store 2 (.t 3) (.t 8)⟩]
def c81_r1aQ : List AI := c81_r1a
theorem c81_r1a_e (G : Pure) (ic : Inl) (s : SL) : runL G ic c81_r1aQ s = runL G ic c81_r1a s := rfl
def c81_r2a : List AI := [⟨(some 9), none, .faddr 0 (.t 2)⟩,
  ⟨(some 10), none, .load none (.t 9)⟩,
  ⟨(some 11), none, .faddr 0 (.t 3)⟩,
  ⟨(some 12), none, .load none (.t 11)⟩,
  ⟨(some 13), none, .binb .neq (.t 10) (.t 12)⟩]
def c81_r2aQ : List AI := c81_r2a
theorem c81_r2a_e (G : Pure) (ic : Inl) (s : SL) : runL G ic c81_r2aQ s = runL G ic c81_r2a s := rfl
def c81_r3a : List AI := [⟨(some 14), none, .faddr 0 (.t 2)⟩,
  ⟨(some 15), none, .load none (.t 14)⟩]
def c81_r3aQ : List AI := c81_r3a
theorem c81_r3a_e (G : Pure) (ic : Inl) (s : SL) : runL G ic c81_r3aQ s = runL G ic c81_r3a s := rfl
def c81_r4a : List AI := [⟨(some 4), none, .mv (.c (.int .i64 (-1)))⟩]
def c81_r4aQ : List AI := c81_r4a
theorem c81_r4a_e (G : Pure) (ic : Inl) (s : SL) : runL G ic c81_r4aQ s = runL G ic c81_r4a s := rfl
def c81_r5a : List AI := [⟨(some 4), none, .mv (.c (.int .i64 1))⟩]
def c81_r5aQ : List AI := c81_r5a
theorem c81_r5a_e (G : Pure) (ic : Inl) (s : SL) : runL G ic c81_r5aQ s = runL G ic c81_r5a s := rfl
def c81_r6a : List AI := [⟨(some 16), none, .faddr 0 (.t 2)⟩,
  ⟨(some 17), none, .load none (.t 16)⟩]
def c81_r6aQ : List AI := c81_r6a
theorem c81_r6a_e (G : Pure) (ic : Inl) (s : SL) : runL G ic c81_r6aQ s = runL G ic c81_r6a s := rfl
def c81_r7a : List AI := [⟨(some 18), none, .faddr 1 (.t 3)⟩,
  ⟨(some 19), none, .load none (.t 18)⟩,
  ⟨(some 20), none, .faddr 1 (.t 2)⟩,
  ⟨(some 21), none, .load none (.t 20)⟩,
  ⟨(some 22), none, .call 1296352 72 [(.t 19), (.t 21)] false⟩,
  ⟨(some 4), none, .mv (.t 22)⟩]
def c81_r7aQ : List AI := c81_r7a
theorem c81_r7a_e (G : Pure) (ic : Inl) (s : SL) : runL G ic c81_r7aQ s = runL G ic c81_r7a s := rfl
def c81_r8a : List AI := [⟨(some 23), none, .faddr 1 (.t 2)⟩,
  ⟨(some 24), none, .load none (.t 23)⟩,
  ⟨(some 25), none, .faddr 1 (.t 3)⟩,
  ⟨(some 26), none, .load none (.t 25)⟩,
  ⟨(some 27), none, .call 1296432 72 [(.t 24), (.t 26)] false⟩,
  ⟨(some 4), none, .mv (.t 27)⟩]
def c81_r8aQ : List AI := c81_r8a
theorem c81_r8a_e (G : Pure) (ic : Inl) (s : SL) : runL G ic c81_r8aQ s = runL G ic c81_r8a s := rfl
def c81 : ACode := .seq (.reg [] c81_r0aQ []) (.seq (.reg [] c81_r1aQ []) (.seq (.seq (.reg [] c81_r2aQ []) (.cond (.t 13) (.seq (.seq (.reg [] c81_r3aQ []) (.cond (.t 15) (.seq (.reg [] c81_r4aQ []) (.ret c81_kr)) (.skip))) (.seq (.reg [] c81_r5aQ []) (.ret c81_kr))) (.skip))) (.seq (.seq (.reg [] c81_r6aQ []) (.cond (.t 17) (.seq (.reg [] c81_r7aQ []) (.ret c81_kr)) (.skip))) (.seq (.reg [] c81_r8aQ []) (.ret c81_kr)))))
def c81F : AFun := { params := 2, code := c81, results := [.tmp 4] }
attribute [simp] c81_kr c81_r0a_e c81_r0a c81_r1a_e c81_r1a c81_r2a_e c81_r2a c81_r3a_e c81_r3a c81_r4a_e c81_r4a c81_r5a_e c81_r5a c81_r6a_e c81_r6a c81_r7a_e c81_r7a c81_r8a_e c81_r8a c81 c81F
theorem c81_ok : IsFun Try.prog ks 81 c81F := by unfold IsFun; kernel_rfl
/-! pairing/integer.GCD -/
def c82_kr : Option Keep := some { slots := [4], drops := [1312032, 1312048] }
def c82_r0a : List AI := [⟨(some 2), none, .box 1312032 31 2 (.t 0)⟩,
  ⟨(some 3), none, .box 1312048 31 2 (.t 1)⟩,
  ⟨(some 4), none, .alloc 1312064 31 [.bool false, .imm true 1 []]⟩]
def c82_r0aQ : List AI := c82_r0a
theorem c82_r0a_e (G : Pure) (ic : Inl) (s : SL) : runL G ic c82_r0aQ s = runL G ic c82_r0a s := rfl
def c82_r1a : List AI := [⟨(some 9), none, .load (some 2) (.t 2)⟩,
  ⟨(some 10), none, .call 1312160 80 [(.t 9)] false⟩,
  ⟨(some 11), none, .call 1312176 91 [(.t 10)] true⟩,
  ⟨(some 12), none, .load (some 2) (.t 3)⟩,
  ⟨(some 13), none, .call 1312208 80 [(.t 12)] false⟩,
  ⟨(some 14), none, .call 1312224 91 [(.t 13)] true⟩,
  ⟨(some 5), none, .mv (.t 11)⟩,
  ⟨(some 6), none, .mv (.t 14)⟩]
def c82_r1aQ : List AI := c82_r1a
theorem c82_r1a_e (G : Pure) (ic : Inl) (s : SL) : runL G ic c82_r1aQ s = runL G ic c82_r1a s := rfl
theorem c82_r1a_l (G : Pure) (ic : Inl) (l : Logs) (s : SL) : logL G ic c82_r1aQ l s = logL G ic c82_r1a l s := rfl
def c82_r2a : List AI := [⟨(some 15), none, .mv (.t 6)⟩,
  ⟨(some 16), none, .len (.t 15)⟩,
  ⟨(some 17), none, .bin .gtr (.t 16) (.c (.int .i64 0))⟩]
def c82_r2aQ : List AI := c82_r2a
theorem c82_r2a_e (G : Pure) (ic : Inl) (s : SL) : runL G ic c82_r2aQ s = runL G ic c82_r2a s := rfl
def c82_r3a : List AI := [⟨(some 19), none, .mv (.t 5)⟩,
  ⟨(some 20), none, .mv (.t 6)⟩,
  ⟨(some 21), none, .call 1312336 92 [(.t 19), (.t 20)] false⟩,
  ⟨(some 18), none, .mv (.t 21)⟩,
  ⟨(some 22), none, .extract (.t 18) 0⟩,
  ⟨(some 23), none, .extract (.t 18) 1⟩,
  ⟨(some 7), none, .mv (.t 22)⟩,
  ⟨(some 8), none, .mv (.t 23)⟩]
def c82_r3aQ : List AI := c82_r3a
theorem c82_r3a_e (G : Pure) (ic : Inl) (s : SL) : runL G ic c82_r3aQ s = runL G ic c82_r3a s := rfl
def c82_r4a : List AI := [⟨(some 24), none, .mv (.t 6)⟩,
  ⟨(some 25), none, .mv (.t 8)⟩,
  ⟨(some 26), none, .build [.bool false, .imm true 1 []] [(1, 1, (.t 25))]⟩,
  ⟨(some 27), none, .call 1312432 80 [(.t 26)] false⟩,
  ⟨(some 5), none, .mv (.t 24)⟩,
  ⟨(some 6), none, .mv (.t 27)⟩]
def c82_r4aQ : List AI := c82_r4a
theorem c82_r4a_e (G : Pure) (ic : Inl) (s : SL) : runL G ic c82_r4aQ s = runL G ic c82_r4a s := rfl
def c82_b0 : ACode := .seq (.seq (.reg [] c82_r2aQ []) (.cond (.t 17) (.skip) (.exit 0))) (.block none 1 (.seq (.reg [] c82_r3aQ []) (.reg [] c82_r4aQ [])))
def c82_b0Q : ACode := c82_b0
theorem c82_b0_e (G : Pure) (ic : Inl) (n : Nat) (s : SL) : evalC G ic n c82_b0Q s = evalC G ic n c82_b0 s := rfl
def c82_k0 : Keep := { slots := [4, 5, 6], drops := [], adopt := [] }
def c82_e0 : Keep := { slots := [4, 5], drops := [] }
def c82_r5a : List AI := [⟨(some 28), none, .mv (.t 5)⟩,
  ⟨(some 29), none, .call 1312464 84 [(.c (.bool false)), (.t 28)] false⟩,
  ⟨none, none, .store 2 (.t 4) (.t 29)⟩]
def c82_r5aQ : List AI := c82_r5a
theorem c82_r5a_e (G : Pure) (ic : Inl) (s : SL) : runL G ic c82_r5aQ s = runL G ic c82_r5a s := rfl
def c82 : ACode := .seq (.reg [] c82_r0aQ []) (.seq (.reg [(2, 3)] c82_r1aQ []) (.seq (.block (some c82_e0) 0 (.loop c82_k0 c82_b0Q)) (.seq (.reg [] c82_r5aQ []) (.ret c82_kr))))
def c82F : AFun := { params := 2, code := c82, results := [.cell 4 (some 2)] }
attribute [simp] c82_kr c82_r0a_e c82_r0a c82_r1a_e c82_r1a c82_r1a_l c82_r2a_e c82_r2a c82_r3a_e c82_r3a c82_r4a_e c82_r4a c82_b0_e c82_b0 c82_k0 c82_e0 c82_r5a_e c82_r5a c82 c82F
theorem c82_ok : IsFun Try.prog ks 82 c82F := by unfold IsFun; kernel_rfl
/-! pairing/integer.DivMod -/
def c83_kr : Option Keep := some { slots := [4, 5, 6], drops := [1328032, 1328048] }
def c83_r0a : List AI := [⟨(some 2), none, .box 1328032 31 2 (.t 0)⟩,
  ⟨(some 3), none, .box 1328048 31 2 (.t 1)⟩,
  ⟨(some 4), none, .alloc 1328064 31 [.bool false, .imm true 1 []]⟩,
  ⟨(some 5), none, .alloc 1328080 31 [.bool false, .imm true 1 []]⟩,
  ⟨(some 6), none, .mv (.c (.int .i64 0))⟩]
def c83_r0aQ : List AI := c83_r0a
theorem c83_r0a_e (G : Pure) (ic : Inl) (s : SL) : runL G ic c83_r0aQ s = runL G ic c83_r0a s := rfl
def c83_r1a : List AI := [⟨(some 9), none, .load (some 2) (.t 3)⟩,
  ⟨(some 10), none, .call 1328160 63 [(.t 9)] false⟩,
  ⟨(some 11), none, .bin .eql (.t 10) (.c (.int .i64 0))⟩]
def c83_r1aQ : List AI := c83_r1a
theorem c83_r1a_e (G : Pure) (ic : Inl) (s : SL) : runL G ic c83_r1aQ s = runL G ic c83_r1a s := rfl
def c83_r2a : List AI := [⟨(some 12), none, .build [.bool false, .imm true 1 []] []⟩,
  ⟨(some 13), none, .build [.bool false, .imm true 1 []] []⟩,
  ⟨none, none, .store 2 (.t 4) (.t 12)⟩,
  ⟨none, none, .store 2 (.t 5) (.t 13)⟩,
  ⟨(some 6), none, .mv (.c (.int .i64 11))⟩]
def c83_r2aQ : List AI := c83_r2a
theorem c83_r2a_e (G : Pure) (ic : Inl) (s : SL) : runL G ic c83_r2aQ s = runL G ic c83_r2a s := rfl
def c83_r3a : List AI := [⟨(some 15), none, .load (some 2) (.t 2)⟩,
  ⟨(some 16), none, .call 1328256 80 [(.t 15)] false⟩,
  ⟨(some 17), none, .load (some 2) (.t 3)⟩,
  ⟨(some 18), none, .call 1328288 80 [(.t 17)] false⟩,
  ⟨(some 19), none, .call 1328304 92 [(.t 16), (.t 18)] false⟩,
  ⟨(some 14), none, .mv (.t 19)⟩,
  ⟨(some 20), none, .extract (.t 14) 0⟩,
  ⟨(some 21), none, .extract (.t 14) 1⟩,
  ⟨(some 7), none, .mv (.t 20)⟩,
  ⟨(some 8), none, .mv (.t 21)⟩]
def c83_r3aQ : List AI := c83_r3a
theorem c83_r3a_e (G : Pure) (ic : Inl) (s : SL) : runL G ic c83_r3aQ s = runL G ic c83_r3a s := rfl
def c83_r4a : List AI := [⟨(some 22), none, .faddr 0 (.t 2)⟩,
  ⟨(some 23), none, .load none (.t 22)⟩,
  ⟨(some 24), none, .faddr 0 (.t 3)⟩,
  ⟨(some 25), none, .load none (.t 24)⟩,
  ⟨(some 26), none, .binb .eql (.t 23) (.t 25)⟩]
def c83_r4aQ : List AI := c83_r4a
theorem c83_r4a_e (G : Pure) (ic : Inl) (s : SL) : runL G ic c83_r4aQ s = runL G ic c83_r4a s := rfl
def c83_r5a : List AI := [⟨(some 27), none, .mv (.t 7)⟩,
  ⟨(some 28), none, .call 1328448 84 [(.c (.bool false)), (.t 27)] false⟩,
  ⟨(some 29), none, .faddr 0 (.t 3)⟩,
  ⟨(some 30), none, .load none (.t 29)⟩,
  ⟨(some 31), none, .mv (.t 8)⟩,
  ⟨(some 32), none, .call 1328512 84 [(.t 30), (.t 31)] false⟩,
  ⟨none, none, .store 2 (.t 4) (.t 28)⟩,
  ⟨none, none, .store 2 (.t 5) (.t 32)⟩,
  ⟨(some 6), none, .mv (.c (.int .i64 0))⟩]
def c83_r5aQ : List AI := c83_r5a
theorem c83_r5a_e (G : Pure) (ic : Inl) (s : SL) : runL G ic c83_r5aQ s = runL G ic c83_r5a s := rfl
def c83_r6a : List AI := [⟨(some 33), none, .mv (.t 7)⟩,
  ⟨(some 34), none, .call 1328544 84 [(.c (.bool true)), (.t 33)] false⟩,
  ⟨(some 35), none, .faddr 0 (.t 2)⟩,
  ⟨(some 36), none, .load none (.t 35)⟩,
  ⟨(some 37), none, .mv (.t 8)⟩,
  ⟨(some 38), none, .call 1328608 84 [(.t 36), (.t 37)] false⟩,
  ⟨none, none, .store 2 (.t 4) (.t 34)⟩,
  ⟨none, none, .store 2 (.t 5) (.t 38)⟩]
def c83_r6aQ : List AI := c83_r6a
theorem c83_r6a_e (G : Pure) (ic : Inl) (s : SL) : runL G ic c83_r6aQ s = runL G ic c83_r6a s := rfl
def c83_r7a : List AI := [⟨(some 39), none, .load (some 2) (.t 5)⟩,
  ⟨(some 40), none, .call 1328640 63 [(.t 39)] false⟩,
  ⟨(some 41), none, .bin .neq (.t 40) (.c (.int .i64 0))⟩]
def c83_r7aQ : List AI := c83_r7a
theorem c83_r7a_e (G : Pure) (ic : Inl) (s : SL) : runL G ic c83_r7aQ s = runL G ic c83_r7a s := rfl
def c83_r8a : List AI := [⟨(some 42), none, .load (some 2) (.t 4)⟩,
  ⟨(some 43), none, .call 1328688 69 [(.c (.int .i64 1))] false⟩,
  ⟨(some 44), none, .call 1328704 93 [(.t 42), (.t 43)] false⟩,
  ⟨(some 45), none, .load (some 2) (.t 5)⟩,
  ⟨(some 46), none, .load (some 2) (.t 3)⟩,
  ⟨(some 47), none, .call 1328752 67 [(.t 45), (.t 46)] false⟩,
  ⟨none, none, .store 2 (.t 4) (.t 44)⟩,
  ⟨none, none, .store 2 (.t 5) (.t 47)⟩]
def c83_r8aQ : List AI := c83_r8a
theorem c83_r8a_e (G : Pure) (ic : Inl) (s : SL) : runL G ic c83_r8aQ s = runL G ic c83_r8a s := rfl
def c83_r9a : List AI := [⟨(some 48), none, .load (some 2) (.t 4)⟩,
  ⟨(some 49), none, .load (some 2) (.t 5)⟩,
  ⟨none, none, .store 2 (.t 4) (.t 48)⟩,
  ⟨none, none, .store 2 (.t 5) (.t 49)⟩,
  ⟨(some 6), none, .mv (.c (.int .i64 0))⟩]
def c83_r9aQ : List AI := c83_r9a
theorem c83_r9a_e (G : Pure) (ic : Inl) (s : SL) : runL G ic c83_r9aQ s = runL G ic c83_r9a s := rfl
theorem c83_r9a_l (G : Pure) (ic : Inl) (l : Logs) (s : SL) : logL G ic c83_r9aQ l s = logL G ic c83_r9a l s := rfl
def c83 : ACode := .seq (.reg [] c83_r0aQ []) (.seq (.seq (.reg [] c83_r1aQ []) (.cond (.t 11) (.seq (.reg [] c83_r2aQ []) (.ret c83_kr)) (.skip))) (.seq (.reg [] c83_r3aQ []) (.seq (.seq (.reg [] c83_r4aQ []) (.cond (.t 26) (.seq (.reg [] c83_r5aQ []) (.ret c83_kr)) (.skip))) (.seq (.reg [] c83_r6aQ []) (.seq (.seq (.reg [] c83_r7aQ []) (.cond (.t 41) (.reg [] c83_r8aQ []) (.skip))) (.seq (.reg [(1, 2)] c83_r9aQ []) (.ret c83_kr)))))))
def c83F : AFun := { params := 2, code := c83, results := [.cell 4 (some 2), .cell 5 (some 2), .tmp 6] }
attribute [simp] c83_kr c83_r0a_e c83_r0a c83_r1a_e c83_r1a c83_r2a_e c83_r2a c83_r3a_e c83_r3a c83_r4a_e c83_r4a c83_r5a_e c83_r5a c83_r6a_e c83_r6a c83_r7a_e c83_r7a c83_r8a_e c83_r8a c83_r9a_e c83_r9a c83_r9a_l c83 c83F
theorem c83_ok : IsFun Try.prog ks 83 c83F := by unfold IsFun; kernel_rfl
/-! pairing/integer.canonical -/
def c84_kr : Option Keep := some { slots := [4], drops := [] }
def c84_r0a : List AI := [⟨(some 4), none, .alloc 1344064 31 [.bool false, .imm true 1 []]⟩]
def c84_r0aQ : List AI := c84_r0a
theorem c84_r0a_e (G : Pure) (ic : Inl) (s : SL) : runL G ic c84_r0aQ s = runL G ic c84_r0a s := rfl
def c84_r1a : List AI := [⟨(some 5), none, .mv (.t 1)⟩,
  ⟨(some 6), none, .len (.t 5)⟩,
  ⟨(some 7), none, .bin .gtr (.t 6) (.c (.int .i64 0))⟩,
  ⟨(some 8), none, .mv (.t 7)⟩,
  ⟨(some 9), (some (8, true)), .mv (.t 1)⟩,
  ⟨(some 10), (some (8, true)), .mv (.t 1)⟩,
  ⟨(some 11), (some (8, true)), .len (.t 10)⟩,
  ⟨(some 12), (some (8, true)), .bin .sub (.t 11) (.c (.int .i64 1))⟩,
  ⟨(some 13), (some (8, true)), .iaddr 1 (.t 9) (.t 12)⟩,
  ⟨(some 14), (some (8, true)), .load none (.t 13)⟩,
  ⟨(some 15), (some (8, true)), .bin .eql (.t 14) (.c (.int .u32 0))⟩,
  ⟨(some 16), none, .pick (.t 8) (.t 15) (.c (.bool false))⟩]
def c84_r1aQ : List AI := c84_r1a
theorem c84_r1a_e (G : Pure) (ic : Inl) (s : SL) : runL G ic c84_r1aQ s = runL G ic c84_r1a s := rfl
def c84_r2a : List AI := [⟨(some 17), none, .mv (.t 1)⟩,
  ⟨(some 18), none, .mv (.t 1)⟩,
  ⟨(some 19), none, .len (.t 18)⟩,
  ⟨(some 20), none, .bin .sub (.t 19) (.c (.int .i64 1))⟩,
  ⟨(some 21), none, .slice 1 (.t 17) none (some (.t 20)) none⟩,
  ⟨(some 1), none, .mv (.t 21)⟩]
def c84_r2aQ : List AI := c84_r2a
theorem c84_r2a_e (G : Pure) (ic : Inl) (s : SL) : runL G ic c84_r2aQ s = runL G ic c84_r2a s := rfl
def c84_b0 : ACode := .seq (.seq (.reg [] c84_r1aQ []) (.cond (.t 16) (.skip) (.exit 0))) (.block none 1 (.reg [] c84_r2aQ []))
def c84_b0Q : ACode := c84_b0
theorem c84_b0_e (G : Pure) (ic : Inl) (n : Nat) (s : SL) : evalC G ic n c84_b0Q s = evalC G ic n c84_b0 s := rfl
def c84_k0 : Keep := { slots := [0, 1, 4], drops := [], adopt := [] }
def c84_e0 : Keep := { slots := [0, 1, 4], drops := [] }
def c84_r3a : List AI := [⟨(some 22), none, .mv (.t 1)⟩,
  ⟨(some 23), none, .len (.t 22)⟩,
  ⟨(some 24), none, .bin .eql (.t 23) (.c (.int .i64 0))⟩]
def c84_r3aQ : List AI := c84_r3a
theorem c84_r3a_e (G : Pure) (ic : Inl) (s : SL) : runL G ic c84_r3aQ s = runL G ic c84_r3a s := rfl
def c84_r4a : List AI := [⟨(some 25), none, .build [.bool false, .imm true 1 []] []⟩,
  ⟨none, none, .store 2 (.t 4) (.t 25)⟩]
def c84_r4aQ : List AI := c84_r4a
theorem c84_r4a_e (G : Pure) (ic : Inl) (s : SL) : runL G ic c84_r4aQ s = runL G ic c84_r4a s := rfl
def c84_r5a : List AI := [⟨(some 26), none, .mv (.t 0)⟩,
  ⟨(some 27), none, .mv (.t 1)⟩,
  ⟨(some 28), none, .mv (.t 1)⟩,
  ⟨(some 29), none, .len (.t 28)⟩,
  ⟨(some 30), none, .mv (.t 1)⟩,
  ⟨(some 31), none, .len (.t 30)⟩,
  ⟨(some 32), none, .slice 1 (.t 27) none (some (.t 29)) (some (.t 31))⟩,
  ⟨(some 33), none, .build [.bool false, .imm true 1 []] [(0, 1, (.t 26)), (1, 1, (.t 32))]⟩,
  ⟨none, none, .store 2 (.t 4) (.t 33)⟩]
def c84_r5aQ : List AI := c84_r5a
theorem c84_r5a_e (G : Pure) (ic : Inl) (s : SL) : runL G ic c84_r5aQ s = runL G ic c84_r5a s := rfl
def c84 : ACode := .seq (.reg [] c84_r0aQ []) (.seq (.block (some c84_e0) 0 (.loop c84_k0 c84_b0Q)) (.seq (.seq (.reg [] c84_r3aQ []) (.cond (.t 24) (.seq (.reg [] c84_r4aQ []) (.ret c84_kr)) (.skip))) (.seq (.reg [] c84_r5aQ []) (.ret c84_kr))))
def c84F : AFun := { params := 2, code := c84, results := [.cell 4 (some 2)] }
attribute [simp] c84_kr c84_r0a_e c84_r0a c84_r1a_e c84_r1a c84_r2a_e c84_r2a c84_b0_e c84_b0 c84_k0 c84_e0 c84_r3a_e c84_r3a c84_r4a_e c84_r4a c84_r5a_e c84_r5a c84 c84F
theorem c84_ok : IsFun Try.prog ks 84 c84F := by unfold IsFun; kernel_rfl
/-! pairing/integer.times -/
def c85_kr : Option Keep := some { slots := [4], drops := [] }
def c85_r0a : List AI := [⟨(some 4), none, .mv (.c (.imm true 1 []))⟩]
def c85_r0aQ : List AI := c85_r0a
theorem c85_r0a_e (G : Pure) (ic : Inl) (s : SL) : runL G ic c85_r0aQ s = runL G ic c85_r0a s := rfl
def c85_r1a : List AI := [⟨(some 11), none, .mv (.t 0)⟩,
  ⟨(some 12), none, .len (.t 11)⟩,
  ⟨(some 13), none, .mv (.t 1)⟩,
  ⟨(some 14), none, .len (.t 13)⟩,
  ⟨(some 15), none, .bin .add (.t 12) (.t 14)⟩,
  ⟨(some 16), none, .make 1360256 88 1 4 [.int .u32 0] (.t 15) (.t 15)⟩,
  ⟨(some 5), none, .mv (.t 16)⟩]
def c85_r1aQ : List AI := c85_r1a
theorem c85_r1a_e (G : Pure) (ic : Inl) (s : SL) : runL G ic c85_r1aQ s = runL G ic c85_r1a s := rfl
def c85_r2a : List AI := [⟨(some 17), none, .mv (.t 0)⟩,
  ⟨(some 18), none, .len (.t 17)⟩,
  ⟨(some 19), none, .mv (.c (.int .i64 0))⟩]
def c85_r2aQ : List AI := c85_r2a
theorem c85_r2a_e (G : Pure) (ic : Inl) (s : SL) : runL G ic c85_r2aQ s = runL G ic c85_r2a s := rfl
def c85_r3a : List AI := [⟨(some 20), none, .bin .lss (.t 19) (.t 18)⟩]
def c85_r3aQ : List AI := c85_r3a
theorem c85_r3a_e (G : Pure) (ic : Inl) (s : SL) : runL G ic c85_r3aQ s = runL G ic c85_r3a s := rfl
def c85_r4a : List AI := [⟨(some 21), none, .mv (.t 19)⟩,
  ⟨(some 22), none, .iaddr 1 (.t 17) (.t 19)⟩,
  ⟨(some 23), none, .load none (.t 22)⟩,
  ⟨(some 6), none, .mv (.t 21)⟩,
  ⟨(some 7), none, .mv (.t 23)⟩]
def c85_r4aQ : List AI := c85_r4a
theorem c85_r4a_e (G : Pure) (ic : Inl) (s : SL) : runL G ic c85_r4aQ s = runL G ic c85_r4a s := rfl
def c85_r5a : List AI := [⟨(some 8), none, .mv (.c (.int .u64 0))⟩]
def c85_r5aQ : List AI := c85_r5a
theorem c85_r5a_e (G : Pure) (ic : Inl) (s : SL) : runL G ic c85_r5aQ s = runL G ic c85_r5a s := rfl
def c85_r6a : List AI := [⟨(some 24), none, .mv (.t 1)⟩,
  ⟨(some 25), none, .len (.t 24)⟩,
  ⟨(some 26), none, .mv (.c (.int .i64 0))⟩]
def c85_r6aQ : List AI := c85_r6a
theorem c85_r6a_e (G : Pure) (ic : Inl) (s : SL) : runL G ic c85_r6aQ s = runL G ic c85_r6a s := rfl
def c85_r7a : List AI := [⟨(some 27), none, .bin .lss (.t 26) (.t 25)⟩]
def c85_r7aQ : List AI := c85_r7a
theorem c85_r7a_e (G : Pure) (ic : Inl) (s : SL) : runL G ic c85_r7aQ s = runL G ic c85_r7a s := rfl
def c85_r8a : List AI := [⟨(some 28), none, .mv (.t 26)⟩,
  ⟨(some 29), none, .iaddr 1 (.t 24) (.t 26)⟩,
  ⟨(some 30), none, .load none (.t 29)⟩,
  ⟨(some 9), none, .mv (.t 28)⟩,
  ⟨(some 10), none, .mv (.t 30)⟩]
def c85_r8aQ : List AI := c85_r8a
theorem c85_r8a_e (G : Pure) (ic : Inl) (s : SL) : runL G ic c85_r8aQ s = runL G ic c85_r8a s := rfl
def c85_r9a : List AI := [⟨(some 31), none, .mv (.t 8)⟩,
  ⟨(some 32), none, .mv (.t 7)⟩,
  ⟨(some 33), none, .conv .u64 (.t 32)⟩,
  ⟨(some 34), none, .mv (.t 10)⟩,
  ⟨(some 35), none, .conv .u64 (.t 34)⟩,
  ⟨(some 36), none, .bin .mul (.t 33) (.t 35)⟩,
  ⟨(some 37), none, .mv (.t 5)⟩,
  ⟨(some 38), none, .mv (.t 6)⟩,
  ⟨(some 39), none, .mv (.t 9)⟩,
  ⟨(some 40), none, .bin .add (.t 38) (.t 39)⟩,
  ⟨(some 41), none, .iaddr 1 (.t 37) (.t 40)⟩,
  ⟨(some 42), none, .load none (.t 41)⟩,
  ⟨(some 43), none, .conv .u64 (.t 42)⟩,
  ⟨(some 44), none, .bin .add (.t 36) (.t 43)⟩,
  ⟨(some 45), none, .bin .add (.t 31) (.t 44)⟩,
  ⟨(some 8), none, .mv (.t 45)⟩]
def c85_r9aQ : List AI := c85_r9a
theorem c85_r9a_e (G : Pure) (ic : Inl) (s : SL) : runL G ic c85_r9aQ s = runL G ic c85_r9a s := rfl
def c85_r10a : List AI := [⟨(some 46), none, .mv (.t 5)⟩,
  ⟨(some 47), none, .mv (.t 6)⟩,
  ⟨(some 48), none, .mv (.t 9)⟩,
  ⟨(some 49), none, .bin .add (.t 47) (.t 48)⟩,
  ⟨(some 50), none, .mv (.t 8)⟩,
  ⟨(some 51), none, .conv .u32 (.t 50)⟩,
  ⟨(some 52), none, .iaddr 1 (.t 46) (.t 49)⟩,
  ⟨none, none, .store 1 (.t 52) (.t 51)⟩]
def c85_r10aQ : List AI := c85_r10a
theorem c85_r10a_e (G : Pure) (ic : Inl) (s : SL) : runL G ic c85_r10aQ s = runL G ic c85_r10a s := rfl
def c85_r11a : List AI := [⟨(some 53), none, .mv (.t 8)⟩,
  ⟨(some 54), none, .bin .shr (.t 53) (.c (.int .u64 32))⟩,
  ⟨(some 8), none, .mv (.t 54)⟩]
def c85_r11aQ : List AI := c85_r11a
theorem c85_r11a_e (G : Pure) (ic : Inl) (s : SL) : runL G ic c85_r11aQ s = runL G ic c85_r11a s := rfl
def c85_r12a : List AI := [⟨(some 55), none, .bin .add (.t 26) (.c (.int .i64 1))⟩,
  ⟨(some 26), none, .mv (.t 55)⟩]
def c85_r12aQ : List AI := c85_r12a
theorem c85_r12a_e (G : Pure) (ic : Inl) (s : SL) : runL G ic c85_r12aQ s = runL G ic c85_r12a s := rfl
def c85_b0 : ACode := .seq (.reg [] c85_r7aQ []) (.seq (.cond (.t 27) (.skip) (.exit 2)) (.seq (.block none 3 (.seq (.reg [] c85_r8aQ []) (.seq (.reg [] c85_r9aQ []) (.seq (.reg [] c85_r10aQ []) (.reg [] c85_r11aQ []))))) (.reg [] c85_r12aQ [])))
def c85_b0Q : ACode := c85_b0
theorem c85_b0_e (G : Pure) (ic : Inl) (n : Nat) (s : SL) : evalC G ic n c85_b0Q s = evalC G ic n c85_b0 s := rfl
def c85_k0 : Keep := { slots := [1, 5, 6, 7, 8, 17, 18, 19, 24, 25, 26], drops := [], adopt := [] }
def c85_e0 : Keep := { slots := [1, 5, 6, 8, 17, 18, 19], drops := [] }
def c85_r13a : List AI := [⟨(some 56), none, .mv (.t 5)⟩,
  ⟨(some 57), none, .mv (.t 6)⟩,
  ⟨(some 58), none, .mv (.t 1)⟩,
  ⟨(some 59), none, .len (.t 58)⟩,
  ⟨(some 60), none, .bin .add (.t 57) (.t 59)⟩,
  ⟨(some 61), none, .mv (.t 8)⟩,
  ⟨(some 62), none, .conv .u32 (.t 61)⟩,
  ⟨(some 63), none, .iaddr 1 (.t 56) (.t 60)⟩,
  ⟨none, none, .store 1 (.t 63) (.t 62)⟩]
def c85_r13aQ : List AI := c85_r13a
theorem c85_r13a_e (G : Pure) (ic : Inl) (s : SL) : runL G ic c85_r13aQ s = runL G ic c85_r13a s := rfl
def c85_r14a : List AI := [⟨(some 64), none, .bin .add (.t 19) (.c (.int .i64 1))⟩,
  ⟨(some 19), none, .mv (.t 64)⟩]
def c85_r14aQ : List AI := c85_r14a
theorem c85_r14a_e (G : Pure) (ic : Inl) (s : SL) : runL G ic c85_r14aQ s = runL G ic c85_r14a s := rfl
def c85_b1 : ACode := .seq (.reg [] c85_r3aQ []) (.seq (.cond (.t 20) (.skip) (.exit 0)) (.seq (.block none 1 (.seq (.reg [] c85_r4aQ []) (.seq (.reg [] c85_r5aQ []) (.seq (.seq (.reg [] c85_r6aQ []) (.block (some c85_e0) 2 (.loop c85_k0 c85_b0Q))) (.reg [] c85_r13aQ []))))) (.reg [] c85_r14aQ [])))
def c85_b1Q : ACode := c85_b1
theorem c85_b1_e (G : Pure) (ic : Inl) (n : Nat) (s : SL) : evalC G ic n c85_b1Q s = evalC G ic n c85_b1 s := rfl
def c85_k1 : Keep := { slots := [1, 5, 17, 18, 19], drops := [], adopt := [] }
def c85_e1 : Keep := { slots := [5], drops := [] }
def c85_r15a : List AI := [⟨(some 65), none, .mv (.t 5)⟩,
  ⟨(some 4), none, .mv (.t 65)⟩]
def c85_r15aQ : List AI := c85_r15a
theorem c85_r15a_e (G : Pure) (ic : Inl) (s : SL) : runL G ic c85_r15aQ s = runL G ic c85_r15a s := rfl
def c85 : ACode := .seq (.reg [] c85_r0aQ []) (.seq (.reg [] c85_r1aQ []) (.seq (.seq (.reg [] c85_r2aQ []) (.block (some c85_e1) 0 (.loop c85_k1 c85_b1Q))) (.seq (.reg [] c85_r15aQ []) (.ret c85_kr))))
def c85F : AFun := { params := 2, code := c85, results := [.tmp 4] }
attribute [simp] c85_kr c85_r0a_e c85_r0a c85_r1a_e c85_r1a c85_r2a_e c85_r2a c85_r3a_e c85_r3a c85_r4a_e c85_r4a c85_r5a_e c85_r5a c85_r6a_e c85_r6a c85_r7a_e c85_r7a c85_r8a_e c85_r8a c85_r9a_e c85_r9a c85_r10a_e c85_r10a c85_r11a_e c85_r11a c85_r12a_e c85_r12a c85_b0_e c85_b0 c85_k0 c85_e0 c85_r13a_e c85_r13a c85_r14a_e c85_r14a c85_b1_e c85_b1 c85_k1 c85_e1 c85_r15a_e c85_r15a c85 c85F
theorem c85_ok : IsFun Try.prog ks 85 c85F := by unfold IsFun; kernel_rfl
/-! pairing/integer.sum -/
def c86_kr : Option Keep := some { slots := [6], drops := [1376048, 1376064] }
def c86_r0a : List AI := [⟨(some 3), none, .box 1376048 31 2 (.t 0)⟩,
  ⟨(some 4), none, .box 1376064 31 2 (.t 1)⟩,
  ⟨(some 6), none, .alloc 1376096 31 [.bool false, .imm true 1 []]⟩]
def c86_r0aQ : List AI := c86_r0a
theorem c86_r0a_e (G : Pure) (ic : Inl) (s : SL) : runL G ic c86_r0aQ s = runL G ic c86_r0a s := rfl
def c86_r1a : List AI := [⟨(some 9), none, .load (some 2) (.t 3)⟩,
  ⟨(some 10), none, .call 1376160 80 [(.t 9)] false⟩,
  ⟨(some 11), none, .load (some 2) (.t 4)⟩,
  ⟨(some 12), none, .call 1376192 80 [(.t 11)] false⟩,
  ⟨(some 7), none, .mv (.t 10)⟩,
  ⟨(some 8), none, .mv (.t 12)⟩]
def c86_r1aQ : List AI := c86_r1a
theorem c86_r1a_e (G : Pure) (ic : Inl) (s : SL) : runL G ic c86_r1aQ s = runL G ic c86_r1a s := rfl
def c86_r2a : List AI := [⟨(some 14), none, .faddr 0 (.t 3)⟩,
  ⟨(some 15), none, .load none (.t 14)⟩,
  ⟨(some 16), none, .mv (.t 2)⟩,
  ⟨(some 17), none, .binb .eql (.t 15) (.t 16)⟩,
  ⟨(some 13), none, .mv (.t 17)⟩]
def c86_r2aQ : List AI := c86_r2a
theorem c86_r2a_e (G : Pure) (ic : Inl) (s : SL) : runL G ic c86_r2aQ s = runL G ic c86_r2a s := rfl
def c86_r3a : List AI := [⟨(some 18), none, .mv (.t 2)⟩,
  ⟨(some 19), none, .mv (.t 7)⟩,
  ⟨(some 20), none, .mv (.t 8)⟩,
  ⟨(some 21), none, .call 1376336 94 [(.t 19), (.t 20)] false⟩,
  ⟨(some 22), none, .call 1376352 84 [(.t 18), (.t 21)] false⟩,
  ⟨none, none, .store 2 (.t 6) (.t 22)⟩]
def c86_r3aQ : List AI := c86_r3a
theorem c86_r3a_e (G : Pure) (ic : Inl) (s : SL) : runL G ic c86_r3aQ s = runL G ic c86_r3a s := rfl
def c86_r4a : List AI := [⟨(some 24), none, .mv (.t 7)⟩,
  ⟨(some 25), none, .mv (.t 8)⟩,
  ⟨(some 26), none, .call 1376416 95 [(.t 24), (.t 25)] false⟩,
  ⟨(some 27), none, .bin .geq (.t 26) (.c (.int .i64 0))⟩,
  ⟨(some 23), none, .mv (.t 27)⟩]
def c86_r4aQ : List AI := c86_r4a
theorem c86_r4a_e (G : Pure) (ic : Inl) (s : SL) : runL G ic c86_r4aQ s = runL G ic c86_r4a s := rfl
def c86_r5a : List AI := [⟨(some 28), none, .faddr 0 (.t 3)⟩,
  ⟨(some 29), none, .load none (.t 28)⟩,
  ⟨(some 30), none, .mv (.t 7)⟩,
  ⟨(some 31), none, .mv (.t 8)⟩,
  ⟨(some 32), none, .call 1376512 96 [(.t 30), (.t 31)] false⟩,
  ⟨(some 33), none, .call 1376528 84 [(.t 29), (.t 32)] false⟩,
  ⟨none, none, .store 2 (.t 6) (.t 33)⟩]
def c86_r5aQ : List AI := c86_r5a
theorem c86_r5a_e (G : Pure) (ic : Inl) (s : SL) : runL G ic c86_r5aQ s = runL G ic c86_r5a s := rfl
def c86_r6a : List AI := [⟨(some 34), none, .mv (.t 2)⟩,
  ⟨(some 35), none, .mv (.t 8)⟩,
  ⟨(some 36), none, .mv (.t 7)⟩,
  ⟨(some 37), none, .call 1376592 96 [(.t 35), (.t 36)] false⟩,
  ⟨(some 38), none, .call 1376608 84 [(.t 34), (.t 37)] false⟩,
  ⟨none, none, .store 2 (.t 6) (.t 38)⟩]
def c86_r6aQ : List AI := c86_r6a
theorem c86_r6a_e (G : Pure) (ic : Inl) (s : SL) : runL G ic c86_r6aQ s = runL G ic c86_r6a s := rfl
def c86 : ACode := .seq (.reg [] c86_r0aQ []) (.seq (.reg [] c86_r1aQ []) (.seq (.block none 0 (.seq (.reg [] c86_r2aQ []) (.cond (.t 13) (.seq (.reg [] c86_r3aQ []) (.ret c86_kr)) (.seq (.reg [] c86_r4aQ []) (.cond (.t 23) (.seq (.reg [] c86_r5aQ []) (.ret c86_kr)) (.skip)))))) (.seq (.reg [] c86_r6aQ []) (.ret c86_kr))))
def c86F : AFun := { params := 3, code := c86, results := [.cell 6 (some 2)] }
attribute [simp] c86_kr c86_r0a_e c86_r0a c86_r1a_e c86_r1a c86_r2a_e c86_r2a c86_r3a_e c86_r3a c86_r4a_e c86_r4a c86_r5a_e c86_r5a c86_r6a_e c86_r6a c86 c86F
theorem c86_ok : IsFun Try.prog ks 86 c86F := by unfold IsFun; kernel_rfl
/-! pairing/pairingref1.digit -/
def c87_kr : Option Keep := some { slots := [4], drops := [] }
def c87_r0a : List AI := [⟨(some 4), none, .mv (.c (.int .u64 0))⟩]
def c87_r0aQ : List AI := c87_r0a
theorem c87_r0a_e (G : Pure) (ic : Inl) (s : SL) : runL G ic c87_r0aQ s = runL G ic c87_r0a s := rfl
def c87_r1a : List AI := [⟨(some 5), none, .mv (.t 1)⟩,
  ⟨(some 6), none, .mv (.t 0)⟩,
  ⟨(some 7), none, .len (.t 6)⟩,
  ⟨(some 8), none, .bin .lss (.t 5) (.t 7)⟩]
def c87_r1aQ : List AI := c87_r1a
theorem c87_r1a_e (G : Pure) (ic : Inl) (s : SL) : runL G ic c87_r1aQ s = runL G ic c87_r1a s := rfl
def c87_r2a : List AI := [⟨(some 9), none, .mv (.t 0)⟩,
  ⟨(some 10), none, .mv (.t 1)⟩,
  ⟨(some 11), none, .iaddr 1 (.t 9) (.t 10)⟩,
  ⟨(some 12), none, .load none (.t 11)⟩,
  ⟨(some 13), none, .conv .u64 (.t 12)⟩,
  ⟨(some 4), none, .mv (.t 13)⟩]
def c87_r2aQ : List AI := c87_r2a
theorem c87_r2a_e (G : Pure) (ic : Inl) (s : SL) : runL G ic c87_r2aQ s = runL G ic c87_r2a s := rfl
def c87_r3a : List AI := [⟨(some 4), none, .mv (.c (.int .u64 0))⟩]
def c87_r3aQ : List AI := c87_r3a
theorem c87_r3a_e (G : Pure) (ic : Inl) (s : SL) : runL G ic c87_r3aQ s = runL G ic c87_r3a s := rfl
def c87 : ACode := .seq (.reg [] c87_r0aQ []) (.seq (.seq (.reg [] c87_r1aQ []) (.cond (.t 8) (.seq (.reg [] c87_r2aQ []) (.ret c87_kr)) (.skip))) (.seq (.reg [] c87_r3aQ []) (.ret c87_kr)))
def c87F : AFun := { params := 2, code := c87, results := [.tmp 4] }
attribute [simp] c87_kr c87_r0a_e c87_r0a c87_r1a_e c87_r1a c87_r2a_e c87_r2a c87_r3a_e c87_r3a c87 c87F
theorem c87_ok : IsFun Try.prog ks 87 c87F := by unfold IsFun; kernel_rfl
/-! pairing/pairingref1.bitLen -/
def c88_kr : Option Keep := some { slots := [2], drops := [] }
def c88_r0a : List AI := [⟨(some 2), none, .mv (.c (.int .i64 0))⟩]
def c88_r0aQ : List AI := c88_r0a
theorem c88_r0a_e (G : Pure) (ic : Inl) (s : SL) : runL G ic c88_r0aQ s = runL G ic c88_r0a s := rfl
def c88_r1a : List AI := [⟨(some 5), none, .mv (.t 0)⟩,
  ⟨(some 6), none, .call 1408096 74 [(.t 5)] false⟩,
  ⟨(some 0), none, .mv (.t 6)⟩]
def c88_r1aQ : List AI := c88_r1a
theorem c88_r1a_e (G : Pure) (ic : Inl) (s : SL) : runL G ic c88_r1aQ s = runL G ic c88_r1a s := rfl
def c88_r2a : List AI := [⟨(some 7), none, .mv (.t 0)⟩,
  ⟨(some 8), none, .len (.t 7)⟩,
  ⟨(some 9), none, .bin .eql (.t 8) (.c (.int .i64 0))⟩]
def c88_r2aQ : List AI := c88_r2a
theorem c88_r2a_e (G : Pure) (ic : Inl) (s : SL) : runL G ic c88_r2aQ s = runL G ic c88_r2a s := rfl
def c88_r3a : List AI := [⟨(some 2), none, .mv (.c (.int .i64 0))⟩]
def c88_r3aQ : List AI := c88_r3a
theorem c88_r3a_e (G : Pure) (ic : Inl) (s : SL) : runL G ic c88_r3aQ s = runL G ic c88_r3a s := rfl
def c88_r4a : List AI := [⟨(some 10), none, .mv (.t 0)⟩,
  ⟨(some 11), none, .len (.t 10)⟩,
  ⟨(some 12), none, .bin .sub (.t 11) (.c (.int .i64 1))⟩,
  ⟨(some 13), none, .bin .mul (.c (.int .i64 32)) (.t 12)⟩,
  ⟨(some 3), none, .mv (.t 13)⟩]
def c88_r4aQ : List AI := c88_r4a
theorem c88_r4a_e (G : Pure) (ic : Inl) (s : SL) : runL G ic c88_r4aQ s = runL G ic c88_r4a s := rfl
def c88_r5a : List AI := [⟨(some 14), none, .mv (.t 0)⟩,
  ⟨(some 15), none, .mv (.t 0)⟩,
  ⟨(some 16), none, .len (.t 15)⟩,
  ⟨(some 17), none, .bin .sub (.t 16) (.c (.int .i64 1))⟩,
  ⟨(some 18), none, .iaddr 1 (.t 14) (.t 17)⟩,
  ⟨(some 19), none, .load none (.t 18)⟩,
  ⟨(some 4), none, .mv (.t 19)⟩]
def c88_r5aQ : List AI := c88_r5a
theorem c88_r5a_e (G : Pure) (ic : Inl) (s : SL) : runL G ic c88_r5aQ s = runL G ic c88_r5a s := rfl
def c88_r6a : List AI := [⟨(some 20), none, .mv (.t 4)⟩,
  ⟨(some 21), none, .bin .gtr (.t 20) (.c (.int .u32 0))⟩]
def c88_r6aQ : List AI := c88_r6a
theorem c88_r6a_e (G : Pure) (ic : Inl) (s : SL) : runL G ic c88_r6aQ s = runL G ic c88_r6a s := rfl
def c88_r8a : List AI := [⟨(some 24), none, .mv (.t 3)⟩,
  ⟨(some 25), none, .bin .add (.t 24) (.c (.int .i64 1))⟩,
  ⟨(some 3), none, .mv (.t 25)⟩]
def c88_r8aQ : List AI := c88_r8a
theorem c88_r8a_e (G : Pure) (ic : Inl) (s : SL) : runL G ic c88_r8aQ s = runL G ic c88_r8a s := rfl
def c88_r7a : List AI := [⟨(some 22), none, .mv (.t 4)⟩,
  ⟨(some 23), none, .bin .shr (.t 22) (.c (.int .u64 1))⟩,
  ⟨(some 4), none, .mv (.t 23)⟩]
def c88_r7aQ : List AI := c88_r7a
theorem c88_r7a_e (G : Pure) (ic : Inl) (s : SL) : runL G ic c88_r7aQ s = runL G ic c88_r7a s := rfl
def c88_b0 : ACode := .seq (.seq (.reg [] c88_r6aQ []) (.cond (.t 21) (.skip) (.exit 0))) (.seq (.block none 1 (.reg [] c88_r8aQ [])) (.reg [] c88_r7aQ []))
def c88_b0Q : ACode := c88_b0
theorem c88_b0_e (G : Pure) (ic : Inl) (n : Nat) (s : SL) : evalC G ic n c88_b0Q s = evalC G ic n c88_b0 s := rfl
def c88_k0 : Keep := { slots := [3, 4], drops := [], adopt := [] }
def c88_e0 : Keep := { slots := [3], drops := [] }
def c88_r9a : List AI := [⟨(some 26), none, .mv (.t 3)⟩,
  ⟨(some 2), none, .mv (.t 26)⟩]
def c88_r9aQ : List AI := c88_r9a
theorem c88_r9a_e (G : Pure) (ic : Inl) (s : SL) : runL G ic c88_r9aQ s = runL G ic c88_r9a s := rfl
def c88 : ACode := .seq (.reg [] c88_r0aQ []) (.seq (.reg [] c88_r1aQ []) (.seq (.seq (.reg [] c88_r2aQ []) (.cond (.t 9) (.seq (.reg [] c88_r3aQ []) (.ret c88_kr)) (.skip))) (.seq (.reg [] c88_r4aQ []) (.seq (.seq (.reg [] c88_r5aQ []) (.block (some c88_e0) 0 (.loop c88_k0 c88_b0Q))) (.seq (.reg [] c88_r9aQ []) (.ret c88_kr))))))
def c88F : AFun := { params := 1, code := c88, results := [.tmp 2] }
attribute [simp] c88_kr c88_r0a_e c88_r0a c88_r1a_e c88_r1a c88_r2a_e c88_r2a c88_r3a_e c88_r3a c88_r4a_e c88_r4a c88_r5a_e c88_r5a c88_r6a_e c88_r6a c88_r8a_e c88_r8a c88_r7a_e c88_r7a c88_b0_e c88_b0 c88_k0 c88_e0 c88_r9a_e c88_r9a c88 c88F
theorem c88_ok : IsFun Try.prog ks 88 c88F := by unfold IsFun; kernel_rfl
/-! pairing/pairingref1.shift -/
def c89_kr : Option Keep := some { slots := [4], drops := [] }
def c89_r0a : List AI := [⟨(some 4), none, .mv (.c (.imm true 1 []))⟩]
def c89_r0aQ : List AI := c89_r0a
theorem c89_r0a_e (G : Pure) (ic : Inl) (s : SL) : runL G ic c89_r0aQ s = runL G ic c89_r0a s := rfl
def c89_r1a : List AI := [⟨(some 8), none, .mv (.t 0)⟩,
  ⟨(some 9), none, .len (.t 8)⟩,
  ⟨(some 10), none, .mv (.t 1)⟩,
  ⟨(some 11), none, .bin .quo (.t 10) (.c (.int .i64 32))⟩,
  ⟨(some 12), none, .bin .add (.t 9) (.t 11)⟩,
  ⟨(some 13), none, .bin .add (.t 12) (.c (.int .i64 1))⟩,
  ⟨(some 14), none, .make 1424224 88 1 4 [.int .u32 0] (.t 13) (.t 13)⟩,
  ⟨(some 5), none, .mv (.t 14)⟩]
def c89_r1aQ : List AI := c89_r1a
theorem c89_r1a_e (G : Pure) (ic : Inl) (s : SL) : runL G ic c89_r1aQ s = runL G ic c89_r1a s := rfl
def c89_r2a : List AI := [⟨(some 6), none, .mv (.c (.int .i64 0))⟩]
def c89_r2aQ : List AI := c89_r2a
theorem c89_r2a_e (G : Pure) (ic : Inl) (s : SL) : runL G ic c89_r2aQ s = runL G ic c89_r2a s := rfl
def c89_r3a : List AI := [⟨(some 15), none, .mv (.t 6)⟩,
  ⟨(some 16), none, .mv (.t 0)⟩,
  ⟨(some 17), none, .len (.t 16)⟩,
  ⟨(some 18), none, .bin .lss (.t 15) (.t 17)⟩]
def c89_r3aQ : List AI := c89_r3a
theorem c89_r3a_e (G : Pure) (ic : Inl) (s : SL) : runL G ic c89_r3aQ s = runL G ic c89_r3a s := rfl
def c89_r5a : List AI := [⟨(some 21), none, .mv (.t 0)⟩,
  ⟨(some 22), none, .mv (.t 6)⟩,
  ⟨(some 23), none, .iaddr 1 (.t 21) (.t 22)⟩,
  ⟨(some 24), none, .load none (.t 23)⟩,
  ⟨(some 25), none, .conv .u64 (.t 24)⟩,
  ⟨(some 26), none, .mv (.t 1)⟩,
  ⟨(some 27), none, .bin .rem (.t 26) (.c (.int .i64 32))⟩,
  ⟨(some 28), none, .conv .u64 (.t 27)⟩,
  ⟨(some 29), none, .bin .shl (.t 25) (.t 28)⟩,
  ⟨(some 7), none, .mv (.t 29)⟩]
def c89_r5aQ : List AI := c89_r5a
theorem c89_r5a_e (G : Pure) (ic : Inl) (s : SL) : runL G ic c89_r5aQ s = runL G ic c89_r5a s := rfl
def c89_r6a : List AI := [⟨(some 30), none, .mv (.t 5)⟩,
  ⟨(some 31), none, .mv (.t 6)⟩,
  ⟨(some 32), none, .mv (.t 1)⟩,
  ⟨(some 33), none, .bin .quo (.t 32) (.c (.int .i64 32))⟩,
  ⟨(some 34), none, .bin .add (.t 31) (.t 33)⟩,
  ⟨(some 35), none, .mv (.t 5)⟩,
  ⟨(some 36), none, .mv (.t 6)⟩,
  ⟨(some 37), none, .mv (.t 1)⟩,
  ⟨(some 38), none, .bin .quo (.t 37) (.c (.int .i64 32))⟩,
  ⟨(some 39), none, .bin .add (.t 36) (.t 38)⟩,
  ⟨(some 40), none, .iaddr 1 (.t 35) (.t 39)⟩,
  ⟨(some 41), none, .load none (.t 40)⟩,
  ⟨(some 42), none, .mv (.t 7)⟩,
  ⟨(some 43), none, .conv .u32 (.t 42)⟩,
  ⟨(some 44), none, .bin .or (.t 41) (.t 43)⟩,
  ⟨(some 45), none, .iaddr 1 (.t 30) (.t 34)⟩,
  ⟨none, none, .store 1 (.t 45) (.t 44)⟩]
def c89_r6aQ : List AI := c89_r6a
theorem c89_r6a_e (G : Pure) (ic : Inl) (s : SL) : runL G ic c89_r6aQ s = runL G ic c89_r6a s := rfl
def c89_r7a : List AI := [⟨(some 46), none, .mv (.t 5)⟩,
  ⟨(some 47), none, .mv (.t 6)⟩,
  ⟨(some 48), none, .mv (.t 1)⟩,
  ⟨(some 49), none, .bin .quo (.t 48) (.c (.int .i64 32))⟩,
  ⟨(some 50), none, .bin .add (.t 47) (.t 49)⟩,
  ⟨(some 51), none, .bin .add (.t 50) (.c (.int .i64 1))⟩,
  ⟨(some 52), none, .mv (.t 7)⟩,
  ⟨(some 53), none, .bin .shr (.t 52) (.c (.int .u64 32))⟩,
  ⟨(some 54), none, .conv .u32 (.t 53)⟩,
  ⟨(some 55), none, .iaddr 1 (.t 46) (.t 51)⟩,
  ⟨none, none, .store 1 (.t 55) (.t 54)⟩]
def c89_r7aQ : List AI := c89_r7a
theorem c89_r7a_e (G : Pure) (ic : Inl) (s : SL) : runL G ic c89_r7aQ s = runL G ic c89_r7a s := rfl
def c89_r4a : List AI := [⟨(some 19), none, .mv (.t 6)⟩,
  ⟨(some 20), none, .bin .add (.t 19) (.c (.int .i64 1))⟩,
  ⟨(some 6), none, .mv (.t 20)⟩]
def c89_r4aQ : List AI := c89_r4a
theorem c89_r4a_e (G : Pure) (ic : Inl) (s : SL) : runL G ic c89_r4aQ s = runL G ic c89_r4a s := rfl
def c89_b0 : ACode := .seq (.seq (.reg [] c89_r3aQ []) (.cond (.t 18) (.skip) (.exit 0))) (.seq (.block none 1 (.seq (.reg [] c89_r5aQ []) (.seq (.reg [] c89_r6aQ []) (.reg [] c89_r7aQ [])))) (.reg [] c89_r4aQ []))
def c89_b0Q : ACode := c89_b0
theorem c89_b0_e (G : Pure) (ic : Inl) (n : Nat) (s : SL) : evalC G ic n c89_b0Q s = evalC G ic n c89_b0 s := rfl
def c89_k0 : Keep := { slots := [0, 1, 5, 6], drops := [], adopt := [] }
def c89_e0 : Keep := { slots := [5], drops := [] }
def c89_r8a : List AI := [⟨(some 56), none, .mv (.t 5)⟩,
  ⟨(some 57), none, .call 1424912 74 [(.t 56)] false⟩,
  ⟨(some 4), none, .mv (.t 57)⟩]
def c89_r8aQ : List AI := c89_r8a
theorem c89_r8a_e (G : Pure) (ic : Inl) (s : SL) : runL G ic c89_r8aQ s = runL G ic c89_r8a s := rfl
def c89 : ACode := .seq (.reg [] c89_r0aQ []) (.seq (.reg [] c89_r1aQ []) (.seq (.seq (.reg [] c89_r2aQ []) (.block (some c89_e0) 0 (.loop c89_k0 c89_b0Q))) (.seq (.reg [] c89_r8aQ []) (.ret c89_kr))))
def c89F : AFun := { params := 2, code := c89, results := [.tmp 4] }
attribute [simp] c89_kr c89_r0a_e c89_r0a c89_r1a_e c89_r1a c89_r2a_e c89_r2a c89_r3a_e c89_r3a c89_r5a_e c89_r5a c89_r6a_e c89_r6a c89_r7a_e c89_r7a c89_r4a_e c89_r4a c89_b0_e c89_b0 c89_k0 c89_e0 c89_r8a_e c89_r8a c89 c89F
theorem c89_ok : IsFun Try.prog ks 89 c89F := by unfold IsFun; kernel_rfl
/-! pairing/pairingref1.half -/
def c90_kr : Option Keep := some { slots := [2], drops := [] }
def c90_r0a : List AI := [⟨(some 2), none, .mv (.c (.imm true 1 []))⟩]
def c90_r0aQ : List AI := c90_r0a
theorem c90_r0a_e (G : Pure) (ic : Inl) (s : SL) : runL G ic c90_r0aQ s = runL G ic c90_r0a s := rfl
def c90_r1a : List AI := [⟨(some 5), none, .mv (.t 0)⟩,
  ⟨(some 6), none, .len (.t 5)⟩,
  ⟨(some 7), none, .make 1440112 88 1 4 [.int .u32 0] (.t 6) (.t 6)⟩,
  ⟨(some 3), none, .mv (.t 7)⟩]
def c90_r1aQ : List AI := c90_r1a
theorem c90_r1a_e (G : Pure) (ic : Inl) (s : SL) : runL G ic c90_r1aQ s = runL G ic c90_r1a s := rfl
def c90_r2a : List AI := [⟨(some 4), none, .mv (.c (.int .i64 0))⟩]
def c90_r2aQ : List AI := c90_r2a
theorem c90_r2a_e (G : Pure) (ic : Inl) (s : SL) : runL G ic c90_r2aQ s = runL G ic c90_r2a s := rfl
def c90_r3a : List AI := [⟨(some 8), none, .mv (.t 4)⟩,
  ⟨(some 9), none, .mv (.t 0)⟩,
  ⟨(some 10), none, .len (.t 9)⟩,
  ⟨(some 11), none, .bin .lss (.t 8) (.t 10)⟩]
def c90_r3aQ : List AI := c90_r3a
theorem c90_r3a_e (G : Pure) (ic : Inl) (s : SL) : runL G ic c90_r3aQ s = runL G ic c90_r3a s := rfl
def c90_r5a : List AI := [⟨(some 14), none, .mv (.t 3)⟩,
  ⟨(some 15), none, .mv (.t 4)⟩,
  ⟨(some 16), none, .mv (.t 0)⟩,
  ⟨(some 17), none, .mv (.t 4)⟩,
  ⟨(some 18), none, .iaddr 1 (.t 16) (.t 17)⟩,
  ⟨(some 19), none, .load none (.t 18)⟩,
  ⟨(some 20), none, .bin .shr (.t 19) (.c (.int .u64 1))⟩,
  ⟨(some 21), none, .mv (.t 0)⟩,
  ⟨(some 22), none, .mv (.t 4)⟩,
  ⟨(some 23), none, .bin .add (.t 22) (.c (.int .i64 1))⟩,
  ⟨(some 24), none, .call 1440384 87 [(.t 21), (.t 23)] false⟩,
  ⟨(some 25), none, .bin .shl (.t 24) (.c (.int .u64 31))⟩,
  ⟨(some 26), none, .conv .u32 (.t 25)⟩,
  ⟨(some 27), none, .bin .or (.t 20) (.t 26)⟩,
  ⟨(some 28), none, .iaddr 1 (.t 14) (.t 15)⟩,
  ⟨none, none, .store 1 (.t 28) (.t 27)⟩]
def c90_r5aQ : List AI := c90_r5a
theorem c90_r5a_e (G : Pure) (ic : Inl) (s : SL) : runL G ic c90_r5aQ s = runL G ic c90_r5a s := rfl
def c90_r4a : List AI := [⟨(some 12), none, .mv (.t 4)⟩,
  ⟨(some 13), none, .bin .add (.t 12) (.c (.int .i64 1))⟩,
  ⟨(some 4), none, .mv (.t 13)⟩]
def c90_r4aQ : List AI := c90_r4a
theorem c90_r4a_e (G : Pure) (ic : Inl) (s : SL) : runL G ic c90_r4aQ s = runL G ic c90_r4a s := rfl
def c90_b0 : ACode := .seq (.seq (.reg [] c90_r3aQ []) (.cond (.t 11) (.skip) (.exit 0))) (.seq (.block none 1 (.reg [] c90_r5aQ [])) (.reg [] c90_r4aQ []))
def c90_b0Q : ACode := c90_b0
theorem c90_b0_e (G : Pure) (ic : Inl) (n : Nat) (s : SL) : evalC G ic n c90_b0Q s = evalC G ic n c90_b0 s := rfl
def c90_k0 : Keep := { slots := [0, 3, 4], drops := [], adopt := [] }
def c90_e0 : Keep := { slots := [3], drops := [] }
def c90_r6a : List AI := [⟨(some 29), none, .mv (.t 3)⟩,
  ⟨(some 30), none, .call 1440480 74 [(.t 29)] false⟩,
  ⟨(some 2), none, .mv (.t 30)⟩]
def c90_r6aQ : List AI := c90_r6a
theorem c90_r6a_e (G : Pure) (ic : Inl) (s : SL) : runL G ic c90_r6aQ s = runL G ic c90_r6a s := rfl
def c90 : ACode := .seq (.reg [] c90_r0aQ []) (.seq (.reg [] c90_r1aQ []) (.seq (.seq (.reg [] c90_r2aQ []) (.block (some c90_e0) 0 (.loop c90_k0 c90_b0Q))) (.seq (.reg [] c90_r6aQ []) (.ret c90_kr))))
def c90F : AFun := { params := 1, code := c90, results := [.tmp 2] }
attribute [simp] c90_kr c90_r0a_e c90_r0a c90_r1a_e c90_r1a c90_r2a_e c90_r2a c90_r3a_e c90_r3a c90_r5a_e c90_r5a c90_r4a_e c90_r4a c90_b0_e c90_b0 c90_k0 c90_e0 c90_r6a_e c90_r6a c90 c90F
theorem c90_ok : IsFun Try.prog ks 90 c90F := by unfold IsFun; kernel_rfl
/-! pairing/integer.clone -/
def c91_kr : Option Keep := some { slots := [2], drops := [] }
def c91_r0a : List AI := [⟨(some 2), none, .mv (.c (.imm true 1 []))⟩]
def c91_r0aQ : List AI := c91_r0a
theorem c91_r0a_e (G : Pure) (ic : Inl) (s : SL) : runL G ic c91_r0aQ s = runL G ic c91_r0a s := rfl
def c91_r1a : List AI := [⟨(some 3), none, .mv (.t 0)⟩,
  ⟨(some 4), none, .appn 1456064 88 1 4 (.t 3)⟩,
  ⟨(some 2), none, .mv (.t 4)⟩]
def c91_r1aQ : List AI := c91_r1a
theorem c91_r1a_e (G : Pure) (ic : Inl) (s : SL) : runL G ic c91_r1aQ s = runL G ic c91_r1a s := rfl
def c91 : ACode := .seq (.reg [] c91_r0aQ []) (.seq (.reg [] c91_r1aQ []) (.ret c91_kr))
def c91F : AFun := { params := 1, code := c91, results := [.tmp 2] }
attribute [simp] c91_kr c91_r0a_e c91_r0a c91_r1a_e c91_r1a c91 c91F
theorem c91_ok : IsFun Try.prog ks 91 c91F := by unfold IsFun; kernel_rfl
/-! pairing/integer.divide -/
def c92_kr : Option Keep := some { slots := [4, 5], drops := [] }
def c92_r0a : List AI := [⟨(some 4), none, .mv (.c (.imm true 1 []))⟩,
  ⟨(some 5), none, .mv (.c (.imm true 1 []))⟩]
def c92_r0aQ : List AI := c92_r0a
theorem c92_r0a_e (G : Pure) (ic : Inl) (s : SL) : runL G ic c92_r0aQ s = runL G ic c92_r0a s := rfl
def c92_r1a : List AI := [⟨(some 14), none, .mv (.t 0)⟩,
  ⟨(some 15), none, .mv (.t 1)⟩,
  ⟨(some 16), none, .call 1472256 95 [(.t 14), (.t 15)] false⟩,
  ⟨(some 17), none, .bin .lss (.t 16) (.c (.int .i64 0))⟩]
def c92_r1aQ : List AI := c92_r1a
theorem c92_r1a_e (G : Pure) (ic : Inl) (s : SL) : runL G ic c92_r1aQ s = runL G ic c92_r1a s := rfl
def c92_r2a : List AI := [⟨(some 18), none, .mv (.t 0)⟩,
  ⟨(some 19), none, .call 1472304 91 [(.t 18)] true⟩,
  ⟨(some 4), none, .mv (.c (.imm true 1 []))⟩,
  ⟨(some 5), none, .mv (.t 19)⟩]
def c92_r2aQ : List AI := c92_r2a
theorem c92_r2a_e (G : Pure) (ic : Inl) (s : SL) : runL G ic c92_r2aQ s = runL G ic c92_r2a s := rfl
def c92_r3a : List AI := [⟨(some 20), none, .mv (.t 1)⟩,
  ⟨(some 21), none, .len (.t 20)⟩,
  ⟨(some 22), none, .bin .eql (.t 21) (.c (.int .i64 1))⟩]
def c92_r3aQ : List AI := c92_r3a
theorem c92_r3a_e (G : Pure) (ic : Inl) (s : SL) : runL G ic c92_r3aQ s = runL G ic c92_r3a s := rfl
def c92_r4a : List AI := [⟨(some 23), none, .mv (.t 0)⟩,
  ⟨(some 24), none, .call 1472384 91 [(.t 23)] true⟩,
  ⟨(some 6), none, .mv (.t 24)⟩]
def c92_r4aQ : List AI := c92_r4a
theorem c92_r4a_e (G : Pure) (ic : Inl) (s : SL) : runL G ic c92_r4aQ s = runL G ic c92_r4a s := rfl
def c92_r5a : List AI := [⟨(some 25), none, .mv (.t 6)⟩,
  ⟨(some 26), none, .mv (.t 1)⟩,
  ⟨(some 27), none, .iaddr 1 (.t 26) (.c (.int .i64 0))⟩,
  ⟨(some 28), none, .load none (.t 27)⟩,
  ⟨(some 29), none, .ucall 97 0 88 [(.t 25), (.t 28)]⟩,
  ⟨(some 7), none, .mv (.t 29)⟩]
def c92_r5aQ : List AI := c92_r5a
theorem c92_r5a_e (G : Pure) (ic : Inl) (s : SL) : runL G ic c92_r5aQ s = runL G ic c92_r5a s := rfl
def c92_r6a : List AI := [⟨(some 30), none, .mv (.t 6)⟩,
  ⟨(some 31), none, .mv (.t 7)⟩,
  ⟨(some 32), none, .bslice 88 1 1 [.int .u32 0] [(0, (.t 31))]⟩,
  ⟨(some 4), none, .mv (.t 30)⟩,
  ⟨(some 5), none, .mv (.t 32)⟩]
def c92_r6aQ : List AI := c92_r6a
theorem c92_r6a_e (G : Pure) (ic : Inl) (s : SL) : runL G ic c92_r6aQ s = runL G ic c92_r6a s := rfl
def c92_r7a : List AI := [⟨(some 33), none, .mv (.t 1)⟩,
  ⟨(some 34), none, .mv (.t 1)⟩,
  ⟨(some 35), none, .len (.t 34)⟩,
  ⟨(some 36), none, .bin .sub (.t 35) (.c (.int .i64 1))⟩,
  ⟨(some 37), none, .iaddr 1 (.t 33) (.t 36)⟩,
  ⟨(some 38), none, .load none (.t 37)⟩,
  ⟨(some 39), none, .call 1472624 98 [(.t 38)] false⟩,
  ⟨(some 8), none, .mv (.t 39)⟩]
def c92_r7aQ : List AI := c92_r7a
theorem c92_r7a_e (G : Pure) (ic : Inl) (s : SL) : runL G ic c92_r7aQ s = runL G ic c92_r7a s := rfl
def c92_r8a : List AI := [⟨(some 40), none, .mv (.t 0)⟩,
  ⟨(some 41), none, .mv (.t 8)⟩,
  ⟨(some 42), none, .call 1472672 99 [(.t 40), (.t 41)] true⟩,
  ⟨(some 43), none, .mv (.t 1)⟩,
  ⟨(some 44), none, .mv (.t 8)⟩,
  ⟨(some 45), none, .call 1472720 99 [(.t 43), (.t 44)] true⟩,
  ⟨(some 46), none, .mv (.t 1)⟩,
  ⟨(some 47), none, .len (.t 46)⟩,
  ⟨(some 48), none, .slice 1 (.t 45) none (some (.t 47)) none⟩,
  ⟨(some 9), none, .mv (.t 42)⟩,
  ⟨(some 10), none, .mv (.t 48)⟩]
def c92_r8aQ : List AI := c92_r8a
theorem c92_r8a_e (G : Pure) (ic : Inl) (s : SL) : runL G ic c92_r8aQ s = runL G ic c92_r8a s := rfl
def c92_r9a : List AI := [⟨(some 49), none, .mv (.t 0)⟩,
  ⟨(some 50), none, .len (.t 49)⟩,
  ⟨(some 51), none, .mv (.t 1)⟩,
  ⟨(some 52), none, .len (.t 51)⟩,
  ⟨(some 53), none, .bin .sub (.t 50) (.t 52)⟩,
  ⟨(some 54), none, .bin .add (.t 53) (.c (.int .i64 1))⟩,
  ⟨(some 55), none, .make 1472880 88 1 4 [.int .u32 0] (.t 54) (.t 54)⟩,
  ⟨(some 11), none, .mv (.t 55)⟩]
def c92_r9aQ : List AI := c92_r9a
theorem c92_r9a_e (G : Pure) (ic : Inl) (s : SL) : runL G ic c92_r9aQ s = runL G ic c92_r9a s := rfl
def c92_r10a : List AI := [⟨(some 56), none, .mv (.t 11)⟩,
  ⟨(some 57), none, .len (.t 56)⟩,
  ⟨(some 58), none, .bin .sub (.t 57) (.c (.int .i64 1))⟩,
  ⟨(some 12), none, .mv (.t 58)⟩]
def c92_r10aQ : List AI := c92_r10a
theorem c92_r10a_e (G : Pure) (ic : Inl) (s : SL) : runL G ic c92_r10aQ s = runL G ic c92_r10a s := rfl
def c92_r11a : List AI := [⟨(some 59), none, .mv (.t 12)⟩,
  ⟨(some 60), none, .bin .geq (.t 59) (.c (.int .i64 0))⟩]
def c92_r11aQ : List AI := c92_r11a
theorem c92_r11a_e (G : Pure) (ic : Inl) (s : SL) : runL G ic c92_r11aQ s = runL G ic c92_r11a s := rfl
def c92_r13a : List AI := [⟨(some 63), none, .mv (.t 12)⟩,
  ⟨(some 64), none, .mv (.t 10)⟩,
  ⟨(some 65), none, .len (.t 64)⟩,
  ⟨(some 66), none, .bin .add (.t 63) (.t 65)⟩,
  ⟨(some 13), none, .mv (.t 66)⟩]
def c92_r13aQ : List AI := c92_r13a
theorem c92_r13a_e (G : Pure) (ic : Inl) (s : SL) : runL G ic c92_r13aQ s = runL G ic c92_r13a s := rfl
def c92_r14a : List AI := [⟨(some 67), none, .mv (.t 11)⟩,
  ⟨(some 68), none, .mv (.t 12)⟩,
  ⟨(some 69), none, .mv (.t 9)⟩,
  ⟨(some 70), none, .mv (.t 10)⟩,
  ⟨(some 71), none, .mv (.t 12)⟩,
  ⟨(some 72), none, .mv (.t 9)⟩,
  ⟨(some 73), none, .mv (.t 13)⟩,
  ⟨(some 74), none, .iaddr 1 (.t 72) (.t 73)⟩,
  ⟨(some 75), none, .load none (.t 74)⟩,
  ⟨(some 76), none, .mv (.t 9)⟩,
  ⟨(some 77), none, .mv (.t 13)⟩,
  ⟨(some 78), none, .bin .sub (.t 77) (.c (.int .i64 1))⟩,
  ⟨(some 79), none, .iaddr 1 (.t 76) (.t 78)⟩,
  ⟨(some 80), none, .load none (.t 79)⟩,
  ⟨(some 81), none, .mv (.t 9)⟩,
  ⟨(some 82), none, .mv (.t 13)⟩,
  ⟨(some 83), none, .bin .sub (.t 82) (.c (.int .i64 2))⟩,
  ⟨(some 84), none, .iaddr 1 (.t 81) (.t 83)⟩,
  ⟨(some 85), none, .load none (.t 84)⟩,
  ⟨(some 86), none, .mv (.t 10)⟩,
  ⟨(some 87), none, .call 1473392 101 [(.t 75), (.t 80), (.t 85), (.t 86)] false⟩,
  ⟨(some 88), none, .ucall 100 0 88 [(.t 69), (.t 70), (.t 71), (.t 87)]⟩,
  ⟨(some 89), none, .iaddr 1 (.t 67) (.t 68)⟩,
  ⟨none, none, .store 1 (.t 89) (.t 88)⟩]
def c92_r14aQ : List AI := c92_r14a
theorem c92_r14a_e (G : Pure) (ic : Inl) (s : SL) : runL G ic c92_r14aQ s = runL G ic c92_r14a s := rfl
def c92_r12a : List AI := [⟨(some 61), none, .mv (.t 12)⟩,
  ⟨(some 62), none, .bin .sub (.t 61) (.c (.int .i64 1))⟩,
  ⟨(some 12), none, .mv (.t 62)⟩]
def c92_r12aQ : List AI := c92_r12a
theorem c92_r12a_e (G : Pure) (ic : Inl) (s : SL) : runL G ic c92_r12aQ s = runL G ic c92_r12a s := rfl
def c92_b0 : ACode := .seq (.seq (.reg [] c92_r11aQ []) (.cond (.t 60) (.skip) (.exit 0))) (.seq (.block none 1 (.seq (.reg [] c92_r13aQ []) (.reg [] c92_r14aQ []))) (.reg [] c92_r12aQ []))
def c92_b0Q : ACode := c92_b0
theorem c92_b0_e (G : Pure) (ic : Inl) (n : Nat) (s : SL) : evalC G ic n c92_b0Q s = evalC G ic n c92_b0 s := rfl
def c92_k0 : Keep := { slots := [1, 8, 9, 10, 11, 12], drops := [], adopt := [] }
def c92_e0 : Keep := { slots := [1, 8, 9, 11], drops := [] }
def c92_r15a : List AI := [⟨(some 90), none, .mv (.t 9)⟩,
  ⟨(some 91), none, .mv (.t 8)⟩,
  ⟨(some 92), none, .ucall 102 0 88 [(.t 90), (.t 91)]⟩]
def c92_r15aQ : List AI := c92_r15a
theorem c92_r15a_e (G : Pure) (ic : Inl) (s : SL) : runL G ic c92_r15aQ s = runL G ic c92_r15a s := rfl
def c92_r16a : List AI := [⟨(some 93), none, .mv (.t 11)⟩,
  ⟨(some 94), none, .mv (.t 9)⟩,
  ⟨(some 95), none, .mv (.t 1)⟩,
  ⟨(some 96), none, .len (.t 95)⟩,
  ⟨(some 97), none, .slice 1 (.t 94) none (some (.t 96)) none⟩,
  ⟨(some 4), none, .mv (.t 93)⟩,
  ⟨(some 5), none, .mv (.t 97)⟩]
def c92_r16aQ : List AI := c92_r16a
theorem c92_r16a_e (G : Pure) (ic : Inl) (s : SL) : runL G ic c92_r16aQ s = runL G ic c92_r16a s := rfl
def c92 : ACode := .seq (.reg [] c92_r0aQ []) (.seq (.seq (.reg [] c92_r1aQ []) (.cond (.t 17) (.seq (.reg [] c92_r2aQ []) (.ret c92_kr)) (.skip))) (.seq (.seq (.reg [] c92_r3aQ []) (.cond (.t 22) (.seq (.reg [] c92_r4aQ []) (.seq (.reg [] c92_r5aQ []) (.seq (.reg [] c92_r6aQ []) (.ret c92_kr)))) (.skip))) (.seq (.reg [] c92_r7aQ []) (.seq (.reg [] c92_r8aQ []) (.seq (.reg [] c92_r9aQ []) (.seq (.seq (.reg [] c92_r10aQ []) (.block (some c92_e0) 0 (.loop c92_k0 c92_b0Q))) (.seq (.reg [] c92_r15aQ []) (.seq (.reg [] c92_r16aQ []) (.ret c92_kr)))))))))
def c92F : AFun := { params := 2, code := c92, results := [.tmp 4, .tmp 5] }
attribute [simp] c92_kr c92_r0a_e c92_r0a c92_r1a_e c92_r1a c92_r2a_e c92_r2a c92_r3a_e c92_r3a c92_r4a_e c92_r4a c92_r5a_e c92_r5a c92_r6a_e c92_r6a c92_r7a_e c92_r7a c92_r8a_e c92_r8a c92_r9a_e c92_r9a c92_r10a_e c92_r10a c92_r11a_e c92_r11a c92_r13a_e c92_r13a c92_r14a_e c92_r14a c92_r12a_e c92_r12a c92_b0_e c92_b0 c92_k0 c92_e0 c92_r15a_e c92_r15a c92_r16a_e c92_r16a c92 c92F
theorem c92_ok : IsFun Try.prog ks 92 c92F := by unfold IsFun; kernel_rfl
/-! pairing/integer.Sub -/
def c93_kr : Option Keep := some { slots := [4], drops := [1488032, 1488048] }
def c93_r0a : List AI := [⟨(some 2), none, .box 1488032 31 2 (.t 0)⟩,
  ⟨(some 3), none, .box 1488048 31 2 (.t 1)⟩,
  ⟨(some 4), none, .alloc 1488064 31 [.bool false, .imm true 1 []]⟩]
def c93_r0aQ : List AI := c93_r0a
theorem c93_r0a_e (G : Pure) (ic : Inl) (s : SL) : runL G ic c93_r0aQ s = runL G ic c93_r0a s := rfl
def c93_r1a : List AI := [⟨(some 5), none, .load (some 2) (.t 2)⟩,
  ⟨(some 6), none, .load (some 2) (.t 3)⟩,
  ⟨(some 7), none, .faddr 0 (.t 3)⟩,
  ⟨(some 8), none, .load none (.t 7)⟩,
  ⟨(some 9), none, .un .not (.t 8)⟩,
  ⟨(some 10), none, .call 1488160 86 [(.t 5), (.t 6), (.t 9)] false⟩,
  ⟨none, none, .store 2 (.t 4) (.t 10)⟩]
def c93_r1aQ : List AI := c93_r1a
theorem c93_r1a_e (G : Pure) (ic : Inl) (s : SL) : runL G ic c93_r1aQ s = runL G ic c93_r1a s := rfl
def c93 : ACode := .seq (.reg [] c93_r0aQ []) (.seq (.reg [] c93_r1aQ []) (.ret c93_kr))
def c93F : AFun := { params := 2, code := c93, results := [.cell 4 (some 2)] }
attribute [simp] c93_kr c93_r0a_e c93_r0a c93_r1a_e c93_r1a c93 c93F
theorem c93_ok : IsFun Try.prog ks 93 c93F := by unfold IsFun; kernel_rfl
/-! pairing/integer.plus -/
def c94_kr : Option Keep := some { slots := [4], drops := [] }
def c94_r0a : List AI := [⟨(some 4), none, .mv (.c (.imm true 1 []))⟩]
def c94_r0aQ : List AI := c94_r0a
theorem c94_r0a_e (G : Pure) (ic : Inl) (s : SL) : runL G ic c94_r0aQ s = runL G ic c94_r0a s := rfl
def c94_r1a : List AI := [⟨(some 10), none, .mv (.t 0)⟩,
  ⟨(some 11), none, .len (.t 10)⟩,
  ⟨(some 12), none, .mv (.t 1)⟩,
  ⟨(some 13), none, .len (.t 12)⟩,
  ⟨(some 14), none, .bin .lss (.t 11) (.t 13)⟩]
def c94_r1aQ : List AI := c94_r1a
theorem c94_r1a_e (G : Pure) (ic : Inl) (s : SL) : runL G ic c94_r1aQ s = runL G ic c94_r1a s := rfl
def c94_r2a : List AI := [⟨(some 15), none, .mv (.t 1)⟩,
  ⟨(some 16), none, .mv (.t 0)⟩,
  ⟨(some 0), none, .mv (.t 15)⟩,
  ⟨(some 1), none, .mv (.t 16)⟩]
def c94_r2aQ : List AI := c94_r2a
theorem c94_r2a_e (G : Pure) (ic : Inl) (s : SL) : runL G ic c94_r2aQ s = runL G ic c94_r2a s := rfl
def c94_r3a : List AI := [⟨(some 17), none, .mv (.t 0)⟩,
  ⟨(some 18), none, .len (.t 17)⟩,
  ⟨(some 19), none, .bin .add (.t 18) (.c (.int .i64 1))⟩,
  ⟨(some 20), none, .make 1504320 88 1 4 [.int .u32 0] (.t 19) (.t 19)⟩,
  ⟨(some 5), none, .mv (.t 20)⟩]
def c94_r3aQ : List AI := c94_r3a
theorem c94_r3a_e (G : Pure) (ic : Inl) (s : SL) : runL G ic c94_r3aQ s = runL G ic c94_r3a s := rfl
def c94_r4a : List AI := [⟨(some 6), none, .mv (.c (.int .u32 0))⟩]
def c94_r4aQ : List AI := c94_r4a
theorem c94_r4a_e (G : Pure) (ic : Inl) (s : SL) : runL G ic c94_r4aQ s = runL G ic c94_r4a s := rfl
def c94_r5a : List AI := [⟨(some 21), none, .mv (.t 0)⟩,
  ⟨(some 22), none, .len (.t 21)⟩,
  ⟨(some 23), none, .mv (.c (.int .i64 0))⟩]
def c94_r5aQ : List AI := c94_r5a
theorem c94_r5a_e (G : Pure) (ic : Inl) (s : SL) : runL G ic c94_r5aQ s = runL G ic c94_r5a s := rfl
def c94_r6a : List AI := [⟨(some 24), none, .bin .lss (.t 23) (.t 22)⟩]
def c94_r6aQ : List AI := c94_r6a
theorem c94_r6a_e (G : Pure) (ic : Inl) (s : SL) : runL G ic c94_r6aQ s = runL G ic c94_r6a s := rfl
def c94_r7a : List AI := [⟨(some 25), none, .mv (.t 23)⟩,
  ⟨(some 26), none, .iaddr 1 (.t 21) (.t 23)⟩,
  ⟨(some 27), none, .load none (.t 26)⟩,
  ⟨(some 7), none, .mv (.t 25)⟩,
  ⟨(some 8), none, .mv (.t 27)⟩]
def c94_r7aQ : List AI := c94_r7a
theorem c94_r7a_e (G : Pure) (ic : Inl) (s : SL) : runL G ic c94_r7aQ s = runL G ic c94_r7a s := rfl
def c94_r8a : List AI := [⟨(some 9), none, .mv (.c (.int .u32 0))⟩]
def c94_r8aQ : List AI := c94_r8a
theorem c94_r8a_e (G : Pure) (ic : Inl) (s : SL) : runL G ic c94_r8aQ s = runL G ic c94_r8a s := rfl
def c94_r9a : List AI := [⟨(some 28), none, .mv (.t 7)⟩,
  ⟨(some 29), none, .mv (.t 1)⟩,
  ⟨(some 30), none, .len (.t 29)⟩,
  ⟨(some 31), none, .bin .lss (.t 28) (.t 30)⟩]
def c94_r9aQ : List AI := c94_r9a
theorem c94_r9a_e (G : Pure) (ic : Inl) (s : SL) : runL G ic c94_r9aQ s = runL G ic c94_r9a s := rfl
def c94_r10a : List AI := [⟨(some 32), none, .mv (.t 1)⟩,
  ⟨(some 33), none, .mv (.t 7)⟩,
  ⟨(some 34), none, .iaddr 1 (.t 32) (.t 33)⟩,
  ⟨(some 35), none, .load none (.t 34)⟩,
  ⟨(some 9), none, .mv (.t 35)⟩]
def c94_r10aQ : List AI := c94_r10a
theorem c94_r10a_e (G : Pure) (ic : Inl) (s : SL) : runL G ic c94_r10aQ s = runL G ic c94_r10a s := rfl
def c94_r11a : List AI := [⟨(some 37), none, .mv (.t 5)⟩,
  ⟨(some 38), none, .mv (.t 7)⟩,
  ⟨(some 39), none, .mv (.t 8)⟩,
  ⟨(some 40), none, .mv (.t 9)⟩,
  ⟨(some 41), none, .mv (.t 6)⟩,
  ⟨(some 42), none, .call 1504672 103 [(.t 39), (.t 40), (.t 41)] false⟩,
  ⟨(some 36), none, .mv (.t 42)⟩,
  ⟨(some 43), none, .extract (.t 36) 0⟩,
  ⟨(some 44), none, .extract (.t 36) 1⟩,
  ⟨(some 45), none, .iaddr 1 (.t 37) (.t 38)⟩,
  ⟨none, none, .store 1 (.t 45) (.t 43)⟩,
  ⟨(some 6), none, .mv (.t 44)⟩]
def c94_r11aQ : List AI := c94_r11a
theorem c94_r11a_e (G : Pure) (ic : Inl) (s : SL) : runL G ic c94_r11aQ s = runL G ic c94_r11a s := rfl
def c94_r12a : List AI := [⟨(some 46), none, .bin .add (.t 23) (.c (.int .i64 1))⟩,
  ⟨(some 23), none, .mv (.t 46)⟩]
def c94_r12aQ : List AI := c94_r12a
theorem c94_r12a_e (G : Pure) (ic : Inl) (s : SL) : runL G ic c94_r12aQ s = runL G ic c94_r12a s := rfl
def c94_b0 : ACode := .seq (.reg [] c94_r6aQ []) (.seq (.cond (.t 24) (.skip) (.exit 0)) (.seq (.block none 1 (.seq (.reg [] c94_r7aQ []) (.seq (.reg [] c94_r8aQ []) (.seq (.seq (.reg [] c94_r9aQ []) (.cond (.t 31) (.reg [] c94_r10aQ []) (.skip))) (.reg [] c94_r11aQ []))))) (.reg [] c94_r12aQ [])))
def c94_b0Q : ACode := c94_b0
theorem c94_b0_e (G : Pure) (ic : Inl) (n : Nat) (s : SL) : evalC G ic n c94_b0Q s = evalC G ic n c94_b0 s := rfl
def c94_k0 : Keep := { slots := [0, 1, 5, 6, 21, 22, 23], drops := [], adopt := [] }
def c94_e0 : Keep := { slots := [0, 5, 6], drops := [] }
def c94_r13a : List AI := [⟨(some 47), none, .mv (.t 5)⟩,
  ⟨(some 48), none, .mv (.t 0)⟩,
  ⟨(some 49), none, .len (.t 48)⟩,
  ⟨(some 50), none, .mv (.t 6)⟩,
  ⟨(some 51), none, .iaddr 1 (.t 47) (.t 49)⟩,
  ⟨none, none, .store 1 (.t 51) (.t 50)⟩]
def c94_r13aQ : List AI := c94_r13a
theorem c94_r13a_e (G : Pure) (ic : Inl) (s : SL) : runL G ic c94_r13aQ s = runL G ic c94_r13a s := rfl
def c94_r14a : List AI := [⟨(some 52), none, .mv (.t 5)⟩,
  ⟨(some 4), none, .mv (.t 52)⟩]
def c94_r14aQ : List AI := c94_r14a
theorem c94_r14a_e (G : Pure) (ic : Inl) (s : SL) : runL G ic c94_r14aQ s = runL G ic c94_r14a s := rfl
def c94 : ACode := .seq (.reg [] c94_r0aQ []) (.seq (.seq (.reg [] c94_r1aQ []) (.cond (.t 14) (.reg [] c94_r2aQ []) (.skip))) (.seq (.reg [] c94_r3aQ []) (.seq (.reg [] c94_r4aQ []) (.seq (.seq (.reg [] c94_r5aQ []) (.block (some c94_e0) 0 (.loop c94_k0 c94_b0Q))) (.seq (.reg [] c94_r13aQ []) (.seq (.reg [] c94_r14aQ []) (.ret c94_kr)))))))
def c94F : AFun := { params := 2, code := c94, results := [.tmp 4] }
attribute [simp] c94_kr c94_r0a_e c94_r0a c94_r1a_e c94_r1a c94_r2a_e c94_r2a c94_r3a_e c94_r3a c94_r4a_e c94_r4a c94_r5a_e c94_r5a c94_r6a_e c94_r6a c94_r7a_e c94_r7a c94_r8a_e c94_r8a c94_r9a_e c94_r9a c94_r10a_e c94_r10a c94_r11a_e c94_r11a c94_r12a_e c94_r12a c94_b0_e c94_b0 c94_k0 c94_e0 c94_r13a_e c94_r13a c94_r14a_e c94_r14a c94 c94F
theorem c94_ok : IsFun Try.prog ks 94 c94F := by unfold IsFun; kernel_rfl
/-! pairing/integer.compare -/
def c95_kr : Option Keep := some { slots := [4], drops := [] }
def c95_r0a : List AI := [⟨(some 4), none, .mv (.c (.int .i64 0))⟩]
def c95_r0aQ : List AI := c95_r0a
theorem c95_r0a_e (G : Pure) (ic : Inl) (s : SL) : runL G ic c95_r0aQ s = runL G ic c95_r0a s := rfl
def c95_r1a : List AI := [⟨(some 6), none, .mv (.t 0)⟩,
  ⟨(some 7), none, .len (.t 6)⟩,
  ⟨(some 8), none, .mv (.t 1)⟩,
  ⟨(some 9), none, .len (.t 8)⟩,
  ⟨(some 10), none, .bin .neq (.t 7) (.t 9)⟩]
def c95_r1aQ : List AI := c95_r1a
theorem c95_r1a_e (G : Pure) (ic : Inl) (s : SL) : runL G ic c95_r1aQ s = runL G ic c95_r1a s := rfl
def c95_r2a : List AI := [⟨(some 11), none, .mv (.t 0)⟩,
  ⟨(some 12), none, .len (.t 11)⟩,
  ⟨(some 13), none, .mv (.t 1)⟩,
  ⟨(some 14), none, .len (.t 13)⟩,
  ⟨(some 15), none, .bin .lss (.t 12) (.t 14)⟩]
def c95_r2aQ : List AI := c95_r2a
theorem c95_r2a_e (G : Pure) (ic : Inl) (s : SL) : runL G ic c95_r2aQ s = runL G ic c95_r2a s := rfl
def c95_r3a : List AI := [⟨(some 4), none, .mv (.c (.int .i64 (-1)))⟩]
def c95_r3aQ : List AI := c95_r3a
theorem c95_r3a_e (G : Pure) (ic : Inl) (s : SL) : runL G ic c95_r3aQ s = runL G ic c95_r3a s := rfl
def c95_r4a : List AI := [⟨(some 4), none, .mv (.c (.int .i64 1))⟩]
def c95_r4aQ : List AI := c95_r4a
theorem c95_r4a_e (G : Pure) (ic : Inl) (s : SL) : runL G ic c95_r4aQ s = runL G ic c95_r4a s := rfl
def c95_r5a : List AI := [⟨(some 16), none, .mv (.t 0)⟩,
  ⟨(some 17), none, .len (.t 16)⟩,
  ⟨(some 18), none, .bin .sub (.t 17) (.c (.int .i64 1))⟩,
  ⟨(some 5), none, .mv (.t 18)⟩]
def c95_r5aQ : List AI := c95_r5a
theorem c95_r5a_e (G : Pure) (ic : Inl) (s : SL) : runL G ic c95_r5aQ s = runL G ic c95_r5a s := rfl
def c95_r6a : List AI := [⟨(some 19), none, .mv (.t 5)⟩,
  ⟨(some 20), none, .bin .geq (.t 19) (.c (.int .i64 0))⟩]
def c95_r6aQ : List AI := c95_r6a
theorem c95_r6a_e (G : Pure) (ic : Inl) (s : SL) : runL G ic c95_r6aQ s = runL G ic c95_r6a s := rfl
def c95_r8a : List AI := [⟨(some 23), none, .mv (.t 0)⟩,
  ⟨(some 24), none, .mv (.t 5)⟩,
  ⟨(some 25), none, .iaddr 1 (.t 23) (.t 24)⟩,
  ⟨(some 26), none, .load none (.t 25)⟩,
  ⟨(some 27), none, .mv (.t 1)⟩,
  ⟨(some 28), none, .mv (.t 5)⟩,
  ⟨(some 29), none, .iaddr 1 (.t 27) (.t 28)⟩,
  ⟨(some 30), none, .load none (.t 29)⟩,
  ⟨(some 31), none, .bin .neq (.t 26) (.t 30)⟩]
def c95_r8aQ : List AI := c95_r8a
theorem c95_r8a_e (G : Pure) (ic : Inl) (s : SL) : runL G ic c95_r8aQ s = runL G ic c95_r8a s := rfl
def c95_r9a : List AI := [⟨(some 32), none, .mv (.t 0)⟩,
  ⟨(some 33), none, .mv (.t 5)⟩,
  ⟨(some 34), none, .iaddr 1 (.t 32) (.t 33)⟩,
  ⟨(some 35), none, .load none (.t 34)⟩,
  ⟨(some 36), none, .mv (.t 1)⟩,
  ⟨(some 37), none, .mv (.t 5)⟩,
  ⟨(some 38), none, .iaddr 1 (.t 36) (.t 37)⟩,
  ⟨(some 39), none, .load none (.t 38)⟩,
  ⟨(some 40), none, .bin .lss (.t 35) (.t 39)⟩]
def c95_r9aQ : List AI := c95_r9a
theorem c95_r9a_e (G : Pure) (ic : Inl) (s : SL) : runL G ic c95_r9aQ s = runL G ic c95_r9a s := rfl
def c95_r10a : List AI := [⟨(some 4), none, .mv (.c (.int .i64 (-1)))⟩]
def c95_r10aQ : List AI := c95_r10a
theorem c95_r10a_e (G : Pure) (ic : Inl) (s : SL) : runL G ic c95_r10aQ s = runL G ic c95_r10a s := rfl
def c95_r11a : List AI := [⟨(some 4), none, .mv (.c (.int .i64 1))⟩]
def c95_r11aQ : List AI := c95_r11a
theorem c95_r11a_e (G : Pure) (ic : Inl) (s : SL) : runL G ic c95_r11aQ s = runL G ic c95_r11a s := rfl
def c95_r7a : List AI := [⟨(some 21), none, .mv (.t 5)⟩,
  ⟨(some 22), none, .bin .sub (.t 21) (.c (.int .i64 1))⟩,
  ⟨(some 5), none, .mv (.t 22)⟩]
def c95_r7aQ : List AI := c95_r7a
theorem c95_r7a_e (G : Pure) (ic : Inl) (s : SL) : runL G ic c95_r7aQ s = runL G ic c95_r7a s := rfl
def c95_b0 : ACode := .seq (.seq (.reg [] c95_r6aQ []) (.cond (.t 20) (.skip) (.exit 0))) (.seq (.block none 1 (.seq (.reg [] c95_r8aQ []) (.cond (.t 31) (.seq (.seq (.reg [] c95_r9aQ []) (.cond (.t 40) (.seq (.reg [] c95_r10aQ []) (.ret c95_kr)) (.skip))) (.seq (.reg [] c95_r11aQ []) (.ret c95_kr))) (.skip)))) (.reg [] c95_r7aQ []))
def c95_b0Q : ACode := c95_b0
theorem c95_b0_e (G : Pure) (ic : Inl) (n : Nat) (s : SL) : evalC G ic n c95_b0Q s = evalC G ic n c95_b0 s := rfl
def c95_k0 : Keep := { slots := [0, 1, 5], drops := [], adopt := [] }
def c95_e0 : Keep := { slots := [], drops := [] }
def c95_r12a : List AI := [⟨(some 4), none, .mv (.c (.int .i64 0))⟩]
def c95_r12aQ : List AI := c95_r12a
theorem c95_r12a_e (G : Pure) (ic : Inl) (s : SL) : runL G ic c95_r12aQ s = runL G ic c95_r12a s := rfl
def c95 : ACode := .seq (.reg [] c95_r0aQ []) (.seq (.seq (.reg [] c95_r1aQ []) (.cond (.t 10) (.seq (.seq (.reg [] c95_r2aQ []) (.cond (.t 15) (.seq (.reg [] c95_r3aQ []) (.ret c95_kr)) (.skip))) (.seq (.reg [] c95_r4aQ []) (.ret c95_kr))) (.skip))) (.seq (.seq (.reg [] c95_r5aQ []) (.block (some c95_e0) 0 (.loop c95_k0 c95_b0Q))) (.seq (.reg [] c95_r12aQ []) (.ret c95_kr))))
def c95F : AFun := { params := 2, code := c95, results := [.tmp 4] }
attribute [simp] c95_kr c95_r0a_e c95_r0a c95_r1a_e c95_r1a c95_r2a_e c95_r2a c95_r3a_e c95_r3a c95_r4a_e c95_r4a c95_r5a_e c95_r5a c95_r6a_e c95_r6a c95_r8a_e c95_r8a c95_r9a_e c95_r9a c95_r10a_e c95_r10a c95_r11a_e c95_r11a c95_r7a_e c95_r7a c95_b0_e c95_b0 c95_k0 c95_e0 c95_r12a_e c95_r12a c95 c95F
theorem c95_ok : IsFun Try.prog ks 95 c95F := by unfold IsFun; kernel_rfl
/-! pairing/integer.minus -/
def c96_kr : Option Keep := some { slots := [4], drops := [] }
def c96_r0a : List AI := [⟨(some 4), none, .mv (.c (.imm true 1 []))⟩]
def c96_r0aQ : List AI := c96_r0a
theorem c96_r0a_e (G : Pure) (ic : Inl) (s : SL) : runL G ic c96_r0aQ s = runL G ic c96_r0a s := rfl
def c96_r1a : List AI := [⟨(some 10), none, .mv (.t 0)⟩,
  ⟨(some 11), none, .len (.t 10)⟩,
  ⟨(some 12), none, .make 1536192 88 1 4 [.int .u32 0] (.t 11) (.t 11)⟩,
  ⟨(some 5), none, .mv (.t 12)⟩]
def c96_r1aQ : List AI := c96_r1a
theorem c96_r1a_e (G : Pure) (ic : Inl) (s : SL) : runL G ic c96_r1aQ s = runL G ic c96_r1a s := rfl
def c96_r2a : List AI := [⟨(some 6), none, .mv (.c (.int .u32 0))⟩]
def c96_r2aQ : List AI := c96_r2a
theorem c96_r2a_e (G : Pure) (ic : Inl) (s : SL) : runL G ic c96_r2aQ s = runL G ic c96_r2a s := rfl
def c96_r3a : List AI := [⟨(some 13), none, .mv (.t 0)⟩,
  ⟨(some 14), none, .len (.t 13)⟩,
  ⟨(some 15), none, .mv (.c (.int .i64 0))⟩]
def c96_r3aQ : List AI := c96_r3a
theorem c96_r3a_e (G : Pure) (ic : Inl) (s : SL) : runL G ic c96_r3aQ s = runL G ic c96_r3a s := rfl
def c96_r4a : List AI := [⟨(some 16), none, .bin .lss (.t 15) (.t 14)⟩]
def c96_r4aQ : List AI := c96_r4a
theorem c96_r4a_e (G : Pure) (ic : Inl) (s : SL) : runL G ic c96_r4aQ s = runL G ic c96_r4a s := rfl
def c96_r5a : List AI := [⟨(some 17), none, .mv (.t 15)⟩,
  ⟨(some 18), none, .iaddr 1 (.t 13) (.t 15)⟩,
  ⟨(some 19), none, .load none (.t 18)⟩,
  ⟨(some 7), none, .mv (.t 17)⟩,
  ⟨(some 8), none, .mv (.t 19)⟩]
def c96_r5aQ : List AI := c96_r5a
theorem c96_r5a_e (G : Pure) (ic : Inl) (s : SL) : runL G ic c96_r5aQ s = runL G ic c96_r5a s := rfl
def c96_r6a : List AI := [⟨(some 9), none, .mv (.c (.int .u32 0))⟩]
def c96_r6aQ : List AI := c96_r6a
theorem c96_r6a_e (G : Pure) (ic : Inl) (s : SL) : runL G ic c96_r6aQ s = runL G ic c96_r6a s := rfl
def c96_r7a : List AI := [⟨(some 20), none, .mv (.t 7)⟩,
  ⟨(some 21), none, .mv (.t 1)⟩,
  ⟨(some 22), none, .len (.t 21)⟩,
  ⟨(some 23), none, .bin .lss (.t 20) (.t 22)⟩]
def c96_r7aQ : List AI := c96_r7a
theorem c96_r7a_e (G : Pure) (ic : Inl) (s : SL) : runL G ic c96_r7aQ s = runL G ic c96_r7a s := rfl
def c96_r8a : List AI := [⟨(some 24), none, .mv (.t 1)⟩,
  ⟨(some 25), none, .mv (.t 7)⟩,
  ⟨(some 26), none, .iaddr 1 (.t 24) (.t 25)⟩,
  ⟨(some 27), none, .load none (.t 26)⟩,
  ⟨(some 9), none, .mv (.t 27)⟩]
def c96_r8aQ : List AI := c96_r8a
theorem c96_r8a_e (G : Pure) (ic : Inl) (s : SL) : runL G ic c96_r8aQ s = runL G ic c96_r8a s := rfl
def c96_r9a : List AI := [⟨(some 29), none, .mv (.t 5)⟩,
  ⟨(some 30), none, .mv (.t 7)⟩,
  ⟨(some 31), none, .mv (.t 8)⟩,
  ⟨(some 32), none, .mv (.t 9)⟩,
  ⟨(some 33), none, .mv (.t 6)⟩,
  ⟨(some 34), none, .call 1536544 104 [(.t 31), (.t 32), (.t 33)] false⟩,
  ⟨(some 28), none, .mv (.t 34)⟩,
  ⟨(some 35), none, .extract (.t 28) 0⟩,
  ⟨(some 36), none, .extract (.t 28) 1⟩,
  ⟨(some 37), none, .iaddr 1 (.t 29) (.t 30)⟩,
  ⟨none, none, .store 1 (.t 37) (.t 35)⟩,
  ⟨(some 6), none, .mv (.t 36)⟩]
def c96_r9aQ : List AI := c96_r9a
theorem c96_r9a_e (G : Pure) (ic : Inl) (s : SL) : runL G ic c96_r9aQ s = runL G ic c96_r9a s := rfl
def c96_r10a : List AI := [⟨(some 38), none, .bin .add (.t 15) (.c (.int .i64 1))⟩,
  ⟨(some 15), none, .mv (.t 38)⟩]
def c96_r10aQ : List AI := c96_r10a
theorem c96_r10a_e (G : Pure) (ic : Inl) (s : SL) : runL G ic c96_r10aQ s = runL G ic c96_r10a s := rfl
def c96_b0 : ACode := .seq (.reg [] c96_r4aQ []) (.seq (.cond (.t 16) (.skip) (.exit 0)) (.seq (.block none 1 (.seq (.reg [] c96_r5aQ []) (.seq (.reg [] c96_r6aQ []) (.seq (.seq (.reg [] c96_r7aQ []) (.cond (.t 23) (.reg [] c96_r8aQ []) (.skip))) (.reg [] c96_r9aQ []))))) (.reg [] c96_r10aQ [])))
def c96_b0Q : ACode := c96_b0
theorem c96_b0_e (G : Pure) (ic : Inl) (n : Nat) (s : SL) : evalC G ic n c96_b0Q s = evalC G ic n c96_b0 s := rfl
def c96_k0 : Keep := { slots := [1, 5, 6, 13, 14, 15], drops := [], adopt := [] }
def c96_e0 : Keep := { slots := [5], drops := [] }
def c96_r11a : List AI := [⟨(some 39), none, .mv (.t 5)⟩,
  ⟨(some 4), none, .mv (.t 39)⟩]
def c96_r11aQ : List AI := c96_r11a
theorem c96_r11a_e (G : Pure) (ic : Inl) (s : SL) : runL G ic c96_r11aQ s = runL G ic c96_r11a s := rfl
def c96 : ACode := .seq (.reg [] c96_r0aQ []) (.seq (.reg [] c96_r1aQ []) (.seq (.reg [] c96_r2aQ []) (.seq (.seq (.reg [] c96_r3aQ []) (.block (some c96_e0) 0 (.loop c96_k0 c96_b0Q))) (.seq (.reg [] c96_r11aQ []) (.ret c96_kr)))))
def c96F : AFun := { params := 2, code := c96, results := [.tmp 4] }
attribute [simp] c96_kr c96_r0a_e c96_r0a c96_r1a_e c96_r1a c96_r2a_e c96_r2a c96_r3a_e c96_r3a c96_r4a_e c96_r4a c96_r5a_e c96_r5a c96_r6a_e c96_r6a c96_r7a_e c96_r7a c96_r8a_e c96_r8a c96_r9a_e c96_r9a c96_r10a_e c96_r10a c96_b0_e c96_b0 c96_k0 c96_e0 c96_r11a_e c96_r11a c96 c96F
theorem c96_ok : IsFun Try.prog ks 96 c96F := by unfold IsFun; kernel_rfl
/-! pairing/integer.shrunk -/
def c97_kr : Option Keep := some { slots := [4], drops := [] }
def c97_r0a : List AI := [⟨(some 4), none, .mv (.c (.int .u32 0))⟩]
def c97_r0aQ : List AI := c97_r0a
theorem c97_r0a_e (G : Pure) (ic : Inl) (s : SL) : runL G ic c97_r0aQ s = runL G ic c97_r0a s := rfl
def c97_r1a : List AI := [⟨(some 5), none, .mv (.c (.int .u64 0))⟩]
def c97_r1aQ : List AI := c97_r1a
theorem c97_r1a_e (G : Pure) (ic : Inl) (s : SL) : runL G ic c97_r1aQ s = runL G ic c97_r1a s := rfl
def c97_r2a : List AI := [⟨(some 7), none, .mv (.t 0)⟩,
  ⟨(some 8), none, .len (.t 7)⟩,
  ⟨(some 9), none, .bin .sub (.t 8) (.c (.int .i64 1))⟩,
  ⟨(some 6), none, .mv (.t 9)⟩]
def c97_r2aQ : List AI := c97_r2a
theorem c97_r2a_e (G : Pure) (ic : Inl) (s : SL) : runL G ic c97_r2aQ s = runL G ic c97_r2a s := rfl
def c97_r3a : List AI := [⟨(some 10), none, .mv (.t 6)⟩,
  ⟨(some 11), none, .bin .geq (.t 10) (.c (.int .i64 0))⟩]
def c97_r3aQ : List AI := c97_r3a
theorem c97_r3a_e (G : Pure) (ic : Inl) (s : SL) : runL G ic c97_r3aQ s = runL G ic c97_r3a s := rfl
def c97_r5a : List AI := [⟨(some 14), none, .mv (.t 5)⟩,
  ⟨(some 15), none, .bin .shl (.t 14) (.c (.int .u64 32))⟩,
  ⟨(some 16), none, .mv (.t 0)⟩,
  ⟨(some 17), none, .mv (.t 6)⟩,
  ⟨(some 18), none, .iaddr 1 (.t 16) (.t 17)⟩,
  ⟨(some 19), none, .load none (.t 18)⟩,
  ⟨(some 20), none, .conv .u64 (.t 19)⟩,
  ⟨(some 21), none, .bin .or (.t 15) (.t 20)⟩,
  ⟨(some 5), none, .mv (.t 21)⟩]
def c97_r5aQ : List AI := c97_r5a
theorem c97_r5a_e (G : Pure) (ic : Inl) (s : SL) : runL G ic c97_r5aQ s = runL G ic c97_r5a s := rfl
def c97_r6a : List AI := [⟨(some 22), none, .mv (.t 0)⟩,
  ⟨(some 23), none, .mv (.t 6)⟩,
  ⟨(some 24), none, .mv (.t 5)⟩,
  ⟨(some 25), none, .mv (.t 1)⟩,
  ⟨(some 26), none, .conv .u64 (.t 25)⟩,
  ⟨(some 27), none, .bin .quo (.t 24) (.t 26)⟩,
  ⟨(some 28), none, .conv .u32 (.t 27)⟩,
  ⟨(some 29), none, .iaddr 1 (.t 22) (.t 23)⟩,
  ⟨none, none, .store 1 (.t 29) (.t 28)⟩]
def c97_r6aQ : List AI := c97_r6a
theorem c97_r6a_e (G : Pure) (ic : Inl) (s : SL) : runL G ic c97_r6aQ s = runL G ic c97_r6a s := rfl
def c97_r7a : List AI := [⟨(some 30), none, .mv (.t 5)⟩,
  ⟨(some 31), none, .mv (.t 1)⟩,
  ⟨(some 32), none, .conv .u64 (.t 31)⟩,
  ⟨(some 33), none, .bin .rem (.t 30) (.t 32)⟩,
  ⟨(some 5), none, .mv (.t 33)⟩]
def c97_r7aQ : List AI := c97_r7a
theorem c97_r7a_e (G : Pure) (ic : Inl) (s : SL) : runL G ic c97_r7aQ s = runL G ic c97_r7a s := rfl
def c97_r4a : List AI := [⟨(some 12), none, .mv (.t 6)⟩,
  ⟨(some 13), none, .bin .sub (.t 12) (.c (.int .i64 1))⟩,
  ⟨(some 6), none, .mv (.t 13)⟩]
def c97_r4aQ : List AI := c97_r4a
theorem c97_r4a_e (G : Pure) (ic : Inl) (s : SL) : runL G ic c97_r4aQ s = runL G ic c97_r4a s := rfl
def c97_b0 : ACode := .seq (.seq (.reg [] c97_r3aQ []) (.cond (.t 11) (.skip) (.exit 0))) (.seq (.block none 1 (.seq (.reg [] c97_r5aQ []) (.seq (.reg [] c97_r6aQ []) (.reg [] c97_r7aQ [])))) (.reg [] c97_r4aQ []))
def c97_b0Q : ACode := c97_b0
theorem c97_b0_e (G : Pure) (ic : Inl) (n : Nat) (s : SL) : evalC G ic n c97_b0Q s = evalC G ic n c97_b0 s := rfl
def c97_k0 : Keep := { slots := [0, 1, 5, 6], drops := [], adopt := [] }
def c97_e0 : Keep := { slots := [5], drops := [] }
def c97_r8a : List AI := [⟨(some 34), none, .mv (.t 5)⟩,
  ⟨(some 35), none, .conv .u32 (.t 34)⟩,
  ⟨(some 4), none, .mv (.t 35)⟩]
def c97_r8aQ : List AI := c97_r8a
theorem c97_r8a_e (G : Pure) (ic : Inl) (s : SL) : runL G ic c97_r8aQ s = runL G ic c97_r8a s := rfl
def c97 : ACode := .seq (.reg [] c97_r0aQ []) (.seq (.reg [] c97_r1aQ []) (.seq (.seq (.reg [] c97_r2aQ []) (.block (some c97_e0) 0 (.loop c97_k0 c97_b0Q))) (.seq (.reg [] c97_r8aQ []) (.ret c97_kr))))
def c97F : AFun := { params := 2, code := c97, results := [.tmp 4] }
attribute [simp] c97_kr c97_r0a_e c97_r0a c97_r1a_e c97_r1a c97_r2a_e c97_r2a c97_r3a_e c97_r3a c97_r5a_e c97_r5a c97_r6a_e c97_r6a c97_r7a_e c97_r7a c97_r4a_e c97_r4a c97_b0_e c97_b0 c97_k0 c97_e0 c97_r8a_e c97_r8a c97 c97F
theorem c97_ok : IsFun Try.prog ks 97 c97F := by unfold IsFun; kernel_rfl
/-! math/bits.LeadingZeros32 -/
def c98_kr : Option Keep := some { slots := [2], drops := [] }
def c98_r0a : List AI := [⟨(some 2), none, .mv (.c (.int .i64 0))⟩]
def c98_r0aQ : List AI := c98_r0a
theorem c98_r0a_e (G : Pure) (ic : Inl) (s : SL) : runL G ic c98_r0aQ s = runL G ic c98_r0a s := rfl
def c98_r1a : List AI := [⟨(some 3), none, .mv (.t 0)⟩,
  ⟨(some 4), none, .call 1568064 105 [(.t 3)] false⟩,
  ⟨(some 5), none, .bin .sub (.c (.int .i64 32)) (.t 4)⟩,
  ⟨(some 2), none, .mv (.t 5)⟩]
def c98_r1aQ : List AI := c98_r1a
theorem c98_r1a_e (G : Pure) (ic : Inl) (s : SL) : runL G ic c98_r1aQ s = runL G ic c98_r1a s := rfl
def c98 : ACode := .seq (.reg [] c98_r0aQ []) (.seq (.reg [] c98_r1aQ []) (.ret c98_kr))
def c98F : AFun := { params := 1, code := c98, results := [.tmp 2] }
attribute [simp] c98_kr c98_r0a_e c98_r0a c98_r1a_e c98_r1a c98 c98F
theorem c98_ok : IsFun Try.prog ks 98 c98F := by unfold IsFun; kernel_rfl
/-! pairing/integer.shifted -/
def c99_kr : Option Keep := some { slots := [4], drops := [] }
def c99_r0a : List AI := [⟨(some 4), none, .mv (.c (.imm true 1 []))⟩]
def c99_r0aQ : List AI := c99_r0a
theorem c99_r0a_e (G : Pure) (ic : Inl) (s : SL) : runL G ic c99_r0aQ s = runL G ic c99_r0a s := rfl
def c99_r1a : List AI := [⟨(some 9), none, .mv (.t 0)⟩,
  ⟨(some 10), none, .len (.t 9)⟩,
  ⟨(some 11), none, .bin .add (.t 10) (.c (.int .i64 1))⟩,
  ⟨(some 12), none, .make 1584192 88 1 4 [.int .u32 0] (.t 11) (.t 11)⟩,
  ⟨(some 5), none, .mv (.t 12)⟩]
def c99_r1aQ : List AI := c99_r1a
theorem c99_r1a_e (G : Pure) (ic : Inl) (s : SL) : runL G ic c99_r1aQ s = runL G ic c99_r1a s := rfl
def c99_r2a : List AI := [⟨(some 13), none, .mv (.t 0)⟩,
  ⟨(some 14), none, .len (.t 13)⟩,
  ⟨(some 15), none, .mv (.c (.int .i64 0))⟩]
def c99_r2aQ : List AI := c99_r2a
theorem c99_r2a_e (G : Pure) (ic : Inl) (s : SL) : runL G ic c99_r2aQ s = runL G ic c99_r2a s := rfl
def c99_r3a : List AI := [⟨(some 16), none, .bin .lss (.t 15) (.t 14)⟩]
def c99_r3aQ : List AI := c99_r3a
theorem c99_r3a_e (G : Pure) (ic : Inl) (s : SL) : runL G ic c99_r3aQ s = runL G ic c99_r3a s := rfl
def c99_r4a : List AI := [⟨(some 17), none, .mv (.t 15)⟩,
  ⟨(some 18), none, .iaddr 1 (.t 13) (.t 15)⟩,
  ⟨(some 19), none, .load none (.t 18)⟩,
  ⟨(some 6), none, .mv (.t 17)⟩,
  ⟨(some 7), none, .mv (.t 19)⟩]
def c99_r4aQ : List AI := c99_r4a
theorem c99_r4a_e (G : Pure) (ic : Inl) (s : SL) : runL G ic c99_r4aQ s = runL G ic c99_r4a s := rfl
def c99_r5a : List AI := [⟨(some 20), none, .mv (.t 7)⟩,
  ⟨(some 21), none, .conv .u64 (.t 20)⟩,
  ⟨(some 22), none, .mv (.t 1)⟩,
  ⟨(some 23), none, .bin .shl (.t 21) (.t 22)⟩,
  ⟨(some 8), none, .mv (.t 23)⟩]
def c99_r5aQ : List AI := c99_r5a
theorem c99_r5a_e (G : Pure) (ic : Inl) (s : SL) : runL G ic c99_r5aQ s = runL G ic c99_r5a s := rfl
def c99_r6a : List AI := [⟨(some 24), none, .mv (.t 5)⟩,
  ⟨(some 25), none, .mv (.t 6)⟩,
  ⟨(some 26), none, .iaddr 1 (.t 24) (.t 25)⟩,
  ⟨(some 27), none, .load none (.t 26)⟩,
  ⟨(some 28), none, .mv (.t 8)⟩,
  ⟨(some 29), none, .conv .u32 (.t 28)⟩,
  ⟨(some 30), none, .bin .or (.t 27) (.t 29)⟩,
  ⟨(some 31), none, .iaddr 1 (.t 24) (.t 25)⟩,
  ⟨none, none, .store 1 (.t 31) (.t 30)⟩]
def c99_r6aQ : List AI := c99_r6a
theorem c99_r6a_e (G : Pure) (ic : Inl) (s : SL) : runL G ic c99_r6aQ s = runL G ic c99_r6a s := rfl
def c99_r7a : List AI := [⟨(some 32), none, .mv (.t 5)⟩,
  ⟨(some 33), none, .mv (.t 6)⟩,
  ⟨(some 34), none, .bin .add (.t 33) (.c (.int .i64 1))⟩,
  ⟨(some 35), none, .mv (.t 8)⟩,
  ⟨(some 36), none, .bin .shr (.t 35) (.c (.int .u64 32))⟩,
  ⟨(some 37), none, .conv .u32 (.t 36)⟩,
  ⟨(some 38), none, .iaddr 1 (.t 32) (.t 34)⟩,
  ⟨none, none, .store 1 (.t 38) (.t 37)⟩]
def c99_r7aQ : List AI := c99_r7a
theorem c99_r7a_e (G : Pure) (ic : Inl) (s : SL) : runL G ic c99_r7aQ s = runL G ic c99_r7a s := rfl
def c99_r8a : List AI := [⟨(some 39), none, .bin .add (.t 15) (.c (.int .i64 1))⟩,
  ⟨(some 15), none, .mv (.t 39)⟩]
def c99_r8aQ : List AI := c99_r8a
theorem c99_r8a_e (G : Pure) (ic : Inl) (s : SL) : runL G ic c99_r8aQ s = runL G ic c99_r8a s := rfl
def c99_b0 : ACode := .seq (.reg [] c99_r3aQ []) (.seq (.cond (.t 16) (.skip) (.exit 0)) (.seq (.block none 1 (.seq (.reg [] c99_r4aQ []) (.seq (.reg [] c99_r5aQ []) (.seq (.reg [] c99_r6aQ []) (.reg [] c99_r7aQ []))))) (.reg [] c99_r8aQ [])))
def c99_b0Q : ACode := c99_b0
theorem c99_b0_e (G : Pure) (ic : Inl) (n : Nat) (s : SL) : evalC G ic n c99_b0Q s = evalC G ic n c99_b0 s := rfl
def c99_k0 : Keep := { slots := [1, 5, 13, 14, 15], drops := [], adopt := [] }
def c99_e0 : Keep := { slots := [5], drops := [] }
def c99_r9a : List AI := [⟨(some 40), none, .mv (.t 5)⟩,
  ⟨(some 4), none, .mv (.t 40)⟩]
def c99_r9aQ : List AI := c99_r9a
theorem c99_r9a_e (G : Pure) (ic : Inl) (s : SL) : runL G ic c99_r9aQ s = runL G ic c99_r9a s := rfl
def c99 : ACode := .seq (.reg [] c99_r0aQ []) (.seq (.reg [] c99_r1aQ []) (.seq (.seq (.reg [] c99_r2aQ []) (.block (some c99_e0) 0 (.loop c99_k0 c99_b0Q))) (.seq (.reg [] c99_r9aQ []) (.ret c99_kr))))
def c99F : AFun := { params := 2, code := c99, results := [.tmp 4] }
attribute [simp] c99_kr c99_r0a_e c99_r0a c99_r1a_e c99_r1a c99_r2a_e c99_r2a c99_r3a_e c99_r3a c99_r4a_e c99_r4a c99_r5a_e c99_r5a c99_r6a_e c99_r6a c99_r7a_e c99_r7a c99_r8a_e c99_r8a c99_b0_e c99_b0 c99_k0 c99_e0 c99_r9a_e c99_r9a c99 c99F
theorem c99_ok : IsFun Try.prog ks 99 c99F := by unfold IsFun; kernel_rfl
/-! pairing/integer.reduce -/
def c100_kr : Option Keep := some { slots := [8], drops := [] }
def c100_r0a : List AI := [⟨(some 8), none, .mv (.c (.int .u32 0))⟩]
def c100_r0aQ : List AI := c100_r0a
theorem c100_r0a_e (G : Pure) (ic : Inl) (s : SL) : runL G ic c100_r0aQ s = runL G ic c100_r0a s := rfl
def c100_r1a : List AI := [⟨(some 9), none, .mv (.c (.int .u64 0))⟩,
  ⟨(some 10), none, .mv (.c (.int .u32 0))⟩]
def c100_r1aQ : List AI := c100_r1a
theorem c100_r1a_e (G : Pure) (ic : Inl) (s : SL) : runL G ic c100_r1aQ s = runL G ic c100_r1a s := rfl
def c100_r2a : List AI := [⟨(some 16), none, .mv (.t 1)⟩,
  ⟨(some 17), none, .len (.t 16)⟩,
  ⟨(some 18), none, .mv (.c (.int .i64 0))⟩]
def c100_r2aQ : List AI := c100_r2a
theorem c100_r2a_e (G : Pure) (ic : Inl) (s : SL) : runL G ic c100_r2aQ s = runL G ic c100_r2a s := rfl
def c100_r3a : List AI := [⟨(some 19), none, .bin .lss (.t 18) (.t 17)⟩]
def c100_r3aQ : List AI := c100_r3a
theorem c100_r3a_e (G : Pure) (ic : Inl) (s : SL) : runL G ic c100_r3aQ s = runL G ic c100_r3a s := rfl
def c100_r4a : List AI := [⟨(some 20), none, .mv (.t 18)⟩,
  ⟨(some 21), none, .iaddr 1 (.t 16) (.t 18)⟩,
  ⟨(some 22), none, .load none (.t 21)⟩,
  ⟨(some 11), none, .mv (.t 20)⟩,
  ⟨(some 12), none, .mv (.t 22)⟩]
def c100_r4aQ : List AI := c100_r4a
theorem c100_r4a_e (G : Pure) (ic : Inl) (s : SL) : runL G ic c100_r4aQ s = runL G ic c100_r4a s := rfl
def c100_r5a : List AI := [⟨(some 23), none, .mv (.t 9)⟩,
  ⟨(some 24), none, .mv (.t 3)⟩,
  ⟨(some 25), none, .mv (.t 12)⟩,
  ⟨(some 26), none, .conv .u64 (.t 25)⟩,
  ⟨(some 27), none, .bin .mul (.t 24) (.t 26)⟩,
  ⟨(some 28), none, .bin .add (.t 23) (.t 27)⟩,
  ⟨(some 9), none, .mv (.t 28)⟩]
def c100_r5aQ : List AI := c100_r5a
theorem c100_r5a_e (G : Pure) (ic : Inl) (s : SL) : runL G ic c100_r5aQ s = runL G ic c100_r5a s := rfl
def c100_r6a : List AI := [⟨(some 30), none, .mv (.t 0)⟩,
  ⟨(some 31), none, .mv (.t 2)⟩,
  ⟨(some 32), none, .mv (.t 11)⟩,
  ⟨(some 33), none, .bin .add (.t 31) (.t 32)⟩,
  ⟨(some 34), none, .mv (.t 0)⟩,
  ⟨(some 35), none, .mv (.t 2)⟩,
  ⟨(some 36), none, .mv (.t 11)⟩,
  ⟨(some 37), none, .bin .add (.t 35) (.t 36)⟩,
  ⟨(some 38), none, .iaddr 1 (.t 34) (.t 37)⟩,
  ⟨(some 39), none, .load none (.t 38)⟩,
  ⟨(some 40), none, .mv (.t 9)⟩,
  ⟨(some 41), none, .conv .u32 (.t 40)⟩,
  ⟨(some 42), none, .mv (.t 10)⟩,
  ⟨(some 43), none, .call 1600688 104 [(.t 39), (.t 41), (.t 42)] false⟩,
  ⟨(some 29), none, .mv (.t 43)⟩,
  ⟨(some 44), none, .extract (.t 29) 0⟩,
  ⟨(some 45), none, .extract (.t 29) 1⟩,
  ⟨(some 46), none, .iaddr 1 (.t 30) (.t 33)⟩,
  ⟨none, none, .store 1 (.t 46) (.t 44)⟩,
  ⟨(some 10), none, .mv (.t 45)⟩]
def c100_r6aQ : List AI := c100_r6a
theorem c100_r6a_e (G : Pure) (ic : Inl) (s : SL) : runL G ic c100_r6aQ s = runL G ic c100_r6a s := rfl
def c100_r7a : List AI := [⟨(some 47), none, .mv (.t 9)⟩,
  ⟨(some 48), none, .bin .shr (.t 47) (.c (.int .u64 32))⟩,
  ⟨(some 9), none, .mv (.t 48)⟩]
def c100_r7aQ : List AI := c100_r7a
theorem c100_r7a_e (G : Pure) (ic : Inl) (s : SL) : runL G ic c100_r7aQ s = runL G ic c100_r7a s := rfl
def c100_r8a : List AI := [⟨(some 49), none, .bin .add (.t 18) (.c (.int .i64 1))⟩,
  ⟨(some 18), none, .mv (.t 49)⟩]
def c100_r8aQ : List AI := c100_r8a
theorem c100_r8a_e (G : Pure) (ic : Inl) (s : SL) : runL G ic c100_r8aQ s = runL G ic c100_r8a s := rfl
def c100_b0 : ACode := .seq (.reg [] c100_r3aQ []) (.seq (.cond (.t 19) (.skip) (.exit 0)) (.seq (.block none 1 (.seq (.reg [] c100_r4aQ []) (.seq (.reg [] c100_r5aQ []) (.seq (.reg [] c100_r6aQ []) (.reg [] c100_r7aQ []))))) (.reg [] c100_r8aQ [])))
def c100_b0Q : ACode := c100_b0
theorem c100_b0_e (G : Pure) (ic : Inl) (n : Nat) (s : SL) : evalC G ic n c100_b0Q s = evalC G ic n c100_b0 s := rfl
def c100_k0 : Keep := { slots := [0, 1, 2, 3, 9, 10, 16, 17, 18], drops := [], adopt := [] }
def c100_e0 : Keep := { slots := [0, 1, 2, 3, 9, 10], drops := [] }
def c100_r9a : List AI := [⟨(some 51), none, .mv (.t 0)⟩,
  ⟨(some 52), none, .mv (.t 2)⟩,
  ⟨(some 53), none, .mv (.t 1)⟩,
  ⟨(some 54), none, .len (.t 53)⟩,
  ⟨(some 55), none, .bin .add (.t 52) (.t 54)⟩,
  ⟨(some 56), none, .mv (.t 0)⟩,
  ⟨(some 57), none, .mv (.t 2)⟩,
  ⟨(some 58), none, .mv (.t 1)⟩,
  ⟨(some 59), none, .len (.t 58)⟩,
  ⟨(some 60), none, .bin .add (.t 57) (.t 59)⟩,
  ⟨(some 61), none, .iaddr 1 (.t 56) (.t 60)⟩,
  ⟨(some 62), none, .load none (.t 61)⟩,
  ⟨(some 63), none, .mv (.t 9)⟩,
  ⟨(some 64), none, .conv .u32 (.t 63)⟩,
  ⟨(some 65), none, .mv (.t 10)⟩,
  ⟨(some 66), none, .call 1601056 104 [(.t 62), (.t 64), (.t 65)] false⟩,
  ⟨(some 50), none, .mv (.t 66)⟩,
  ⟨(some 67), none, .extract (.t 50) 0⟩,
  ⟨(some 68), none, .extract (.t 50) 1⟩,
  ⟨(some 69), none, .iaddr 1 (.t 51) (.t 55)⟩,
  ⟨none, none, .store 1 (.t 69) (.t 67)⟩,
  ⟨(some 10), none, .mv (.t 68)⟩]
def c100_r9aQ : List AI := c100_r9a
theorem c100_r9a_e (G : Pure) (ic : Inl) (s : SL) : runL G ic c100_r9aQ s = runL G ic c100_r9a s := rfl
def c100_r10a : List AI := [⟨(some 70), none, .mv (.t 10)⟩,
  ⟨(some 71), none, .bin .eql (.t 70) (.c (.int .u32 0))⟩]
def c100_r10aQ : List AI := c100_r10a
theorem c100_r10a_e (G : Pure) (ic : Inl) (s : SL) : runL G ic c100_r10aQ s = runL G ic c100_r10a s := rfl
def c100_r11a : List AI := [⟨(some 72), none, .mv (.t 3)⟩,
  ⟨(some 73), none, .conv .u32 (.t 72)⟩,
  ⟨(some 8), none, .mv (.t 73)⟩]
def c100_r11aQ : List AI := c100_r11a
theorem c100_r11a_e (G : Pure) (ic : Inl) (s : SL) : runL G ic c100_r11aQ s = runL G ic c100_r11a s := rfl
def c100_r12a : List AI := [⟨(some 13), none, .mv (.c (.int .u32 0))⟩]
def c100_r12aQ : List AI := c100_r12a
theorem c100_r12a_e (G : Pure) (ic : Inl) (s : SL) : runL G ic c100_r12aQ s = runL G ic c100_r12a s := rfl
def c100_r13a : List AI := [⟨(some 74), none, .mv (.t 1)⟩,
  ⟨(some 75), none, .len (.t 74)⟩,
  ⟨(some 76), none, .mv (.c (.int .i64 0))⟩]
def c100_r13aQ : List AI := c100_r13a
theorem c100_r13a_e (G : Pure) (ic : Inl) (s : SL) : runL G ic c100_r13aQ s = runL G ic c100_r13a s := rfl
def c100_r14a : List AI := [⟨(some 77), none, .bin .lss (.t 76) (.t 75)⟩]
def c100_r14aQ : List AI := c100_r14a
theorem c100_r14a_e (G : Pure) (ic : Inl) (s : SL) : runL G ic c100_r14aQ s = runL G ic c100_r14a s := rfl
def c100_r15a : List AI := [⟨(some 78), none, .mv (.t 76)⟩,
  ⟨(some 79), none, .iaddr 1 (.t 74) (.t 76)⟩,
  ⟨(some 80), none, .load none (.t 79)⟩,
  ⟨(some 14), none, .mv (.t 78)⟩,
  ⟨(some 15), none, .mv (.t 80)⟩]
def c100_r15aQ : List AI := c100_r15a
theorem c100_r15a_e (G : Pure) (ic : Inl) (s : SL) : runL G ic c100_r15aQ s = runL G ic c100_r15a s := rfl
def c100_r16a : List AI := [⟨(some 82), none, .mv (.t 0)⟩,
  ⟨(some 83), none, .mv (.t 2)⟩,
  ⟨(some 84), none, .mv (.t 14)⟩,
  ⟨(some 85), none, .bin .add (.t 83) (.t 84)⟩,
  ⟨(some 86), none, .mv (.t 0)⟩,
  ⟨(some 87), none, .mv (.t 2)⟩,
  ⟨(some 88), none, .mv (.t 14)⟩,
  ⟨(some 89), none, .bin .add (.t 87) (.t 88)⟩,
  ⟨(some 90), none, .iaddr 1 (.t 86) (.t 89)⟩,
  ⟨(some 91), none, .load none (.t 90)⟩,
  ⟨(some 92), none, .mv (.t 15)⟩,
  ⟨(some 93), none, .mv (.t 13)⟩,
  ⟨(some 94), none, .call 1601504 103 [(.t 91), (.t 92), (.t 93)] false⟩,
  ⟨(some 81), none, .mv (.t 94)⟩,
  ⟨(some 95), none, .extract (.t 81) 0⟩,
  ⟨(some 96), none, .extract (.t 81) 1⟩,
  ⟨(some 97), none, .iaddr 1 (.t 82) (.t 85)⟩,
  ⟨none, none, .store 1 (.t 97) (.t 95)⟩,
  ⟨(some 13), none, .mv (.t 96)⟩]
def c100_r16aQ : List AI := c100_r16a
theorem c100_r16a_e (G : Pure) (ic : Inl) (s : SL) : runL G ic c100_r16aQ s = runL G ic c100_r16a s := rfl
def c100_r17a : List AI := [⟨(some 98), none, .bin .add (.t 76) (.c (.int .i64 1))⟩,
  ⟨(some 76), none, .mv (.t 98)⟩]
def c100_r17aQ : List AI := c100_r17a
theorem c100_r17a_e (G : Pure) (ic : Inl) (s : SL) : runL G ic c100_r17aQ s = runL G ic c100_r17a s := rfl
def c100_b1 : ACode := .seq (.reg [] c100_r14aQ []) (.seq (.cond (.t 77) (.skip) (.exit 2)) (.seq (.block none 3 (.seq (.reg [] c100_r15aQ []) (.reg [] c100_r16aQ []))) (.reg [] c100_r17aQ [])))
def c100_b1Q : ACode := c100_b1
theorem c100_b1_e (G : Pure) (ic : Inl) (n : Nat) (s : SL) : evalC G ic n c100_b1Q s = evalC G ic n c100_b1 s := rfl
def c100_k1 : Keep := { slots := [0, 1, 2, 3, 13, 74, 75, 76], drops := [], adopt := [] }
def c100_e1 : Keep := { slots := [0, 1, 2, 3, 13], drops := [] }
def c100_r18a : List AI := [⟨(some 99), none, .mv (.t 0)⟩,
  ⟨(some 100), none, .mv (.t 2)⟩,
  ⟨(some 101), none, .mv (.t 1)⟩,
  ⟨(some 102), none, .len (.t 101)⟩,
  ⟨(some 103), none, .bin .add (.t 100) (.t 102)⟩,
  ⟨(some 104), none, .iaddr 1 (.t 99) (.t 103)⟩,
  ⟨(some 105), none, .load none (.t 104)⟩,
  ⟨(some 106), none, .mv (.t 13)⟩,
  ⟨(some 107), none, .bin .add (.t 105) (.t 106)⟩,
  ⟨(some 108), none, .iaddr 1 (.t 99) (.t 103)⟩,
  ⟨none, none, .store 1 (.t 108) (.t 107)⟩]
def c100_r18aQ : List AI := c100_r18a
theorem c100_r18a_e (G : Pure) (ic : Inl) (s : SL) : runL G ic c100_r18aQ s = runL G ic c100_r18a s := rfl
def c100_r19a : List AI := [⟨(some 109), none, .mv (.t 3)⟩,
  ⟨(some 110), none, .bin .sub (.t 109) (.c (.int .u64 1))⟩,
  ⟨(some 111), none, .conv .u32 (.t 110)⟩,
  ⟨(some 8), none, .mv (.t 111)⟩]
def c100_r19aQ : List AI := c100_r19a
theorem c100_r19a_e (G : Pure) (ic : Inl) (s : SL) : runL G ic c100_r19aQ s = runL G ic c100_r19a s := rfl
def c100 : ACode := .seq (.reg [] c100_r0aQ []) (.seq (.reg [] c100_r1aQ []) (.seq (.seq (.reg [] c100_r2aQ []) (.block (some c100_e0) 0 (.loop c100_k0 c100_b0Q))) (.seq (.reg [] c100_r9aQ []) (.seq (.seq (.reg [] c100_r10aQ []) (.cond (.t 71) (.seq (.reg [] c100_r11aQ []) (.ret c100_kr)) (.skip))) (.seq (.reg [] c100_r12aQ []) (.seq (.seq (.reg [] c100_r13aQ []) (.block (some c100_e1) 2 (.loop c100_k1 c100_b1Q))) (.seq (.reg [] c100_r18aQ []) (.seq (.reg [] c100_r19aQ []) (.ret c100_kr)))))))))
def c100F : AFun := { params := 4, code := c100, results := [.tmp 8] }
attribute [simp] c100_kr c100_r0a_e c100_r0a c100_r1a_e c100_r1a c100_r2a_e c100_r2a c100_r3a_e c100_r3a c100_r4a_e c100_r4a c100_r5a_e c100_r5a c100_r6a_e c100_r6a c100_r7a_e c100_r7a c100_r8a_e c100_r8a c100_b0_e c100_b0 c100_k0 c100_e0 c100_r9a_e c100_r9a c100_r10a_e c100_r10a c100_r11a_e c100_r11a c100_r12a_e c100_r12a c100_r13a_e c100_r13a c100_r14a_e c100_r14a c100_r15a_e c100_r15a c100_r16a_e c100_r16a c100_r17a_e c100_r17a c100_b1_e c100_b1 c100_k1 c100_e1 c100_r18a_e c100_r18a c100_r19a_e c100_r19a c100 c100F
theorem c100_ok : IsFun Try.prog ks 100 c100F := by unfold IsFun; kernel_rfl
/-! pairing/integer.digit -/
def c101_kr : Option Keep := some { slots := [8], drops := [] }
def c101_r0a : List AI := [⟨(some 8), none, .mv (.c (.int .u64 0))⟩]
def c101_r0aQ : List AI := c101_r0a
theorem c101_r0a_e (G : Pure) (ic : Inl) (s : SL) : runL G ic c101_r0aQ s = runL G ic c101_r0a s := rfl
def c101_r1a : List AI := [⟨(some 14), none, .mv (.t 3)⟩,
  ⟨(some 15), none, .mv (.t 3)⟩,
  ⟨(some 16), none, .len (.t 15)⟩,
  ⟨(some 17), none, .bin .sub (.t 16) (.c (.int .i64 1))⟩,
  ⟨(some 18), none, .iaddr 1 (.t 14) (.t 17)⟩,
  ⟨(some 19), none, .load none (.t 18)⟩,
  ⟨(some 20), none, .conv .u64 (.t 19)⟩,
  ⟨(some 21), none, .mv (.t 3)⟩,
  ⟨(some 22), none, .mv (.t 3)⟩,
  ⟨(some 23), none, .len (.t 22)⟩,
  ⟨(some 24), none, .bin .sub (.t 23) (.c (.int .i64 2))⟩,
  ⟨(some 25), none, .iaddr 1 (.t 21) (.t 24)⟩,
  ⟨(some 26), none, .load none (.t 25)⟩,
  ⟨(some 27), none, .conv .u64 (.t 26)⟩,
  ⟨(some 9), none, .mv (.t 20)⟩,
  ⟨(some 10), none, .mv (.t 27)⟩]
def c101_r1aQ : List AI := c101_r1a
theorem c101_r1a_e (G : Pure) (ic : Inl) (s : SL) : runL G ic c101_r1aQ s = runL G ic c101_r1a s := rfl
def c101_r2a : List AI := [⟨(some 28), none, .mv (.t 0)⟩,
  ⟨(some 29), none, .conv .u64 (.t 28)⟩,
  ⟨(some 30), none, .bin .shl (.t 29) (.c (.int .u64 32))⟩,
  ⟨(some 31), none, .mv (.t 1)⟩,
  ⟨(some 32), none, .conv .u64 (.t 31)⟩,
  ⟨(some 33), none, .bin .or (.t 30) (.t 32)⟩,
  ⟨(some 11), none, .mv (.t 33)⟩]
def c101_r2aQ : List AI := c101_r2a
theorem c101_r2a_e (G : Pure) (ic : Inl) (s : SL) : runL G ic c101_r2aQ s = runL G ic c101_r2a s := rfl
def c101_r3a : List AI := [⟨(some 34), none, .mv (.t 11)⟩,
  ⟨(some 35), none, .mv (.t 9)⟩,
  ⟨(some 36), none, .bin .quo (.t 34) (.t 35)⟩,
  ⟨(some 37), none, .mv (.t 11)⟩,
  ⟨(some 38), none, .mv (.t 9)⟩,
  ⟨(some 39), none, .bin .rem (.t 37) (.t 38)⟩,
  ⟨(some 12), none, .mv (.t 36)⟩,
  ⟨(some 13), none, .mv (.t 39)⟩]
def c101_r3aQ : List AI := c101_r3a
theorem c101_r3a_e (G : Pure) (ic : Inl) (s : SL) : runL G ic c101_r3aQ s = runL G ic c101_r3a s := rfl
def c101_r4a : List AI := [⟨(some 40), none, .mv (.t 12)⟩,
  ⟨(some 41), none, .bin .geq (.t 40) (.c (.int .u64 4294967296))⟩,
  ⟨(some 42), none, .mv (.t 41)⟩,
  ⟨(some 43), (some (42, false)), .mv (.t 12)⟩,
  ⟨(some 44), (some (42, false)), .mv (.t 10)⟩,
  ⟨(some 45), (some (42, false)), .bin .mul (.t 43) (.t 44)⟩,
  ⟨(some 46), (some (42, false)), .mv (.t 13)⟩,
  ⟨(some 47), (some (42, false)), .bin .shl (.t 46) (.c (.int .u64 32))⟩,
  ⟨(some 48), (some (42, false)), .mv (.t 2)⟩,
  ⟨(some 49), (some (42, false)), .conv .u64 (.t 48)⟩,
  ⟨(some 50), (some (42, false)), .bin .or (.t 47) (.t 49)⟩,
  ⟨(some 51), (some (42, false)), .bin .gtr (.t 45) (.t 50)⟩,
  ⟨(some 52), none, .pick (.t 42) (.c (.bool true)) (.t 51)⟩]
def c101_r4aQ : List AI := c101_r4a
theorem c101_r4a_e (G : Pure) (ic : Inl) (s : SL) : runL G ic c101_r4aQ s = runL G ic c101_r4a s := rfl
def c101_r5a : List AI := [⟨(some 53), none, .mv (.t 12)⟩,
  ⟨(some 54), none, .bin .sub (.t 53) (.c (.int .u64 1))⟩,
  ⟨(some 12), none, .mv (.t 54)⟩]
def c101_r5aQ : List AI := c101_r5a
theorem c101_r5a_e (G : Pure) (ic : Inl) (s : SL) : runL G ic c101_r5aQ s = runL G ic c101_r5a s := rfl
def c101_r6a : List AI := [⟨(some 55), none, .mv (.t 13)⟩,
  ⟨(some 56), none, .mv (.t 9)⟩,
  ⟨(some 57), none, .bin .add (.t 55) (.t 56)⟩,
  ⟨(some 13), none, .mv (.t 57)⟩]
def c101_r6aQ : List AI := c101_r6a
theorem c101_r6a_e (G : Pure) (ic : Inl) (s : SL) : runL G ic c101_r6aQ s = runL G ic c101_r6a s := rfl
def c101_r7a : List AI := [⟨(some 58), none, .mv (.t 13)⟩,
  ⟨(some 59), none, .bin .geq (.t 58) (.c (.int .u64 4294967296))⟩]
def c101_r7aQ : List AI := c101_r7a
theorem c101_r7a_e (G : Pure) (ic : Inl) (s : SL) : runL G ic c101_r7aQ s = runL G ic c101_r7a s := rfl
def c101_b0 : ACode := .seq (.seq (.reg [] c101_r4aQ []) (.cond (.t 52) (.skip) (.exit 0))) (.block none 1 (.seq (.reg [] c101_r5aQ []) (.seq (.reg [] c101_r6aQ []) (.seq (.reg [] c101_r7aQ []) (.cond (.t 59) (.exit 0) (.skip))))))
def c101_b0Q : ACode := c101_b0
theorem c101_b0_e (G : Pure) (ic : Inl) (n : Nat) (s : SL) : evalC G ic n c101_b0Q s = evalC G ic n c101_b0 s := rfl
def c101_k0 : Keep := { slots := [2, 9, 10, 12, 13], drops := [], adopt := [] }
def c101_e0 : Keep := { slots := [12], drops := [] }
def c101_r8a : List AI := [⟨(some 60), none, .mv (.t 12)⟩,
  ⟨(some 8), none, .mv (.t 60)⟩]
def c101_r8aQ : List AI := c101_r8a
theorem c101_r8a_e (G : Pure) (ic : Inl) (s : SL) : runL G ic c101_r8aQ s = runL G ic c101_r8a s := rfl
def c101 : ACode := .seq (.reg [] c101_r0aQ []) (.seq (.reg [] c101_r1aQ []) (.seq (.reg [] c101_r2aQ []) (.seq (.reg [] c101_r3aQ []) (.seq (.block (some c101_e0) 0 (.loop c101_k0 c101_b0Q)) (.seq (.reg [] c101_r8aQ []) (.ret c101_kr))))))
def c101F : AFun := { params := 4, code := c101, results := [.tmp 8] }
attribute [simp] c101_kr c101_r0a_e c101_r0a c101_r1a_e c101_r1a c101_r2a_e c101_r2a c101_r3a_e c101_r3a c101_r4a_e c101_r4a c101_r5a_e c101_r5a c101_r6a_e c101_r6a c101_r7a_e c101_r7a c101_b0_e c101_b0 c101_k0 c101_e0 c101_r8a_e c101_r8a c101 c101F
theorem c101_ok : IsFun Try.prog ks 101 c101F := by unfold IsFun; kernel_rfl
/-! pairing/integer.unshifted -/
def c102_kr : Option Keep := some { slots := [], drops := [] }
def c102_r0a : List AI := [⟨(some 6), none, .mv (.t 0)⟩,
  ⟨(some 7), none, .len (.t 6)⟩,
  ⟨(some 8), none, .mv (.c (.int .i64 0))⟩]
def c102_r0aQ : List AI := c102_r0a
theorem c102_r0a_e (G : Pure) (ic : Inl) (s : SL) : runL G ic c102_r0aQ s = runL G ic c102_r0a s := rfl
def c102_r1a : List AI := [⟨(some 9), none, .bin .lss (.t 8) (.t 7)⟩]
def c102_r1aQ : List AI := c102_r1a
theorem c102_r1a_e (G : Pure) (ic : Inl) (s : SL) : runL G ic c102_r1aQ s = runL G ic c102_r1a s := rfl
def c102_r2a : List AI := [⟨(some 10), none, .mv (.t 8)⟩,
  ⟨(some 4), none, .mv (.t 10)⟩]
def c102_r2aQ : List AI := c102_r2a
theorem c102_r2a_e (G : Pure) (ic : Inl) (s : SL) : runL G ic c102_r2aQ s = runL G ic c102_r2a s := rfl
def c102_r3a : List AI := [⟨(some 11), none, .mv (.t 0)⟩,
  ⟨(some 12), none, .mv (.t 4)⟩,
  ⟨(some 13), none, .iaddr 1 (.t 11) (.t 12)⟩,
  ⟨(some 14), none, .load none (.t 13)⟩,
  ⟨(some 15), none, .conv .u64 (.t 14)⟩,
  ⟨(some 5), none, .mv (.t 15)⟩]
def c102_r3aQ : List AI := c102_r3a
theorem c102_r3a_e (G : Pure) (ic : Inl) (s : SL) : runL G ic c102_r3aQ s = runL G ic c102_r3a s := rfl
def c102_r4a : List AI := [⟨(some 16), none, .mv (.t 4)⟩,
  ⟨(some 17), none, .bin .add (.t 16) (.c (.int .i64 1))⟩,
  ⟨(some 18), none, .mv (.t 0)⟩,
  ⟨(some 19), none, .len (.t 18)⟩,
  ⟨(some 20), none, .bin .lss (.t 17) (.t 19)⟩]
def c102_r4aQ : List AI := c102_r4a
theorem c102_r4a_e (G : Pure) (ic : Inl) (s : SL) : runL G ic c102_r4aQ s = runL G ic c102_r4a s := rfl
def c102_r5a : List AI := [⟨(some 21), none, .mv (.t 5)⟩,
  ⟨(some 22), none, .mv (.t 0)⟩,
  ⟨(some 23), none, .mv (.t 4)⟩,
  ⟨(some 24), none, .bin .add (.t 23) (.c (.int .i64 1))⟩,
  ⟨(some 25), none, .iaddr 1 (.t 22) (.t 24)⟩,
  ⟨(some 26), none, .load none (.t 25)⟩,
  ⟨(some 27), none, .conv .u64 (.t 26)⟩,
  ⟨(some 28), none, .bin .shl (.t 27) (.c (.int .u64 32))⟩,
  ⟨(some 29), none, .bin .or (.t 21) (.t 28)⟩,
  ⟨(some 5), none, .mv (.t 29)⟩]
def c102_r5aQ : List AI := c102_r5a
theorem c102_r5a_e (G : Pure) (ic : Inl) (s : SL) : runL G ic c102_r5aQ s = runL G ic c102_r5a s := rfl
def c102_r6a : List AI := [⟨(some 30), none, .mv (.t 0)⟩,
  ⟨(some 31), none, .mv (.t 4)⟩,
  ⟨(some 32), none, .mv (.t 5)⟩,
  ⟨(some 33), none, .mv (.t 1)⟩,
  ⟨(some 34), none, .bin .shr (.t 32) (.t 33)⟩,
  ⟨(some 35), none, .conv .u32 (.t 34)⟩,
  ⟨(some 36), none, .iaddr 1 (.t 30) (.t 31)⟩,
  ⟨none, none, .store 1 (.t 36) (.t 35)⟩]
def c102_r6aQ : List AI := c102_r6a
theorem c102_r6a_e (G : Pure) (ic : Inl) (s : SL) : runL G ic c102_r6aQ s = runL G ic c102_r6a s := rfl
def c102_r7a : List AI := [⟨(some 37), none, .bin .add (.t 8) (.c (.int .i64 1))⟩,
  ⟨(some 8), none, .mv (.t 37)⟩]
def c102_r7aQ : List AI := c102_r7a
theorem c102_r7a_e (G : Pure) (ic : Inl) (s : SL) : runL G ic c102_r7aQ s = runL G ic c102_r7a s := rfl
def c102_b0 : ACode := .seq (.reg [] c102_r1aQ []) (.seq (.cond (.t 9) (.skip) (.exit 0)) (.seq (.block none 1 (.seq (.reg [] c102_r2aQ []) (.seq (.reg [] c102_r3aQ []) (.seq (.seq (.reg [] c102_r4aQ []) (.cond (.t 20) (.reg [] c102_r5aQ []) (.skip))) (.reg [] c102_r6aQ []))))) (.reg [] c102_r7aQ [])))
def c102_b0Q : ACode := c102_b0
theorem c102_b0_e (G : Pure) (ic : Inl) (n : Nat) (s : SL) : evalC G ic n c102_b0Q s = evalC G ic n c102_b0 s := rfl
def c102_k0 : Keep := { slots := [0, 1, 7, 8], drops := [], adopt := [] }
def c102_e0 : Keep := { slots := [], drops := [] }
def c102 : ACode := .seq (.reg [] c102_r0aQ []) (.block (some c102_e0) 0 (.loop c102_k0 c102_b0Q))
def c102F : AFun := { params := 2, code := c102, results := [] }
attribute [simp] c102_kr c102_r0a_e c102_r0a c102_r1a_e c102_r1a c102_r2a_e c102_r2a c102_r3a_e c102_r3a c102_r4a_e c102_r4a c102_r5a_e c102_r5a c102_r6a_e c102_r6a c102_r7a_e c102_r7a c102_b0_e c102_b0 c102_k0 c102_e0 c102 c102F
theorem c102_ok : IsFun Try.prog ks 102 c102F := by unfold IsFun; kernel_rfl
/-! math/bits.Add32 -/
def c103_kr : Option Keep := some { slots := [6, 7], drops := [] }
def c103_r0a : List AI := [⟨(some 6), none, .mv (.c (.int .u32 0))⟩,
  ⟨(some 7), none, .mv (.c (.int .u32 0))⟩]
def c103_r0aQ : List AI := c103_r0a
theorem c103_r0a_e (G : Pure) (ic : Inl) (s : SL) : runL G ic c103_r0aQ s = runL G ic c103_r0a s := rfl
def c103_r1a : List AI := [⟨(some 9), none, .mv (.t 0)⟩,
  ⟨(some 10), none, .conv .u64 (.t 9)⟩,
  ⟨(some 11), none, .mv (.t 1)⟩,
  ⟨(some 12), none, .conv .u64 (.t 11)⟩,
  ⟨(some 13), none, .bin .add (.t 10) (.t 12)⟩,
  ⟨(some 14), none, .mv (.t 2)⟩,
  ⟨(some 15), none, .conv .u64 (.t 14)⟩,
  ⟨(some 16), none, .bin .add (.t 13) (.t 15)⟩,
  ⟨(some 8), none, .mv (.t 16)⟩]
def c103_r1aQ : List AI := c103_r1a
theorem c103_r1a_e (G : Pure) (ic : Inl) (s : SL) : runL G ic c103_r1aQ s = runL G ic c103_r1a s := rfl
def c103_r2a : List AI := [⟨(some 17), none, .mv (.t 8)⟩,
  ⟨(some 18), none, .conv .u32 (.t 17)⟩,
  ⟨(some 6), none, .mv (.t 18)⟩]
def c103_r2aQ : List AI := c103_r2a
theorem c103_r2a_e (G : Pure) (ic : Inl) (s : SL) : runL G ic c103_r2aQ s = runL G ic c103_r2a s := rfl
def c103_r3a : List AI := [⟨(some 19), none, .mv (.t 8)⟩,
  ⟨(some 20), none, .bin .shr (.t 19) (.c (.int .u64 32))⟩,
  ⟨(some 21), none, .conv .u32 (.t 20)⟩,
  ⟨(some 7), none, .mv (.t 21)⟩]
def c103_r3aQ : List AI := c103_r3a
theorem c103_r3a_e (G : Pure) (ic : Inl) (s : SL) : runL G ic c103_r3aQ s = runL G ic c103_r3a s := rfl
def c103 : ACode := .seq (.reg [] c103_r0aQ []) (.seq (.reg [] c103_r1aQ []) (.seq (.reg [] c103_r2aQ []) (.seq (.reg [] c103_r3aQ []) (.ret c103_kr))))
def c103F : AFun := { params := 3, code := c103, results := [.tmp 6, .tmp 7] }
attribute [simp] c103_kr c103_r0a_e c103_r0a c103_r1a_e c103_r1a c103_r2a_e c103_r2a c103_r3a_e c103_r3a c103 c103F
theorem c103_ok : IsFun Try.prog ks 103 c103F := by unfold IsFun; kernel_rfl
/-! math/bits.Sub32 -/
def c104_kr : Option Keep := some { slots := [6, 7], drops := [] }
def c104_r0a : List AI := [⟨(some 6), none, .mv (.c (.int .u32 0))⟩,
  ⟨(some 7), none, .mv (.c (.int .u32 0))⟩]
def c104_r0aQ : List AI := c104_r0a
theorem c104_r0a_e (G : Pure) (ic : Inl) (s : SL) : runL G ic c104_r0aQ s = runL G ic c104_r0a s := rfl
def c104_r1a : List AI := [⟨(some 8), none, .mv (.t 0)⟩,
  ⟨(some 9), none, .mv (.t 1)⟩,
  ⟨(some 10), none, .bin .sub (.t 8) (.t 9)⟩,
  ⟨(some 11), none, .mv (.t 2)⟩,
  ⟨(some 12), none, .bin .sub (.t 10) (.t 11)⟩,
  ⟨(some 6), none, .mv (.t 12)⟩]
def c104_r1aQ : List AI := c104_r1a
theorem c104_r1a_e (G : Pure) (ic : Inl) (s : SL) : runL G ic c104_r1aQ s = runL G ic c104_r1a s := rfl
def c104_r2a : List AI := [⟨(some 13), none, .mv (.t 0)⟩,
  ⟨(some 14), none, .un .xor (.t 13)⟩,
  ⟨(some 15), none, .mv (.t 1)⟩,
  ⟨(some 16), none, .bin .and (.t 14) (.t 15)⟩,
  ⟨(some 17), none, .mv (.t 0)⟩,
  ⟨(some 18), none, .mv (.t 1)⟩,
  ⟨(some 19), none, .bin .xor (.t 17) (.t 18)⟩,
  ⟨(some 20), none, .un .xor (.t 19)⟩,
  ⟨(some 21), none, .mv (.t 6)⟩,
  ⟨(some 22), none, .bin .and (.t 20) (.t 21)⟩,
  ⟨(some 23), none, .bin .or (.t 16) (.t 22)⟩,
  ⟨(some 24), none, .bin .shr (.t 23) (.c (.int .u64 31))⟩,
  ⟨(some 7), none, .mv (.t 24)⟩]
def c104_r2aQ : List AI := c104_r2a
theorem c104_r2a_e (G : Pure) (ic : Inl) (s : SL) : runL G ic c104_r2aQ s = runL G ic c104_r2a s := rfl
def c104 : ACode := .seq (.reg [] c104_r0aQ []) (.seq (.reg [] c104_r1aQ []) (.seq (.reg [] c104_r2aQ []) (.ret c104_kr)))
def c104F : AFun := { params := 3, code := c104, results := [.tmp 6, .tmp 7] }
attribute [simp] c104_kr c104_r0a_e c104_r0a c104_r1a_e c104_r1a c104_r2a_e c104_r2a c104 c104F
theorem c104_ok : IsFun Try.prog ks 104 c104F := by unfold IsFun; kernel_rfl
end Go.Proofs.Ythlpmghodgiknaa.C
