/-
  Vectors as the evaluator has them.
-/
import Derived.Test.YthlpmghodgiknaaRt
import Derived.Test.YthlpmghodgiknaaEvG
namespace Go.Ev
open Go

open Classical in
/-- The datum that a value stands for. -/
noncomputable def dec {α : Type} (R : AV → α → Prop) (a : AV) : Option α := if h : ∃ x, R a x then some h.choose else none

theorem dec_inv {α : Type} {R : AV → α → Prop} {a : AV} {x : α} (h : dec R a = some x) : R a x := by
  unfold dec at h
  split at h
  · rename_i hx
    cases h
    exact hx.choose_spec
  · cases h

theorem dec_mk {α : Type} {R : AV → α → Prop} {a : AV} {x : α} (hu : ∀ y, R a y → y = x) (h : R a x) : dec R a = some x := by
  unfold dec
  have hx : ∃ x, R a x := ⟨x, h⟩
  rw [dif_pos hx]
  exact congrArg some (hu _ hx.choose_spec)

/-- A fraction as it is written. -/
structure RF where
  s1 : Bool
  l1 : Bool
  d1 : List Nat
  s2 : Bool
  l2 : Bool
  d2 : List Nat

@[simp] def RF.cells (f : RF) : List AV := [.bool f.s1, .imm f.l1 1 (dg f.d1), .bool f.s2, .imm f.l2 1 (dg f.d2)]
def RF.q (f : RF) : Rat := Rat.divInt (sg f.s1 (dv f.d1)) (sg f.s2 (dv f.d2))
/-- Of fewer than k digits. -/
structure RF.ok (k : Nat) (f : RF) : Prop where
  w1 : Wf f.d1
  b1 : f.d1.length < k
  w2 : Wf f.d2
  b2 : f.d2.length < k

theorem RF.ok.mono {k k' : Nat} {f : RF} (h : f.ok k) (hk : k ≤ k') : f.ok k' := ⟨h.w1, Nat.lt_of_lt_of_le h.b1 hk, h.w2, Nat.lt_of_lt_of_le h.b2 hk⟩
theorem RF.ok.qOf {f : RF} (h : f.ok 2000000) : qOf (.agg f.cells) = some f.q := qOf_mk h.w1 h.b1 h.w2 h.b2
theorem RF.ok.qOf' {f : RF} (h : f.ok 2000000) : Ev.qOf (.agg [.bool f.s1, .imm f.l1 1 (dg f.d1), .bool f.s2, .imm f.l2 1 (dg f.d2)]) = some f.q := qOf_mk h.w1 h.b1 h.w2 h.b2

theorem dg_inj {a b : List Nat} (h : dg a = dg b) : a = b := by
  induction a generalizing b with
  | nil => cases b with
    | nil => rfl
    | cons y b => simp [dg] at h
  | cons x a ih => cases b with
    | nil => simp [dg] at h
    | cons y b =>
      simp only [dg, List.map_cons, List.cons.injEq, AV.int.injEq, true_and, and_true] at h
      obtain ⟨h1, h2⟩ := h
      rw [ih h2]
      congr 1
      omega

theorem RF.cells_inj {f g : RF} (h : f.cells = g.cells) : f = g := by
  cases f; cases g
  simp only [RF.cells, List.cons.injEq, AV.bool.injEq, AV.imm.injEq, true_and, and_true] at h
  obtain ⟨h1, ⟨h2, h3⟩, h4, h5, h6⟩ := h
  rw [h1, h2, dg_inj h3, h4, h5, dg_inj h6]

/-- The canonical form of a number. -/
def qF (q : Rat) : RF := ⟨decide (q.num < 0), false, digs q.num.natAbs, false, false, digs q.den⟩
theorem qF_av (q : Rat) : .agg (qF q).cells = fV q := rfl
theorem qF_q (q : Rat) : (qF q).q = q := by
  unfold RF.q qF
  simp only
  rw [dv_digs, dv_digs, sg_self]
  exact divInt_nd q
theorem qF_ok {q : Rat} {k : Nat} (h : Sz k q) {k' : Nat} (hk : k < k') : (qF q).ok k' := ⟨wf_digs _, Nat.lt_of_le_of_lt h.1 hk, wf_digs _, Nat.lt_of_le_of_lt h.2 hk⟩

/-! ### Vectors -/

abbrev Ent := Int × RF
@[simp] def ecells (e : Ent) : List AV := [.int .i64 e.1, .bool e.2.s1, .imm e.2.l1 1 (dg e.2.d1), .bool e.2.s2, .imm e.2.l2 1 (dg e.2.d2)]
def vcs (l : List Ent) : List (List AV) := l.map ecells
@[simp] theorem vcs_length (l : List Ent) : (vcs l).length = l.length := by simp [vcs]
theorem vcs_get (l : List Ent) (i : Nat) (h : i < l.length) : (vcs l)[i]? = some (ecells l[i]) := by simp [vcs, h]
@[simp] theorem vcs_getElem (l : List Ent) (i : Nat) (h : i < (vcs l).length) : (vcs l)[i] = ecells (l[i]'(by simpa using h)) := by simp [vcs]

theorem ecells_inj {e f : Ent} (h : ecells e = ecells f) : e = f := by
  obtain ⟨i, e⟩ := e
  obtain ⟨j, f⟩ := f
  simp only [ecells, List.cons.injEq, AV.int.injEq, true_and] at h
  obtain ⟨h1, h2⟩ := h
  rw [h1, RF.cells_inj (f := e) (g := f) (by simpa using h2)]

theorem vcs_inj {l m : List Ent} (h : vcs l = vcs m) : l = m := by
  induction l generalizing m with
  | nil => cases m with
    | nil => rfl
    | cons y m => simp [vcs] at h
  | cons x l ih => cases m with
    | nil => simp [vcs] at h
    | cons y m =>
      simp only [vcs, List.map_cons, List.cons.injEq] at h
      rw [ecells_inj h.1, ih h.2]

structure EntOk (k : Nat) (e : Ent) : Prop where
  lo : -9223372036854775808 ≤ e.1
  hi : e.1 < 9223372036854775808
  fr : e.2.ok k

/-- A vector: entries with fractions of fewer than k digits. -/
structure VecOk (k : Nat) (l : List Ent) : Prop where
  len : l.length < 100000000
  ents : ∀ e ∈ l, EntOk k e

def RV (a : AV) (l : List Ent) : Prop := ∃ nl, a = .imm nl 5 (vcs l) ∧ VecOk 2000000 l

theorem RV_uniq {a : AV} {l m : List Ent} (h : RV a l) (h' : RV a m) : m = l := by
  obtain ⟨n1, rfl, _⟩ := h
  obtain ⟨n2, e, _⟩ := h'
  simp only [AV.imm.injEq, true_and] at e
  exact vcs_inj e.2.symm

noncomputable def vOfA : AV → Option (List Ent) := dec RV
theorem vOfA_inv {a : AV} {l : List Ent} (h : vOfA a = some l) : ∃ nl, a = .imm nl 5 (vcs l) ∧ VecOk 2000000 l := dec_inv (R := RV) h
theorem vOfA_mk {nl : Bool} {l : List Ent} (h : VecOk 2000000 l) : vOfA (.imm nl 5 (vcs l)) = some l := dec_mk (fun _ hy => RV_uniq ⟨nl, rfl, h⟩ hy) ⟨nl, rfl, h⟩

/-- The numbers of a vector. -/
def nums (l : List Ent) : List (Int × Rat) := l.map fun e => (e.1, e.2.q)
@[simp] theorem nums_nil : nums [] = [] := rfl
theorem nums_cons (e : Ent) (l : List Ent) : nums (e :: l) = (e.1, e.2.q) :: nums l := rfl

/-- A vector in canonical form. -/
def vF (l : List (Int × Rat)) : List Ent := l.map fun x => (x.1, qF x.2)
theorem nums_vF (l : List (Int × Rat)) : nums (vF l) = l := by
  induction l with
  | nil => rfl
  | cons x l ih => simp only [vF, List.map_cons, nums_cons, qF_q] at *; rw [show nums (List.map (fun x => (x.1, qF x.2)) l) = l from ih]


/-! ### What comes in -/

/-- Digits of any length that fits the memory. -/
structure RF.wide (f : RF) : Prop where
  w1 : Wf f.d1
  b1 : f.d1.length ≤ 140737488355328
  w2 : Wf f.d2
  b2 : f.d2.length ≤ 140737488355328

structure EntWide (e : Ent) : Prop where
  lo : -9223372036854775808 ≤ e.1
  hi : e.1 < 9223372036854775808
  fr : e.2.wide

structure VecWide (l : List Ent) : Prop where
  len : l.length ≤ 140737488355328
  ents : ∀ e ∈ l, EntWide e

def lightF (f : RF) : Bool := decide (f.d1.length + f.d2.length ≤ 60) && decide (f.d1.length ≤ 12) && decide (f.d2.length ≤ 12)

theorem lightF_ok {f : RF} (h : f.wide) (hl : lightF f = true) : f.ok 13 := by
  simp only [lightF, Bool.and_eq_true, decide_eq_true_eq] at hl
  exact ⟨h.w1, by omega, h.w2, by omega⟩

def fcs (l : List RF) : List (List AV) := l.map RF.cells
@[simp] theorem fcs_length (l : List RF) : (fcs l).length = l.length := by simp [fcs]
theorem fcs_get (l : List RF) (i : Nat) (h : i < l.length) : (fcs l)[i]? = some (l[i]).cells := by simp [fcs, h]
@[simp] theorem fcs_getElem (l : List RF) (i : Nat) (h : i < (fcs l).length) : (fcs l)[i] = (l[i]'(by simpa using h)).cells := by simp [fcs]
theorem fcs_inj {l m : List RF} (h : fcs l = fcs m) : l = m := by
  induction l generalizing m with
  | nil => cases m with
    | nil => rfl
    | cons y m => simp [fcs] at h
  | cons x l ih => cases m with
    | nil => simp [fcs] at h
    | cons y m =>
      simp only [fcs, List.map_cons, List.cons.injEq] at h
      rw [RF.cells_inj h.1, ih h.2]

def RFW (a : AV) (l : List RF) : Prop := ∃ nl, a = .imm nl 4 (fcs l) ∧ l.length ≤ 140737488355328 ∧ ∀ f ∈ l, f.wide
noncomputable def fsOfW : AV → Option (List RF) := dec RFW
theorem fsOfW_inv {a : AV} {l : List RF} (h : fsOfW a = some l) : RFW a l := dec_inv h
theorem fsOfW_mk {nl : Bool} {l : List RF} (hl : l.length ≤ 140737488355328) (h : ∀ f ∈ l, f.wide) : fsOfW (.imm nl 4 (fcs l)) = some l := dec_mk (R := RFW) (fun m hm => by
  obtain ⟨n2, e, _⟩ := hm
  simp only [AV.imm.injEq, true_and] at e
  exact fcs_inj e.2.symm) ⟨nl, rfl, hl, h⟩

/-- Lists of vectors, each with its own mark of nil. -/
abbrev VV := Bool × List Ent
@[simp] def vcell (v : VV) : List AV := [.imm v.1 5 (vcs v.2)]
def vvs (l : List VV) : List (List AV) := l.map vcell
@[simp] theorem vvs_length (l : List VV) : (vvs l).length = l.length := by simp [vvs]
theorem vvs_get (l : List VV) (i : Nat) (h : i < l.length) : (vvs l)[i]? = some (vcell l[i]) := by simp [vvs, h]
@[simp] theorem vvs_getElem (l : List VV) (i : Nat) (h : i < (vvs l).length) : (vvs l)[i] = vcell (l[i]'(by simpa using h)) := by simp [vvs]
theorem vvs_inj {l m : List VV} (h : vvs l = vvs m) : l = m := by
  induction l generalizing m with
  | nil => cases m with
    | nil => rfl
    | cons y m => simp [vvs] at h
  | cons x l ih => cases m with
    | nil => simp [vvs] at h
    | cons y m =>
      simp only [vvs, List.map_cons, List.cons.injEq, vcell, AV.imm.injEq, true_and, and_true] at h
      obtain ⟨⟨h1, h2⟩, h3⟩ := h
      rw [ih h3]
      congr 1
      exact Prod.ext h1 (vcs_inj h2)

def RVW (a : AV) (l : List VV) : Prop := ∃ nl, a = .imm nl 1 (vvs l) ∧ l.length ≤ 140737488355328 ∧ ∀ v ∈ l, VecWide v.2
noncomputable def vsOfW : AV → Option (List VV) := dec RVW
theorem vsOfW_inv {a : AV} {l : List VV} (h : vsOfW a = some l) : RVW a l := dec_inv h
theorem vsOfW_mk {nl : Bool} {l : List VV} (hl : l.length ≤ 140737488355328) (h : ∀ f ∈ l, VecWide f.2) : vsOfW (.imm nl 1 (vvs l)) = some l := dec_mk (R := RVW) (fun m hm => by
  obtain ⟨n2, e, _⟩ := hm
  simp only [AV.imm.injEq, true_and] at e
  exact vvs_inj e.2.symm) ⟨nl, rfl, hl, h⟩

abbrev ctD : CT := .sl [.int .u32]
abbrev ctF : List CT := [.bool, ctD, .bool, ctD]
abbrev ctE : List CT := [.int .i64, .bool, ctD, .bool, ctD]
abbrev ctV : CT := .sl ctE

theorem fit_bool {u : AV} (h : Fit .bool u) : ∃ b, u = .bool b := by cases h; exact ⟨_, rfl⟩
theorem fit_int {k : IntKind} {u : AV} (h : Fit (.int k) u) : ∃ n, u = .int k n ∧ (Lit.int k n).wf = true := by cases h; exact ⟨_, rfl, by assumption⟩
theorem wf_u32 {n : Int} (h : (Lit.int .u32 n).wf = true) : 0 ≤ n ∧ n < 4294967296 := by
  simp [Lit.wf, IntKind.min, IntKind.max, IntKind.signed, IntKind.bits] at h; omega
theorem wf_i64 {n : Int} (h : (Lit.int .i64 n).wf = true) : -9223372036854775808 ≤ n ∧ n < 9223372036854775808 := by
  simp [Lit.wf, IntKind.min, IntKind.max, IntKind.signed, IntKind.bits] at h; omega

theorem fit_digits {u : AV} (h : Fit ctD u) : ∃ nl ds, u = .imm nl 1 (dg ds) ∧ Wf ds ∧ ds.length ≤ 140737488355328 := by
  cases h with
  | sl hl hn hc hf =>
    rename_i nl es
    have key : ∀ es : List (List AV), (∀ cs ∈ es, cs.length = [CT.int .u32].length) → (∀ cs ∈ es, ∀ (j : Nat) (t : CT) (u : AV), [CT.int .u32][j]? = some t → cs[j]? = some u → Fit t u) → ∃ ds, es = dg ds ∧ Wf ds := by
      intro es
      induction es with
      | nil => intro _ _; exact ⟨[], rfl, wf_nil⟩
      | cons cs es ih =>
        intro h1 h2
        obtain ⟨ds, e1, w1⟩ := ih (fun c hc => h1 c (by simp [hc])) (fun c hc => h2 c (by simp [hc]))
        match cs, h1 cs (by simp) with
        | [u], _ =>
          obtain ⟨n, rfl, hw⟩ := fit_int (h2 [u] (by simp) 0 (.int .u32) u rfl rfl)
          have := wf_u32 hw
          refine ⟨n.toNat :: ds, ?_, wf_cons.2 ⟨by simp only [W32]; omega, w1⟩⟩
          rw [e1]
          simp only [dg, List.map_cons, List.cons.injEq, AV.int.injEq, true_and, and_true]
          omega
    obtain ⟨ds, e1, w1⟩ := key es hc hf
    subst e1
    refine ⟨nl, ds, rfl, w1, ?_⟩
    rw [dg_length] at hl
    exact hl

theorem fit_ent {cs : List AV} (hl : cs.length = ctE.length) (h : ∀ (j : Nat) (t : CT) (u : AV), ctE[j]? = some t → cs[j]? = some u → Fit t u) : ∃ e, cs = ecells e ∧ EntWide e := by
  match cs, hl with
  | [a, b, c, d, e], _ =>
    obtain ⟨i, rfl, hi⟩ := fit_int (h 0 _ _ rfl rfl)
    obtain ⟨s1, rfl⟩ := fit_bool (h 1 _ _ rfl rfl)
    obtain ⟨l1, d1, rfl, w1, b1⟩ := fit_digits (h 2 _ _ rfl rfl)
    obtain ⟨s2, rfl⟩ := fit_bool (h 3 _ _ rfl rfl)
    obtain ⟨l2, d2, rfl, w2, b2⟩ := fit_digits (h 4 _ _ rfl rfl)
    have := wf_i64 hi
    exact ⟨(i, ⟨s1, l1, d1, s2, l2, d2⟩), rfl, ⟨this.1, this.2, ⟨w1, b1, w2, b2⟩⟩⟩

theorem fit_frac {cs : List AV} (hl : cs.length = ctF.length) (h : ∀ (j : Nat) (t : CT) (u : AV), ctF[j]? = some t → cs[j]? = some u → Fit t u) : ∃ f : RF, cs = f.cells ∧ f.wide := by
  match cs, hl with
  | [b, c, d, e], _ =>
    obtain ⟨s1, rfl⟩ := fit_bool (h 0 _ _ rfl rfl)
    obtain ⟨l1, d1, rfl, w1, b1⟩ := fit_digits (h 1 _ _ rfl rfl)
    obtain ⟨s2, rfl⟩ := fit_bool (h 2 _ _ rfl rfl)
    obtain ⟨l2, d2, rfl, w2, b2⟩ := fit_digits (h 3 _ _ rfl rfl)
    exact ⟨⟨s1, l1, d1, s2, l2, d2⟩, rfl, ⟨w1, b1, w2, b2⟩⟩

theorem fit_vec {u : AV} (h : Fit ctV u) : ∃ nl l, u = .imm nl 5 (vcs l) ∧ VecWide l := by
  cases h with
  | sl hl hn hc hf =>
    rename_i nl es
    have key : ∀ es : List (List AV), (∀ cs ∈ es, cs.length = ctE.length) → (∀ cs ∈ es, ∀ (j : Nat) (t : CT) (u : AV), ctE[j]? = some t → cs[j]? = some u → Fit t u) → ∃ l, es = vcs l ∧ ∀ e ∈ l, EntWide e := by
      intro es
      induction es with
      | nil => intro _ _; exact ⟨[], rfl, by simp⟩
      | cons cs es ih =>
        intro h1 h2
        obtain ⟨l, e1, w1⟩ := ih (fun c hc => h1 c (by simp [hc])) (fun c hc => h2 c (by simp [hc]))
        obtain ⟨e, rfl, he⟩ := fit_ent (h1 cs (by simp)) (h2 cs (by simp))
        refine ⟨e :: l, by rw [e1]; rfl, fun x hx => ?_⟩
        rcases List.mem_cons.1 hx with rfl | hx
        · exact he
        · exact w1 x hx
    obtain ⟨l, e1, w1⟩ := key es hc hf
    subst e1
    refine ⟨nl, l, rfl, ?_, w1⟩
    rw [vcs_length] at hl
    exact hl

theorem fit_fracs {u : AV} (h : Fit (.sl ctF) u) : ∃ nl l, u = .imm nl 4 (fcs l) ∧ l.length ≤ 140737488355328 ∧ ∀ f ∈ l, f.wide := by
  cases h with
  | sl hl hn hc hf =>
    rename_i nl es
    have key : ∀ es : List (List AV), (∀ cs ∈ es, cs.length = ctF.length) → (∀ cs ∈ es, ∀ (j : Nat) (t : CT) (u : AV), ctF[j]? = some t → cs[j]? = some u → Fit t u) → ∃ l, es = fcs l ∧ ∀ e ∈ l, e.wide := by
      intro es
      induction es with
      | nil => intro _ _; exact ⟨[], rfl, by simp⟩
      | cons cs es ih =>
        intro h1 h2
        obtain ⟨l, e1, w1⟩ := ih (fun c hc => h1 c (by simp [hc])) (fun c hc => h2 c (by simp [hc]))
        obtain ⟨e, rfl, he⟩ := fit_frac (h1 cs (by simp)) (h2 cs (by simp))
        refine ⟨e :: l, by rw [e1]; rfl, fun x hx => ?_⟩
        rcases List.mem_cons.1 hx with rfl | hx
        · exact he
        · exact w1 x hx
    obtain ⟨l, e1, w1⟩ := key es hc hf
    subst e1
    refine ⟨nl, l, rfl, ?_, w1⟩
    rw [fcs_length] at hl
    exact hl

theorem fit_vecs {u : AV} (h : Fit (.sl [ctV]) u) : ∃ nl l, u = .imm nl 1 (vvs l) ∧ l.length ≤ 140737488355328 ∧ ∀ v ∈ l, VecWide v.2 := by
  cases h with
  | sl hl hn hc hf =>
    rename_i nl es
    have key : ∀ es : List (List AV), (∀ cs ∈ es, cs.length = [ctV].length) → (∀ cs ∈ es, ∀ (j : Nat) (t : CT) (u : AV), [ctV][j]? = some t → cs[j]? = some u → Fit t u) → ∃ l, es = vvs l ∧ ∀ v ∈ l, VecWide v.2 := by
      intro es
      induction es with
      | nil => intro _ _; exact ⟨[], rfl, by simp⟩
      | cons cs es ih =>
        intro h1 h2
        obtain ⟨l, e1, w1⟩ := ih (fun c hc => h1 c (by simp [hc])) (fun c hc => h2 c (by simp [hc]))
        match cs, h1 cs (by simp) with
        | [u], _ =>
          obtain ⟨nl, v, rfl, hv⟩ := fit_vec (h2 [u] (by simp) 0 ctV u rfl rfl)
          refine ⟨(nl, v) :: l, by rw [e1]; rfl, fun x hx => ?_⟩
          rcases List.mem_cons.1 hx with rfl | hx
          · exact hv
          · exact w1 x hx
    obtain ⟨l, e1, w1⟩ := key es hc hf
    subst e1
    refine ⟨nl, l, rfl, ?_, w1⟩
    rw [vvs_length] at hl
    exact hl

end Go.Ev
