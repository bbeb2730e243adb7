/-
  The sanity check; what light vectors are.
-/
import Derived.Test.YthlpmghodgiknaaSqD
namespace Go.Proofs.Ythlpmghodgiknaa.C
open Go Go.Ev

section
variable (G : Pure) (ic : Inl) (n : Nat)

/-! ### awake -/

def spAwake : List AV → Option PRes := sp0 (.bool true)

theorem qF_int_ok {z : Int} (h0 : -100 ≤ z) (h1 : z ≤ 100) {k : Nat} (hk : 2 ≤ k) : (qF (z : Rat)).ok k := qF_ok (Sz_int (k := 1) (zl_small (by omega)) (by decide)) (by omega)

theorem same_fV {G : Pure} (hS : G 20 = spSameFrac) {q : Rat} (h : Sz 20000000 q) : G 20 [fV q, fV q] = some { val := .bool true } := by
  have hr := rawOf_fV (q := q) (h.mono (by decide))
  have := sp2_at hS hr hr rfl
  simpa using this

theorem awake_run (hW : G 39 = spWhole) (hD : G 17 = spDot) (hS : G 20 = spSameFrac) : FSpec (fun args n => pureF G ic n c11F args) spAwake := by
  intro args r h
  obtain ⟨rfl, rfl⟩ := sp0_inv h
  have t2 := sp1_at hW (i64Of_mk (n := 2) (by decide) (by decide)) rfl
  have t3 := sp1_at hW (i64Of_mk (n := 3) (by decide) (by decide)) rfl
  have t5 := sp1_at hW (i64Of_mk (n := 5) (by decide) (by decide)) rfl
  have t6 := sp1_at hW (i64Of_mk (n := 6) (by decide) (by decide)) rfl
  obtain ⟨q2, h2⟩ : ∃ q : Rat, q = ((2 : Int) : Rat) := ⟨_, rfl⟩
  obtain ⟨q3, h3⟩ : ∃ q : Rat, q = ((3 : Int) : Rat) := ⟨_, rfl⟩
  obtain ⟨q5, h5⟩ : ∃ q : Rat, q = ((5 : Int) : Rat) := ⟨_, rfl⟩
  obtain ⟨q6, h6⟩ : ∃ q : Rat, q = ((6 : Int) : Rat) := ⟨_, rfl⟩
  rw [← h2] at t2
  rw [← h3] at t3
  rw [← h5] at t5
  rw [← h6] at t6
  have o2 : (qF q2).ok 2 := by rw [h2]; exact qF_int_ok (by decide) (by decide) (by decide)
  have o3 : (qF q3).ok 2 := by rw [h3]; exact qF_int_ok (by decide) (by decide) (by decide)
  have o5 : (qF q5).ok 2 := by rw [h5]; exact qF_int_ok (by decide) (by decide) (by decide)
  have va : VecOk 2000000 [((1 : Int), qF q2)] := ⟨by simp, fun e he => by simp at he; subst he; exact ⟨by simp, by simp, o2.mono (by decide)⟩⟩
  have vb : VecOk 2000000 [((0 : Int), qF q5), ((1 : Int), qF q3)] := ⟨by simp, fun e he => by
    simp at he
    rcases he with rfl | rfl
    · exact ⟨by simp, by simp, o5.mono (by decide)⟩
    · exact ⟨by simp, by simp, o3.mono (by decide)⟩⟩
  have td : G 17 [.imm false 5 (vcs [((1 : Int), qF q2)]), .imm false 5 (vcs [((0 : Int), qF q5), ((1 : Int), qF q3)]), .int .i64 2] = some { val := .tup [fV q6, .int .i64 0] } := by
    refine sp3_at hD (vOfA_mk va) (vOfA_mk vb) (i64Of_mk (n := 2) (by decide) (by decide)) ?_
    have e1 : errB 2 (nums [((1 : Int), qF q2)]) (nums [((0 : Int), qF q5), ((1 : Int), qF q3)]) = 0 := by
      simp only [nums, List.map_cons, List.map_nil, qF_q, h2, h3, h5]
      decide
    have e2 : dotS (nums [((0 : Int), qF q5), ((1 : Int), qF q3)]) (nums [((1 : Int), qF q2)]) 0 = q6 := by
      simp only [nums, List.map_cons, List.map_nil, qF_q, h2, h3, h5, h6]
      decide +kernel
    rw [if_neg (by rw [e1]; simp), if_pos ⟨2, fun e he => by simp at he; subst he; exact o2, fun e he => by
      simp at he
      rcases he with rfl | rfl
      · exact o5
      · exact o3, by simp⟩, e2]
  have ts := same_fV hS (q := q6) (by rw [h6]; exact (Sz_int (k := 1) (zl_small (by decide)) (by decide)).mono (by decide))
  clear h2 h3 h5 h6
  refine ⟨{ val := .bool true }, ⟨0, ?_⟩, rfl, rfl⟩
  simp [vcs, qF] at td
  simp only [fV_agg] at t2 t3 t5 t6 td ts
  simp [pureF, runF, t2, t3, t5, t6, td, ts]

/-! ### Light vectors -/

def sumLen (ls : List VV) : Nat := (ls.map fun v => v.2.length).sum

theorem accN_eq : ∀ (ls : List VV) (a : Nat), (∀ v ∈ ls, v.2.length ≤ 140737488355328) → a + ls.length * 140737488355328 < 9223372036854775808 → accN ls a = (a + sumLen ls : Nat)
  | [], a, _, _ => rfl
  | v :: ls, a, h, hb => by
    have h1 := h v (by simp)
    simp only [List.length_cons, Nat.add_mul, Nat.one_mul] at hb
    have w : IntKind.i64.wrap ((a : Int) + v.2.length) = ((a + v.2.length : Nat) : Int) := by rw [wrap64_id _ (by omega) (by omega)]; omega
    have ih := accN_eq ls (a + v.2.length) (fun x hx => h x (by simp [hx])) (by omega)
    have e : accN (v :: ls) a = accN ls (IntKind.i64.wrap ((a : Int) + v.2.length)) := rfl
    rw [e, w, ih]
    simp only [sumLen, List.map_cons, List.sum_cons]
    omega

/-- What light says. -/
structure Lt (ls : List VV) : Prop where
  count : ls.length ≤ 20
  total : sumLen ls ≤ 60
  small : ∀ v ∈ ls, ∀ e ∈ v.2, EntOk 13 e

theorem light_at {G : Pure} (hL : G 10 = spLight3) (nl : Bool) (ls : List VV) (hl : ls.length ≤ 140737488355328) (h : ∀ v ∈ ls, VecWide v.2) :
    ∃ b, G 10 [.imm nl 1 (vvs ls)] = some { val := .bool b } ∧ (b = true → Lt ls) := by
  refine ⟨_, sp1_at hL (vsOfW_mk hl h) rfl, fun hb => ?_⟩
  simp only [Bool.and_eq_true, decide_eq_true_eq, List.all_eq_true] at hb
  obtain ⟨h1, h2, h3⟩ := hb
  refine ⟨h3, ?_, fun v hv e he => ?_⟩
  · have := accN_eq ls 0 (fun v hv => (h v hv).len) (by omega)
    rw [Int.natCast_zero] at this
    rw [this] at h2
    omega
  · have h4 := h1 v hv
    simp only [lightV, List.all_eq_true] at h4
    have h5 := (h v hv).ents e he
    exact ⟨h5.lo, h5.hi, lightF_ok h5.fr (h4 e he)⟩

theorem len_le_sum {ls : List VV} {v : VV} (h : v ∈ ls) : v.2.length ≤ sumLen ls := by
  induction ls with
  | nil => simp at h
  | cons x ls ih =>
    simp only [sumLen, List.map_cons, List.sum_cons] at *
    rcases List.mem_cons.1 h with rfl | h
    · omega
    · have := ih h; omega

theorem Lt.vec {ls : List VV} (h : Lt ls) {v : VV} (hv : v ∈ ls) : VecOk 2000000 v.2 ∧ v.2.length ≤ 60 ∧ ∀ e ∈ v.2, e.2.ok 13 := by
  have h1 := len_le_sum hv
  have h2 := h.total
  refine ⟨⟨by omega, fun e he => ?_⟩, by omega, fun e he => (h.small v hv e he).fr⟩
  have := h.small v hv e he
  exact ⟨this.lo, this.hi, this.fr.mono (by decide)⟩

/-! ### SparseValid -/

theorem sparseValid_run (hL : G 10 = spLight3) (hA : G 11 = spAwake) (hV : G 12 = spValidate) (hR : G 13 = spValidate) :
    ∀ us, FitAll [(false, [ctV]), (false, [.int .i64])] us → ∃ n, pureF G ic n c3F us = some { val := .bool true } := by
  intro us hus
  match us, hus with
  | [u1, u2], ⟨⟨t1, e1, f1⟩, ⟨t2, e2, f2⟩, _⟩ =>
    cases e1
    cases e2
    obtain ⟨nl, l, rfl, hw⟩ := fit_vec f1
    obtain ⟨nn, rfl, hn⟩ := fit_int f2
    have hn' := wf_i64 hn
    have ta := sp0_at hA
    obtain ⟨b, tl, hb⟩ := light_at hL false [(nl, l)] (by simp) (by simpa using hw)
    simp only [vvs, List.map_cons, List.map_nil, vcell] at tl
    refine ⟨0, ?_⟩
    cases b with
    | false => simp [pureF, runF, tl, ta]
    | true =>
      obtain ⟨g1, _, _⟩ := (hb rfl).vec (v := (nl, l)) (by simp)
      have tv := sp2_at hV (vOfA_mk (nl := nl) g1) (i64Of_mk hn'.1 hn'.2) rfl
      have tr := sp2_at hR (vOfA_mk (nl := nl) g1) (i64Of_mk hn'.1 hn'.2) rfl
      simp [pureF, runF, tl, ta, tv, tr]

end
end Go.Proofs.Ythlpmghodgiknaa.C
