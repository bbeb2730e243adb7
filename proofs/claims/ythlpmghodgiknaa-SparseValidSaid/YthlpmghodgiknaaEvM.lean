/-
  Regions whose order is open: every order gives what the text's order gives.
-/
import Derived.Test.YthlpmghodgiknaaEvN
namespace Go.Ev
open Go Go.RowKit

section
variable {P : Program} {ks : Kinds} {fid N : Nat} {ops : Array Oper} {l : List AI} {m : Nat} {b : List Nat} {G : Pure} {ic : Inl} {s s' : SL}

theorem drawOk_spec (h : drawOk ops b l m = true) {j : Nat} {o : Oper} (hj : ops[j]? = some o) :
    (∀ e ∈ o.after, Region.binds .any e = true → e.on < j) ∧ ∀ i, i < j →
      ((b.getD j 0).testBit i = true → ∃ e ∈ o.after, Region.binds .any e = true ∧ (e.on = i ∨ (i < e.on ∧ (b.getD e.on 0).testBit i = true))) ∧
      ((b.getD j 0).testBit i = false → j < m ∧ ∃ x y, l[i]? = some x ∧ l[j]? = some y ∧ x.apartS y = true) := by
  have hlt : j < ops.size := (Array.getElem?_eq_some_iff.1 hj).1
  have h1 := List.all_eq_true.1 h j (List.mem_range.2 hlt)
  rw [hj] at h1
  simp only [Bool.and_eq_true] at h1
  obtain ⟨h1, h2⟩ := h1
  refine ⟨fun e he hb => ?_, fun i hi => ?_⟩
  · have := List.all_eq_true.1 h1 e (by simpa using he)
    simpa [hb] using this
  · have := List.all_eq_true.1 h2 i (List.mem_range.2 hi)
    refine ⟨fun hbit => ?_, fun hbit => ?_⟩
    · rw [if_pos hbit] at this
      obtain ⟨e, he, h3⟩ := List.any_eq_true.1 this
      simp only [Bool.and_eq_true, Bool.or_eq_true, beq_iff_eq, decide_eq_true_eq] at h3
      exact ⟨e, by simpa using he, h3.1, h3.2⟩
    · rw [if_neg (by rw [hbit]; simp)] at this
      simp only [Bool.and_eq_true, decide_eq_true_eq] at this
      refine ⟨this.1, ?_⟩
      have h4 := this.2
      split at h4
      · rename_i x y hx hy
        exact ⟨x, y, hx, hy, h4⟩
      · cases h4

/-- What is listed comes with all that binds it. -/
def Closed (ops : Array Oper) (listed : Array Bool) : Prop :=
  ∀ (j : Nat) (o : Oper), listed.getD j false = true → ops[j]? = some o → ∀ e ∈ o.after, Region.binds .any e = true → listed.getD e.on false = true

theorem closed_before (h : drawOk ops b l m = true) {listed : Array Bool} (hc : Closed ops listed) : ∀ (n j : Nat) (o : Oper), j ≤ n → ops[j]? = some o → (∀ e ∈ o.after, Region.binds .any e = true → listed.getD e.on false = true) →
    ∀ i, i < j → (b.getD j 0).testBit i = true → listed.getD i false = true := by
  intro n
  induction n with
  | zero => intro j o hj; omega
  | succ n ih =>
    intro j o hj ho he i hi hbit
    obtain ⟨s1, s2⟩ := drawOk_spec h ho
    obtain ⟨e, he', hb, h1⟩ := (s2 i hi).1 hbit
    have hon := he e he' hb
    rcases h1 with rfl | ⟨h1, h2⟩
    · exact hon
    · have hlt := s1 e he' hb
      have hsz : j < ops.size := (Array.getElem?_eq_some_iff.1 ho).1
      have ho' : ops[e.on]? = some ops[e.on] := Array.getElem?_eq_getElem (by omega)
      exact ih e.on _ (by omega) ho' (fun e2 he2 hb2 => hc e.on _ hon ho' e2 he2 hb2) i h1 h2

/-! ### The log -/

theorem upsH_none {k : Nat} : ∀ (ups : List (Nat × Obj)) (H : Nat → Option Obj), upsH H ups k = none → H k = none
  | [], _, h => h
  | (x, o) :: r, H, h => by
    have := upsH_none r _ h
    by_cases e : k = x
    · subst e; rw [setH_self] at this; cases this
    · rwa [setH_ne _ _ e] at this

theorem stepL_simple {i : AI} (hi : i.op.simple = true) (h : stepL G ic i s = some s') : ∃ e, stepEff G i s.den = some e ∧ s'.den = s.den.app i.d e ∧ (∀ k ∈ s'.own, k ∈ s.own ∨ afind s.heap k = none) ∧ s'.reb = s.reb ∧ (∀ k, afind s'.heap k = none → afind s.heap k = none) ∧
    (e.log = ([], []) ∨ e.log = logOf G i s) ∧ (i.op.mem = false → e.log = ([], [])) ∧ (i.op.wr = false → e.log.2 = []) := by
  have red : stepGo G ic i.d i.op s = applyO s i.d (eff G i.op s.den) := by
    have hi' := hi
    cases hop : i.op <;> first | rfl | (rw [hop] at hi'; cases hi')
  have go : ∀ {s'}, stepGo G ic i.d i.op s = some s' → ∃ e, eff G i.op s.den = some e ∧ s'.den = s.den.app i.d e ∧ (∀ k ∈ s'.own, k ∈ s.own ∨ afind s.heap k = none) ∧ s'.reb = s.reb ∧ (∀ k, afind s'.heap k = none → afind s.heap k = none) ∧
    (e.log = ([], []) ∨ e.log = logOf G i s) ∧ (i.op.mem = false → e.log = ([], [])) ∧ (i.op.wr = false → e.log.2 = []) := fun {s'} h => by
    rw [red] at h
    obtain ⟨e, h1, rfl⟩ := applyO_inv h
    have hacc := eff_acc _ _ h1
    refine ⟨e, h1, den_apply _ _ _, fun k hk => mem_newKeys e.ups s.heap s.own hk, rfl, fun k hk => ?_, .inr ?_, fun hm => ?_, fun hw => ?_⟩
    · simp only [SL.apply] at hk
      rw [den_putUps] at hk
      exact upsH_none _ _ hk
    · unfold logOf Eff.log; rw [h1]
    · have h2 := hacc.2.2.1 hm
      have h3 : e.ups.map (·.1) = [] := List.eq_nil_iff_forall_not_mem.2 fun k hk => by have := hacc.1 k hk; rw [h2] at this; simp at this
      simp only [Eff.log, h2, h3]
    · simp [Eff.log, hacc.2.2.2 hw]
  cases hg : i.g with
  | none =>
    simp only [stepL, hg] at h
    have : stepEff G i s.den = eff G i.op s.den := by simp only [stepEff, hg]
    rw [this]
    exact go h
  | some gw =>
    obtain ⟨g, want⟩ := gw
    have hse : ∀ b, s.den.slot g = .bool b → stepEff G i s.den = if b = want then eff G i.op s.den else some { val := .undef } := fun b hb => by simp only [stepEff, hg, hb]
    unfold stepL at h
    split at h
    · rename_i h0; rw [hg] at h0; cases h0
    · rename_i g' want' h0
      rw [hg] at h0
      cases h0
      split at h
      · rename_i b hb
        rw [hse b hb]
        split at h
        · rename_i hbw
          rw [if_pos hbw]
          exact go h
        · rename_i hbw
          cases h
          rw [if_neg hbw]
          refine ⟨_, rfl, ?_, fun k hk => .inl hk, rfl, fun k hk => hk, .inl rfl, fun _ => rfl, fun _ => rfl⟩
          rw [den_of, aget_putD]
          simp [St.app, upsH, SL.den]
      · cases h

theorem runL_log : ∀ (pre : List AI) (l0 : Logs) (s s' : SL), runL G ic pre s = some s' → ∃ lg, logL G ic pre l0 s = some (lg, s')
  | [], l0, s, s', h => by cases h; exact ⟨l0, rfl⟩
  | i :: r, l0, s, s', h => by
    simp only [runL_cons] at h
    cases hs : stepL G ic i s with
    | none => rw [hs] at h; cases h
    | some s1 =>
      rw [hs] at h
      obtain ⟨lg, hlg⟩ := runL_log r (l0 ++ [logOf G i s]) s1 s' h
      refine ⟨lg, ?_⟩
      rw [logL_cons, hs]
      exact hlg

theorem logL_steps : ∀ (pre : List AI) (l0 : Logs) (s : SL) (lg : Logs) (s' : SL), (∀ i ∈ pre, i.op.simple = true) → logL G ic pre l0 s = some (lg, s') →
    ∃ es : List Eff, es.length = pre.length ∧ Steps G (pre.zip es) s.den s'.den ∧ (∀ k ∈ s'.own, k ∈ s.own ∨ afind s.heap k = none) ∧ s'.reb = s.reb ∧ (∀ k, afind s'.heap k = none → afind s.heap k = none) ∧
      (∀ j, j < l0.length → lg[j]? = l0[j]?) ∧ ∀ (j : Nat) (e : Eff) (i : AI), es[j]? = some e → pre[j]? = some i → ∃ x, lg[l0.length + j]? = some x ∧ (e.log = ([], []) ∨ e.log = x) ∧ (i.op.mem = false → e.log = ([], [])) ∧ (i.op.wr = false → e.log.2 = [])
  | [], l0, s, lg, s', _, h => by
    simp only [logL_nil, Option.some.injEq, Prod.mk.injEq] at h
    obtain ⟨rfl, rfl⟩ := h
    exact ⟨[], rfl, .nil _, fun k hk => .inl hk, rfl, fun k hk => hk, fun _ _ => rfl, by simp⟩
  | i :: r, l0, s, lg, s', hs, h => by
    rw [logL_cons] at h
    cases h1 : stepL G ic i s with
    | none => rw [h1] at h; cases h
    | some s1 =>
      rw [h1] at h
      obtain ⟨e, g1, g2, g3, g4, g5, g6, g7, g8⟩ := stepL_simple (hs i List.mem_cons_self) h1
      obtain ⟨es, i1, i2, i3, i4, i5, i6, i7⟩ := logL_steps r _ s1 lg s' (fun x hx => hs x (List.mem_cons_of_mem _ hx)) h
      refine ⟨e :: es, by simp [i1], .cons g1 (by rw [← g2]; exact i2), fun k hk => ?_, i4.trans g4, fun k hk => g5 k (i5 k hk), fun j hj => ?_, fun j e' i' he' hi' => ?_⟩
      · rcases i3 k hk with h2 | h2
        · exact g3 k h2
        · exact .inr (g5 k h2)
      · rw [i6 j (by simp; omega), List.getElem?_append_left hj]
      · cases j with
        | zero =>
          simp at he' hi'
          subst he'; subst hi'
          refine ⟨logOf G i s, ?_, g6, g7, g8⟩
          rw [Nat.add_zero, i6 l0.length (by simp)]
          simp
        | succ j =>
          obtain ⟨x, q1, q2⟩ := i7 j e' i' (by simpa using he') (by simpa using hi')
          refine ⟨x, ?_, q2⟩
          rw [← q1]
          congr 1
          simp; omega

theorem runP_log {pre : List AI} {pairs : List (Nat × Nat)} (h : runP G ic pre s pairs = some s') : ∃ lg, logL G ic pre [] s = some (lg, s') ∧ pairsOk lg pairs = true := by
  cases pairs with
  | nil =>
    obtain ⟨lg, h1⟩ := runL_log pre [] s s' h
    exact ⟨lg, h1, rfl⟩
  | cons p ps =>
    simp only [runP] at h
    cases h1 : logL G ic pre [] s with
    | none => rw [h1] at h; cases h
    | some x =>
      obtain ⟨lg, s1⟩ := x
      rw [h1] at h
      simp only [pairsO] at h
      obtain ⟨h2, h3⟩ := of_ite h
      cases h3
      exact ⟨lg, rfl, h2⟩

theorem pairsOk_spec {lg : Logs} : ∀ {ps : List (Nat × Nat)}, pairsOk lg ps = true → ∀ p ∈ ps, ∃ x y, lg[p.1]? = some x ∧ lg[p.2]? = some y ∧ apartKeys x y = true
  | [], _, p, hp => by simp at hp
  | (i, j) :: r, h, p, hp => by
    simp only [pairsOk] at h
    split at h
    · rename_i x y hx hy
      simp only [Bool.and_eq_true] at h
      rcases List.mem_cons.1 hp with rfl | hp
      · exact ⟨x, y, hx, hy, h.1⟩
      · exact pairsOk_spec h.2 p hp
    · cases h

end
end Go.Ev
