/-
  Regions whose order is open.
-/
import Derived.Test.YthlpmghodgiknaaEvO
namespace Go.Ev
open Go Go.RowKit

section
variable {S S' T : St} {G : Pure}

/-- What an operation does, its guard regarded. -/
def stepEff (G : Pure) (i : AI) (S : St) : Option Eff :=
  match i.g with
  | none => eff G i.op S
  | some (g, want) =>
    match S.slot g with
    | .bool b => if b = want then eff G i.op S else some { val := .undef }
    | _ => none

inductive Steps (G : Pure) : List (AI × Eff) → St → St → Prop where
  | nil (S : St) : Steps G [] S S
  | cons {i : AI} {e : Eff} {r : List (AI × Eff)} {S T : St} (h : stepEff G i S = some e) (hr : Steps G r (S.app i.d e) T) : Steps G ((i, e) :: r) S T

def Eff.log (e : Eff) : List Nat × List Nat := (e.acc, e.ups.map (·.1))

def EffOk (e : Eff) : Prop := (∀ k ∈ e.ups.map (·.1), k ∈ e.acc) ∧ ∀ k ∈ e.frz, k ∈ e.acc

def Ind (x y : AI × Eff) : Prop := x.1.apartS y.1 = true ∧ apartKeys x.2.log y.2.log = true

theorem stepEff_ok {i : AI} {e : Eff} (h : stepEff G i S = some e) : EffOk e := by
  unfold stepEff at h
  have triv : EffOk { val := .undef } := ⟨by simp, by simp⟩
  split at h
  · exact ⟨(eff_acc _ _ h).1, (eff_acc _ _ h).2.1⟩
  · split at h
    · split at h
      · exact ⟨(eff_acc _ _ h).1, (eff_acc _ _ h).2.1⟩
      · cases h; exact triv
    · cases h

theorem mem_slotsOf {n : Nat} : ∀ {l : List AX}, n ∈ slotsOf l ↔ AX.t n ∈ l
  | [] => by simp [slotsOf]
  | .t m :: r => by simp [slotsOf, mem_slotsOf (l := r)]
  | .c v :: r => by simp [slotsOf, mem_slotsOf (l := r)]

theorem stepEff_frame {i : AI} {e : Eff} (h : stepEff G i S = some e) (hx : ∀ t ∈ i.looks, S'.slot t = S.slot t) (hh : ∀ k ∈ e.acc, S'.heap k = S.heap k) (hf : ∀ k ∈ e.ups.map (·.1), S'.frz k = S.frz k) : stepEff G i S' = some e := by
  have hax : ∀ x ∈ i.op.axs, S'.ev x = S.ev x := fun x hx' => by
    cases x with
    | t n =>
      simp only [St.ev]
      refine hx n ?_
      unfold AI.looks
      split
      · exact List.mem_cons_of_mem _ (mem_slotsOf.2 hx')
      · exact mem_slotsOf.2 hx'
    | c v => rfl
  unfold stepEff at h ⊢
  split at h
  · exact eff_frame _ _ h hax hh hf
  · rename_i g want hg
    rw [hx g (by simp [AI.looks, hg])]
    split at h
    · rename_i b hb
      split at h
      · rename_i hbw
        rw [if_pos hbw]
        exact eff_frame _ _ h hax hh hf
      · rename_i hbw
        rw [if_neg hbw]
        exact h
    · cases h

theorem upsH_other {k : Nat} : ∀ (ups : List (Nat × Obj)) (H : Nat → Option Obj), k ∉ ups.map (·.1) → upsH H ups k = H k
  | [], _, _ => rfl
  | (x, o) :: r, H, h => by
    simp only [List.map_cons, List.mem_cons, not_or] at h
    rw [upsH, upsH_other r _ h.2, setH_ne _ _ h.1]

theorem upsH_in {k : Nat} : ∀ (ups : List (Nat × Obj)) (H H' : Nat → Option Obj), k ∈ ups.map (·.1) → upsH H ups k = upsH H' ups k
  | [], _, _, h => by simp at h
  | (x, o) :: r, H, H', h => by
    rw [upsH, upsH]
    by_cases hr : k ∈ r.map (·.1)
    · exact upsH_in r _ _ hr
    · have : k = x := by simpa [hr] using h
      subst this
      rw [upsH_other r _ hr, upsH_other r _ hr, setH_self, setH_self]

theorem apartKeys_iff {x y : List Nat × List Nat} : apartKeys x y = true ↔ (∀ k ∈ x.2, k ∉ y.1) ∧ ∀ k ∈ y.2, k ∉ x.1 := by
  simp [apartKeys]

theorem apartS_spec {x y : AI} (h : x.apartS y = true) : (∀ d, x.d = some d → d ∉ y.looks ∧ y.d ≠ some d) ∧ ∀ d, y.d = some d → d ∉ x.looks := by
  unfold AI.apartS at h
  simp only [Bool.and_eq_true] at h
  obtain ⟨h1, h2⟩ := h
  refine ⟨fun d hd => ?_, fun d hd => ?_⟩
  · rw [hd] at h1; simp at h1; exact h1
  · rw [hd] at h2; simpa using h2

/-- Two operations that are apart may come in either order. -/
theorem commute {i j : AI} {ei ej : Eff} (hi : stepEff G i S = some ei) (hj : stepEff G j (S.app i.d ei) = some ej) (hind : Ind (i, ei) (j, ej)) :
    stepEff G j S = some ej ∧ stepEff G i (S.app j.d ej) = some ei ∧ (S.app i.d ei).app j.d ej = (S.app j.d ej).app i.d ei := by
  obtain ⟨hs, hk⟩ := hind
  obtain ⟨s1, s2⟩ := apartS_spec hs
  obtain ⟨k1, k2⟩ := apartKeys_iff.1 hk
  simp only [Eff.log] at k1 k2
  obtain ⟨oi1, oi2⟩ := stepEff_ok hi
  obtain ⟨oj1, oj2⟩ := stepEff_ok hj
  have r1 : stepEff G j S = some ej := by
    refine stepEff_frame hj (fun t ht => ?_) (fun k hk => ?_) fun k hk => ?_
    · simp only [St.app]
      rw [if_neg fun e => (s1 t e).1 ht]
    · simp only [St.app]
      exact (upsH_other _ _ fun hm => k1 k hm hk).symm
    · simp only [St.app]
      cases hc : ei.frz.contains k with
      | false => simp
      | true => exact absurd (oi2 k (by simpa using hc)) (k2 k hk)
  have r2 : stepEff G i (S.app j.d ej) = some ei := by
    refine stepEff_frame hi (fun t ht => ?_) (fun k hk => ?_) fun k hk => ?_
    · simp only [St.app]
      rw [if_neg fun e => s2 t e ht]
    · simp only [St.app]
      exact upsH_other _ _ fun hm => k2 k hm hk
    · simp only [St.app]
      cases hc : ej.frz.contains k with
      | false => simp
      | true => exact absurd (oj2 k (by simpa using hc)) (k1 k hk)
  refine ⟨r1, r2, ?_⟩
  simp only [St.app]
  congr 1
  · funext t
    by_cases e1 : i.d = some t
    · have := (s1 t e1).2
      simp only at this
      simp [e1, this]
    · simp [e1]
  · funext k
    by_cases m1 : k ∈ ei.ups.map (·.1)
    · rw [upsH_other ej.ups _ fun m2 => k1 k m1 (oj1 k m2)]
      exact upsH_in _ _ _ m1
    · rw [upsH_other ei.ups (upsH S.heap ej.ups) m1]
      by_cases m2 : k ∈ ej.ups.map (·.1)
      · exact upsH_in _ _ _ m2
      · rw [upsH_other _ _ m2, upsH_other _ _ m2, upsH_other _ _ m1]
  · funext k
    simp only [Bool.or_left_comm]

/-- An operation comes to the front of those that it is apart from. -/
theorem bubble {i : AI} {e : Eff} : ∀ (xs ys : List (AI × Eff)) (S T : St), Steps G (xs ++ (i, e) :: ys) S T → (∀ x ∈ xs, Ind x (i, e)) → stepEff G i S = some e ∧ Steps G (xs ++ ys) (S.app i.d e) T
  | [], ys, S, T, h, _ => by
    cases h with
    | cons h hr => exact ⟨h, hr⟩
  | (j, ej) :: xs, ys, S, T, h, hind => by
    cases h with
    | cons h hr =>
      obtain ⟨h1, h2⟩ := bubble xs ys _ _ hr fun x hx => hind x (List.mem_cons_of_mem _ hx)
      obtain ⟨c1, c2, c3⟩ := commute h h1 (hind _ List.mem_cons_self)
      refine ⟨c1, .cons c2 ?_⟩
      rw [← c3]
      exact h2

end

section
variable {N B : Nat} {ok0 : Nat → Prop} {w0 : World} {E : Entry} {C : Conc} {s s' : SL} {S : St} {a : Act} {w : World} {P : Program} {ks : Kinds} {fid : Nat} {G : Pure} {ic : Inl} {ops : Array Oper}

/-- The evaluator's text of operation 'i'. -/
def OpIs (P : Program) (ks : Kinds) (fid N : Nat) (ops : Array Oper) (i : Nat) (ai : AI) : Prop :=
  ∃ o, ops[i]? = some o ∧ ai.d = o.dst ∧ cOp P ks fid o = some ai.op ∧ cGuard ops o.guard = some ai.g ∧ ∀ x, o.dst = some x → x < N

theorem cOps_spec : ∀ (os : List Oper) (l : List AI), cOps P ks fid N ops os = some l → l.length = os.length ∧ ∀ (j : Nat) (o : Oper) (ai : AI), os[j]? = some o → l[j]? = some ai →
    ai.d = o.dst ∧ cOp P ks fid o = some ai.op ∧ cGuard ops o.guard = some ai.g ∧ ∀ x, o.dst = some x → x < N
  | [], l, h => by cases h; simp
  | o :: os, l, h => by
    simp only [cOps] at h
    split at h
    · rename_i a g l' ha hg hl
      obtain ⟨hd, h1⟩ := of_ite h
      clear h
      cases h1
      obtain ⟨i1, i2⟩ := cOps_spec os l' hl
      refine ⟨by simp [i1], fun j x ai hx hai => ?_⟩
      cases j with
      | zero =>
        simp at hx hai
        subst hx; subst hai
        exact ⟨rfl, ha, hg, fun y hy => by rw [hy] at hd; simpa using hd⟩
      | succ j => exact i2 j x ai (by simpa using hx) (by simpa using hai)
    · cases h

theorem opIs_of {l : List AI} (h : cOps P ks fid N ops ops.toList = some l) {i : Nat} {ai : AI} (hi : l[i]? = some ai) : OpIs P ks fid N ops i ai := by
  obtain ⟨h1, h2⟩ := cOps_spec _ _ h
  have hlt : i < ops.size := by have := (List.getElem?_eq_some_iff.1 hi).1; simpa [h1] using this
  exact ⟨ops[i], Array.getElem?_eq_getElem hlt, h2 i ops[i] ai (by simp) hi⟩

variable (hG : GoodG P ks G) (hI : InlSound P ic)
include hG

/-- A simple operation of a region, over look-ups. -/
theorem stepEff_sound {i : Nat} {ai : AI} {e : Eff} {Q : Exit → Act → World → Prop} {K : Act → World → Prop} (hop : OpIs P ks fid N ops i ai) (he : stepEff G ai S = some e) (hs : Sim N B ok0 w0 E C S a w)
    (hK : ∀ a' w', SimX N B ok0 w0 E (S.app ai.d e) a' w' → K a' w') : wpOp P ops Q i K a w := by
  obtain ⟨o, hi, hd, hc, hg, hN⟩ := hop
  have go : eff G ai.op S = some e → o.wp P a w K Q := fun he => by
    rw [hd] at hK
    by_cases hcall : ∃ c, o.op = .call c
    · obtain ⟨c, hop⟩ := hcall
      obtain ⟨dst, op, ty, pos, after, guard⟩ := o
      simp only at hop
      subst hop
      exact simple_call c hc he hs hN hG K Q hK
    · exact eff_sound o ai.op e hc he hs hN (fun c hop => hcall ⟨c, hop⟩) K Q hK
  unfold wpOp
  simp only [hi]
  unfold stepEff at he
  cases hgd : o.guard with
  | none =>
    rw [hgd] at hg
    cases hg' : ai.g with
    | some x => rw [hg'] at hg; cases hg
    | none =>
      rw [hg'] at he
      simp only [Region.wanted, hgd, if_true]
      exact .inl (go he)
  | some jw =>
    obtain ⟨j, want⟩ := jw
    rw [hgd] at hg
    simp only [cGuard] at hg
    split at hg
    case h_2 => cases hg
    rename_i d hd'
    simp only [Option.some.injEq] at hg
    rw [← hg] at he
    simp only at he
    split at he
    case h_2 => cases he
    rename_i b hb
    have hv : a.tmps[d]? = some (.bool b) := by
      have h1 := (hs.slot d)
      rw [hb] at h1
      have h2 := h1.bool_inv
      rw [Array.getD_eq_getD_getElem?] at h2
      cases h3 : a.tmps[d]? with
      | none => rw [h3] at h2; cases h2
      | some x => rw [h3] at h2; simp at h2; rw [h2]
    have hy : yielded ops a.tmps j = some b := by simp [yielded, hd', hv]
    simp only [Region.wanted, hgd, hy]
    by_cases hbw : b = want
    · subst hbw
      rw [if_pos rfl] at he
      rw [if_pos (by simp)]
      exact .inl (go he)
    · rw [if_neg hbw] at he
      cases he
      rw [if_neg (by simp [hbw])]
      refine hK _ _ ⟨C, ?_⟩
      have := hs.put (u := .undef) (v := undef) hs.h (fun _ _ => rfl) (fun _ h => h) (fun _ _ => rfl) (fun _ h => h) (.data (.undef _)) (by simp [AV.keys]) hN
      rw [← hd] at this
      simpa [St.app, upsH, hd] using this

end
end Go.Ev
