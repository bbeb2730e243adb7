/- A part of the verified evaluator and of what the functions compute (joined by program). -/
import Derived.Test.YthlpmghodgiknaaPn1
set_option linter.unusedVariables false
set_option linter.unusedSimpArgs false
/-
  Regions: in whatever order their operations come.
-/
namespace Go.Ev
open Go Go.RowKit

/-! ### What an operation hangs on -/

theorem mapO_frame {α β : Type} {f f' : α → Option (β × List Nat)} {p : Nat → Prop} (hf : ∀ x y ks, f x = some (y, ks) → (∀ k ∈ ks, p k) → f' x = some (y, ks)) :
    ∀ (l : List α) (l' : List β) (ks : List Nat), mapO f l = some (l', ks) → (∀ k ∈ ks, p k) → mapO f' l = some (l', ks)
  | [], l', ks, h, _ => h
  | x :: r, l', ks, h, hk => by
    simp only [mapO] at h ⊢
    split at h
    · rename_i b ks1 hb
      split at h
      · rename_i bs ks2 hbs
        cases h
        rw [hf _ _ _ hb fun k h => hk k (List.mem_append.2 (.inl h))]
        simp only
        rw [mapO_frame hf _ _ _ hbs fun k h => hk k (List.mem_append.2 (.inr h))]
      · cases h
    · cases h

theorem fz_frame {H H' : Nat → Option Obj} : ∀ (d : Nat) (u u' : AV) (ks : List Nat), fz H d u = some (u', ks) → (∀ k ∈ ks, H' k = H k) → fz H' d u = some (u', ks) := by
  intro d
  induction d with
  | zero => intro u u' ks h; cases u <;> simp [fz] at h
  | succ d ih =>
    intro u u' ks h hk
    cases u with
    | sl o i n =>
      simp only [fz] at h ⊢
      split at h
      · rename_i ob hob
        rw [Option.ite_none_right_eq_some] at h
        obtain ⟨hin, h⟩ := h
        split at h
        · rename_i hr
          cases h
          rw [hk o (by simp), hob]
          simp [hin, hr]
        · rename_i hr
          split at h
          · rename_i es ks' hes
            cases h
            rw [hk o (by simp), hob]
            simp only
            rw [if_pos hin, if_neg hr, mapO_frame (p := fun k => H' k = H k) (fun x y ks hx hks => mapO_frame (p := fun k => H' k = H k) (fun x y ks hx hks => ih x y ks hx hks) _ _ _ hx hks) _ _ _ hes fun k hk' => hk k (by simp [hk'])]
          · cases h
      · cases h
    | ptr o i off =>
      simp only [fz] at h ⊢
      split at h
      · rename_i ob hob
        split at h
        · rename_i cs hcs
          split at h
          · rename_i hr
            cases h
            rw [hk o (by simp), hob]
            simp [hcs, hr]
          · rename_i hr
            split at h
            · rename_i es ks' hes
              cases h
              rw [hk o (by simp), hob]
              simp only [hcs]
              rw [if_neg hr, mapO_frame (p := fun k => H' k = H k) (fun x y ks hx hks => ih x y ks hx hks) _ _ _ hes fun k hk' => hk k (by simp [hk'])]
            · cases h
        · cases h
      · cases h
    | agg cs =>
      simp only [fz] at h ⊢
      split at h
      · rename_i es ks' hes
        cases h
        rw [mapO_frame (p := fun k => H' k = H k) (fun x y ks hx hks => ih x y ks hx hks) _ _ _ hes hk]
      · cases h
    | tup cs => simp [fz] at h
    | fn f cs => simp [fz] at h
    | _ => simpa only [fz] using h

theorem fzL_frame {H H' : Nat → Option Obj} {us us' : List AV} {ks : List Nat} (h : fzL H us = some (us', ks)) (hk : ∀ k ∈ ks, H' k = H k) : fzL H' us = some (us', ks) :=
  mapO_frame (p := fun k => H' k = H k) (fun x y ks hx hks => fz_frame 8 x y ks hx hks) _ _ _ h hk

theorem fzLL_frame {H H' : Nat → Option Obj} {us us' : List (List AV)} {ks : List Nat} (h : fzLL H us = some (us', ks)) (hk : ∀ k ∈ ks, H' k = H k) : fzLL H' us = some (us', ks) :=
  mapO_frame (p := fun k => H' k = H k) (fun x y ks hx hks => mapO_frame (p := fun k => H' k = H k) (fun x y ks hx hks => fz_frame 8 x y ks hx hks) _ _ _ hx hks) _ _ _ h hk

theorem freeKeys_frame {H H' : Nat → Option Obj} : ∀ (l : List (Nat × Obj)), (∀ k ∈ l.map (·.1), H' k = H k) → freeKeys H' l = freeKeys H l
  | [], _ => rfl
  | (k, o) :: r, h => by simp only [freeKeys]; rw [h k (by simp), freeKeys_frame r fun x hx => h x (by simp at hx ⊢; exact .inr hx)]

section
variable {S S' : St} {G : Pure}

theorem at_frame {v : AV} {cs : List AV} (h : S.at v = some cs) (hk : ∀ k ∈ v.keys, S'.heap k = S.heap k) : S'.at v = some cs := by
  unfold St.at at h ⊢
  cases v with
  | ref cs' => exact h
  | ptr o i off => simp only at h ⊢; rw [hk o (by simp [AV.keys])]; exact h
  | _ => cases h

/-- The effect of an operation hangs on its operands, and on the rows that it names. -/
theorem eff_frame (op : AOp) (e : Eff) (h : eff G op S = some e) (hx : ∀ x ∈ op.axs, S'.ev x = S.ev x) (hh : ∀ k ∈ e.acc, S'.heap k = S.heap k) (hf : ∀ k ∈ e.ups.map (·.1), S'.frz k = S.frz k) : eff G op S' = some e := by
  cases op with
  | mv x => simp only [eff] at h ⊢; rw [hx x (by simp [AOp.axs])]; exact h
  | pick c a b =>
    simp only [eff] at h ⊢
    rw [hx c (by simp [AOp.axs]), hx a (by simp [AOp.axs]), hx b (by simp [AOp.axs])]; exact h
  | box k ty n x =>
    simp only [eff] at h ⊢
    rw [hx x (by simp [AOp.axs])]
    split at h
    · rename_i hk
      obtain ⟨hc, he⟩ := of_ite h
      cases he
      rw [hh k (by simp), hk]
      simp only
      rw [if_pos hc]
    · cases h
  | alloc k ty z =>
    simp only [eff] at h ⊢
    split at h
    · rename_i hk
      cases h
      rw [hh k (by simp), hk]
    · cases h
  | build z parts =>
    simp only [eff] at h ⊢
    have : (parts.map fun p => (p.1, p.2.1, S'.ev p.2.2)) = parts.map fun p => (p.1, p.2.1, S.ev p.2.2) := List.map_congr_left fun p hp => by rw [hx p.2.2 (by simp only [AOp.axs]; exact List.mem_map.2 ⟨p, hp, rfl⟩)]
    rw [this]; exact h
  | bslice ty sz len z parts =>
    simp only [eff] at h ⊢
    have h1 : (parts.map fun p => (S'.ev p.2).cells) = parts.map fun p => (S.ev p.2).cells := List.map_congr_left fun p hp => by rw [hx p.2 (by simp only [AOp.axs]; exact List.mem_map.2 ⟨p, hp, rfl⟩)]
    have h2 : (parts.map fun p => (p.1, (S'.ev p.2).cells)) = parts.map fun p => (p.1, (S.ev p.2).cells) := List.map_congr_left fun p hp => by rw [hx p.2 (by simp only [AOp.axs]; exact List.mem_map.2 ⟨p, hp, rfl⟩)]
    rw [h1, h2]
    obtain ⟨hc, he⟩ := of_ite h
    rw [if_pos hc]
    split at he
    · rename_i es ks hz
      cases he
      rw [fzLL_frame hz hh]
    · cases he
  | load n x =>
    cases n with
    | none =>
      simp only [eff] at h ⊢
      rw [hx x (by simp [AOp.axs])]
      split at h
      · rename_i c r hat
        cases h
        rw [at_frame hat hh]
      · cases h
    | some n =>
      simp only [eff] at h ⊢
      rw [hx x (by simp [AOp.axs])]
      split at h
      · rename_i cs hat
        obtain ⟨hc, he⟩ := of_ite h
        cases he
        rw [at_frame hat hh]
        simp only
        rw [if_pos hc]
      · cases h
  | store n x v =>
    simp only [eff] at h ⊢
    rw [hx x (by simp [AOp.axs]), hx v (by simp [AOp.axs])]
    split at h
    · rename_i o i off hxe
      split at h
      · rename_i ob hob
        split at h
        · rename_i cs hcs
          obtain ⟨hc, he⟩ := of_ite h
          cases he
          rw [hh o (by simp), hob]
          simp only [hcs]
          rw [hf o (by simp), if_pos hc]
        · cases h
      · cases h
    · cases h
  | nilchk x => simp only [eff] at h ⊢; rw [hx x (by simp [AOp.axs])]; exact h
  | bin op x y => simp only [eff] at h ⊢; rw [hx x (by simp [AOp.axs]), hx y (by simp [AOp.axs])]; exact h
  | binb op x y => simp only [eff] at h ⊢; rw [hx x (by simp [AOp.axs]), hx y (by simp [AOp.axs])]; exact h
  | un op x => simp only [eff] at h ⊢; rw [hx x (by simp [AOp.axs])]; exact h
  | conv k x => simp only [eff] at h ⊢; rw [hx x (by simp [AOp.axs])]; exact h
  | make k ty sz bytes z l c =>
    simp only [eff] at h ⊢
    rw [hx l (by simp [AOp.axs]), hx c (by simp [AOp.axs])]
    split at h
    · rename_i hk
      split at h
      · rename_i hl hc
        obtain ⟨hc', he⟩ := of_ite h
        cases he
        rw [hh k (by simp), hk]
        simp only [hl, hc]
        rw [if_pos hc']
      · cases h
    · cases h
  | slice sz x lo hi mx =>
    simp only [eff] at h ⊢
    have e1 : lo.map S'.ev = lo.map S.ev := by cases lo with
      | none => rfl
      | some y => simp only [Option.map_some]; rw [hx y (by simp [AOp.axs])]
    have e2 : hi.map S'.ev = hi.map S.ev := by cases hi with
      | none => rfl
      | some y => simp only [Option.map_some]; rw [hx y (by simp [AOp.axs])]
    have e3 : mx.map S'.ev = mx.map S.ev := by cases mx with
      | none => rfl
      | some y => simp only [Option.map_some]; rw [hx y (by simp [AOp.axs])]
    rw [hx x (by simp [AOp.axs]), e1, e2, e3]
    split at h
    · exact h
    · rename_i o i n kl l hxe hlo
      split at h
      · rename_i ob kh hh' km m hob hhi hmx
        obtain ⟨hc, he⟩ := of_ite h
        cases he
        rw [hh o (by simp), hob, hhi, hmx]
        simp only
        rw [if_pos hc]
      · cases h
    · cases h
  | faddr off x => simp only [eff] at h ⊢; rw [hx x (by simp [AOp.axs])]; exact h
  | field off n x =>
    cases n with
    | none => simp only [eff] at h ⊢; rw [hx x (by simp [AOp.axs])]; exact h
    | some n => simp only [eff] at h ⊢; rw [hx x (by simp [AOp.axs])]; exact h
  | iaddr sz x i =>
    simp only [eff] at h ⊢
    rw [hx x (by simp [AOp.axs]), hx i (by simp [AOp.axs])]
    split at h
    · exact h
    · rename_i o i0 len k n hxe hie
      split at h
      · rename_i ob hob
        obtain ⟨hc, he⟩ := of_ite h
        cases he
        rw [hh o (by simp), hob]
        simp only
        rw [if_pos hc]
      · cases h
    · cases h
  | len x => simp only [eff] at h ⊢; rw [hx x (by simp [AOp.axs])]; exact h
  | lens x => simp only [eff] at h ⊢; rw [hx x (by simp [AOp.axs])]; exact h
  | max x y => simp only [eff] at h ⊢; rw [hx x (by simp [AOp.axs]), hx y (by simp [AOp.axs])]; exact h
  | extract x i => simp only [eff] at h ⊢; rw [hx x (by simp [AOp.axs])]; exact h
  | mkfn f caps =>
    simp only [eff] at h ⊢
    have : caps.map S'.ev = caps.map S.ev := List.map_congr_left fun x hx' => hx x (by simpa [AOp.axs] using hx')
    rw [this]; exact h
  | call k f args fresh =>
    simp only [eff] at h ⊢
    have : args.map S'.ev = args.map S.ev := List.map_congr_left fun x hx' => hx x (by simpa [AOp.axs] using hx')
    rw [this]
    split at h
    · rename_i as ks hz
      split at h
      · rename_i r hr
        split at h
        · rename_i hfr
          obtain ⟨hc, he⟩ := of_ite h
          cases he
          rw [fzL_frame hz fun k hk => hh k (by simp [hk])]
          simp only [hr]
          rw [if_pos hfr, freeKeys_frame (H := S.heap) _ fun x hx => hh x (List.mem_append.2 (.inr hx)), if_pos hc]
        · rename_i hfr
          obtain ⟨hc, he⟩ := of_ite h
          cases he
          rw [fzL_frame hz fun k hk => hh k hk]
          simp only [hr]
          rw [if_neg hfr, if_pos hc]
      · cases h
    · cases h
  | appn k ty sz bytes x =>
    simp only [eff] at h ⊢
    rw [hx x (by simp [AOp.axs])]
    split at h
    case h_2 => cases h
    rename_i hk
    split at h
    case h_2 => cases h
    rename_i news hnews
    obtain ⟨hc, he⟩ := of_ite h
    cases he
    have hap : appended S'.heap sz (S.ev x) = some news := by
      rw [← hnews]
      unfold appended
      split
      · rfl
      · rename_i o i n hxe
        rw [hh o (List.mem_cons_of_mem _ (by rw [hxe]; simp [AV.keys]))]
      · rfl
    rw [hh k (by simp), hk, hap]
    simp only
    rw [hf k (by simp), if_pos hc]
  | ucall f j ty args =>
    simp only [eff] at h ⊢
    have hm : args.map S'.ev = args.map S.ev := List.map_congr_left fun x hx' => hx x (by simpa [AOp.axs] using hx')
    rw [hm]
    split at h
    case h_2 => cases h
    rename_i o n hp
    split at h
    case h_2 => cases h
    rename_i ob hob
    obtain ⟨hc, he⟩ := of_ite h
    clear h
    split at he
    case h_2 => cases he
    rename_i as fks hfz
    split at he
    case h_2 => cases he
    rename_i r hr
    split at he
    case h_2 => cases he
    rename_i ob' hobj
    obtain ⟨hc2, he2⟩ := of_ite he
    cases he2
    rw [hh o (by simp), hob]
    simp only
    rw [hf o (by simp), if_pos hc, fzL_frame hfz fun k hk => hh k (by simp [hk])]
    simp only [hr, hobj]
    rw [if_pos hc2]
  | app _ _ _ _ _ _ => simp [eff] at h
  | icall _ _ => simp [eff] at h
  | ccall _ _ => simp [eff] at h

/-- 'acc' holds what is written and what is frozen. -/
theorem eff_acc (op : AOp) (e : Eff) (h : eff G op S = some e) : (∀ k ∈ e.ups.map (·.1), k ∈ e.acc) ∧ (∀ k ∈ e.frz, k ∈ e.acc) ∧ (op.mem = false → e.acc = []) ∧ (op.wr = false → e.ups = []) := by
  cases op with
  | load n x => cases n <;> (simp only [eff] at h; repeat' split at h) <;> first | (cases h; done) | (cases h; simp [AOp.mem, AOp.wr])
  | field off n x => cases n <;> (simp only [eff] at h; repeat' split at h) <;> first | (cases h; done) | (cases h; simp [AOp.mem, AOp.wr])
  | call k f args fresh =>
    simp only [eff] at h
    repeat' split at h
    all_goals first
      | (cases h; done)
      | (cases h; subst_vars; simp [AOp.mem, AOp.wr]; done)
      | (cases h; simp_all [AOp.mem, AOp.wr])
  | _ =>
    simp only [eff] at h
    repeat' split at h
    all_goals first
      | (cases h; done)
      | (cases h; simp [AOp.mem, AOp.wr]; done)
      | (cases h; simp [AOp.mem, AOp.wr]; exact fun k hk => .inr hk)

end
end Go.Ev

/-
  Regions whose order is open.
-/
namespace Go.Ev
open Go Go.RowKit

section
variable {S S' T : St} {G : Pure}

/-- What an operation does, its guard regarded. -/
def stepEff (G : Pure) (i : AI) (S : St) : Option Eff :=
  match i.g with
  | none => eff G i.op S
  | some (g, want) =>
    match S.slot g with
    | .bool b => if b = want then eff G i.op S else some { val := .tup [] }
    | .tup [] => some { val := .tup [] }
    | _ => none

inductive Steps (G : Pure) : List (AI × Eff) → St → St → Prop where
  | nil (S : St) : Steps G [] S S
  | cons {i : AI} {e : Eff} {r : List (AI × Eff)} {S T : St} (h : stepEff G i S = some e) (hr : Steps G r (S.app i.d e) T) : Steps G ((i, e) :: r) S T

def Eff.log (e : Eff) : List Nat × List Nat := (e.acc, e.ups.map (·.1))

def EffOk (e : Eff) : Prop := (∀ k ∈ e.ups.map (·.1), k ∈ e.acc) ∧ ∀ k ∈ e.frz, k ∈ e.acc

def Ind (x y : AI × Eff) : Prop := x.1.apartS y.1 = true ∧ apartKeys x.2.log y.2.log = true

theorem stepEff_ok {i : AI} {e : Eff} (h : stepEff G i S = some e) : EffOk e := by
  unfold stepEff at h
  have triv : EffOk { val := .tup [] } := ⟨by simp, by simp⟩
  split at h
  · exact ⟨(eff_acc _ _ h).1, (eff_acc _ _ h).2.1⟩
  · split at h
    · split at h
      · exact ⟨(eff_acc _ _ h).1, (eff_acc _ _ h).2.1⟩
      · cases h; exact triv
    · cases h; exact triv
    · cases h

theorem mem_slotsOf {n : Nat} : ∀ {l : List AX}, n ∈ slotsOf l ↔ AX.t n ∈ l
  | [] => by simp [slotsOf]
  | .t m :: r => by simp [slotsOf, mem_slotsOf (l := r)]
  | .c v :: r => by simp [slotsOf, mem_slotsOf (l := r)]

theorem stepEff_frame {i : AI} {e : Eff} (h : stepEff G i S = some e) (hx : ∀ t ∈ i.looks, S'.slot t = S.slot t) (hh : ∀ k ∈ e.acc, S'.heap k = S.heap k) (hf : ∀ k ∈ e.ups.map (·.1), S'.frz k = S.frz k) : stepEff G i S' = some e := by
  have hax : ∀ x ∈ i.op.axs, S'.ev x = S.ev x := fun x hx' => by
    cases x with
    | t n =>
      simp only [St.ev]
      refine hx n ?_
      unfold AI.looks
      split
      · exact List.mem_cons_of_mem _ (mem_slotsOf.2 hx')
      · exact mem_slotsOf.2 hx'
    | c v => rfl
  unfold stepEff at h ⊢
  split at h
  · exact eff_frame _ _ h hax hh hf
  · rename_i g want hg
    rw [hx g (by simp [AI.looks, hg])]
    split at h
    · rename_i b hb
      split at h
      · rename_i hbw
        rw [if_pos hbw]
        exact eff_frame _ _ h hax hh hf
      · rename_i hbw
        rw [if_neg hbw]
        exact h
    · exact h
    · cases h

theorem upsH_other {k : Nat} : ∀ (ups : List (Nat × Obj)) (H : Nat → Option Obj), k ∉ ups.map (·.1) → upsH H ups k = H k
  | [], _, _ => rfl
  | (x, o) :: r, H, h => by
    simp only [List.map_cons, List.mem_cons, not_or] at h
    rw [upsH, upsH_other r _ h.2, setH_ne _ _ h.1]

theorem upsH_in {k : Nat} : ∀ (ups : List (Nat × Obj)) (H H' : Nat → Option Obj), k ∈ ups.map (·.1) → upsH H ups k = upsH H' ups k
  | [], _, _, h => by simp at h
  | (x, o) :: r, H, H', h => by
    rw [upsH, upsH]
    by_cases hr : k ∈ r.map (·.1)
    · exact upsH_in r _ _ hr
    · have : k = x := by simpa [hr] using h
      subst this
      rw [upsH_other r _ hr, upsH_other r _ hr, setH_self, setH_self]

theorem apartKeys_iff {x y : List Nat × List Nat} : apartKeys x y = true ↔ (∀ k ∈ x.2, k ∉ y.1) ∧ ∀ k ∈ y.2, k ∉ x.1 := by
  simp [apartKeys]

theorem apartS_spec {x y : AI} (h : x.apartS y = true) : (∀ d, x.d = some d → d ∉ y.looks ∧ y.d ≠ some d) ∧ ∀ d, y.d = some d → d ∉ x.looks := by
  unfold AI.apartS at h
  simp only [Bool.and_eq_true] at h
  obtain ⟨h1, h2⟩ := h
  refine ⟨fun d hd => ?_, fun d hd => ?_⟩
  · rw [hd] at h1; simp at h1; exact h1
  · rw [hd] at h2; simpa using h2

/-- Two operations that are apart may come in either order. -/
theorem commute {i j : AI} {ei ej : Eff} (hi : stepEff G i S = some ei) (hj : stepEff G j (S.app i.d ei) = some ej) (hind : Ind (i, ei) (j, ej)) :
    stepEff G j S = some ej ∧ stepEff G i (S.app j.d ej) = some ei ∧ (S.app i.d ei).app j.d ej = (S.app j.d ej).app i.d ei := by
  obtain ⟨hs, hk⟩ := hind
  obtain ⟨s1, s2⟩ := apartS_spec hs
  obtain ⟨k1, k2⟩ := apartKeys_iff.1 hk
  simp only [Eff.log] at k1 k2
  obtain ⟨oi1, oi2⟩ := stepEff_ok hi
  obtain ⟨oj1, oj2⟩ := stepEff_ok hj
  have r1 : stepEff G j S = some ej := by
    refine stepEff_frame hj (fun t ht => ?_) (fun k hk => ?_) fun k hk => ?_
    · simp only [St.app]
      rw [if_neg fun e => (s1 t e).1 ht]
    · simp only [St.app]
      exact (upsH_other _ _ fun hm => k1 k hm hk).symm
    · simp only [St.app]
      cases hc : ei.frz.contains k with
      | false => simp
      | true => exact absurd (oi2 k (by simpa using hc)) (k2 k hk)
  have r2 : stepEff G i (S.app j.d ej) = some ei := by
    refine stepEff_frame hi (fun t ht => ?_) (fun k hk => ?_) fun k hk => ?_
    · simp only [St.app]
      rw [if_neg fun e => s2 t e ht]
    · simp only [St.app]
      exact upsH_other _ _ fun hm => k2 k hm hk
    · simp only [St.app]
      cases hc : ej.frz.contains k with
      | false => simp
      | true => exact absurd (oj2 k (by simpa using hc)) (k1 k hk)
  refine ⟨r1, r2, ?_⟩
  simp only [St.app]
  congr 1
  · funext t
    by_cases e1 : i.d = some t
    · have := (s1 t e1).2
      simp only at this
      simp [e1, this]
    · simp [e1]
  · funext k
    by_cases m1 : k ∈ ei.ups.map (·.1)
    · rw [upsH_other ej.ups _ fun m2 => k1 k m1 (oj1 k m2)]
      exact upsH_in _ _ _ m1
    · rw [upsH_other ei.ups (upsH S.heap ej.ups) m1]
      by_cases m2 : k ∈ ej.ups.map (·.1)
      · exact upsH_in _ _ _ m2
      · rw [upsH_other _ _ m2, upsH_other _ _ m2, upsH_other _ _ m1]
  · funext k
    simp only [Bool.or_left_comm]

/-- An operation comes to the front of those that it is apart from. -/
theorem bubble {i : AI} {e : Eff} : ∀ (xs ys : List (AI × Eff)) (S T : St), Steps G (xs ++ (i, e) :: ys) S T → (∀ x ∈ xs, Ind x (i, e)) → stepEff G i S = some e ∧ Steps G (xs ++ ys) (S.app i.d e) T
  | [], ys, S, T, h, _ => by
    cases h with
    | cons h hr => exact ⟨h, hr⟩
  | (j, ej) :: xs, ys, S, T, h, hind => by
    cases h with
    | cons h hr =>
      obtain ⟨h1, h2⟩ := bubble xs ys _ _ hr fun x hx => hind x (List.mem_cons_of_mem _ hx)
      obtain ⟨c1, c2, c3⟩ := commute h h1 (hind _ List.mem_cons_self)
      refine ⟨c1, .cons c2 ?_⟩
      rw [← c3]
      exact h2

end

section
variable {N B : Nat} {ok0 : Nat → Prop} {w0 : World} {E : Entry} {C : Conc} {s s' : SL} {S : St} {a : Act} {w : World} {P : Program} {ks : Kinds} {fid : Nat} {G : Pure} {ic : Inl} {ops : Array Oper}

/-- The evaluator's text of operation 'i'. -/
def OpIs (P : Program) (ks : Kinds) (fid N : Nat) (ops : Array Oper) (i : Nat) (ai : AI) : Prop :=
  ∃ o, ops[i]? = some o ∧ ai.d = o.dst ∧ cOp P ks fid o = some ai.op ∧ cGuard ops o.guard = some ai.g ∧ ∀ x, o.dst = some x → x < N

theorem cOps_spec : ∀ (os : List Oper) (l : List AI), cOps P ks fid N ops os = some l → l.length = os.length ∧ ∀ (j : Nat) (o : Oper) (ai : AI), os[j]? = some o → l[j]? = some ai →
    ai.d = o.dst ∧ cOp P ks fid o = some ai.op ∧ cGuard ops o.guard = some ai.g ∧ ∀ x, o.dst = some x → x < N
  | [], l, h => by cases h; simp
  | o :: os, l, h => by
    simp only [cOps] at h
    split at h
    · rename_i a g l' ha hg hl
      obtain ⟨hd, h1⟩ := of_ite h
      clear h
      cases h1
      obtain ⟨i1, i2⟩ := cOps_spec os l' hl
      refine ⟨by simp [i1], fun j x ai hx hai => ?_⟩
      cases j with
      | zero =>
        simp at hx hai
        subst hx; subst hai
        exact ⟨rfl, ha, hg, fun y hy => by rw [hy] at hd; simpa using hd⟩
      | succ j => exact i2 j x ai (by simpa using hx) (by simpa using hai)
    · cases h

theorem opIs_of {l : List AI} (h : cOps P ks fid N ops ops.toList = some l) {i : Nat} {ai : AI} (hi : l[i]? = some ai) : OpIs P ks fid N ops i ai := by
  obtain ⟨h1, h2⟩ := cOps_spec _ _ h
  have hlt : i < ops.size := by have := (List.getElem?_eq_some_iff.1 hi).1; simpa [h1] using this
  exact ⟨ops[i], Array.getElem?_eq_getElem hlt, h2 i ops[i] ai (by simp) hi⟩

variable (hG : GoodG P ks G) (hI : InlSound P ic)
include hG

/-- A simple operation of a region, over look-ups. -/
theorem stepEff_sound {i : Nat} {ai : AI} {e : Eff} {Q : Exit → Act → World → Prop} {K : Act → World → Prop} (hop : OpIs P ks fid N ops i ai) (he : stepEff G ai S = some e) (hs : Sim N B ok0 w0 E C S a w)
    (hK : ∀ a' w', SimX N B ok0 w0 E (S.app ai.d e) a' w' → K a' w') : wpOp P ops Q i K a w := by
  obtain ⟨o, hi, hd, hc, hg, hN⟩ := hop
  have go : eff G ai.op S = some e → o.wp P a w K Q := fun he => by
    rw [hd] at hK
    by_cases hcall : ∃ c, o.op = .call c
    · obtain ⟨c, hop⟩ := hcall
      obtain ⟨dst, op, ty, pos, after, guard⟩ := o
      simp only at hop
      subst hop
      exact simple_call c hc he hs hN hG K Q hK
    · exact eff_sound o ai.op e hc he hs hN (fun c hop => hcall ⟨c, hop⟩) K Q hK
  unfold wpOp
  simp only [hi]
  unfold stepEff at he
  cases hgd : o.guard with
  | none =>
    rw [hgd] at hg
    cases hg' : ai.g with
    | some x => rw [hg'] at hg; cases hg
    | none =>
      rw [hg'] at he
      simp only [Region.wanted, hgd, if_true]
      exact .inl (go he)
  | some jw =>
    obtain ⟨j, want⟩ := jw
    rw [hgd] at hg
    simp only [cGuard] at hg
    split at hg
    case h_2 => cases hg
    rename_i d hd'
    simp only [Option.some.injEq] at hg
    rw [← hg] at he
    simp only at he
    have out : ∀ {e : Eff}, some ({ val := .tup [] } : Eff) = some e → e = { val := .tup [] } := fun h => by cases h; rfl
    have put : e = { val := .tup [] } → K (a.put o.dst undef) w := fun he => by
      subst he
      refine hK _ _ ⟨C, ?_⟩
      have := hs.put (u := .tup []) (v := undef) hs.h (fun _ _ => rfl) (fun _ h => h) (fun _ _ => rfl) (fun _ h => h) (.tup (vs := #[]) rfl (by simp)) (by simp [AV.keys, AV.keysL]) hN
      rw [← hd] at this
      simpa [St.app, upsH, hd] using this
    split at he
    case h_3 => cases he
    · rename_i b hb
      have hv : a.tmps[d]? = some (.bool b) := by
        have h1 := (hs.slot d)
        rw [hb] at h1
        have h2 := h1.bool_inv
        rw [Array.getD_eq_getD_getElem?] at h2
        cases h3 : a.tmps[d]? with
        | none => rw [h3] at h2; cases h2
        | some x => rw [h3] at h2; simp at h2; rw [h2]
      have hy : yielded ops a.tmps j = some b := by simp [yielded, hd', hv]
      simp only [Region.wanted, hgd, hy]
      by_cases hbw : b = want
      · subst hbw
        rw [if_pos rfl] at he
        rw [if_pos (by simp)]
        exact .inl (go he)
      · rw [if_neg hbw] at he
        rw [if_neg (by simp [hbw])]
        exact put (out he)
    · rename_i hb
      have hy : yielded ops a.tmps j = none := by
        have h1 := (hs.slot d)
        rw [hb] at h1
        obtain ⟨vs, h2, h4, _⟩ := h1.tup_inv
        rw [Array.getD_eq_getD_getElem?] at h2
        simp only [yielded, hd', Option.bind_some]
        cases h3 : a.tmps[d]? with
        | none => rfl
        | some x => rw [h3] at h2; simp at h2; rw [h2]
      simp only [Region.wanted, hgd, hy]
      rw [if_neg (by simp)]
      exact put (out he)

end
end Go.Ev

/-
  Regions whose order is open: every order gives what the text's order gives.
-/
namespace Go.Ev
open Go Go.RowKit

section
variable {P : Program} {ks : Kinds} {fid N : Nat} {ops : Array Oper} {l : List AI} {m : Nat} {b : List Nat} {G : Pure} {ic : Inl} {s s' : SL}

/-- The order that a region binds, by bits. -/
def Ord (ops : Array Oper) (b : List Nat) : Prop := ∀ (j : Nat) (o : Oper), ops[j]? = some o →
  (∀ e ∈ o.after, Region.binds .any e = true → e.on < j) ∧ ∀ i, i < j → (b.getD j 0).testBit i = true → ∃ e ∈ o.after, Region.binds .any e = true ∧ (e.on = i ∨ (i < e.on ∧ (b.getD e.on 0).testBit i = true))

theorem drawOk_spec (h : drawOk ops b l m = true) : Ord ops b ∧ ∀ j, j < ops.size → ∀ i, i < j → (b.getD j 0).testBit i = false → j < m ∧ ∃ x y, l[i]? = some x ∧ l[j]? = some y ∧ x.apartS y = true := by
  have main : ∀ (j : Nat) (o : Oper), ops[j]? = some o → (∀ e ∈ o.after, Region.binds .any e = true → e.on < j) ∧ ∀ i, i < j →
      ((b.getD j 0).testBit i = true → ∃ e ∈ o.after, Region.binds .any e = true ∧ (e.on = i ∨ (i < e.on ∧ (b.getD e.on 0).testBit i = true))) ∧
      ((b.getD j 0).testBit i = false → j < m ∧ ∃ x y, l[i]? = some x ∧ l[j]? = some y ∧ x.apartS y = true) := by
    intro j o hj
    have hlt : j < ops.size := (Array.getElem?_eq_some_iff.1 hj).1
    have h1 := List.all_eq_true.1 h j (List.mem_range.2 hlt)
    rw [hj] at h1
    simp only [Bool.and_eq_true] at h1
    obtain ⟨h1, h2⟩ := h1
    refine ⟨fun e he hb => ?_, fun i hi => ?_⟩
    · have := List.all_eq_true.1 h1 e (by simpa using he)
      simpa [hb] using this
    · have := List.all_eq_true.1 h2 i (List.mem_range.2 hi)
      refine ⟨fun hbit => ?_, fun hbit => ?_⟩
      · rw [if_pos hbit] at this
        obtain ⟨e, he, h3⟩ := List.any_eq_true.1 this
        simp only [Bool.and_eq_true, Bool.or_eq_true, beq_iff_eq, decide_eq_true_eq] at h3
        exact ⟨e, by simpa using he, h3.1, h3.2⟩
      · rw [if_neg (by rw [hbit]; simp)] at this
        simp only [Bool.and_eq_true, decide_eq_true_eq] at this
        refine ⟨this.1, ?_⟩
        have h4 := this.2
        split at h4
        · rename_i x y hx hy
          exact ⟨x, y, hx, hy, h4⟩
        · cases h4
  exact ⟨fun j o hj => ⟨(main j o hj).1, fun i hi => ((main j o hj).2 i hi).1⟩, fun j hj i hi => ((main j _ (Array.getElem?_eq_getElem hj)).2 i hi).2⟩

/-- What is listed comes with all that binds it. -/
def Closed (ops : Array Oper) (listed : Array Bool) : Prop :=
  ∀ (j : Nat) (o : Oper), listed.getD j false = true → ops[j]? = some o → ∀ e ∈ o.after, Region.binds .any e = true → listed.getD e.on false = true

theorem closed_before (h : Ord ops b) {listed : Array Bool} (hc : Closed ops listed) : ∀ (n j : Nat) (o : Oper), j ≤ n → ops[j]? = some o → (∀ e ∈ o.after, Region.binds .any e = true → listed.getD e.on false = true) →
    ∀ i, i < j → (b.getD j 0).testBit i = true → listed.getD i false = true := by
  intro n
  induction n with
  | zero => intro j o hj; omega
  | succ n ih =>
    intro j o hj ho he i hi hbit
    obtain ⟨s1, s2⟩ := h j o ho
    obtain ⟨e, he', hb, h1⟩ := s2 i hi hbit
    have hon := he e he' hb
    rcases h1 with rfl | ⟨h1, h2⟩
    · exact hon
    · have hlt := s1 e he' hb
      have hsz : j < ops.size := (Array.getElem?_eq_some_iff.1 ho).1
      have ho' : ops[e.on]? = some ops[e.on] := Array.getElem?_eq_getElem (by omega)
      exact ih e.on _ (by omega) ho' (fun e2 he2 hb2 => hc e.on _ hon ho' e2 he2 hb2) i h1 h2

/-! ### The log -/

theorem upsH_none {k : Nat} : ∀ (ups : List (Nat × Obj)) (H : Nat → Option Obj), upsH H ups k = none → H k = none
  | [], _, h => h
  | (x, o) :: r, H, h => by
    have := upsH_none r _ h
    by_cases e : k = x
    · subst e; rw [setH_self] at this; cases this
    · rwa [setH_ne _ _ e] at this

theorem stepL_simple {i : AI} (hi : i.op.simple = true) (h : stepL G ic i s = some s') : ∃ e, stepEff G i s.den = some e ∧ s'.den = s.den.app i.d e ∧ (∀ k ∈ s'.own, k ∈ s.own ∨ afind s.heap k = none) ∧ s'.reb = s.reb ∧ (∀ k, afind s'.heap k = none → afind s.heap k = none) ∧
    (e.log = ([], []) ∨ e.log = logOf G i s) ∧ (i.op.mem = false → e.log = ([], [])) ∧ (i.op.wr = false → e.log.2 = []) := by
  have red : stepGo G ic i.d i.op s = applyO s i.d (eff G i.op s.den) := by
    have hi' := hi
    cases hop : i.op <;> first | rfl | (rw [hop] at hi'; cases hi')
  have go : ∀ {s'}, stepGo G ic i.d i.op s = some s' → ∃ e, eff G i.op s.den = some e ∧ s'.den = s.den.app i.d e ∧ (∀ k ∈ s'.own, k ∈ s.own ∨ afind s.heap k = none) ∧ s'.reb = s.reb ∧ (∀ k, afind s'.heap k = none → afind s.heap k = none) ∧
    (e.log = ([], []) ∨ e.log = logOf G i s) ∧ (i.op.mem = false → e.log = ([], [])) ∧ (i.op.wr = false → e.log.2 = []) := fun {s'} h => by
    rw [red] at h
    obtain ⟨e, h1, rfl⟩ := applyO_inv h
    have hacc := eff_acc _ _ h1
    refine ⟨e, h1, den_apply _ _ _, fun k hk => mem_newKeys e.ups s.heap s.own hk, rfl, fun k hk => ?_, .inr ?_, fun hm => ?_, fun hw => ?_⟩
    · simp only [SL.apply] at hk
      rw [den_putUps] at hk
      exact upsH_none _ _ hk
    · unfold logOf Eff.log; rw [h1]
    · have h2 := hacc.2.2.1 hm
      have h3 : e.ups.map (·.1) = [] := List.eq_nil_iff_forall_not_mem.2 fun k hk => by have := hacc.1 k hk; rw [h2] at this; simp at this
      simp only [Eff.log, h2, h3]
    · simp [Eff.log, hacc.2.2.2 hw]
  cases hg : i.g with
  | none =>
    simp only [stepL, hg] at h
    have : stepEff G i s.den = eff G i.op s.den := by simp only [stepEff, hg]
    rw [this]
    exact go h
  | some gw =>
    obtain ⟨g, want⟩ := gw
    have hse : ∀ b, s.den.slot g = .bool b → stepEff G i s.den = if b = want then eff G i.op s.den else some { val := .tup [] } := fun b hb => by simp only [stepEff, hg, hb]
    unfold stepL at h
    split at h
    · rename_i h0; rw [hg] at h0; cases h0
    · rename_i g' want' h0
      rw [hg] at h0
      cases h0
      split at h
      · rename_i b hb
        rw [hse b hb]
        split at h
        · rename_i hbw
          rw [if_pos hbw]
          exact go h
        · rename_i hbw
          cases h
          rw [if_neg hbw]
          refine ⟨_, rfl, ?_, fun k hk => .inl hk, rfl, fun k hk => hk, .inl rfl, fun _ => rfl, fun _ => rfl⟩
          rw [den_of, aget_putD]
          simp [St.app, upsH, SL.den]
      · rename_i hb
        have hsu : stepEff G i s.den = some { val := .tup [] } := by simp only [stepEff, hg, hb]
        cases h
        refine ⟨_, hsu, ?_, fun k hk => .inl hk, rfl, fun k hk => hk, .inl rfl, fun _ => rfl, fun _ => rfl⟩
        rw [den_of, aget_putD]
        simp [St.app, upsH, SL.den]
      · cases h

theorem runL_log : ∀ (pre : List AI) (l0 : Logs) (s s' : SL), runL G ic pre s = some s' → ∃ lg, logL G ic pre l0 s = some (lg, s')
  | [], l0, s, s', h => by cases h; exact ⟨l0, rfl⟩
  | i :: r, l0, s, s', h => by
    simp only [runL_cons] at h
    cases hs : stepL G ic i s with
    | none => rw [hs] at h; cases h
    | some s1 =>
      rw [hs] at h
      obtain ⟨lg, hlg⟩ := runL_log r (l0 ++ [logOf G i s]) s1 s' h
      refine ⟨lg, ?_⟩
      rw [logL_cons, hs]
      exact hlg

theorem logL_steps : ∀ (pre : List AI) (l0 : Logs) (s : SL) (lg : Logs) (s' : SL), (∀ i ∈ pre, i.op.simple = true) → logL G ic pre l0 s = some (lg, s') →
    ∃ es : List Eff, es.length = pre.length ∧ Steps G (pre.zip es) s.den s'.den ∧ (∀ k ∈ s'.own, k ∈ s.own ∨ afind s.heap k = none) ∧ s'.reb = s.reb ∧ (∀ k, afind s'.heap k = none → afind s.heap k = none) ∧
      (∀ j, j < l0.length → lg[j]? = l0[j]?) ∧ ∀ (j : Nat) (e : Eff) (i : AI), es[j]? = some e → pre[j]? = some i → ∃ x, lg[l0.length + j]? = some x ∧ (e.log = ([], []) ∨ e.log = x) ∧ (i.op.mem = false → e.log = ([], [])) ∧ (i.op.wr = false → e.log.2 = [])
  | [], l0, s, lg, s', _, h => by
    simp only [logL_nil, Option.some.injEq, Prod.mk.injEq] at h
    obtain ⟨rfl, rfl⟩ := h
    exact ⟨[], rfl, .nil _, fun k hk => .inl hk, rfl, fun k hk => hk, fun _ _ => rfl, by simp⟩
  | i :: r, l0, s, lg, s', hs, h => by
    rw [logL_cons] at h
    cases h1 : stepL G ic i s with
    | none => rw [h1] at h; cases h
    | some s1 =>
      rw [h1] at h
      obtain ⟨e, g1, g2, g3, g4, g5, g6, g7, g8⟩ := stepL_simple (hs i List.mem_cons_self) h1
      obtain ⟨es, i1, i2, i3, i4, i5, i6, i7⟩ := logL_steps r _ s1 lg s' (fun x hx => hs x (List.mem_cons_of_mem _ hx)) h
      refine ⟨e :: es, by simp [i1], .cons g1 (by rw [← g2]; exact i2), fun k hk => ?_, i4.trans g4, fun k hk => g5 k (i5 k hk), fun j hj => ?_, fun j e' i' he' hi' => ?_⟩
      · rcases i3 k hk with h2 | h2
        · exact g3 k h2
        · exact .inr (g5 k h2)
      · rw [i6 j (by simp; omega), List.getElem?_append_left hj]
      · cases j with
        | zero =>
          simp at he' hi'
          subst he'; subst hi'
          refine ⟨logOf G i s, ?_, g6, g7, g8⟩
          rw [Nat.add_zero, i6 l0.length (by simp)]
          simp
        | succ j =>
          obtain ⟨x, q1, q2⟩ := i7 j e' i' (by simpa using he') (by simpa using hi')
          refine ⟨x, ?_, q2⟩
          rw [← q1]
          congr 1
          simp; omega

theorem runP_log {pre : List AI} {pairs : List (Nat × Nat)} (h : runP G ic pre s pairs = some s') : ∃ lg, logL G ic pre [] s = some (lg, s') ∧ pairsOk lg pairs = true := by
  cases pairs with
  | nil =>
    obtain ⟨lg, h1⟩ := runL_log pre [] s s' h
    exact ⟨lg, h1, rfl⟩
  | cons p ps =>
    simp only [runP] at h
    cases h1 : logL G ic pre [] s with
    | none => rw [h1] at h; cases h
    | some x =>
      obtain ⟨lg, s1⟩ := x
      rw [h1] at h
      simp only [pairsO] at h
      obtain ⟨h2, h3⟩ := of_ite h
      cases h3
      exact ⟨lg, rfl, h2⟩

theorem pairsOk_spec {lg : Logs} : ∀ {ps : List (Nat × Nat)}, pairsOk lg ps = true → ∀ p ∈ ps, ∃ x y, lg[p.1]? = some x ∧ lg[p.2]? = some y ∧ apartKeys x y = true
  | [], _, p, hp => by simp at hp
  | (i, j) :: r, h, p, hp => by
    simp only [pairsOk] at h
    split at h
    · rename_i x y hx hy
      simp only [Bool.and_eq_true] at h
      rcases List.mem_cons.1 hp with rfl | hp
      · exact ⟨x, y, hx, hy, h.1⟩
      · exact pairsOk_spec h.2 p hp
    · cases h

end
end Go.Ev

/-
  Regions: the step through the region as a whole.
-/
namespace Go.Ev
open Go Go.RowKit

section
variable {N B : Nat} {ok0 : Nat → Prop} {w0 : World} {E : Entry} {C : Conc} {s s' : SL} {S T : St} {a : Act} {w : World} {P : Program} {ks : Kinds} {fid : Nat} {G : Pure} {ic : Inl} {ops : Array Oper}
  {l : List AI} {m : Nat} {b : List Nat} {Q : Exit → Act → World → Prop}

theorem getD_listed {listed : Array Bool} {j : Nat} (hj : j < listed.size) (d d' : Bool) : listed.getD j d = listed.getD j d' := by
  simp [hj]

/-- All that binds the least operation that is not listed is listed: it may come up now. -/
theorem ready_least (h : Ord ops b) {listed : Array Bool} (hsz : listed.size = ops.size) {i : Nat} (hi : i < ops.size) (hun : listed.getD i false = false) (hless : ∀ j, j < i → listed.getD j false = true) :
    i ∈ Region.ready .any ops listed := by
  refine mem_ready.2 ⟨by rw [getD_listed (by omega) true false]; exact hun, ops[i], Array.getElem?_eq_getElem hi, fun e he hb => hless _ ?_⟩
  exact (h i _ (Array.getElem?_eq_getElem hi)).1 e he hb

theorem closed_set {listed : Array Bool} (hc : Closed ops listed) {i : Nat} {o : Oper} (ho : ops[i]? = some o) (he : ∀ e ∈ o.after, Region.binds .any e = true → listed.getD e.on false = true) : Closed ops (listed.setIfInBounds i true) := by
  intro j oj hj hoj e he' hb
  by_cases eji : j = i
  · subst eji
    rw [ho] at hoj
    cases hoj
    exact getD_set_true (he e he' hb)
  · rw [getD_set_ne false (Ne.symm eji)] at hj
    exact getD_set_true (hc j oj hj hoj e he' hb)

variable (hG : GoodG P ks G) (hI : InlSound P ic)

include hG in
/-- The part whose order is open ('R': what comes behind it). -/
theorem any_pre (h : Ord ops b) (hm : m ≤ ops.size) {R : Nat → Prop} {r : Nat} (hR : ∀ j, j < ops.size → R j → ∀ i, i < m → i < j ∧ (b.getD j 0).testBit i = true)
    (post : ∀ (listed : Array Bool) (a : Act) (w : World), listed.size = ops.size → Closed ops listed → (∀ j, j < ops.size → (listed.getD j false = false ↔ R j)) → SimX N B ok0 w0 E T a w → wpAny P .any ops Q r listed a w) :
    ∀ (n : Nat) (rem : List (Nat × AI × Eff)) (listed : Array Bool) (S : St) (a : Act) (w : World), rem.length = n → listed.size = ops.size → Closed ops listed →
      (∀ j, j < ops.size → (listed.getD j false = false ↔ (j ∈ rem.map (·.1) ∨ R j))) → rem.Pairwise (fun x y => x.1 < y.1) → (∀ x ∈ rem, x.1 < m ∧ OpIs P ks fid N ops x.1 x.2.1) →
      (∀ x ∈ rem, ∀ y ∈ rem, x.1 < y.1 → (b.getD y.1 0).testBit x.1 = false → Ind x.2 y.2) → Steps G (rem.map (·.2)) S T → SimX N B ok0 w0 E S a w → wpAny P .any ops Q (n + r) listed a w := by
  intro n
  induction n with
  | zero =>
    intro rem listed S a w hn hsz hcl hlist _ _ _ hst hs
    have : rem = [] := List.eq_nil_of_length_eq_zero hn
    subst this
    cases hst with
    | nil =>
      rw [Nat.zero_add]
      exact post listed a w hsz hcl (fun j hj => by simpa using hlist j hj) hs
  | succ n ih =>
    intro rem listed S a w hn hsz hcl hlist hpw hops hind hst hs
    rw [show n + 1 + r = (n + r) + 1 by omega]
    obtain ⟨x0, r0, hrem⟩ : ∃ x0 r0, rem = x0 :: r0 := by cases rem with
      | nil => simp at hn
      | cons x r => exact ⟨x, r, rfl⟩
    have hx0 : x0 ∈ rem := by rw [hrem]; exact List.mem_cons_self
    have hx0m := (hops x0 hx0).1
    have hleast : ∀ j, j < x0.1 → listed.getD j false = true := fun j hj => by
      cases hc : listed.getD j false with
      | true => rfl
      | false =>
        rcases (hlist j (by omega)).1 hc with h1 | h1
        · obtain ⟨x, hx, rfl⟩ := List.mem_map.1 h1
          rw [hrem] at hx hpw
          rcases List.mem_cons.1 hx with rfl | hx
          · omega
          · have := (List.pairwise_cons.1 hpw).1 x hx; omega
        · have := (hR j (by omega) h1 x0.1 hx0m).1; omega
    have hun0 : listed.getD x0.1 false = false := (hlist x0.1 (by omega)).2 (.inl (List.mem_map.2 ⟨x0, hx0, rfl⟩))
    refine ⟨fun hr => absurd (ready_least h hsz (by omega) hun0 hleast) (by rw [hr]; simp), fun i hi => ?_⟩
    obtain ⟨hi1, o, ho, hbind⟩ := mem_ready.1 hi
    have hin : i < ops.size := (Array.getElem?_eq_some_iff.1 ho).1
    have hun : listed.getD i false = false := by rw [← getD_listed (by omega) true false]; exact hi1
    have hbefore := closed_before h hcl i i o (Nat.le_refl _) ho hbind
    have hnb : ∀ j, j < i → listed.getD j false = false → (b.getD i 0).testBit j = false := fun j hj hu => by
      cases hc : (b.getD i 0).testBit j with
      | false => rfl
      | true => have := hbefore j hj hc; rw [hu] at this; cases this
    obtain ⟨x, hx, hxi⟩ : ∃ x ∈ rem, x.1 = i := by
      rcases (hlist i hin).1 hun with h1 | h1
      · exact List.mem_map.1 h1
      · obtain ⟨h2, h3⟩ := hR i hin h1 x0.1 hx0m
        rw [hnb x0.1 h2 hun0] at h3
        cases h3
    have him : i < m := by rw [← hxi]; exact (hops x hx).1
    obtain ⟨xs, ys, hsplit⟩ := List.append_of_mem hx
    rw [hsplit, List.pairwise_append] at hpw
    obtain ⟨pw1, pw2, pw3⟩ := hpw
    have pw4 := List.pairwise_cons.1 pw2
    have hxs : ∀ y ∈ xs, y.1 < i := fun y hy => by have := pw3 y hy x List.mem_cons_self; omega
    have hys : ∀ y ∈ ys, i < y.1 := fun y hy => by have := pw4.1 y hy; omega
    have hst' : Steps G (xs.map (·.2) ++ (x.2.1, x.2.2) :: ys.map (·.2)) S T := by
      have e : rem.map (·.2) = xs.map (·.2) ++ (x.2.1, x.2.2) :: ys.map (·.2) := by rw [hsplit]; simp
      rw [e] at hst
      exact hst
    obtain ⟨b1, b2⟩ := bubble _ _ _ _ hst' fun y hy => by
      obtain ⟨z, hz, rfl⟩ := List.mem_map.1 hy
      have hzr : z ∈ rem := by rw [hsplit]; exact List.mem_append.2 (.inl hz)
      have hlt : z.1 < x.1 := by rw [hxi]; exact hxs z hz
      refine hind z hzr x hx hlt ?_
      rw [hxi]
      exact hnb z.1 (hxs z hz) ((hlist z.1 (by omega)).2 (.inl (List.mem_map.2 ⟨z, hzr, rfl⟩)))
    obtain ⟨C, hs⟩ := hs
    have hopx := (hops x hx).2
    rw [hxi] at hopx
    refine stepEff_sound hG hopx b1 hs fun a' w' hs' => ?_
    have hsub : ∀ y, y ∈ xs ++ ys → y ∈ rem := fun y hy => by
      rw [hsplit]
      rcases List.mem_append.1 hy with h1 | h1
      · exact List.mem_append.2 (.inl h1)
      · exact List.mem_append.2 (.inr (List.mem_cons_of_mem _ h1))
    refine ih (xs ++ ys) (listed.setIfInBounds i true) _ a' w' (by rw [hsplit] at hn; simp at hn ⊢; omega) (by simpa using hsz) (closed_set hcl ho hbind) (fun j hj => ?_) ?_ (fun y hy => hops y (hsub y hy)) (fun y hy z hz => hind y (hsub y hy) z (hsub z hz)) (by rw [List.map_append]; exact b2) hs'
    · by_cases eji : j = i
      · subst eji
        have h1 : (listed.setIfInBounds j true).getD j false = true := by simp [hsz, hj]
        rw [h1]
        refine ⟨fun h => by (cases h), fun h => ?_⟩
        rcases h with h | h
        · obtain ⟨z, hz, hzj⟩ := List.mem_map.1 h
          rcases List.mem_append.1 hz with h2 | h2
          · have := hxs z h2; omega
          · have := hys z h2; omega
        · have := (hR j hj h j him).1; omega
      · rw [getD_set_ne false (Ne.symm eji), hlist j hj, hsplit]
        have : j ≠ x.1 := by omega
        simp [this]
    · rw [List.pairwise_append]
      exact ⟨pw1, pw4.2, fun y hy z hz => pw3 y hy z (List.mem_cons_of_mem _ hz)⟩

include hG hI in
/-- The part whose order is fixed. -/
theorem any_post (h : Ord ops b) (hfix : ∀ j, j < ops.size → ∀ i, m ≤ i → i < j → (b.getD j 0).testBit i = true) (hl : cOps P ks fid N ops ops.toList = some l) {sn : SL} (hQ : ∀ a w, SimLX N B ok0 w0 E sn a w → Q .normal a w) :
    ∀ (n p : Nat) (listed : Array Bool) (sp : SL) (a : Act) (w : World), p + n = ops.size → m ≤ p → listed.size = ops.size → Closed ops listed → (∀ j, j < ops.size → (listed.getD j false = false ↔ p ≤ j)) →
      SimLX N B ok0 w0 E sp a w → runL G ic (l.drop p) sp = some sn → wpAny P .any ops Q n listed a w := by
  have hll : l.length = ops.size := by simpa using (cOps_spec _ _ hl).1
  intro n
  induction n with
  | zero =>
    intro p listed sp a w hp _ hsz _ hlist hs hrun
    have hpe : p = ops.size := by omega
    subst hpe
    rw [List.drop_eq_nil_of_le (by omega)] at hrun
    cases hrun
    refine ⟨List.eq_nil_iff_forall_not_mem.2 fun i hi => ?_, hQ a w hs⟩
    obtain ⟨h1, o, ho, _⟩ := mem_ready.1 hi
    have hin : i < ops.size := (Array.getElem?_eq_some_iff.1 ho).1
    rw [getD_listed (by omega) true false] at h1
    have := (hlist i hin).1 h1
    omega
  | succ n ih =>
    intro p listed sp a w hp hmp hsz hcl hlist hs hrun
    have hpn : p < ops.size := by omega
    have hless : ∀ j, j < p → listed.getD j false = true := fun j hj => by
      cases hc : listed.getD j false with
      | true => rfl
      | false => have := (hlist j (by omega)).1 hc; omega
    have hunp := (hlist p hpn).2 (Nat.le_refl _)
    refine ⟨fun hr => absurd (ready_least h hsz hpn hunp hless) (by rw [hr]; simp), fun i hi => ?_⟩
    obtain ⟨h1, o, ho, hbind⟩ := mem_ready.1 hi
    have hin : i < ops.size := (Array.getElem?_eq_some_iff.1 ho).1
    rw [getD_listed (by omega) true false] at h1
    have hpi := (hlist i hin).1 h1
    have hip : i = p := by
      rcases Nat.eq_or_lt_of_le hpi with e | lt
      · exact e.symm
      · exfalso
        have hbefore := closed_before h hcl i i o (Nat.le_refl _) ho hbind p lt (hfix i hin p hmp lt)
        rw [hunp] at hbefore; cases hbefore
    subst hip
    have hdrop : l.drop i = l[i] :: l.drop (i + 1) := List.drop_eq_getElem_cons (by omega)
    rw [hdrop, runL_cons] at hrun
    cases hst : stepL G ic l[i] sp with
    | none => rw [hst] at hrun; cases hrun
    | some sp' =>
      rw [hst] at hrun
      obtain ⟨o', ho', hd, hc, hg, hN⟩ := opIs_of hl (List.getElem?_eq_getElem (by omega : i < l.length))
      obtain ⟨C, hs⟩ := hs
      have hst' : stepL G ic ⟨o'.dst, l[i].g, l[i].op⟩ sp = some sp' := by rw [← hd]; exact hst
      refine stepL_sound ho' hc hg hst' hs hN hG hI fun a' w' hs' => ?_
      rw [ho] at ho'
      cases ho'
      refine ih (i + 1) _ sp' a' w' (by omega) (by omega) (by simpa using hsz) (closed_set hcl ho hbind) (fun j hj => ?_) hs' hrun
      by_cases eji : j = i
      · subst eji
        have h1 : (listed.setIfInBounds j true).getD j false = true := by simp [hsz, hj]
        rw [h1]
        refine ⟨fun h => by (cases h), fun h => by omega⟩
      · rw [getD_set_ne false (Ne.symm eji), hlist j hj]
        omega

include hG hI in
/-- In the text's order. -/
theorem runL_sound (hl : cOps P ks fid N ops ops.toList = some l) {sn : SL} (hQ : ∀ a w, SimLX N B ok0 w0 E sn a w → Q .normal a w) :
    ∀ (n p : Nat) (sp : SL) (a : Act) (w : World), p + n = ops.size → SimLX N B ok0 w0 E sp a w → runL G ic (l.drop p) sp = some sn → wpOps P ops Q (List.range' p n) a w := by
  have hll : l.length = ops.size := by simpa using (cOps_spec _ _ hl).1
  intro n
  induction n with
  | zero =>
    intro p sp a w hp hs hrun
    have hpe : p = ops.size := by omega
    subst hpe
    rw [List.drop_eq_nil_of_le (by omega)] at hrun
    cases hrun
    exact hQ a w hs
  | succ n ih =>
    intro p sp a w hp hs hrun
    have hdrop : l.drop p = l[p] :: l.drop (p + 1) := List.drop_eq_getElem_cons (by omega)
    rw [hdrop, runL_cons] at hrun
    rw [List.range'_succ, wpOps_cons]
    cases hst : stepL G ic l[p] sp with
    | none => rw [hst] at hrun; cases hrun
    | some sp' =>
      rw [hst] at hrun
      obtain ⟨o', ho', hd, hc, hg, hN⟩ := opIs_of hl (List.getElem?_eq_getElem (by omega : p < l.length))
      obtain ⟨C, hs⟩ := hs
      have hst' : stepL G ic ⟨o'.dst, l[p].g, l[p].op⟩ sp = some sp' := by rw [← hd]; exact hst
      exact stepL_sound ho' hc hg hst' hs hN hG hI fun a' w' hs' => ih (p + 1) sp' a' w' (by omega) hs' hrun

/-- The world's count of draws is nobody's. -/
theorem SimH.same {H : Nat → Option Obj} {F : Nat → Bool} {w' : World} (h : SimH B ok0 w0 C H F w) (hw : w'.heap = w.heap) (hb : Below B w w') : SimH B ok0 w0 C H F w' ∧ ∀ b, okb B ok0 C H F w b → okb B ok0 C H F w' b := by
  have hok : ∀ b, okb B ok0 C H F w b → okb B ok0 C H F w' b := fun b hb => ⟨by rw [hw]; exact hb.1, hb.2⟩
  exact ⟨⟨h.below.trans hb, by rw [hw]; exact h.base, fun k o hk => (h.row k o hk).mono hok (fun _ _ => by rw [hw]) rfl (fun _ _ => rfl) fun _ _ => by rw [hw], h.blk, h.inj, h.wf, by rw [hw]; exact h.up, h.okrow, by rw [hw]; exact h.keep⟩, hok⟩

theorem Sim.same {w' : World} (h : Sim N B ok0 w0 E C S a w) (hw : w'.heap = w.heap) (hb : Below B w w') : Sim N B ok0 w0 E C S a w' := by
  obtain ⟨h1, h2⟩ := h.h.same hw hb
  exact ⟨h1, fun t => (h.slot t).mono h2 (fun _ _ => by rw [hw]) fun _ _ => rfl, h.wfs, h.defers, h.size, fun b hb => ⟨h2 b (h.ent.1 b hb).1, by rw [hw]; exact (h.ent.1 b hb).2⟩, h.ent.2⟩

theorem pairwise_zip_range {α : Type} (xs : List α) : ∀ (p : Nat), ((List.range' p xs.length).zip xs).Pairwise (fun x y => x.1 < y.1) := by
  induction xs with
  | nil => simp
  | cons x xs ih =>
    intro p
    rw [List.length_cons, List.range'_succ, List.zip_cons_cons, List.pairwise_cons]
    refine ⟨fun y hy => ?_, ih (p + 1)⟩
    have := (List.of_mem_zip hy).1
    have := List.mem_range'_1.1 this
    simp only
    omega

theorem mem_zip_range {α : Type} {xs : List α} {x : Nat × α} (h : x ∈ (List.range xs.length).zip xs) : xs[x.1]? = some x.2 := by
  obtain ⟨i, hi⟩ := List.getElem?_of_mem h
  rw [List.getElem?_zip_eq_some] at hi
  obtain ⟨h1, h2⟩ := hi
  have hlt : i < xs.length := (List.getElem?_eq_some_iff.1 h2).1
  rw [List.getElem?_range hlt] at h1
  cases h1
  exact h2

include hG hI in
/-- A region whose order is open. -/
theorem region_draw {id : Nat} (hP : P.follows .mixedOrders = true) (hl : cOps P ks fid N ops ops.toList = some l) (hdraw : drawOk ops (befores ops) l (l.takeWhile (·.op.simple)).length = true) {sm sn : SL}
    (hpre : runP G ic (l.takeWhile (·.op.simple)) s ((openPairs ops (l.takeWhile (·.op.simple)).length).filter (mayClash l)) = some sm) (hpost : runL G ic (l.drop (l.takeWhile (·.op.simple)).length) sm = some sn)
    (hs : SimL N B ok0 w0 E C s a w) (hQ : ∀ a w, SimLX N B ok0 w0 E sn a w → Q .normal a w) : (Code.region id ops true).wp P Q a w := by
  have hll : l.length = ops.size := by simpa using (cOps_spec _ _ hl).1
  obtain ⟨lg, hlog, hpairs⟩ := runP_log hpre
  generalize hpe : l.takeWhile (·.op.simple) = pre at *
  have hple : pre.length ≤ ops.size := by rw [← hll, ← hpe]; exact (List.takeWhile_sublist _).length_le
  have hpget : ∀ {i : Nat} {x : AI}, pre[i]? = some x → l[i]? = some x := fun {i x} hx => by
    have hsplit : l = pre ++ l.dropWhile (·.op.simple) := by rw [← hpe, List.takeWhile_append_dropWhile]
    rw [hsplit, List.getElem?_append_left (List.getElem?_eq_some_iff.1 hx).1]
    exact hx
  have hsimp : ∀ i ∈ pre, i.op.simple = true := fun i hi => by
    rw [← hpe] at hi
    exact List.all_eq_true.1 (List.all_takeWhile (p := fun i : AI => i.op.simple) (l := l)) i hi
  obtain ⟨es, g1, g2, g3, g4, _, _, g7⟩ := logL_steps pre [] s lg sm hsimp hlog
  have hsim : Sim N B ok0 w0 { E with R := s.reb } C s.den a { w with drawn := w.drawn + 1 } := hs.sim.same rfl (Below.refl B w).drew
  refine wp_region_any hP ?_
  have hzl : (pre.zip es).length = pre.length := by simp [g1]
  obtain ⟨hord, hdr⟩ := drawOk_spec hdraw
  have hbit : ∀ j, j < ops.size → ∀ i, i < j → pre.length ≤ j → ((befores ops).getD j 0).testBit i = true := fun j hj i hi hm => by
    cases hc : ((befores ops).getD j 0).testBit i with
    | true => rfl
    | false => have := (hdr j hj i hi hc).1; omega
  have main := any_pre (P := P) (ks := ks) (fid := fid) (N := N) (B := B) (ok0 := ok0) (w0 := w0) (E := { E with R := s.reb }) (T := sm.den) (Q := Q) (m := pre.length) (R := fun j => pre.length ≤ j) (r := ops.size - pre.length) hG hord hple (fun j hj hm i hi => ⟨by omega, hbit j hj i (by omega) hm⟩) (fun listed a w hsz hcl hlist hx => by
      obtain ⟨C', hx⟩ := hx
      refine any_post hG hI hord (fun j hj i hi hij => hbit j hj i hij (by omega)) hl hQ (ops.size - pre.length) pre.length listed sm a w (by omega) (Nat.le_refl _) hsz hcl hlist ⟨C', ⟨?_, fun k hk => ?_⟩⟩ hpost
      · rw [g4]; exact hx
      · rcases g3 k hk with h1 | h1
        · exact hs.own k h1
        · exact notD hs h1)
    pre.length ((List.range (pre.zip es).length).zip (pre.zip es)) (Array.replicate ops.size false) s.den a { w with drawn := w.drawn + 1 } (by simp [g1]) (by simp) (fun j o hj => by
      rw [Array.getD_eq_getD_getElem?] at hj
      simp only [Array.getElem?_replicate] at hj
      split at hj <;> simp at hj)
    (fun j hj => by
      have h1 : (Array.replicate ops.size false).getD j false = false := by rw [Array.getD_eq_getD_getElem?, Array.getElem?_replicate]; split <;> rfl
      rw [h1]
      refine ⟨fun _ => ?_, fun _ => rfl⟩
      rcases Nat.lt_or_ge j pre.length with lt | ge
      · left
        rw [List.map_fst_zip (by simp)]
        exact List.mem_range.2 (by omega)
      · exact .inr ge)
    (by rw [List.range_eq_range']; exact pairwise_zip_range _ 0)
    (fun x hx => by
      have h1 := mem_zip_range hx
      rw [List.getElem?_zip_eq_some] at h1
      exact ⟨(List.getElem?_eq_some_iff.1 h1.1).1, opIs_of hl (hpget h1.1)⟩)
    (fun x hx y hy hxy hbit => by
      have h1 := mem_zip_range hx
      have h2 := mem_zip_range hy
      rw [List.getElem?_zip_eq_some] at h1 h2
      have hym : y.1 < pre.length := (List.getElem?_eq_some_iff.1 h2.1).1
      obtain ⟨_, ax, ay, q1, q2, q3⟩ := hdr y.1 (by omega) x.1 hxy hbit
      rw [hpget h1.1] at q1
      rw [hpget h2.1] at q2
      cases q1
      cases q2
      refine ⟨q3, ?_⟩
      obtain ⟨lx, k1, k2, k3, k4⟩ := g7 x.1 _ _ h1.2 h1.1
      obtain ⟨ly, m1, m2, m3, m4⟩ := g7 y.1 _ _ h2.2 h2.1
      have triv1 : ∀ z, apartKeys ([], []) z = true := fun z => by simp [apartKeys]
      have triv2 : ∀ z, apartKeys z ([], []) = true := fun z => by simp [apartKeys]
      cases hmc : mayClash l (x.1, y.1) with
      | true =>
        have hmem : (x.1, y.1) ∈ (openPairs ops pre.length).filter (mayClash l) := by
          refine List.mem_filter.2 ⟨?_, hmc⟩
          simp only [openPairs, List.mem_flatMap, List.mem_map, List.mem_filter, List.mem_range]
          exact ⟨y.1, hym, x.1, ⟨hxy, by simp only [unordered, hbit, Bool.not_false]⟩, rfl⟩
        obtain ⟨zx, zy, n1, n2, n3⟩ := pairsOk_spec hpairs _ hmem
        rw [List.length_nil, Nat.zero_add] at k1 m1
        simp only at n1 n2
        rw [k1] at n1
        rw [m1] at n2
        cases n1
        cases n2
        rcases k2 with k2 | k2
        · rw [k2]; exact triv1 _
        · rcases m2 with m2 | m2
          · rw [m2]; exact triv2 _
          · rw [k2, m2]; exact n3
      | false =>
        simp only [mayClash, hpget h1.1, hpget h2.1] at hmc
        cases hxm : x.2.1.op.mem with
        | false => rw [k3 hxm]; exact triv1 _
        | true =>
          cases hym : y.2.1.op.mem with
          | false => rw [m3 hym]; exact triv2 _
          | true =>
            rw [hxm, hym] at hmc
            simp only [Bool.and_self, Bool.true_and, Bool.or_eq_false_iff] at hmc
            refine apartKeys_iff.2 ⟨fun k hk => ?_, fun k hk => ?_⟩
            · rw [k4 hmc.1] at hk; simp at hk
            · rw [m4 hmc.2] at hk; simp at hk)
    (by rw [List.map_snd_zip (by simp)]; exact g2) ⟨C, hsim⟩
  rw [show ops.size = pre.length + (ops.size - pre.length) by omega]
  have e1 : pre.length + (ops.size - pre.length) = ops.size := by omega
  rw [e1] at main ⊢
  exact main

end
end Go.Ev

/-
  Regions in which operations ahead of an append may also come behind it.
-/
namespace Go.Ev
open Go Go.RowKit

section
variable {N B : Nat} {ok0 : Nat → Prop} {w0 : World} {E : Entry} {C : Conc} {s s' : SL} {S T : St} {a : Act} {w : World} {P : Program} {ks : Kinds} {fid : Nat} {G : Pure} {ic : Inl} {ops : Array Oper}
  {l : List AI} {m : Nat} {b : List Nat} {Q : Exit → Act → World → Prop}

theorem eff_reads (op : AOp) (e : Eff) (hr : op.reads = true) (h : eff G op S = some e) : e.ups = [] ∧ e.frz = [] := by
  cases op with
  | load n x => cases n <;> (simp only [eff] at h; repeat' split at h) <;> first | (cases h; done) | (cases h; simp)
  | field off n x => cases n <;> (simp only [eff] at h; repeat' split at h) <;> first | (cases h; done) | (cases h; simp)
  | mv | pick | nilchk | bin | binb | un | conv | faddr | iaddr | slice | len | lens | max | extract =>
    simp only [eff] at h
    repeat' split at h
    all_goals first
      | (cases h; done)
      | (cases h; simp; done)
  | _ => cases hr

theorem stepEff_reads {i : AI} {e : Eff} (hr : i.op.reads = true) (h : stepEff G i S = some e) : e.ups = [] ∧ e.frz = [] := by
  unfold stepEff at h
  split at h
  · exact eff_reads _ _ hr h
  · split at h
    · split at h
      · exact eff_reads _ _ hr h
      · cases h; exact ⟨rfl, rfl⟩
    · cases h; exact ⟨rfl, rfl⟩
    · cases h

/-- What looks alone changes slots alone. -/
theorem steps_keep : ∀ {Z : List (AI × Eff)} {S T : St}, Steps G Z S T → (∀ z ∈ Z, z.1.op.reads = true) → T.heap = S.heap ∧ T.frz = S.frz ∧ ∀ t, (∀ z ∈ Z, z.1.d ≠ some t) → T.slot t = S.slot t
  | [], S, T, h, _ => by cases h; exact ⟨rfl, rfl, fun _ _ => rfl⟩
  | (i, e) :: Z, S, T, h, hr => by
    cases h with
    | cons h1 h2 =>
      obtain ⟨k1, k2, k3⟩ := steps_keep h2 fun z hz => hr z (List.mem_cons_of_mem _ hz)
      obtain ⟨u1, u2⟩ := stepEff_reads (hr _ List.mem_cons_self) h1
      refine ⟨by rw [k1]; simp [St.app, u1, upsH], by rw [k2]; simp [St.app, u2], fun t ht => ?_⟩
      rw [k3 t fun z hz => ht z (List.mem_cons_of_mem _ hz)]
      have := ht _ List.mem_cons_self
      simp only at this
      simp [St.app, this]

/-- The state behind the append. -/
def later (d : Option Nat) (v : AV) (φ : AV → AV) (H' : Nat → Option Obj) (S : St) : St := { slot := fun t => if d = some t then v else φ (S.slot t), heap := H', frz := S.frz }

theorem steps_late {d : Option Nat} {v : AV} {φ : AV → AV} {H' : Nat → Option Obj} : ∀ {Z : List (AI × Eff)} {S T : St}, Steps G Z S T → (∀ z ∈ Z, z.1.op.reads = true) →
    (∀ z ∈ Z, (∀ x, z.1.d = some x → d ≠ some x ∧ x ∉ z.1.looks ∧ φ (T.slot x) = T.slot x) ∧ (∀ t ∈ z.1.looks, d ≠ some t ∧ φ (T.slot t) = T.slot t) ∧ ∀ k ∈ z.2.acc, H' k = T.heap k) →
    Z.Pairwise (fun x y => ∀ t, y.1.d = some t → t ∉ x.1.looks ∧ x.1.d ≠ some t) → Steps G Z (later d v φ H' S) (later d v φ H' T)
  | [], S, T, h, _, _, _ => by cases h; exact .nil _
  | (i, e) :: Z, S, T, h, hr, hc, hp => by
    cases h with
    | cons h1 h2 =>
      have hr' : ∀ z ∈ Z, z.1.op.reads = true := fun z hz => hr z (List.mem_cons_of_mem _ hz)
      obtain ⟨hp1, hp2⟩ := List.pairwise_cons.1 hp
      obtain ⟨k1, k2, k3⟩ := steps_keep h2 hr'
      obtain ⟨u1, u2⟩ := stepEff_reads (hr _ List.mem_cons_self) h1
      obtain ⟨c1, c2, c3⟩ := hc _ List.mem_cons_self
      simp only at c1 c2 c3
      have hT : T.heap = S.heap := by rw [k1]; simp [St.app, u1, upsH]
      have hlook : ∀ t ∈ i.looks, T.slot t = S.slot t := fun t ht => by
        rw [k3 t fun z hz hzd => (hp1 z hz t hzd).1 ht]
        have : i.d ≠ some t := fun hd => (c1 t hd).2.1 ht
        simp [St.app, this]
      have q1 : stepEff G i (later d v φ H' S) = some e := by
        refine stepEff_frame h1 (fun t ht => ?_) (fun k hk => ?_) fun k hk => ?_
        · obtain ⟨g1, g2⟩ := c2 t ht
          simp only [later, if_neg g1]
          rw [← hlook t ht, g2]
        · simp only [later]
          rw [c3 k hk, hT]
        · rw [u1] at hk; simp at hk
      have q2 : (later d v φ H' S).app i.d e = later d v φ H' (S.app i.d e) := by
        simp only [later, St.app, u1, u2, upsH]
        congr 1
        · funext t
          by_cases hd : i.d = some t
          · obtain ⟨g1, g2, g3⟩ := c1 t hd
            have hv : T.slot t = e.val := by
              rw [k3 t fun z hz hzd => (hp1 z hz t hzd).2 hd]
              simp [St.app, hd]
            rw [hv] at g3
            simp [hd, g1, g3]
          · simp [hd]
      refine .cons q1 ?_
      rw [q2]
      exact steps_late h2 hr' (fun z hz => hc z (List.mem_cons_of_mem _ hz)) hp2

theorem stepAppK_slots {k : Nat} {e : TypeId} {sz bytes : Nat} {x y : AV} {d : Option Nat} {sp : SL} (h : stepAppK k e sz bytes x y s d = some sp) : ∃ (g : List (Nat × AV) → List (Nat × AV)) (φ : AV → AV) (v : AV),
    sp.slots = putD (g s.slots) d v ∧ (∀ sl t, aget .undef (g sl) t = φ (aget .undef sl t)) ∧ sp.frz = s.frz ∧ ∀ sl, stepAppK k e sz bytes x y { s with slots := sl } d = some { sp with slots := putD (g sl) d v } := by
  unfold stepAppK at h
  split at h
  case h_2 => cases h
  rename_i news hnews
  obtain ⟨hall, h1⟩ := of_ite h
  clear h
  split at h1
  · rename_i szn
    split at h1
    case h_2 => cases h1
    rename_i hk
    obtain ⟨hc, h2⟩ := of_ite h1
    clear h1
    cases h2
    refine ⟨id, id, _, rfl, fun _ _ => rfl, rfl, fun sl => ?_⟩
    unfold stepAppK
    have e1 : ({ s with slots := sl } : SL).den.heap = s.den.heap := rfl
    rw [e1, hnews]
    simp only
    rw [if_pos hall, hk]
    simp only
    rw [if_pos hc]
    rfl
  · rename_i o n
    split at h1
    case h_2 => cases h1
    rename_i ob hob
    obtain ⟨hc, h2⟩ := of_ite h1
    clear h1
    cases h2
    refine ⟨scrubSlots [o], AV.scrub [o], _, rfl, aget_scrub [o], rfl, fun sl => ?_⟩
    unfold stepAppK
    have e1 : ({ s with slots := sl } : SL).den.heap = s.den.heap := rfl
    rw [e1, hnews]
    simp only
    rw [if_pos hall, hob]
    simp only
    rw [if_pos hc]
  · cases h1

theorem aget_keep_append (f : Nat → AV) (r : List (Nat × AV)) (t : Nat) : ∀ (l : List Nat), aget .undef (keepSlots f l ++ r) t = if t ∈ l then f t else aget .undef r t
  | [] => by simp [keepSlots]
  | x :: l => by
    simp only [keepSlots, List.cons_append, aget]
    rw [aget_keep_append f r t l]
    by_cases h : x = t
    · subst h; simp
    · simp only [if_neg h, List.mem_cons, Ne.symm h, false_or]

theorem sameSlots_spec {s t : SL} : ∀ {l : List Nat}, sameSlots s t l → ∀ x ∈ l, s.den.slot x = t.den.slot x
  | [], _, x, hx => by simp at hx
  | y :: r, h, x, hx => by
    rcases List.mem_cons.1 hx with rfl | hx
    · exact h.1
    · exact sameSlots_spec h.2 x hx

theorem sameRows_spec {s t : SL} : ∀ {l : List Nat}, sameRows s t l → ∀ x ∈ l, s.den.heap x = t.den.heap x
  | [], _, x, hx => by simp at hx
  | y :: r, h, x, hx => by
    rcases List.mem_cons.1 hx with rfl | hx
    · exact h.1
    · exact sameRows_spec h.2 x hx

theorem lateRows_spec {lg : Logs} {s t : SL} : ∀ {l : List Nat}, lateRows lg s t l → ∀ u ∈ l, ∃ x, lg[u]? = some x ∧ ∀ k ∈ x.1, s.den.heap k = t.den.heap k
  | [], _, x, hx => by simp at hx
  | y :: r, h, x, hx => by
    rcases List.mem_cons.1 hx with rfl | hx
    · have h1 := h.1
      cases hy : lg[x]? with
      | none => rw [hy] at h1; exact h1.elim
      | some z => rw [hy] at h1; exact ⟨z, rfl, sameRows_spec h1⟩
    · exact lateRows_spec h.2 x hx

theorem lateOk_spec {us : List Nat} (h : lateOk l us = true) {u : Nat} (hu : u ∈ us) : ∃ x, l[u]? = some x ∧ x.op.reads = true ∧ (∀ d, x.d = some d → d ∉ x.looks) ∧
    ∀ v ∈ us, u < v → ∃ y, l[v]? = some y ∧ ∀ d, y.d = some d → d ∉ x.looks ∧ x.d ≠ some d := by
  have h1 := List.all_eq_true.1 h u hu
  split at h1
  case h_2 => cases h1
  rename_i x hx
  simp only [Bool.and_eq_true] at h1
  obtain ⟨⟨h1, h2⟩, h3⟩ := h1
  refine ⟨x, hx, h1, fun d hd => ?_, fun v hv huv => ?_⟩
  · have := List.all_eq_true.1 h2 d (by simp [AI.dsts, hd])
    simpa using this
  · have h4 := List.all_eq_true.1 h3 v hv
    rw [if_pos huv] at h4
    split at h4
    case h_2 => cases h4
    rename_i y hy
    refine ⟨y, hy, fun d hd => ?_⟩
    have := List.all_eq_true.1 h4 d (by simp [AI.dsts, hd])
    simpa using this

variable (hG : GoodG P ks G) (hI : InlSound P ic)

include hG hI in
/-- A region in which operations ahead of an append may come behind it. -/
theorem region_late {id : Nat} (hP : P.follows .mixedOrders = true) (hl : cOps P ks fid N ops ops.toList = some l) (hme : m = (l.takeWhile (·.op.simple)).length) {ap : AI} (hap : l[m]? = some ap) (hapg : ap.g = none) (hapo : ap.op.isApp = true)
    (hlate : lateOk l (lates ops m) = true) (hdraw : drawOk ops (befores ops) l (m + 1) = true) {lg : Logs} {sm sp sn : SL}
    (hlog : logL G ic (l.take m) [] s = some (lg, sm)) (hpairs : pairsOk lg ((openPairs ops m).filter (mayClash l)) = true) (hst : stepL G ic ap sm = some sp)
    (hsl : sameSlots sp sm (lateTs l (lates ops m))) (hrw : lateRows lg sp sm (lates ops m)) (hpost : runL G ic (l.drop (m + 1)) sp = some sn)
    (hs : SimL N B ok0 w0 E C s a w) (hQ : ∀ a w, SimLX N B ok0 w0 E sn a w → Q .normal a w) : (Code.region id ops true).wp P Q a w := by
  have hll : l.length = ops.size := by simpa using (cOps_spec _ _ hl).1
  have hml : m < l.length := (List.getElem?_eq_some_iff.1 hap).1
  have hsimp0 : ∀ i ∈ l.take m, i.op.simple = true := fun i hi => by
    have e : l.take m = l.takeWhile (·.op.simple) := by
      calc l.take m = (l.takeWhile (·.op.simple) ++ l.dropWhile (·.op.simple)).take m := by rw [List.takeWhile_append_dropWhile]
        _ = l.takeWhile (·.op.simple) := by rw [hme]; exact List.take_left
    rw [e] at hi
    exact List.all_eq_true.1 (List.all_takeWhile (p := fun i : AI => i.op.simple) (l := l)) i hi
  obtain ⟨hord, hdr⟩ := drawOk_spec hdraw
  have hpget : ∀ {i : Nat} {y : AI}, (l.take m)[i]? = some y → i < m ∧ l[i]? = some y := fun {i y} hy => by
    rw [List.getElem?_take] at hy
    split at hy
    · exact ⟨by assumption, hy⟩
    · cases hy
  generalize hpe : l.take m = pre at *
  have hpl : pre.length = m := by rw [← hpe, List.length_take]; omega
  obtain ⟨es, g1, g2, g3, g4, _, _, g7⟩ := logL_steps pre [] s lg sm hsimp0 hlog
  have hsim : Sim N B ok0 w0 { E with R := s.reb } C s.den a { w with drawn := w.drawn + 1 } := hs.sim.same rfl (Below.refl B w).drew
  refine wp_region_any hP ?_
  have hbit : ∀ j, j < ops.size → ∀ i, m + 1 ≤ j → i < j → ((befores ops).getD j 0).testBit i = true := fun j hj i hi hij => by
    cases hc : ((befores ops).getD j 0).testBit i with
    | true => rfl
    | false => have := (hdr j hj i hij hc).1; omega
  have lxs : ∀ {T' : SL} {a : Act} {w : World}, T'.reb = s.reb → (∀ k ∈ T'.own, k ∈ s.own ∨ afind s.heap k = none) → SimX N B ok0 w0 { E with R := s.reb } T'.den a w → SimLX N B ok0 w0 E T' a w := fun {T' a w} hr ho hx => by
    obtain ⟨C', hx⟩ := hx
    refine ⟨C', ⟨?_, fun k hk => ?_⟩⟩
    · rw [hr]; exact hx
    · rcases ho k hk with h1 | h1
      · exact hs.own k h1
      · exact notD hs h1
  have hget0 : ∀ {p : Nat} {y : AI × Eff}, (pre.zip es)[p]? = some y → p < m ∧ pre[p]? = some y.1 ∧ es[p]? = some y.2 ∧ l[p]? = some y.1 := fun {p y} hy => by
    rw [List.getElem?_zip_eq_some] at hy
    obtain ⟨h1, h2⟩ := hy
    obtain ⟨h3, h4⟩ := hpget h1
    exact ⟨h3, h1, h2, h4⟩
  have hind0 : ∀ (x y : Nat × AI × Eff), (pre.zip es)[x.1]? = some x.2 → (pre.zip es)[y.1]? = some y.2 → x.1 < y.1 → ((befores ops).getD y.1 0).testBit x.1 = false → Ind x.2 y.2 := fun x y hx hy hxy hb => by
    obtain ⟨h1, h2, h3, h6⟩ := hget0 hx
    obtain ⟨i1, i2, i3, i6⟩ := hget0 hy
    obtain ⟨_, ax, ay, q1, q2, q3⟩ := hdr y.1 (by omega) x.1 hxy hb
    rw [h6] at q1
    rw [i6] at q2
    cases q1
    cases q2
    refine ⟨q3, ?_⟩
    obtain ⟨lx, k1, k2, k3, k4⟩ := g7 x.1 _ _ h3 h2
    obtain ⟨ly, m1, m2, m3, m4⟩ := g7 y.1 _ _ i3 i2
    have triv1 : ∀ z, apartKeys ([], []) z = true := fun z => by simp [apartKeys]
    have triv2 : ∀ z, apartKeys z ([], []) = true := fun z => by simp [apartKeys]
    cases hmc : mayClash l (x.1, y.1) with
    | true =>
      have hmem : (x.1, y.1) ∈ (openPairs ops m).filter (mayClash l) := by
        refine List.mem_filter.2 ⟨?_, hmc⟩
        simp only [openPairs, List.mem_flatMap, List.mem_map, List.mem_filter, List.mem_range]
        exact ⟨y.1, i1, x.1, ⟨hxy, by simp only [unordered, hb, Bool.not_false]⟩, rfl⟩
      obtain ⟨zx, zy, n1, n2, n3⟩ := pairsOk_spec hpairs _ hmem
      rw [List.length_nil, Nat.zero_add] at k1 m1
      simp only at n1 n2
      rw [k1] at n1
      rw [m1] at n2
      cases n1
      cases n2
      rcases k2 with k2 | k2
      · rw [k2]; exact triv1 _
      · rcases m2 with m2 | m2
        · rw [m2]; exact triv2 _
        · rw [k2, m2]; exact n3
    | false =>
      simp only [mayClash, h6, i6] at hmc
      cases hxm : x.2.1.op.mem with
      | false => rw [k3 hxm]; exact triv1 _
      | true =>
        cases hym : y.2.1.op.mem with
        | false => rw [m3 hym]; exact triv2 _
        | true =>
          rw [hxm, hym] at hmc
          simp only [Bool.and_self, Bool.true_and, Bool.or_eq_false_iff] at hmc
          refine apartKeys_iff.2 ⟨fun k hk => ?_, fun k hk => ?_⟩
          · rw [k4 hmc.1] at hk; simp at hk
          · rw [m4 hmc.2] at hk; simp at hk
  -- the append
  obtain ⟨kk, te, sz, by', xs, xy, hop⟩ : ∃ kk te sz by' xs xy, ap.op = .app kk te sz by' xs xy := by
    cases hop : ap.op with
    | app kk te sz by' xs xy => exact ⟨_, _, _, _, _, _, rfl⟩
    | _ => rw [hop] at hapo; cases hapo
  have hstep : ∀ t : SL, stepL G ic ap t = stepAppK (freshKey t.heap kk) te sz by' (t.den.ev xs) (t.den.ev xy) t ap.d := fun t => by
    simp only [stepL, hapg, stepGo, hop, stepApp]
  rw [hstep] at hst
  obtain ⟨g, φ, v, f1, f2, f3, f4⟩ := stepAppK_slots hst
  have hspd : sp.den = later ap.d v φ (afind sp.heap) sm.den := by
    obtain ⟨sl, hp, fz', ow, rb⟩ := sp
    simp only at f1 f3
    subst f1
    subst f3
    simp only [den_of, later, aget_putD]
    congr 1
    funext t
    split
    · rfl
    · exact f2 sm.slots t
  have hlm : ∀ {u : Nat}, u < m → ((befores ops).getD m 0).testBit u = false → u ∈ lates ops m := fun {u} hu hb => by
    simp only [lates, List.mem_filter, List.mem_range]
    exact ⟨hu, by simp only [unordered, hb, Bool.not_false]⟩
  have happ : ∀ (n : Nat) (rem : List (Nat × AI × Eff)) (listed : Array Bool) (S : St) (a : Act) (w : World), rem.length = n → listed.size = ops.size → Closed ops listed →
      (∀ j, j < ops.size → (listed.getD j false = false ↔ (j ∈ rem.map (·.1) ∨ m ≤ j))) → rem.Pairwise (fun x y => x.1 < y.1) → (∀ x ∈ rem, (pre.zip es)[x.1]? = some x.2) →
      Steps G (rem.map (·.2)) S sm.den → SimX N B ok0 w0 { E with R := s.reb } S a w → ∀ i, i ∈ Region.ready .any ops listed → i = m → wpOp P ops Q i (fun a' w' => wpAny P .any ops Q (n + (ops.size - (m + 1))) (listed.setIfInBounds i true) a' w') a w := by
    intro n rem listed S a w hn hsz hcl hlist hpw hget hst' hs' i hi him
    subst him
    obtain ⟨hi1, o, ho, hbind⟩ := mem_ready.1 hi
    have hin : i < ops.size := (Array.getElem?_eq_some_iff.1 ho).1
    have hbefore := closed_before hord hcl i i o (Nat.le_refl _) ho hbind
    have hU : ∀ x ∈ rem, x.1 < i ∧ x.1 ∈ lates ops i ∧ l[x.1]? = some x.2.1 ∧ x.2.1.apartS ap = true := fun x hx => by
      obtain ⟨h1, h2, h3, h4⟩ := hget0 (hget x hx)
      have hb : ((befores ops).getD i 0).testBit x.1 = false := by
        cases hc : ((befores ops).getD i 0).testBit x.1 with
        | false => rfl
        | true =>
          have h5 := hbefore x.1 h1 hc
          rw [(hlist x.1 (by omega)).2 (.inl (List.mem_map.2 ⟨x, hx, rfl⟩))] at h5
          cases h5
      obtain ⟨_, ax, ay, q1, q2, q3⟩ := hdr i hin x.1 h1 hb
      rw [h4] at q1
      rw [hap] at q2
      cases q1
      cases q2
      exact ⟨h1, hlm h1 hb, h4, q3⟩
    have hreads : ∀ z ∈ rem.map (·.2), z.1.op.reads = true := fun z hz => by
      obtain ⟨x, hx, rfl⟩ := List.mem_map.1 hz
      obtain ⟨h1, h2, h3, h4⟩ := hU x hx
      obtain ⟨y, k1, k2, _⟩ := lateOk_spec hlate h2
      rw [h3] at k1
      cases k1
      exact k2
    obtain ⟨w1, w2, w3⟩ := steps_keep hst' hreads
    have hts : ∀ x ∈ rem, ∀ t, t ∈ x.2.1.looks ∨ x.2.1.d = some t → sp.den.slot t = sm.den.slot t := fun x hx t ht => by
      obtain ⟨h1, h2, h3, h4⟩ := hU x hx
      refine sameSlots_spec hsl t ?_
      unfold lateTs
      refine List.mem_flatMap.2 ⟨x.1, h2, ?_⟩
      rw [h3]
      rcases ht with h | h
      · exact List.mem_append.2 (.inl h)
      · exact List.mem_append.2 (.inr (by simp [AI.dsts, h]))
    have hφ : ∀ t, ap.d ≠ some t → sp.den.slot t = sm.den.slot t → φ (sm.den.slot t) = sm.den.slot t := fun t h1 h2 => by
      rw [hspd] at h2
      simpa [later, h1] using h2
    have lift : Steps G (rem.map (·.2)) (later ap.d v φ (afind sp.heap) S) (later ap.d v φ (afind sp.heap) sm.den) := by
      refine steps_late hst' hreads (fun z hz => ?_) ?_
      · obtain ⟨x, hx, rfl⟩ := List.mem_map.1 hz
        obtain ⟨h1, h2, h3, h4⟩ := hU x hx
        obtain ⟨s1, s2⟩ := apartS_spec h4
        obtain ⟨y, k1, k2, k3, k4⟩ := lateOk_spec hlate h2
        rw [h3] at k1
        cases k1
        refine ⟨fun t ht => ⟨(s1 t ht).2, k3 t ht, hφ t (s1 t ht).2 (hts x hx t (.inr ht))⟩, fun t ht => ⟨fun e => s2 t e ht, hφ t (fun e => s2 t e ht) (hts x hx t (.inl ht))⟩, fun k hk => ?_⟩
        obtain ⟨_, q2, q3, _⟩ := hget0 (hget x hx)
        obtain ⟨lx, l1, l2, _, _⟩ := g7 x.1 _ _ q3 q2
        obtain ⟨ly, m1, m2⟩ := lateRows_spec hrw _ h2
        rw [List.length_nil, Nat.zero_add] at l1
        rw [l1] at m1
        cases m1
        rcases l2 with l2 | l2
        · have : x.2.2.acc = [] := congrArg Prod.fst l2
          rw [this] at hk
          simp at hk
        · refine m2 k ?_
          rw [← l2]
          exact hk
      · refine List.pairwise_map.2 (hpw.imp_of_mem fun {x y} hx hy hxy t ht => ?_)
        obtain ⟨h1, h2, h3, h4⟩ := hU x hx
        obtain ⟨i1, i2, i3, i4⟩ := hU y hy
        obtain ⟨x', k1, _, _, k4⟩ := lateOk_spec hlate h2
        rw [h3] at k1
        cases k1
        obtain ⟨y', j1, j2⟩ := k4 y.1 i2 hxy
        rw [i3] at j1
        cases j1
        exact j2 t ht
    rw [← hspd] at lift
    -- the state as lists
    obtain ⟨sl, hsl'⟩ : ∃ sl : List (Nat × AV), aget .undef sl = S.slot := by
      refine ⟨keepSlots S.slot (rem.flatMap fun x => x.2.1.dsts) ++ sm.slots, ?_⟩
      funext t
      rw [aget_keep_append]
      split
      · rfl
      · rename_i hnt
        refine w3 t fun z hz hzd => hnt ?_
        obtain ⟨x, hx, rfl⟩ := List.mem_map.1 hz
        exact List.mem_flatMap.2 ⟨x, hx, by simp [AI.dsts, hzd]⟩
    have hden : SL.den { sm with slots := sl } = S := by
      obtain ⟨S1, S2, S3⟩ := S
      simp only at hsl' w1 w2
      simp only [den_of, hsl']
      rw [← w1, ← w2]
      rfl
    have hev : ∀ x ∈ ap.op.axs, S.ev x = sm.den.ev x := fun x hx => by
      cases x with
      | c v => rfl
      | t n =>
        refine (w3 n fun z hz hzd => ?_).symm
        obtain ⟨y, hy, rfl⟩ := List.mem_map.1 hz
        obtain ⟨h1, h2, h3, h4⟩ := hU y hy
        refine ((apartS_spec h4).1 n hzd).1 ?_
        simp only [AI.looks, hapg]
        exact mem_slotsOf.2 hx
    have hst0 : stepL G ic ap { sm with slots := sl } = some { sp with slots := putD (g sl) ap.d v } := by
      rw [hstep, hden, hev xs (by simp [hop, AOp.axs]), hev xy (by simp [hop, AOp.axs])]
      exact f4 sl
    have hsp0 : SL.den { sp with slots := putD (g sl) ap.d v } = later ap.d v φ (afind sp.heap) S := by
      rw [← hden]
      simp only [den_of, later, aget_putD]
      have e3 : sp.frz = sm.frz := f3
      rw [e3]
      congr 1
      funext t
      split
      · rfl
      · exact f2 sl t
    obtain ⟨C0, hs0⟩ := lxs (T' := { sm with slots := sl }) g4 g3 (by rw [hden]; exact hs')
    obtain ⟨o', ho', hd, hc, hg, hN⟩ := opIs_of hl hap
    have hst1 : stepL G ic ⟨o'.dst, ap.g, ap.op⟩ { sm with slots := sl } = some { sp with slots := putD (g sl) ap.d v } := by rw [← hd]; exact hst0
    refine stepL_sound ho' hc hg hst1 hs0 hN hG hI fun a' w' hs1 => ?_
    obtain ⟨C1, hs1⟩ := hs1
    have hs2 := hs1.sim
    rw [hsp0] at hs2
    refine any_pre (m := i) (T := sp.den) (E := { E with R := sp.reb }) hG hord (by omega) (R := fun j => i + 1 ≤ j) (r := ops.size - (i + 1)) (fun j hj hRj k hk => ⟨by omega, hbit j hj k hRj (by omega)⟩) (fun listed' a'' w'' hsz' hcl' hlist' hx => ?_) n rem (listed.setIfInBounds i true) _ a' w' hn (by simpa using hsz) (closed_set hcl ho hbind) (fun j hj => ?_) hpw
      (fun x hx => ⟨(hU x hx).1, opIs_of hl (hU x hx).2.2.1⟩) (fun x hx y hy hxy hb => hind0 x y (hget x hx) (hget y hy) hxy hb) lift ⟨C1, hs2⟩
    · obtain ⟨C2, hx⟩ := hx
      exact any_post hG hI hord (m := i + 1) (fun j hj k hk hkj => hbit j hj k (by omega) hkj) hl hQ (ops.size - (i + 1)) (i + 1) listed' sp a'' w'' (by omega) (Nat.le_refl _) hsz' hcl' hlist' ⟨C2, ⟨hx, hs1.own⟩⟩ hpost
    · by_cases eji : j = i
      · subst eji
        have h1 : (listed.setIfInBounds j true).getD j false = true := by simp [hsz, hj]
        rw [h1]
        refine ⟨fun h => by (cases h), fun h => ?_⟩
        rcases h with h | h
        · obtain ⟨z, hz, hzj⟩ := List.mem_map.1 h
          have := (hU z hz).1
          omega
        · omega
      · rw [getD_set_ne false (Ne.symm eji), hlist j hj]
        constructor
        · rintro (h | h)
          · exact .inl h
          · exact .inr (by omega)
        · rintro (h | h)
          · exact .inl h
          · exact .inr (by omega)
  -- the main induction
  have main : ∀ (n : Nat) (rem : List (Nat × AI × Eff)) (listed : Array Bool) (S : St) (a : Act) (w : World), rem.length = n → listed.size = ops.size → Closed ops listed →
      (∀ j, j < ops.size → (listed.getD j false = false ↔ (j ∈ rem.map (·.1) ∨ m ≤ j))) → rem.Pairwise (fun x y => x.1 < y.1) → (∀ x ∈ rem, (pre.zip es)[x.1]? = some x.2) →
      Steps G (rem.map (·.2)) S sm.den → SimX N B ok0 w0 { E with R := s.reb } S a w → wpAny P .any ops Q (n + (ops.size - (m + 1) + 1)) listed a w := by
    intro n
    induction n with
    | zero =>
      intro rem listed S a w hn hsz hcl hlist hpw hget hst' hs'
      have hrem : rem = [] := List.eq_nil_of_length_eq_zero hn
      have hless : ∀ j, j < m → listed.getD j false = true := fun j hj => by
        cases hc : listed.getD j false with
        | true => rfl
        | false =>
          rcases (hlist j (by omega)).1 hc with h1 | h1
          · rw [hrem] at h1; simp at h1
          · omega
      have hum := (hlist m (by omega)).2 (.inr (Nat.le_refl _))
      rw [Nat.zero_add]
      refine ⟨fun hr => absurd (ready_least hord hsz (by omega) hum hless) (by rw [hr]; simp), fun i hi => ?_⟩
      obtain ⟨hi1, o, ho, hbind⟩ := mem_ready.1 hi
      have hin : i < ops.size := (Array.getElem?_eq_some_iff.1 ho).1
      have hun : listed.getD i false = false := by rw [← getD_listed (by omega) true false]; exact hi1
      have him : i = m := by
        rcases (hlist i hin).1 hun with h1 | h1
        · rw [hrem] at h1; simp at h1
        · rcases Nat.eq_or_lt_of_le h1 with h2 | h2
          · exact h2.symm
          · have := closed_before hord hcl i i o (Nat.le_refl _) ho hbind m h2 (hbit i hin m (by omega) h2)
            rw [hum] at this; cases this
      have := happ 0 rem listed S a w hn hsz hcl hlist hpw hget hst' hs' i hi him
      rwa [Nat.zero_add] at this
    | succ n ih =>
      intro rem listed S a w hn hsz hcl hlist hpw hget hst' hs'
      rw [show n + 1 + (ops.size - (m + 1) + 1) = (n + (ops.size - (m + 1) + 1)) + 1 by omega]
      obtain ⟨x0, r0, hrem⟩ : ∃ x0 r0, rem = x0 :: r0 := by cases rem with
        | nil => simp at hn
        | cons x r => exact ⟨x, r, rfl⟩
      have hx0 : x0 ∈ rem := by rw [hrem]; exact List.mem_cons_self
      have hx0m : x0.1 < m := (hget0 (hget x0 hx0)).1
      have hleast : ∀ j, j < x0.1 → listed.getD j false = true := fun j hj => by
        cases hc : listed.getD j false with
        | true => rfl
        | false =>
          rcases (hlist j (by omega)).1 hc with h1 | h1
          · obtain ⟨x, hx, rfl⟩ := List.mem_map.1 h1
            rw [hrem] at hx hpw
            rcases List.mem_cons.1 hx with rfl | hx
            · omega
            · have := (List.pairwise_cons.1 hpw).1 x hx; omega
          · omega
      have hun0 : listed.getD x0.1 false = false := (hlist x0.1 (by omega)).2 (.inl (List.mem_map.2 ⟨x0, hx0, rfl⟩))
      have hum : listed.getD m false = false := (hlist m (by omega)).2 (.inr (Nat.le_refl _))
      refine ⟨fun hr => absurd (ready_least hord hsz (by omega) hun0 hleast) (by rw [hr]; simp), fun i hi => ?_⟩
      by_cases him : i = m
      · have := happ (n + 1) rem listed S a w hn hsz hcl hlist hpw hget hst' hs' i hi him
        rw [show n + 1 + (ops.size - (m + 1)) = n + (ops.size - (m + 1) + 1) by omega] at this
        exact this
      obtain ⟨hi1, o, ho, hbind⟩ := mem_ready.1 hi
      have hin : i < ops.size := (Array.getElem?_eq_some_iff.1 ho).1
      have hun : listed.getD i false = false := by rw [← getD_listed (by omega) true false]; exact hi1
      have hbefore := closed_before hord hcl i i o (Nat.le_refl _) ho hbind
      have hnb : ∀ j, j < i → listed.getD j false = false → ((befores ops).getD i 0).testBit j = false := fun j hj hu => by
        cases hc : ((befores ops).getD i 0).testBit j with
        | false => rfl
        | true => have := hbefore j hj hc; rw [hu] at this; cases this
      have hmem : i ∈ rem.map (·.1) := by
        rcases (hlist i hin).1 hun with h1 | h1
        · exact h1
        · exfalso
          have h2 : m < i := by omega
          have h3 := hnb m h2 hum
          rw [hbit i hin m (by omega) h2] at h3
          cases h3
      obtain ⟨x, hx, hxi⟩ := List.mem_map.1 hmem
      have hxg := hget x hx
      have hilt : i < m := by rw [← hxi]; exact (hget0 hxg).1
      obtain ⟨xs', ys, hsplit⟩ := List.append_of_mem hx
      rw [hsplit, List.pairwise_append] at hpw
      obtain ⟨pw1, pw2, pw3⟩ := hpw
      have pw4 := List.pairwise_cons.1 pw2
      have hxs : ∀ y ∈ xs', y.1 < i := fun y hy => by have := pw3 y hy x List.mem_cons_self; omega
      have hys : ∀ y ∈ ys, i < y.1 := fun y hy => by have := pw4.1 y hy; omega
      have hst2 : Steps G (xs'.map (·.2) ++ (x.2.1, x.2.2) :: ys.map (·.2)) S sm.den := by
        have e : rem.map (·.2) = xs'.map (·.2) ++ (x.2.1, x.2.2) :: ys.map (·.2) := by rw [hsplit]; simp
        rw [e] at hst'
        exact hst'
      obtain ⟨b1, b2⟩ := bubble _ _ _ _ hst2 fun y hy => by
        obtain ⟨z, hz, rfl⟩ := List.mem_map.1 hy
        have hzr : z ∈ rem := by rw [hsplit]; exact List.mem_append.2 (.inl hz)
        have hlt : z.1 < x.1 := by rw [hxi]; exact hxs z hz
        refine hind0 z x (hget z hzr) hxg hlt ?_
        rw [hxi]
        have hz0 := (hget0 (hget z hzr)).1
        exact hnb z.1 (hxs z hz) ((hlist z.1 (by omega)).2 (.inl (List.mem_map.2 ⟨z, hzr, rfl⟩)))
      obtain ⟨C', hs'⟩ := hs'
      have hopx := opIs_of hl (hget0 hxg).2.2.2
      rw [hxi] at hopx
      refine stepEff_sound hG hopx b1 hs' fun a' w' hs2 => ?_
      have hsub : ∀ y, y ∈ xs' ++ ys → y ∈ rem := fun y hy => by
        rw [hsplit]
        rcases List.mem_append.1 hy with h1 | h1
        · exact List.mem_append.2 (.inl h1)
        · exact List.mem_append.2 (.inr (List.mem_cons_of_mem _ h1))
      refine ih (xs' ++ ys) (listed.setIfInBounds i true) _ a' w' (by rw [hsplit] at hn; simp at hn ⊢; omega) (by simpa using hsz) (closed_set hcl ho hbind) (fun j hj => ?_) ?_ (fun y hy => hget y (hsub y hy)) (by rw [List.map_append]; exact b2) hs2
      · by_cases eji : j = i
        · subst eji
          have h1 : (listed.setIfInBounds j true).getD j false = true := by simp [hsz, hj]
          rw [h1]
          refine ⟨fun h => by (cases h), fun h => ?_⟩
          rcases h with h | h
          · obtain ⟨z, hz, hzj⟩ := List.mem_map.1 h
            rcases List.mem_append.1 hz with h2 | h2
            · have := hxs z h2; omega
            · have := hys z h2; omega
          · omega
        · rw [getD_set_ne false (Ne.symm eji), hlist j hj, hsplit]
          have : j ≠ x.1 := by omega
          simp [this]
      · rw [List.pairwise_append]
        exact ⟨pw1, pw4.2, fun y hy z hz => pw3 y hy z (List.mem_cons_of_mem _ hz)⟩
  have := main pre.length ((List.range (pre.zip es).length).zip (pre.zip es)) (Array.replicate ops.size false) s.den a { w with drawn := w.drawn + 1 } (by simp [g1]) (by simp) (fun j o hj => by
      rw [Array.getD_eq_getD_getElem?] at hj
      simp only [Array.getElem?_replicate] at hj
      split at hj <;> simp at hj)
    (fun j hj => by
      have h1 : (Array.replicate ops.size false).getD j false = false := by rw [Array.getD_eq_getD_getElem?, Array.getElem?_replicate]; split <;> rfl
      rw [h1]
      refine ⟨fun _ => ?_, fun _ => rfl⟩
      have hzl : (pre.zip es).length = m := by simp [g1, hpl]
      rcases Nat.lt_or_ge j m with lt | ge
      · left
        rw [List.map_fst_zip (by simp)]
        exact List.mem_range.2 (by omega)
      · exact .inr ge)
    (by rw [List.range_eq_range']; exact pairwise_zip_range _ 0)
    (fun y hy => mem_zip_range hy)
    (by rw [List.map_snd_zip (by simp)]; exact g2) ⟨C, hsim⟩
  rw [hpl] at this
  rw [show ops.size = m + (ops.size - (m + 1) + 1) by omega]
  have e1 : m + (ops.size - (m + 1) + 1) = ops.size := by omega
  rw [e1] at this ⊢
  exact this

end
end Go.Ev

/-
  Where ways meet; the code as a whole.
-/
namespace Go.Ev
open Go Go.RowKit

section
variable {N B : Nat} {ok0 : Nat → Prop} {w0 : World} {E : Entry} {C : Conc} {s s' : SL} {a : Act} {w : World} {P : Program} {ks : Kinds} {fid : Nat} {G : Pure} {ic : Inl} {H : Nat → Option Obj} {F : Nat → Bool}

theorem aget_keepSlots (f : Nat → AV) : ∀ (l : List Nat) (t : Nat), aget .undef (keepSlots f l) t = f t ∨ aget .undef (keepSlots f l) t = .undef
  | [], t => .inr rfl
  | x :: r, t => by
    simp only [keepSlots, aget]
    split
    · rename_i e; subst e; exact .inl rfl
    · exact aget_keepSlots f r t

theorem afind_adel (ds : List Nat) : ∀ (heap : List (Nat × Obj)) (k : Nat), afind (adel heap ds) k = if k ∈ ds then none else afind heap k
  | [], k => by simp [adel, afind]
  | (x, o) :: r, k => by
    simp only [adel]
    split
    · rename_i hc
      rw [afind_adel ds r k]
      simp only [afind]
      split
      · rfl
      · rename_i hk
        rw [if_neg]
        rintro rfl
        exact hk (by simpa using hc)
    · rename_i hc
      simp only [afind]
      rw [afind_adel ds r k]
      by_cases e : x = k
      · subst e
        rw [if_pos rfl, if_pos rfl, if_neg (by simpa using hc)]
      · rw [if_neg e, if_neg e]

theorem mem_dropKeys {ds : List Nat} {k : Nat} : ∀ {l : List Nat}, k ∈ dropKeys ds l ↔ k ∈ l ∧ k ∉ ds
  | [] => by simp [dropKeys]
  | x :: r => by
    simp only [dropKeys]
    split
    · rename_i hc
      rw [mem_dropKeys (l := r)]
      have : x ∈ ds := by simpa using hc
      constructor
      · rintro ⟨h1, h2⟩; exact ⟨List.mem_cons_of_mem _ h1, h2⟩
      · rintro ⟨h1, h2⟩
        rcases List.mem_cons.1 h1 with rfl | h1
        · exact absurd this h2
        · exact ⟨h1, h2⟩
    · rename_i hc
      have hc' : x ∉ ds := by simpa using hc
      simp only [List.mem_cons, mem_dropKeys (l := r)]
      constructor
      · rintro (rfl | ⟨h1, h2⟩)
        · exact ⟨.inl rfl, hc'⟩
        · exact ⟨.inr h1, h2⟩
      · rintro ⟨rfl | h1, h2⟩
        · exact .inl rfl
        · exact .inr ⟨h1, h2⟩

theorem dropOk_spec {ds : List Nat} : ∀ {l : List (Nat × AV)}, dropOk ds l = true → ∀ t, ∀ k ∈ (aget .undef l t).keys, k ∉ ds
  | [], _, t, k, hk => by simp [aget, AV.keys] at hk
  | (x, v) :: r, h, t, k, hk => by
    simp only [dropOk, Bool.and_eq_true] at h
    simp only [aget] at hk
    split at hk
    · have := List.all_eq_true.1 h.1 k hk
      simpa using this
    · exact dropOk_spec h.2 t k hk

theorem dropOkH_spec {ds : List Nat} : ∀ {l : List (Nat × Obj)}, dropOkH ds l = true → ∀ k o, afind l k = some o → ∀ x ∈ o.refs, x ∉ ds
  | [], _, k, o, h, _, _ => by simp [afind] at h
  | (y, v) :: r, h, k, o, ho, x, hx => by
    simp only [dropOkH, Bool.and_eq_true] at h
    simp only [afind] at ho
    split at ho
    · cases ho
      have := List.all_eq_true.1 h.1 x hx
      simpa using this
    · exact dropOkH_spec h.2 k o ho x hx

theorem ownOk_spec {own : List Nat} {heap : List (Nat × Obj)} : ∀ {l : List Nat}, ownOk own heap l = true → ∀ k ∈ l, k ∈ own ∨ afind heap k = none
  | [], _, k, hk => by simp at hk
  | x :: r, h, k, hk => by
    simp only [ownOk, Bool.and_eq_true, Bool.or_eq_true] at h
    rcases List.mem_cons.1 hk with rfl | hk
    · rcases h.1 with h1 | h1
      · exact .inl (by simpa using h1)
      · exact .inr (by simpa using h1)
    · exact ownOk_spec h.2 k hk

/-- Rows are dropped. -/
theorem SimH.drop (h : SimH B ok0 w0 C H F w) {H' : Nat → Option Obj} {F' : Nat → Bool} {ds : List Nat} (hH : ∀ k, H' k = if k ∈ ds then none else H k) (hF : ∀ k, k ∉ ds → F' k = F k) (hr : ∀ k o, H' k = some o → ∀ x ∈ o.refs, x ∉ ds) :
    SimH B ok0 w0 C H' F' w ∧ ∀ b, okb B ok0 C H F w b → okb B ok0 C H' F' w b := by
  have inv : ∀ {k : Nat} {o : Obj}, H' k = some o → k ∉ ds ∧ H k = some o := fun {k o} hk => by
    rw [hH] at hk
    split at hk
    · cases hk
    · rename_i hn; exact ⟨hn, hk⟩
  have hok : ∀ b, okb B ok0 C H F w b → okb B ok0 C H' F' w b := fun b hb => ⟨hb.1, hb.2.1, fun k o L h1 h2 h3 => by
    obtain ⟨g1, g2⟩ := inv h1
    rw [hF k g1] at h2
    exact hb.2.2 k o L g2 h2 h3⟩
  refine ⟨⟨h.below, h.base, fun k o hk => (h.row k o (inv hk).2).mono hok (fun _ _ => rfl) rfl (fun _ _ => rfl) fun _ _ => rfl, fun k o L hk => h.blk k o L (inv hk).2, fun k k' o o' L L' h1 h2 => h.inj k k' o o' L L' (inv h1).2 (inv h2).2,
    fun k o x hk hx => ?_, h.up, fun k o L hk => h.okrow k o L (inv hk).2, h.keep⟩, hok⟩
  rw [hH, if_neg (hr k o hk x hx)]
  exact h.wf k o x (inv hk).2 hx

theorem adoptL_sound : ∀ (l : List (Nat × Nat × TypeId × Nat)) (s s' : SL), adoptL l s = some s' → SimLX N B ok0 w0 E s a w → SimLX N B ok0 w0 E s' a w
  | [], s, s', h, hs => by cases h; exact hs
  | (t, k, e, sz) :: r, s, s', h, hs => by
    simp only [adoptL] at h
    split at h
    · rename_i szn ht
      split at h
      · rename_i hk
        refine adoptL_sound r _ s' h ?_
        obtain ⟨C, hs⟩ := hs
        obtain ⟨ad1, ad2⟩ := hs.sim.h.adopt (k := k) hk e sz
        have dom : ∀ x, s.den.heap x ≠ none → setH s.den.heap k { sz := sz, ty := e, es := [], refs := [] } x ≠ none := fun x hx => by
          by_cases ex : x = k
          · subst ex; rw [setH_self]; simp
          · rw [setH_ne _ _ ex]; exact hx
        have hne : ∀ x, s.den.heap x ≠ none → setC C k none x = C x := fun x hx => setC_ne _ _ (by rintro rfl; exact hx hk)
        refine ⟨setC C k none, ⟨?_, fun x hx => ?_⟩⟩
        · have hput : aget .undef (aput s.slots t (.sl k 0 0)) = fun x => if t = x then .sl k 0 0 else aget .undef s.slots x := by funext x; exact aget_aput _ _ _ _ _
          rw [den_of, afind_aputF, hput]
          refine ⟨ad1, fun x => ?_, fun x y hy => ?_, hs.sim.defers, hs.sim.size, fun b hb => ⟨ad2 b (hs.sim.ent.1 b hb).1, (hs.sim.ent.1 b hb).2⟩, fun x hx => ⟨dom x (hs.sim.ent.2 x hx).1, fun hR => (hne x (hs.sim.ent.2 x hx).1).trans ((hs.sim.ent.2 x hx).2 hR)⟩⟩
          · simp only
            split
            · rename_i e1
              subst e1
              have hv := hs.sim.slot t
              rw [ht] at hv
              have h1 := hv.imm_inv
              generalize a.tmps.getD t undef = v at *
              cases h1
              exact .nilsl (setC_self _ _ _)
            · exact (hs.sim.slot x).mono ad2 (fun _ _ => rfl) fun y hy => hne y (hs.sim.wfs x y hy)
          · simp only at hy ⊢
            split at hy
            · simp [AV.keys] at hy; subst hy; rw [setH_self]; simp
            · exact dom y (hs.sim.wfs x y hy)
        · rcases List.mem_cons.1 hx with rfl | hx
          · exact notD hs hk
          · exact hs.own x hx
      · cases h
    · exact adoptL_sound r s s' h hs

theorem keepL_sound {kp : Keep} (h : keepL kp s = some s') (hs : SimLX N B ok0 w0 E s a w) : SimLX N B ok0 w0 E s' a w := by
  unfold keepL at h
  obtain ⟨C, hs⟩ := hs
  split at h
  · refine adoptL_sound kp.adopt _ s' h ⟨C, ⟨?_, hs.own⟩⟩
    show Sim N B ok0 w0 { E with R := s.reb } C { slot := aget .undef (keepSlots s.den.slot kp.slots), heap := afind s.heap, frz := fun k => s.frz.contains k } a w
    refine ⟨hs.sim.h, fun t => ?_, fun t k hk => ?_, hs.sim.defers, hs.sim.size, hs.sim.ent⟩
    · simp only
      rcases aget_keepSlots s.den.slot kp.slots t with e | e
      · rw [e]; exact hs.sim.slot t
      · rw [e]; exact .data (.undef _)
    · simp only at hk
      rcases aget_keepSlots s.den.slot kp.slots t with e | e
      · rw [e] at hk; exact hs.sim.wfs t k hk
      · rw [e] at hk; simp [AV.keys] at hk
  · rename_i d ds heq
    obtain ⟨⟨h1, h2, h3⟩, h4⟩ := of_ite h
    clear h
    refine adoptL_sound kp.adopt _ s' h4 ⟨C, ⟨?_, fun k hk => hs.own k (mem_dropKeys.1 hk).1⟩⟩
    show Sim N B ok0 w0 { E with R := s.reb } C { slot := aget .undef (keepSlots s.den.slot kp.slots), heap := afind (adel s.heap (d :: ds)), frz := fun k => (dropKeys (d :: ds) s.frz).contains k } a w
    obtain ⟨g1, g2⟩ := hs.sim.h.drop (H' := afind (adel s.heap (d :: ds))) (F' := fun k => (dropKeys (d :: ds) s.frz).contains k) (ds := d :: ds) (fun k => afind_adel _ _ k) (fun k hk => by
        show (dropKeys (d :: ds) s.frz).contains k = s.frz.contains k
        by_cases hc : k ∈ s.frz
        · have : k ∈ dropKeys (d :: ds) s.frz := mem_dropKeys.2 ⟨hc, hk⟩
          simp [hc, this]
        · have : k ∉ dropKeys (d :: ds) s.frz := fun h => hc (mem_dropKeys.1 h).1
          simp [hc, this]) (dropOkH_spec h3)
    refine ⟨g1, fun t => ?_, fun t k hk => ?_, hs.sim.defers, hs.sim.size, fun b hb => ⟨g2 b (hs.sim.ent.1 b hb).1, (hs.sim.ent.1 b hb).2⟩, fun k hk => ⟨?_, (hs.sim.ent.2 k hk).2⟩⟩
    · simp only
      rcases aget_keepSlots s.den.slot kp.slots t with e | e
      · rw [e]; exact (hs.sim.slot t).mono g2 (fun _ _ => rfl) fun _ _ => rfl
      · rw [e]; exact .data (.undef _)
    · simp only at hk ⊢
      rw [afind_adel, if_neg (dropOk_spec h2 t k hk)]
      rcases aget_keepSlots s.den.slot kp.slots t with e | e
      · rw [e] at hk; exact hs.sim.wfs t k hk
      · rw [e] at hk; simp [AV.keys] at hk
    · simp only
      rw [afind_adel, if_neg]
      · exact (hs.sim.ent.2 k hk).1
      · intro hm
        rcases ownOk_spec h1 k hm with q | q
        · exact hs.own k q hk
        · exact notD hs q hk

theorem keepO_sound {kp : Option Keep} (h : keepO kp s = some s') (hs : SimLX N B ok0 w0 E s a w) : SimLX N B ok0 w0 E s' a w := by
  cases kp with
  | none => cases h; exact hs
  | some kp => exact keepL_sound h hs

/-! ### The code -/

def outQ (Q : Exit → Act → World → Prop) : AExit → Act → World → Prop
  | .normal => Q .normal
  | .exit id => Q (.exit id)
  | .ret => Q .ret

theorem outO_inv {e e' : AExit} {x : Option SL} {s' : SL} (h : outO e x = some (e', s')) : e' = e ∧ x = some s' := by
  cases x with
  | none => cases h
  | some s => cases h; exact ⟨rfl, rfl⟩

theorem cReg2_inv {ops : Array Oper} {l : List AI} {m : Nat} {c : ACode} (h : cReg2 ops l m = some c) : ∃ ap, l[m]? = some ap ∧ ap.g = none ∧ ap.op.isApp = true ∧ lateOk l (lates ops m) = true ∧ drawOk ops (befores ops) l (m + 1) = true ∧
    c = .reg2 ((openPairs ops m).filter (mayClash l)) (l.take m) ap (l.drop (m + 1)) (lates ops m) (lateTs l (lates ops m)) := by
  unfold cReg2 at h
  split at h
  · rename_i ap h1
    obtain ⟨⟨h2, h3, h4, h5⟩, h6⟩ := of_ite h
    clear h
    cases h6
    exact ⟨ap, h1, h2, h3, h4, h5, rfl⟩
  · cases h

theorem cReg2_is {ops : Array Oper} {l : List AI} {m : Nat} {c : ACode} (h : cReg2 ops l m = some c) : ∃ a1 a2 a3 a4 a5 a6, c = .reg2 a1 a2 a3 a4 a5 a6 := by
  obtain ⟨ap, _, _, _, _, _, rfl⟩ := cReg2_inv h
  exact ⟨_, _, _, _, _, _, rfl⟩

theorem lateP_inv {ps : List (Nat × Nat)} {ap : AI} {post : List AI} {us ts : List Nat} {x : Option (Logs × SL)} {e : AExit} {s : SL} (h : lateP G ic ps ap post us ts x = some (e, s)) :
    ∃ lg sm sp, x = some (lg, sm) ∧ pairsOk lg ps = true ∧ stepL G ic ap sm = some sp ∧ sameSlots sp sm ts ∧ lateRows lg sp sm us ∧ e = .normal ∧ runL G ic post sp = some s := by
  unfold lateP at h
  split at h
  · rename_i lg sm
    obtain ⟨h1, h2⟩ := of_ite h
    clear h
    unfold lateO at h2
    split at h2
    · rename_i sp hsp
      split at h2
      · rename_i hh
        obtain ⟨rfl, h3⟩ := outO_inv h2
        exact ⟨lg, sm, sp, rfl, h1, hsp, hh.1, hh.2, rfl, h3⟩
      · cases h2
    · cases h2
  · cases h

theorem evalC_sound (hP : P.follows .mixedOrders = true) (hG : GoodG P ks G) (hI : InlSound P ic) (n : Nat) :
    ∀ (ac : ACode) (c : Code), cCode P ks fid N c = some ac.erase → ∀ (s s' : SL) (e : AExit) (a : Act) (w : World) (Q : Exit → Act → World → Prop), evalC G ic n ac s = some (e, s') → SimLX N B ok0 w0 E s a w →
      (∀ a w, SimLX N B ok0 w0 E s' a w → outQ Q e a w) → c.wp P Q a w := by
  intro ac
  induction ac with
  | skip =>
    intro c hc s s' e a w Q he hs hQ
    cases he
    have : c = .skip := by
      cases c
      case skip => rfl
      all_goals simp only [cCode, ACode.erase] at hc
      all_goals (repeat' split at hc)
      all_goals first | (cases hc; done) | (simp at hc; done) | (obtain ⟨_, _, _, _, _, _, hne⟩ := cReg2_is hc; cases hne; done)
    subst this
    exact wp_skip (hQ a w hs)
  | reg pairs pre post =>
    intro c hc s s' e a w Q he hs hQ
    simp only [ACode.erase] at hc
    cases c
    case region id ops draw =>
      simp only [cCode] at hc
      split at hc
      case h_2 => cases hc
      rename_i l hl
      obtain ⟨C, hs⟩ := hs
      split at hc
      · rename_i hd
        split at hc
        · rename_i hok
          simp only [Option.some.injEq, ACode.reg.injEq] at hc
          obtain ⟨rfl, rfl, rfl⟩ := hc
          simp only [evalC] at he
          split at he
          · rename_i sm hsm
            obtain ⟨rfl, hsn⟩ := outO_inv he
            rw [hd]
            exact region_draw hG hI hP hl hok hsm hsn hs hQ
          · cases he
        · obtain ⟨_, _, _, _, _, _, hne⟩ := cReg2_is hc
          cases hne
      · rename_i hd
        simp only [Option.some.injEq, ACode.reg.injEq] at hc
        obtain ⟨rfl, rfl, rfl⟩ := hc
        simp only [evalC] at he
        split at he
        · rename_i sm hsm
          obtain ⟨rfl, hsn⟩ := outO_inv he
          simp only [runL, Option.some.injEq] at hsn
          subst hsn
          have hd' : draw = false := by simpa using hd
          rw [hd']
          refine wp_region ?_
          rw [List.range_eq_range']
          exact runL_sound hG hI hl hQ ops.size 0 s a w (by omega) ⟨C, hs⟩ hsm
        · cases he
    all_goals simp only [cCode] at hc
    all_goals (repeat' split at hc)
    all_goals first | (cases hc; done) | (simp at hc; done) | (obtain ⟨_, _, _, _, _, _, hne⟩ := cReg2_is hc; cases hne; done)
  | reg2 pairs pre ap post us ts =>
    intro c hc s s' e a w Q he hs hQ
    simp only [ACode.erase] at hc
    cases c
    case region id ops draw =>
      simp only [cCode] at hc
      split at hc
      case h_2 => cases hc
      rename_i l hl
      obtain ⟨C, hs⟩ := hs
      split at hc
      · rename_i hd
        split at hc
        · cases hc
        · obtain ⟨ap, h1, h2, h3, h4, h5, h6⟩ := cReg2_inv hc
          simp only [ACode.reg2.injEq] at h6
          obtain ⟨rfl, rfl, rfl, rfl, rfl, rfl⟩ := h6
          simp only [evalC] at he
          obtain ⟨lg, sm, sp, r1, r2, r3, r4, r5, rfl, r6⟩ := lateP_inv he
          rw [hd]
          exact region_late hG hI hP hl rfl h1 h2 h3 h4 h5 r1 r2 r3 r4 r5 r6 hs hQ
      · cases hc
    all_goals simp only [cCode] at hc
    all_goals (repeat' split at hc)
    all_goals first | (cases hc; done) | (simp at hc; done)
  | seq x y ihx ihy =>
    intro c hc s s' e a w Q he hs hQ
    simp only [ACode.erase] at hc
    cases c
    case seq cx cy =>
      simp only [cCode] at hc
      split at hc
      · rename_i ax ay hx hy
        cases hc
        simp only [evalC] at he
        refine wp_seq ?_
        split at he
        · rename_i s1 hs1
          exact ihx cx hx s s1 .normal a w _ hs1 hs fun a w h1 => ihy cy hy s1 s' e a w Q he h1 hQ
        · rename_i hnn
          refine ihx cx hx s s' e a w _ he hs fun a w h1 => ?_
          have := hQ a w h1
          cases e with
          | normal => exact absurd he (hnn s')
          | exit id => exact this
          | ret => exact this
      · cases hc
    all_goals simp only [cCode] at hc
    all_goals (repeat' split at hc)
    all_goals first | (cases hc; done) | (simp at hc; done) | (obtain ⟨_, _, _, _, _, _, hne⟩ := cReg2_is hc; cases hne; done)
  | cond cx x y ihx ihy =>
    intro c hc s s' e a w Q he hs hQ
    simp only [ACode.erase] at hc
    cases c
    case cond c0 c1 c2 =>
      simp only [cCode] at hc
      split at hc
      · rename_i a0 a1 a2 h0 h1 h2
        simp only [Option.some.injEq, ACode.cond.injEq] at hc
        obtain ⟨rfl, rfl, rfl⟩ := hc
        simp only [evalC] at he
        split at he
        · rename_i t ht
          have hv : a.eval c0 = .bool t := by
            obtain ⟨C, hs⟩ := hs
            have := (hs.sim.ev h0).1
            rw [ht] at this
            exact this.bool_inv
          refine wp_cond hv ?_
          cases t with
          | true => exact ihx c1 h1 s s' e a w Q (by simpa using he) hs hQ
          | false => exact ihy c2 h2 s s' e a w Q (by simpa using he) hs hQ
        · cases he
      · cases hc
    all_goals simp only [cCode] at hc
    all_goals (repeat' split at hc)
    all_goals first | (cases hc; done) | (simp at hc; done) | (obtain ⟨_, _, _, _, _, _, hne⟩ := cReg2_is hc; cases hne; done)
  | block kp id x ih =>
    intro c hc s s' e a w Q he hs hQ
    simp only [ACode.erase] at hc
    cases c
    case block id0 c0 =>
      simp only [cCode, Option.map_eq_some_iff] at hc
      obtain ⟨ax, hax, h2⟩ := hc
      simp only [ACode.block.injEq, true_and] at h2
      obtain ⟨rfl, rfl⟩ := h2
      refine wp_block ?_
      simp only [evalC] at he
      cases hb : evalC G ic n x s with
      | none => rw [hb] at he; cases he
      | some r =>
        obtain ⟨e1, s1⟩ := r
        rw [hb] at he
        refine ih c0 hax s s1 e1 a w _ hb hs fun a w h1 => ?_
        cases e1 with
        | normal =>
          simp only [blockE] at he
          obtain ⟨rfl, hk⟩ := outO_inv he
          exact hQ a w (keepO_sound hk h1)
        | exit id' =>
          simp only [blockE] at he
          simp only [outQ, Exit.inBlock]
          split at he
          · rename_i hid
            obtain ⟨rfl, hk⟩ := outO_inv he
            rw [if_pos hid]
            exact hQ a w (keepO_sound hk h1)
          · rename_i hid
            cases he
            rw [if_neg hid]
            exact hQ a w h1
        | ret =>
          cases he
          exact hQ a w h1
    all_goals simp only [cCode] at hc
    all_goals (repeat' split at hc)
    all_goals first | (cases hc; done) | (simp at hc; done) | (obtain ⟨_, _, _, _, _, _, hne⟩ := cReg2_is hc; cases hne; done)
  | loop kp x ih =>
    intro c hc s s' e a w Q he hs hQ
    simp only [ACode.erase] at hc
    cases c
    case loop c0 =>
      simp only [cCode, Option.map_eq_some_iff] at hc
      obtain ⟨ax, hax, h2⟩ := hc
      simp only [ACode.loop.injEq, true_and] at h2
      subst h2
      simp only [evalC] at he
      split at he
      case h_2 => cases he
      rename_i s0 hs0
      refine wp_loop_rounds n ?_
      have key : ∀ (m : Nat) (s : SL) (a : Act) (w : World), iterF kp (evalC G ic n x) m s = some (e, s') → SimLX N B ok0 w0 E s a w → Code.rounds P c0 Q m a w := by
        intro m
        induction m with
        | zero => intro s a w h; cases h
        | succ m ihm =>
          intro s a w h hs
          rw [rounds_succ]
          simp only [iterF] at h
          split at h
          · rename_i s1 h1
            split at h
            · rename_i s2 h2
              exact ih c0 hax s s1 .normal a w _ h1 hs fun a w h3 => ihm s2 a w h (keepL_sound h2 h3)
            · cases h
          · rename_i hnn
            refine ih c0 hax s s' e a w _ h hs fun a w h1 => ?_
            have := hQ a w h1
            cases e with
            | normal => exact absurd h (hnn s')
            | exit id => exact this
            | ret => exact this
      exact key n s0 a w he (keepL_sound hs0 hs)
    all_goals simp only [cCode] at hc
    all_goals (repeat' split at hc)
    all_goals first | (cases hc; done) | (simp at hc; done) | (obtain ⟨_, _, _, _, _, _, hne⟩ := cReg2_is hc; cases hne; done)
  | exit id =>
    intro c hc s s' e a w Q he hs hQ
    cases he
    have : c = .exit id := by
      cases c
      case exit id' => simp only [cCode, ACode.erase, Option.some.injEq, ACode.exit.injEq] at hc; rw [hc]
      all_goals simp only [cCode, ACode.erase] at hc
      all_goals (repeat' split at hc)
      all_goals first | (cases hc; done) | (simp at hc; done) | (obtain ⟨_, _, _, _, _, _, hne⟩ := cReg2_is hc; cases hne; done)
    subst this
    exact wp_exit (hQ a w hs)
  | ret kp =>
    intro c hc s s' e a w Q he hs hQ
    have : c = .ret := by
      cases c
      case ret => rfl
      all_goals simp only [cCode, ACode.erase] at hc
      all_goals (repeat' split at hc)
      all_goals first | (cases hc; done) | (simp at hc; done) | (obtain ⟨_, _, _, _, _, _, hne⟩ := cReg2_is hc; cases hne; done)
    subst this
    simp only [evalC] at he
    obtain ⟨rfl, hk⟩ := outO_inv he
    exact wp_ret (hQ a w (keepO_sound hk hs))

end
end Go.Ev

/-
  Functions: what the evaluation gives is what the call gives.
-/
namespace Go.Ev
open Go Go.RowKit

section
variable {N B : Nat} {ok0 : Nat → Prop} {w0 : World} {E : Entry} {C : Conc} {s s' : SL} {S : St} {a : Act} {w : World} {P : Program} {ks : Kinds} {f : FuncId} {G : Pure} {ic : Inl} {H : Nat → Option Obj}

theorem isFun_inv {F : AFun} (h : IsFun P ks f F) : ∃ fn c, P.funcs[f]? = some fn ∧ fn.body = some c ∧ cCode P ks f fn.ntmps c = some F.code.erase ∧ F.results = fn.results.toList.map (cRes P) ∧ fn.results.toList.all (resOk P) = true ∧ (fn.name == "runtime.NumGoroutine") = false := by
  unfold IsFun at h
  rw [Option.map_eq_some_iff] at h
  obtain ⟨x, hx, he⟩ := h
  simp only [Prod.mk.injEq] at he
  obtain ⟨h1, h2⟩ := he
  unfold cFun at hx
  split at hx
  · rename_i fn hfn
    split at hx
    · rename_i c hc
      split at hx
      · rename_i ac hac
        obtain ⟨hh, hx1⟩ := of_ite hx
        clear hx
        cases hx1
        simp only at h1 h2
        exact ⟨fn, c, hfn, hc, by rw [hac, h1], h2.symm, hh.1, hh.2⟩
      · cases hx
    · cases hx
  · cases hx

theorem run_mapM_get {α : Type} (g : α → Sem Value) (w : World) : ∀ (l : List α) (vs : List Value), l.length = vs.length → (∀ (i : Nat) (x : α) (v : Value), l[i]? = some x → vs[i]? = some v → (g x).run P w = .ok v w) → (l.mapM g).run P w = .ok vs w
  | [], [], _, _ => by simp
  | x :: l, v :: vs, hl, h => by
    rw [List.mapM_cons]
    simp only [Sem.run_bind, h 0 x v rfl rfl, Result.andThen_ok, run_mapM_get g w l vs (by simpa using hl) (fun i y u hy hu => h (i + 1) y u (by simpa using hy) (by simpa using hu)), Sem.run_pure]
  | [], _ :: _, hl, _ => by simp at hl
  | _ :: _, [], hl, _ => by simp at hl

theorem resAll_spec {S : St} : ∀ {rs : List ARes} {vs : List AV}, resAll S rs = some vs → vs.length = rs.length ∧ ∀ (i : Nat) (r : ARes) (v : AV), rs[i]? = some r → vs[i]? = some v → resOf S r = some v
  | [], vs, h => by cases h; simp
  | r :: rs, vs, h => by
    simp only [resAll] at h
    split at h
    · rename_i v hv
      split at h
      · rename_i vs' hvs
        cases h
        obtain ⟨i1, i2⟩ := resAll_spec hvs
        refine ⟨by simp [i1], fun i x y hx hy => ?_⟩
        cases i with
        | zero => simp at hx hy; subst hx; subst hy; exact hv
        | succ i => exact i2 i x y (by simpa using hx) (by simpa using hy)
      · cases h
    · cases h

def packV (vs : List Value) : Value :=
  match vs with
  | [v] => v
  | vs => .tuple vs.toArray

/-- A list that reads as another. -/
def Reads (C : Conc) (ok : Nat → Prop) (w : World) (us : List AV) (vs : List Value) : Prop :=
  us.length = vs.length ∧ ∀ (j : Nat) (u : AV) (v : Value), us[j]? = some u → vs[j]? = some v → Rep C ok w u v

theorem choose_list {α β : Type} {R : α → β → Prop} : ∀ (l : List α), (∀ x ∈ l, ∃ y, R x y) → ∃ l' : List β, l'.length = l.length ∧ ∀ (i : Nat) (x : α) (y : β), l[i]? = some x → l'[i]? = some y → R x y
  | [], _ => ⟨[], rfl, by simp⟩
  | x :: l, h => by
    obtain ⟨y, hy⟩ := h x List.mem_cons_self
    obtain ⟨l', h1, h2⟩ := choose_list l fun z hz => h z (List.mem_cons_of_mem _ hz)
    refine ⟨y :: l', by simp [h1], fun i a b ha hb => ?_⟩
    cases i with
    | zero => simp at ha hb; subst ha; subst hb; exact hy
    | succ i => exact h2 i a b (by simpa using ha) (by simpa using hb)

theorem results_sound (hs : Sim N B ok0 w0 E C S a w) {fn : Func} (hok : fn.results.toList.all (resOk P) = true) {us : List AV} (hr : resAll S (fn.results.toList.map (cRes P)) = some us) :
    ∃ vs : List Value, (results fn a.tmps).run P w = .ok (packV vs) w ∧ Reads C (okb B ok0 C S.heap S.frz w) w us vs ∧ ∀ u ∈ us, ∀ k ∈ u.keys, S.heap k ≠ none := by
  obtain ⟨h1, h2⟩ := resAll_spec hr
  have hlen : us.length = fn.results.toList.length := by simpa using h1
  have one : ∀ (r : ResultVar) (u : AV), r ∈ fn.results.toList → resOf S (cRes P r) = some u → ∃ v, (match r with
      | .tmp t => pure (a.tmps.getD t undef)
      | .cell x t => do loadVar t (← asAddr (a.tmps.getD x undef)) : Sem Value).run P w = .ok v w ∧ Rep C (okb B ok0 C S.heap S.frz w) w u v ∧ ∀ k ∈ u.keys, S.heap k ≠ none := fun r u hm hu => by
    have hro := List.all_eq_true.1 hok r hm
    cases r with
    | tmp t =>
      simp only [cRes, resOf, Option.some.injEq] at hu
      subst hu
      exact ⟨_, rfl, hs.slot t, hs.wfs t⟩
    | cell x t =>
      simp only [resOk] at hro
      simp only [cRes, resOf] at hu
      cases hat : S.at (S.slot x) with
      | none => rw [hat] at hu; cases hu
      | some cs =>
        rw [hat] at hu
        obtain ⟨ad, hv, _, _⟩ := at_rep hs.h (hs.slot x) hat
        have hpt := hs.slot x
        rw [hv] at hpt
        obtain ⟨y, g1, g2, g3⟩ := s_load (P := P) (t := t) (r := u) hro hs.h hpt (by
          rw [hat]
          cases hl : loadN P t with
          | none =>
            rw [hl] at hu
            cases cs with
            | nil => cases hu
            | cons c r => exact hu
          | some n => rw [hl] at hu; exact hu)
        refine ⟨y, ?_, g2, g3⟩
        have : (Instr.loadAt t (.pointer (some ad))).run P w = (loadVar t ad).run P w := by simp [Instr.loadAt, Instr.sureAddr]
        rw [this] at g1
        show ((asAddr (a.tmps.getD x undef)) >>= fun ad => loadVar t ad).run P w = _
        rw [hv]
        simpa [asAddr] using g1
  obtain ⟨ps, p1, p2⟩ := choose_list (R := fun (x : ResultVar × AV) (v : Value) => (match x.1 with
      | .tmp t => pure (a.tmps.getD t undef)
      | .cell x t => do loadVar t (← asAddr (a.tmps.getD x undef)) : Sem Value).run P w = .ok v w ∧ Rep C (okb B ok0 C S.heap S.frz w) w x.2 v ∧ ∀ k ∈ x.2.keys, S.heap k ≠ none) (fn.results.toList.zip us) (fun x hx => by
        obtain ⟨i, hi⟩ := List.getElem?_of_mem hx
        rw [List.getElem?_zip_eq_some] at hi
        exact one x.1 x.2 (List.mem_of_getElem? hi.1) (h2 i _ _ (by rw [List.getElem?_map, hi.1]; rfl) hi.2))
  have hpl : ps.length = us.length := by rw [p1, List.length_zip]; omega
  refine ⟨ps, ?_, ⟨hpl.symm, fun j u v hu hv => ?_⟩, fun u hu k hk => ?_⟩
  · have hm := run_mapM_get (P := P) (fun r : ResultVar => (match r with
      | .tmp t => pure (a.tmps.getD t undef)
      | .cell x t => do loadVar t (← asAddr (a.tmps.getD x undef)) : Sem Value)) w fn.results.toList ps (by omega) (fun i x v hx hv => by
        have hi : i < us.length := by rw [← hpl]; exact (List.getElem?_eq_some_iff.1 hv).1
        exact (p2 i (x, us[i]) v (List.getElem?_zip_eq_some.2 ⟨hx, List.getElem?_eq_getElem hi⟩) hv).1)
    have hm' : Sem.run P (List.toArray <$> List.mapM (fun r : ResultVar => (match r with
      | .tmp t => pure (a.tmps.getD t undef)
      | .cell x t => do loadVar t (← asAddr (a.tmps.getD x undef)) : Sem Value)) fn.results.toList) w = .ok ps.toArray w := by rw [Sem.run_map, hm]; rfl
    unfold results
    rw [Array.mapM_eq_mapM_toList, Sem.run_bind]
    refine (congrArg (fun r => Result.andThen r _) hm').trans ?_
    simp only [Result.andThen_ok]
    cases ps with
    | nil => simp [packV]
    | cons p r =>
      cases r with
      | nil => simp [packV]
      | cons q r => simp [packV]
  · have hi : j < fn.results.toList.length := by rw [← hlen]; exact (List.getElem?_eq_some_iff.1 hu).1
    exact (p2 j (fn.results.toList[j], u) v (List.getElem?_zip_eq_some.2 ⟨List.getElem?_eq_getElem hi, hu⟩) hv).2.1
  · obtain ⟨j, hj⟩ := List.getElem?_of_mem hu
    have hi : j < fn.results.toList.length := by rw [← hlen]; exact (List.getElem?_eq_some_iff.1 hj).1
    have hpj : j < ps.length := by rw [hpl]; exact (List.getElem?_eq_some_iff.1 hj).1
    exact (p2 j (fn.results.toList[j], u) ps[j] (List.getElem?_zip_eq_some.2 ⟨List.getElem?_eq_getElem hi, hj⟩) (List.getElem?_eq_getElem hpj)).2.2 k hk

theorem aget_argSlots : ∀ (args : List AV) (p t : Nat), aget .undef (argSlots p args) t = if p ≤ t then args.getD (t - p) .undef else .undef
  | [], p, t => by simp [argSlots, aget]
  | v :: vs, p, t => by
    simp only [argSlots, aget]
    by_cases e : p = t
    · subst e; simp
    · rw [if_neg e, aget_argSlots vs (p + 1) t]
      by_cases h : p ≤ t
      · rw [if_pos h, if_pos (by omega)]
        rw [show t - p = (t - (p + 1)) + 1 by omega]
        simp
      · rw [if_neg h, if_neg (by omega)]

theorem endF_inv {rs : List ARes} {x : Out} {us : List AV} {s : SL} (h : endF rs x = some (us, s)) : (x = some (.normal, s) ∨ x = some (.ret, s)) ∧ resAll s.den rs = some us := by
  unfold endF at h
  split at h
  · split at h
    · rename_i hv; cases h; exact ⟨.inl rfl, hv⟩
    · cases h
  · split at h
    · rename_i hv; cases h; exact ⟨.inr rfl, hv⟩
    · cases h
  · cases h

/-- A call, evaluated in the caller's own memory. -/
theorem run_calls (hP : P.follows .mixedOrders = true) (hG : GoodG P ks G) (hI : InlSound P ic) {F : AFun} (hF : IsFun P ks f F) {n : Nat} {args : List AV} {heap : List (Nat × Obj)} {frz : List Nat}
    {us : List AV} {s : SL} (hrun : runF G ic n F args heap frz = some (us, s)) {vals : Array Value} (hs : SimH B ok0 w0 C (afind heap) (fun k => frz.contains k) w) (hlen : args.length = vals.size)
    (hrep : ∀ (j : Nat) (u : AV) (v : Value), args[j]? = some u → vals[j]? = some v → Rep C (okb B ok0 C (afind heap) (fun k => frz.contains k) w) w u v) (hkeys : ∀ u ∈ args, ∀ k ∈ u.keys, afind heap k ≠ none) :
    Calls P f vals w fun e w' => ∃ vs : List Value, e = .returned (packV vs) ∧ ∃ C' : Conc, SimH B ok0 w0 C' (afind s.heap) (fun k => s.frz.contains k) w' ∧
      (∀ k, afind heap k ≠ none → afind s.heap k ≠ none ∧ (k ∉ s.reb → C' k = C k)) ∧
      (∀ b, okb B ok0 C (afind heap) (fun k => frz.contains k) w b → okb B ok0 C' (afind s.heap) (fun k => s.frz.contains k) w' b ∧ w'.heap[b]? = w.heap[b]?) ∧
      Reads C' (okb B ok0 C' (afind s.heap) (fun k => s.frz.contains k) w') w' us vs ∧ (∀ u ∈ us, ∀ k ∈ u.keys, afind s.heap k ≠ none) ∧ ∀ k ∈ s.own, afind heap k = none := by
  obtain ⟨fn, c, hfn, hb, hc, hres, hrok, _⟩ := isFun_inv hF
  unfold runF at hrun
  obtain ⟨hend, hall⟩ := endF_inv hrun
  refine calls_of_wp hfn hb ?_
  have hsize : fn.ntmps ≤ (vals ++ Array.replicate (fn.ntmps - vals.size) undef).size := by simp; omega
  have init : SimLX fn.ntmps B ok0 w0 { ok := okb B ok0 C (afind heap) (fun k => frz.contains k) w, w := w, C := C, D := fun k => afind heap k ≠ none, R := [] } { slots := argSlots 0 args, heap := heap, frz := frz, own := [], reb := [] }
      { tmps := vals ++ Array.replicate (fn.ntmps - vals.size) undef, defers := [] } w := by
    refine ⟨C, ⟨⟨hs, fun t => ?_, fun t k hk => ?_, rfl, hsize, fun b hb => ⟨hb, rfl⟩, fun k hk => ⟨hk, fun _ => rfl⟩⟩, by simp⟩⟩
    · show Rep C _ w (aget .undef (argSlots 0 args) t) _
      rw [aget_argSlots, if_pos (Nat.zero_le _), Nat.sub_zero]
      rcases Nat.lt_or_ge t args.length with lt | ge
      · have e1 : args.getD t .undef = args[t] := by simp [lt]
        have e2 : (vals ++ Array.replicate (fn.ntmps - vals.size) undef).getD t undef = vals[t]'(by omega) := by
          rw [Array.getD_eq_getD_getElem?, Array.getElem?_append_left (by omega)]
          simp [hlen ▸ lt]
        rw [e1, e2]
        exact hrep t _ _ (List.getElem?_eq_getElem lt) (Array.getElem?_eq_getElem (by omega))
      · have e1 : args.getD t .undef = .undef := by simp [ge]
        rw [e1]
        exact .data (.undef _)
    · replace hk : k ∈ (aget .undef (argSlots 0 args) t).keys := hk
      rw [aget_argSlots, if_pos (Nat.zero_le _), Nat.sub_zero] at hk
      rcases Nat.lt_or_ge t args.length with lt | ge
      · have e1 : args.getD t .undef = args[t] := by simp [lt]
        rw [e1] at hk
        exact hkeys _ (List.getElem_mem lt) k hk
      · have e1 : args.getD t .undef = .undef := by simp [ge]
        rw [e1] at hk
        simp [AV.keys] at hk
  have post : ∀ (a : Act) (w' : World), SimLX fn.ntmps B ok0 w0 { ok := okb B ok0 C (afind heap) (fun k => frz.contains k) w, w := w, C := C, D := fun k => afind heap k ≠ none, R := [] } s a w' →
      a.defers = [] ∧ ∃ v, (results fn a.tmps).run P w' = .ok v w' ∧ ∃ vs : List Value, (Ending.returned v) = .returned (packV vs) ∧ ∃ C' : Conc, SimH B ok0 w0 C' (afind s.heap) (fun k => s.frz.contains k) w' ∧
      (∀ k, afind heap k ≠ none → afind s.heap k ≠ none ∧ (k ∉ s.reb → C' k = C k)) ∧
      (∀ b, okb B ok0 C (afind heap) (fun k => frz.contains k) w b → okb B ok0 C' (afind s.heap) (fun k => s.frz.contains k) w' b ∧ w'.heap[b]? = w.heap[b]?) ∧
      Reads C' (okb B ok0 C' (afind s.heap) (fun k => s.frz.contains k) w') w' us vs ∧ (∀ u ∈ us, ∀ k ∈ u.keys, afind s.heap k ≠ none) ∧ ∀ k ∈ s.own, afind heap k = none := fun a w' hx => by
    obtain ⟨C', hx⟩ := hx
    rw [hres] at hall
    obtain ⟨vs, r1, r2, r3⟩ := results_sound hx.sim hrok hall
    exact ⟨hx.sim.defers, _, r1, vs, rfl, C', hx.sim.h, hx.sim.ent.2, hx.sim.ent.1, r2, r3, fun k hk => Decidable.of_not_not (hx.own k hk)⟩
  rcases hend with he | he
  · exact evalC_sound hP hG hI n F.code c hc _ _ _ _ _ _ he init fun a w' hx => post a w' hx
  · exact evalC_sound hP hG hI n F.code c hc _ _ _ _ _ _ he init fun a w' hx => post a w' hx

/-- No callee is evaluated in place. -/
def noInl : Inl := fun _ _ _ _ => none

theorem noInl_sound : InlSound P noInl := fun _ _ _ _ _ h => by cases h

theorem packA_rep {C : Conc} {ok : Nat → Prop} {w : World} {us : List AV} {vs : List Value} (h : Reads C ok w us vs) : Rep C ok w (packA us) (packV vs) := by
  obtain ⟨h1, h2⟩ := h
  match us, vs, h1, h2 with
  | [], [], _, _ => exact .tup rfl (by simp)
  | [u], [v], _, h2 => exact h2 0 u v rfl rfl
  | u :: u' :: us, v :: v' :: vs, h1, h2 => exact .tup (by simpa using h1) fun j x y hx hy => h2 j x y hx (by simpa using hy)
  | [], _ :: _, h1, _ => simp at h1
  | _ :: _, [], h1, _ => simp at h1
  | [_], _ :: _ :: _, h1, _ => simp at h1
  | _ :: _ :: _, [_], h1, _ => simp at h1

theorem keys_packA {us : List AV} {k : Nat} (h : k ∈ (packA us).keys) : ∃ u ∈ us, k ∈ u.keys := by
  match us, h with
  | [], h => simp [packA, AV.keys, AV.keysL] at h
  | [u], h => exact ⟨u, by simp, h⟩
  | u :: u' :: us, h =>
    simp only [packA, AV.keys] at h
    obtain ⟨j, x, hj, hx⟩ := mem_keysL.1 h
    exact ⟨x, List.mem_of_getElem? hj, hx⟩

/-- Nothing at the start: the memory as the caller left it. -/
theorem simH_start (ok0 : Nat → Prop) (w : World) : SimH w.heap.size (upto ok0 w) w (fun _ => none) (fun _ => none) (fun _ => false) w :=
  ⟨Below.refl _ _, Nat.le_refl _, by simp, by simp, by simp, by simp, fun b hb hlt => absurd hlt (by omega), by simp, fun _ _ _ => rfl⟩

/-- A function that takes data and gives data. -/
theorem pureF_meets (hP : P.follows .mixedOrders = true) (hG : GoodG P ks G) (hI : InlSound P ic) {F : AFun} (hF : IsFun P ks f F) (g : List AV → Option PRes)
    (hg : ∀ args r, g args = some r → ∃ n, pureF G ic n F args = some r) : Meets P f g := by
  intro args r hr w vals ok0 hok hlen hrep
  obtain ⟨n, hn⟩ := hg args r hr
  unfold pureF at hn
  cases hrun : runF G ic n F args [] [] with
  | none => rw [hrun] at hn; cases hn
  | some x =>
    obtain ⟨us, s⟩ := x
    rw [hrun] at hn
    simp only [dataO] at hn
    split at hn
    case h_2 => cases hn
    rename_i us' fks hfz
    cases hn
    have h0 := simH_start ok0 w
    have hokb : ∀ b, ok0 b → okb w.heap.size (upto ok0 w) (fun _ => none) (afind []) (fun k => ([] : List Nat).contains k) w b := fun b hb => ⟨hok b hb, fun _ => hb, fun k o L h1 => by simp [afind] at h1⟩
    have hH : (afind ([] : List (Nat × Obj))) = fun _ => none := by funext k; rfl
    have hF0 : (fun k => ([] : List Nat).contains k) = fun _ => false := by funext k; rfl
    refine (run_calls (B := w.heap.size) (ok0 := upto ok0 w) (w0 := w) (C := fun _ => none) hP hG hI hF hrun (by rw [hH, hF0]; exact h0) hlen (fun j u v hu hv => .data ((hrep j u v hu hv).mono hokb fun _ _ => rfl)) (fun u hu k hk => by
      obtain ⟨j, hj⟩ := List.getElem?_of_mem hu
      have hlt : j < vals.size := by rw [← hlen]; exact (List.getElem?_eq_some_iff.1 hj).1
      rw [(hrep j u vals[j] hj (Array.getElem?_eq_getElem hlt)).keys] at hk
      simp at hk)).mono fun e w' he => ?_
    obtain ⟨vs, rfl, C', h1, _, _, h4, _, _⟩ := he
    refine ⟨_, rfl, fun _ => none, ⟨h1.below, h1.base, by simp [heapOf], by simp, by simp, by simp [heapOf], h1.up, by simp, h1.keep⟩, ?_, ?_⟩
    · obtain ⟨m1, m2⟩ := mapO_spec hfz
      refine packA_rep ⟨by rw [m1]; exact h4.1, fun j u v hu hv => ?_⟩
      have hlt : j < us.length := by rw [← m1]; exact (List.getElem?_eq_some_iff.1 hu).1
      obtain ⟨kx, g3, g4⟩ := m2 j _ u (List.getElem?_eq_getElem hlt) hu
      have := fz_data (S := s.den) (F' := fun _ => true) h1 (fun _ _ => rfl) g3 (fun _ _ => rfl) (h4.2 j _ v (List.getElem?_eq_getElem hlt) hv)
      exact .data (this.mono (fun b hb => ⟨hb.1, hb.2.1, fun k o L h => by simp [heapOf] at h⟩) fun _ _ => rfl)
    · intro k hk
      obtain ⟨u, hu, hku⟩ := keys_packA hk
      exfalso
      obtain ⟨m1, m2⟩ := mapO_spec hfz
      obtain ⟨j, hj⟩ := List.getElem?_of_mem hu
      have hlt : j < us.length := by rw [← m1]; exact (List.getElem?_eq_some_iff.1 hj).1
      have hlv : j < vs.length := by rw [← h4.1]; exact hlt
      obtain ⟨kx, g3, g4⟩ := m2 j _ u (List.getElem?_eq_getElem hlt) hj
      have := fz_data (S := s.den) (F' := fun _ => true) h1 (fun _ _ => rfl) g3 (fun _ _ => rfl) (h4.2 j _ vs[j] (List.getElem?_eq_getElem hlt) (List.getElem?_eq_getElem hlv))
      rw [this.keys] at hku
      simp at hku

end
end Go.Ev

/-
  Further kinds of callees: fresh rows, one row turned, evaluated in place; and the forgetting of nil.
-/
namespace Go.Ev
open Go Go.RowKit

section
variable {N B : Nat} {ok0 : Nat → Prop} {w0 : World} {C : Conc} {s s' : SL} {w : World} {P : Program} {ks : Kinds} {f : FuncId} {G : Pure} {ic : Inl}

/-! ### Fresh rows -/

mutual
/-- The row 'o' becomes the row 0. -/
def AV.dn (o : Nat) : AV → AV
  | .ptr x i off => .ptr (x - o) i off
  | .sl x i n => .sl (x - o) i n
  | .agg cs => .agg (AV.dnL o cs)
  | .tup cs => .tup (AV.dnL o cs)
  | .fn f cs => .fn f (AV.dnL o cs)
  | v => v
def AV.dnL (o : Nat) : List AV → List AV
  | [] => []
  | v :: vs => v.dn o :: AV.dnL o vs
end

theorem dnL_eq (o : Nat) : ∀ cs : List AV, AV.dnL o cs = cs.map (AV.dn o)
  | [] => rfl
  | v :: vs => by simp only [AV.dnL, List.map_cons, dnL_eq o vs]

section
mutual
theorem dn_id (o : Nat) : ∀ (u : AV), u.keys = [] → u.dn o = u
  | .agg cs, h => by simp only [AV.keys] at h; simp only [AV.dn, dnL_id o cs h]
  | .tup cs, h => by simp only [AV.keys] at h; simp only [AV.dn, dnL_id o cs h]
  | .fn f cs, h => by simp only [AV.keys] at h; simp only [AV.dn, dnL_id o cs h]
  | .ptr x i off, h => by simp [AV.keys] at h
  | .sl x i n, h => by simp [AV.keys] at h
  | .undef, h => rfl
  | .int _ _, h => rfl
  | .bool _, h => rfl
  | .str _, h => rfl
  | .nilp, h => rfl
  | .imm _ _ _, h => rfl
  | .ref _, h => rfl
theorem dnL_id (o : Nat) : ∀ (cs : List AV), AV.keysL cs = [] → AV.dnL o cs = cs
  | [], _ => rfl
  | v :: vs, h => by
    simp only [AV.keysL, List.append_eq_nil_iff] at h
    simp only [AV.dnL, dn_id o v h.1, dnL_id o vs h.2]
end
end

section
mutual
theorem keys_dn (o : Nat) : ∀ (u : AV), (u.dn o).keys = u.keys.map (· - o)
  | .agg cs => by simp only [AV.dn, AV.keys, keysL_dn o cs]
  | .tup cs => by simp only [AV.dn, AV.keys, keysL_dn o cs]
  | .fn f cs => by simp only [AV.dn, AV.keys, keysL_dn o cs]
  | .ptr x i off => rfl
  | .sl x i n => rfl
  | .undef => rfl
  | .int _ _ => rfl
  | .bool _ => rfl
  | .str _ => rfl
  | .nilp => rfl
  | .imm _ _ _ => rfl
  | .ref _ => rfl
theorem keysL_dn (o : Nat) : ∀ (cs : List AV), AV.keysL (AV.dnL o cs) = (AV.keysL cs).map (· - o)
  | [] => rfl
  | v :: vs => by simp only [AV.dnL, AV.keysL, keys_dn o v, keysL_dn o vs, List.map_append]
end
end

theorem Rep.dn {C C' : Conc} {ok : Nat → Prop} {w : World} {o : Nat} {u : AV} {v : Value} (h : Rep C ok w u v) : (∀ k ∈ u.keys, C' (k - o) = C k) → Rep C' ok w (u.dn o) v := by
  have sub : ∀ {cs : List AV} {vs : Array Value}, (∀ (j : Nat) (u : AV) (v : Value), cs[j]? = some u → vs[j]? = some v → (∀ k ∈ u.keys, C' (k - o) = C k) → Rep C' ok w (u.dn o) v) → (∀ k ∈ AV.keysL cs, C' (k - o) = C k) →
      ∀ (j : Nat) (u : AV) (v : Value), (AV.dnL o cs)[j]? = some u → vs[j]? = some v → Rep C' ok w u v := by
    intro cs vs ih hC j u v hj hv
    rw [dnL_eq, List.getElem?_map, Option.map_eq_some_iff] at hj
    obtain ⟨x, hx, rfl⟩ := hj
    exact ih j x v hx hv fun k hk => hC k (mem_keysL.2 ⟨j, x, hx, hk⟩)
  induction h with
  | data h => intro _; rw [dn_id o _ h.keys]; exact .data h
  | ptr h => exact fun hC => .ptr ((hC _ (by simp [AV.keys])).trans h)
  | sl h hn hc => exact fun hC => .sl ((hC _ (by simp [AV.keys])).trans h) hn hc
  | nilsl h => exact fun hC => .nilsl ((hC _ (by simp [AV.keys])).trans h)
  | agg hl _ ih => exact fun hC => .agg (by rw [dnL_eq]; simpa using hl) (sub ih (by simpa only [AV.keys] using hC))
  | tup hl _ ih => exact fun hC => .tup (by rw [dnL_eq]; simpa using hl) (sub ih (by simpa only [AV.keys] using hC))
  | fn hl _ ih => exact fun hC => .fn (by rw [dnL_eq]; simpa using hl) (sub ih (by simpa only [AV.keys] using hC))

theorem RowOk.rekey {C C' : Conc} {ok ok' : Nat → Prop} {w : World} {k k' : Nat} {o : Obj} (h : RowOk C ok w k o) (hok : ∀ b, ok b → ok' b) (hk : C' k' = C k) (hr : o.refs = []) : RowOk C' ok' w k' o := by
  refine ⟨h.cells, h.one, h.refs, ?_⟩
  have hp := h.place
  rw [hk]
  cases hL : C k with
  | none => rw [hL] at hp; exact hp
  | some L =>
    rw [hL] at hp
    obtain ⟨p1, p2, cur, p3, p4, p5, p6, p7⟩ := hp
    refine ⟨p1, p2, cur, p3, p4, p5, p6, fun i cs j u hi hj => ?_⟩
    obtain ⟨v, e1, e2⟩ := p7 i cs j u hi hj
    exact ⟨v, e1, e2.mono hok (fun _ _ => rfl) (by rw [noKeys h hr (List.mem_of_getElem? hi) hj]; simp)⟩

/-- One row alone, number 0. -/
def at0 (L : Option Loc) : Conc := fun k => if k = 0 then L else none
theorem at0_zero (L : Option Loc) : at0 L 0 = L := rfl

/-- The value of a call, with the one row that it names. -/
def freshO : Option (List AV × SL) → Option PRes
  | some (us, s) =>
    match AV.keysL us with
    | [] => dataO (some (us, s))
    | o :: r =>
      match afind s.heap o with
      | some ob => if r.all (· == o) = true ∧ ob.refs = [] ∧ s.frz.contains o = false then some { val := (packA us).dn o, objs := [ob] } else none
      | none => none
  | none => none

noncomputable def freshF (G : Pure) (ic : Inl) (n : Nat) (f : AFun) (args : List AV) : Option PRes := freshO (runF G ic n f args [] [])

theorem start_okb {ok0 : Nat → Prop} {w : World} (hok : ∀ b, ok0 b → b < w.heap.size) : ∀ b, ok0 b → okb w.heap.size (upto ok0 w) (fun _ => none) (afind []) (fun k => ([] : List Nat).contains k) w b :=
  fun b hb => ⟨hok b hb, fun _ => hb, fun k o L h1 => by simp [afind] at h1⟩

/-- A run of a function on data. -/
theorem run_data (hP : P.follows .mixedOrders = true) (hG : GoodG P ks G) (hI : InlSound P ic) {F : AFun} (hF : IsFun P ks f F) {n : Nat} {args : List AV} {us : List AV} {s : SL} (hrun : runF G ic n F args [] [] = some (us, s)) {w : World} {vals : Array Value} {ok0 : Nat → Prop}
    (hok : ∀ b, ok0 b → b < w.heap.size) (hlen : args.length = vals.size) (hrep : ∀ (j : Nat) (u : AV) (v : Value), args[j]? = some u → vals[j]? = some v → RepI ok0 w u v) :
    Calls P f vals w fun e w' => ∃ vs : List Value, e = .returned (packV vs) ∧ ∃ C' : Conc, SimH w.heap.size (upto ok0 w) w C' (afind s.heap) (fun k => s.frz.contains k) w' ∧
      Reads C' (okb w.heap.size (upto ok0 w) C' (afind s.heap) (fun k => s.frz.contains k) w') w' us vs ∧ ∀ u ∈ us, ∀ k ∈ u.keys, afind s.heap k ≠ none := by
  have h0 := simH_start ok0 w
  have hH : (afind ([] : List (Nat × Obj))) = fun _ => none := by funext k; rfl
  have hF0 : (fun k => ([] : List Nat).contains k) = fun _ => false := by funext k; rfl
  refine (run_calls (B := w.heap.size) (ok0 := upto ok0 w) (w0 := w) (C := fun _ => none) hP hG hI hF hrun (by rw [hH, hF0]; exact h0) hlen (fun j u v hu hv => .data ((hrep j u v hu hv).mono (start_okb hok) fun _ _ => rfl)) (fun u hu k hk => by
    obtain ⟨j, hj⟩ := List.getElem?_of_mem hu
    have hlt : j < vals.size := by rw [← hlen]; exact (List.getElem?_eq_some_iff.1 hj).1
    rw [(hrep j u vals[j] hj (Array.getElem?_eq_getElem hlt)).keys] at hk
    simp at hk)).mono fun e w' he => ?_
  obtain ⟨vs, rfl, C', h1, _, _, h4, h5, _⟩ := he
  exact ⟨vs, rfl, C', h1, h4, h5⟩

theorem gives_data {w w' : World} {ok0 : Nat → Prop} {us us' : List AV} {fks : List Nat} {s : SL} {vs : List Value} {C' : Conc} (h1 : SimH w.heap.size (upto ok0 w) w C' (afind s.heap) (fun k => s.frz.contains k) w')
    (h4 : Reads C' (okb w.heap.size (upto ok0 w) C' (afind s.heap) (fun k => s.frz.contains k) w') w' us vs) (hfz : fzL s.den.heap us = some (us', fks)) : Gives ok0 w { val := packA us' } (packV vs) w' := by
  obtain ⟨m1, m2⟩ := mapO_spec hfz
  have hI : ∀ (j : Nat) (u : AV) (v : Value), us'[j]? = some u → vs[j]? = some v → RepI (okb w.heap.size (upto ok0 w) (fun _ => none) (heapOf []) (fun _ => false) w') w' u v := fun j u v hu hv => by
    have hlt : j < us.length := by rw [← m1]; exact (List.getElem?_eq_some_iff.1 hu).1
    obtain ⟨kx, g3, g4⟩ := m2 j _ u (List.getElem?_eq_getElem hlt) hu
    have := fz_data (S := s.den) (F' := fun _ => true) h1 (fun _ _ => rfl) g3 (fun _ _ => rfl) (h4.2 j _ v (List.getElem?_eq_getElem hlt) hv)
    exact this.mono (fun b hb => ⟨hb.1, hb.2.1, fun k o L h => by simp [heapOf] at h⟩) fun _ _ => rfl
  refine ⟨fun _ => none, ⟨h1.below, h1.base, by simp [heapOf], by simp, by simp, by simp [heapOf], h1.up, by simp, h1.keep⟩, packA_rep ⟨by rw [m1]; exact h4.1, fun j u v hu hv => .data (hI j u v hu hv)⟩, fun k hk => ?_⟩
  obtain ⟨u, hu, hku⟩ := keys_packA hk
  exfalso
  obtain ⟨j, hj⟩ := List.getElem?_of_mem hu
  have hlv : j < vs.length := by rw [← h4.1, ← m1]; exact (List.getElem?_eq_some_iff.1 hj).1
  rw [(hI j u vs[j] hj (List.getElem?_eq_getElem hlv)).keys] at hku
  simp at hku

theorem keys_packA_eq (us : List AV) : (packA us).keys = AV.keysL us := by
  match us with
  | [] => rfl
  | [u] => simp [packA, AV.keysL]
  | u :: u' :: us => rfl

/-- A function that takes data and gives data, or one row of its own. -/
theorem freshF_meets (hP : P.follows .mixedOrders = true) (hG : GoodG P ks G) (hI : InlSound P ic) {F : AFun} (hF : IsFun P ks f F) (g : List AV → Option PRes) (hg : ∀ args r, g args = some r → ∃ n, freshF G ic n F args = some r) : Meets P f g := by
  intro args r hr w vals ok0 hok hlen hrep
  obtain ⟨n, hn⟩ := hg args r hr
  unfold freshF at hn
  cases hrun : runF G ic n F args [] [] with
  | none => rw [hrun] at hn; cases hn
  | some x =>
    obtain ⟨us, s⟩ := x
    rw [hrun] at hn
    refine (run_data hP hG hI hF hrun hok hlen hrep).mono fun e w' he => ?_
    obtain ⟨vs, rfl, C', h1, h4, h5⟩ := he
    refine ⟨_, rfl, ?_⟩
    simp only [freshO] at hn
    split at hn
    · simp only [dataO] at hn
      split at hn
      case h_2 => cases hn
      rename_i us' fks hfz
      cases hn
      exact gives_data h1 h4 hfz
    · rename_i o rest hkeys
      split at hn
      case h_2 => cases hn
      rename_i ob hob
      obtain ⟨⟨q1, q2, q3⟩, hn1⟩ := of_ite hn
      clear hn
      cases hn1
      have hall : ∀ k ∈ (packA us).keys, k = o := fun k hk => by
        rw [keys_packA_eq, hkeys] at hk
        rcases List.mem_cons.1 hk with rfl | hk
        · rfl
        · simpa using List.all_eq_true.1 q1 k hk
      have hH0 : ∀ k o1, heapOf [ob] k = some o1 → k = 0 ∧ o1 = ob := fun k o1 h => by
        cases k with
        | zero => simp [heapOf] at h; exact ⟨rfl, h.symm⟩
        | succ k => simp [heapOf] at h
      have hok' : ∀ b, okb w.heap.size (upto ok0 w) C' (afind s.heap) (fun k => s.frz.contains k) w' b → okb w.heap.size (upto ok0 w) (at0 (C' o)) (heapOf [ob]) (fun _ => false) w' b := fun b hb =>
        ⟨hb.1, hb.2.1, fun k o1 L e1 _ e3 => by
          obtain ⟨rfl, rfl⟩ := hH0 k o1 e1
          rw [at0_zero] at e3
          exact hb.2.2 o o1 L hob q3 e3⟩
      refine ⟨at0 (C' o), ⟨h1.below, h1.base, fun k o1 hk => ?_, fun k o1 L hk hL => ?_, fun k k' o1 o2 L L' e1 e2 _ _ _ => ?_, fun k o1 x hk hx => ?_, h1.up, fun k o1 L hk hL => ?_, h1.keep⟩, ?_, fun k hk => ?_⟩
      · obtain ⟨rfl, rfl⟩ := hH0 k o1 hk
        exact (h1.row o o1 hob).rekey hok' rfl q2
      · obtain ⟨rfl, rfl⟩ := hH0 k o1 hk
        rw [at0_zero] at hL
        exact h1.blk o o1 L hob hL
      · rw [(hH0 k o1 e1).1, (hH0 k' o2 e2).1]
      · obtain ⟨rfl, rfl⟩ := hH0 k o1 hk
        rw [q2] at hx; simp at hx
      · obtain ⟨rfl, rfl⟩ := hH0 k o1 hk
        rw [at0_zero] at hL
        exact h1.okrow o o1 L hob hL
      · refine ((packA_rep h4).dn (C' := at0 (C' o)) (o := o) fun k hk => ?_).mono hok' (fun _ _ => rfl) fun _ _ => rfl
        rw [hall k hk, Nat.sub_self, at0_zero]
      · rw [keys_dn] at hk
        obtain ⟨x, hx, rfl⟩ := List.mem_map.1 hk
        rw [hall x hx, Nat.sub_self]
        simp [heapOf]

/-! ### One row turned -/

def updO (len : Nat) : Option (List AV × SL) → Option PRes
  | some (us, s) =>
    match afind s.heap 0 with
    | some ob =>
      if s.reb = [] ∧ ob.refs = [] ∧ s.frz.contains 0 = false ∧ ob.es.length = len then
        match fzL s.den.heap us with
        | some (us', fks) => if fks.contains 0 = false then some { val := packA us', objs := [ob] } else none
        | none => none
      else none
    | none => none
  | none => none

noncomputable def updF (G : Pure) (ic : Inl) (n : Nat) (f : AFun) (p : Nat) (ty : TypeId) (args : List AV) : Option PRes :=
  match args[p]? with
  | some (.imm false sz es) => updO es.length (runF G ic n f (args.set p (.sl 0 0 es.length)) [(0, { sz := sz, ty := ty, es := es, refs := [] })] [])
  | _ => none

theorem updF_meets (hP : P.follows .mixedOrders = true) (hG : GoodG P ks G) (hI : InlSound P ic) {F : AFun} (hF : IsFun P ks f F) {p : Nat} {ty : TypeId} (g : List AV → Option PRes) (hg : ∀ args r, g args = some r → ∃ n, updF G ic n F p ty args = some r) : MeetsU P f p ty g := by
  intro args r hr w vals ok0 L es hty hat hok hlen hp hvp hrep
  obtain ⟨n, hn⟩ := hg args r hr
  unfold updF at hn
  rw [hp] at hn
  simp only at hn
  obtain ⟨r1, r2, cur, r3, r4, r5, r6, r7⟩ := hat
  have hLlt : L.block < w.heap.size := (Array.getElem?_eq_some_iff.1 r3).1
  cases hrun : runF G ic n F (args.set p (.sl 0 0 es.length)) [(0, { sz := L.sz, ty := ty, es := es, refs := [] })] [] with
  | none => rw [hrun] at hn; cases hn
  | some x =>
    obtain ⟨us, s⟩ := x
    rw [hrun] at hn
    simp only [updO] at hn
    split at hn
    case h_2 => cases hn
    rename_i ob1 hob1
    obtain ⟨⟨q1, q2, q3, q4⟩, hn1⟩ := of_ite hn
    clear hn
    split at hn1
    case h_2 => cases hn1
    rename_i us' fks hfz
    obtain ⟨q5, hn2⟩ := of_ite hn1
    clear hn1
    cases hn2
    have hH0 : ∀ (k : Nat) (o1 : Obj), afind [(0, ({ sz := L.sz, ty := ty, es := es, refs := [] } : Obj))] k = some o1 → k = 0 ∧ o1 = { sz := L.sz, ty := ty, es := es, refs := [] } := fun k o1 h => by
      simp only [afind] at h
      split at h
      · rename_i e; cases h; exact ⟨e.symm, rfl⟩
      · cases h
    have hok1 : ∀ b, ok0 b → okb L.block (fun b => ok0 b ∨ w.heap.size ≤ b ∨ b = L.block) (at0 (some L)) (afind [(0, { sz := L.sz, ty := ty, es := es, refs := [] })]) (fun k => ([] : List Nat).contains k) w b := fun b hb =>
      ⟨(hok b hb).1, .inl hb, fun k o1 L1 e1 _ e3 => by
        obtain ⟨rfl, rfl⟩ := hH0 k o1 e1
        rw [at0_zero] at e3
        cases e3
        exact fun e => (hok b hb).2 e.symm⟩
    have hstart : SimH L.block (fun b => ok0 b ∨ w.heap.size ≤ b ∨ b = L.block) w (at0 (some L)) (afind [(0, { sz := L.sz, ty := ty, es := es, refs := [] })]) (fun k => ([] : List Nat).contains k) w := by
      refine ⟨Below.refl _ _, Nat.le_of_lt hLlt, fun k o1 hk => ?_, fun k o1 L1 hk hL => ?_, fun k k' o1 o2 L1 L2 e1 e2 _ _ _ => ?_, fun k o1 x hk hx => ?_, fun b hb => .inr (.inl hb), fun k o1 L1 hk hL => ?_, fun _ _ _ => rfl⟩
      · obtain ⟨rfl, rfl⟩ := hH0 k o1 hk
        refine ⟨r1, r2, fun cs hcs x hx => ?_, ?_⟩
        · exfalso
          obtain ⟨i, hi⟩ := List.getElem?_of_mem hcs
          obtain ⟨j, u, hj, hku⟩ := mem_keysL.1 hx
          obtain ⟨v, _, e2⟩ := r7 i cs j u hi hj
          rw [e2.keys] at hku
          simp at hku
        · rw [at0_zero]
          refine ⟨rfl, hty, cur, r3, r4, r5, r6, fun i cs j u hi hj => ?_⟩
          obtain ⟨v, e1, e2⟩ := r7 i cs j u hi hj
          exact ⟨v, e1, .data (e2.mono hok1 fun _ _ => rfl)⟩
      · obtain ⟨rfl, rfl⟩ := hH0 k o1 hk
        rw [at0_zero] at hL; cases hL; exact Nat.le_refl _
      · rw [(hH0 k o1 e1).1, (hH0 k' o2 e2).1]
      · obtain ⟨rfl, rfl⟩ := hH0 k o1 hk
        simp at hx
      · obtain ⟨rfl, rfl⟩ := hH0 k o1 hk
        rw [at0_zero] at hL; cases hL; exact .inr (.inr rfl)
    have hplt : p < args.length := (List.getElem?_eq_some_iff.1 hp).1
    have hsetp : ∀ (j : Nat) (u : AV), (args.set p (.sl 0 0 es.length))[j]? = some u → (j = p ∧ u = .sl 0 0 es.length) ∨ (j ≠ p ∧ args[j]? = some u) := fun j u hj => by
      by_cases e : j = p
      · subst e; rw [List.getElem?_set_self hplt] at hj; cases hj; exact .inl ⟨rfl, rfl⟩
      · rw [List.getElem?_set_ne (Ne.symm e)] at hj; exact .inr ⟨e, hj⟩
    refine (run_calls (B := L.block) (w0 := w) hP hG hI hF hrun hstart (by rw [List.length_set]; exact hlen) (fun j u v hu hv => ?_) (fun u hu k hk => ?_)).mono fun e w' he => ?_
    · rcases hsetp j u hu with ⟨rfl, rfl⟩ | ⟨hne, hu⟩
      · rw [hvp] at hv
        cases hv
        have := Rep.sl (C := at0 (some L)) (ok := okb L.block (fun b => ok0 b ∨ w.heap.size ≤ b ∨ b = L.block) (at0 (some L)) (afind [(0, { sz := L.sz, ty := ty, es := es, refs := [] })]) (fun k => ([] : List Nat).contains k) w)
          (w := w) (o := 0) (i := 0) (n := es.length) (c := L.cap) (L := L) rfl r5 (by simp)
        simpa using this
      · exact .data ((hrep j u v hne hu hv).mono hok1 fun _ _ => rfl)
    · obtain ⟨j, hj⟩ := List.getElem?_of_mem hu
      rcases hsetp j u hj with ⟨rfl, rfl⟩ | ⟨hne, hu⟩
      · simp [AV.keys] at hk; subst hk; simp [afind]
      · have hlt : j < vals.size := by rw [← hlen]; exact (List.getElem?_eq_some_iff.1 hu).1
        rw [(hrep j u vals[j] hne hu (Array.getElem?_eq_getElem hlt)).keys] at hk
        simp at hk
    · obtain ⟨vs, rfl, C', h1, h2, h3, h4, h5, _⟩ := he
      have hC0 : C' 0 = some L := by
        have := (h2 0 (by simp [afind])).2 (by rw [q1]; simp)
        rw [this]; rfl
      have hrow := h1.row 0 ob1 hob1
      have hpl := hrow.place
      rw [hC0] at hpl
      obtain ⟨p1, p2, cur', p3, p4, p5, p6, p7⟩ := hpl
      obtain ⟨m1, m2⟩ := mapO_spec hfz
      have hI' : ∀ (j : Nat) (u : AV) (v : Value), us'[j]? = some u → vs[j]? = some v → RepI (okb L.block (fun b => ok0 b ∨ w.heap.size ≤ b ∨ b = L.block) C' (afind s.heap) (fun k => fks.contains k || s.frz.contains k) w') w' u v := fun j u v hu hv => by
        have hlt : j < us.length := by rw [← m1]; exact (List.getElem?_eq_some_iff.1 hu).1
        obtain ⟨kx, g3, g4⟩ := m2 j _ u (List.getElem?_eq_getElem hlt) hu
        exact fz_data (S := s.den) h1 (fun k hk => by show (fks.contains k || s.frz.contains k) = true; rw [show s.frz.contains k = true from hk, Bool.or_true]) g3 (fun k hk => by simp [g4 k hk]) (h4.2 j _ v (List.getElem?_eq_getElem hlt) hv)
      obtain ⟨_, hfok⟩ := h1.freeze (F' := fun k => fks.contains k || s.frz.contains k) (fun k hk => by show (fks.contains k || s.frz.contains k) = true; rw [show s.frz.contains k = true from hk, Bool.or_true])
      refine ⟨_, ob1, okb L.block (fun b => ok0 b ∨ w.heap.size ≤ b ∨ b = L.block) C' (afind s.heap) (fun k => fks.contains k || s.frz.contains k) w', rfl, rfl, q4, h1.below, fun b hb hne => ?_, fun b hb => ⟨hb.1, fun e => ?_, fun hlt => ?_⟩,
        ⟨fun cs hcs => by rw [p1]; exact hrow.cells cs hcs, hrow.one, cur', p3, p4, p5, p6, fun i cs j u hi hj => ?_⟩, packA_rep ⟨by rw [m1]; exact h4.1, fun j u v hu hv => .data (hI' j u v hu hv)⟩, ?_⟩
      · by_cases hb0 : ok0 b
        · exact (h3 b (hok1 b hb0)).2
        · refine h1.keep b hb ?_
          rintro (h | h | h)
          · exact hb0 h
          · omega
          · exact hne h
      · exact hb.2.2 0 ob1 L hob1 (by simp only [q5, q3, Bool.or_self]) hC0 e.symm
      · rcases hb.2.1 with h | h | h
        · exact h
        · omega
        · exact absurd h.symm (hb.2.2 0 ob1 L hob1 (by simp only [q5, q3, Bool.or_self]) hC0)
      · obtain ⟨v, e1, e2⟩ := p7 i cs j u hi hj
        have hk := noKeys hrow q2 (List.mem_of_getElem? hi) hj
        exact ⟨v, e1, (e2.toI hk (hrow.one cs (List.mem_of_getElem? hi) u (List.mem_of_getElem? hj))).mono hfok fun _ _ => rfl⟩
      · rw [keys_packA_eq]
        refine List.eq_nil_iff_forall_not_mem.2 fun k hk => ?_
        obtain ⟨j, u, hj, hku⟩ := mem_keysL.1 hk
        have hlv : j < vs.length := by rw [← h4.1, ← m1]; exact (List.getElem?_eq_some_iff.1 hj).1
        rw [(hI' j u vs[j] hj (List.getElem?_eq_getElem hlv)).keys] at hku
        simp at hku

/-! ### Evaluated in place -/

/-! ### Nil is forgotten -/

mutual
def AV.weak : AV → AV
  | .imm _ sz es => .imm false sz (AV.weakLL es)
  | .ref cs => .ref (AV.weakL cs)
  | .agg cs => .agg (AV.weakL cs)
  | .tup cs => .tup (AV.weakL cs)
  | .fn f cs => .fn f (AV.weakL cs)
  | v => v
def AV.weakL : List AV → List AV
  | [] => []
  | v :: vs => v.weak :: AV.weakL vs
def AV.weakLL : List (List AV) → List (List AV)
  | [] => []
  | v :: vs => AV.weakL v :: AV.weakLL vs
end

theorem weakL_eq : ∀ cs : List AV, AV.weakL cs = cs.map AV.weak
  | [] => rfl
  | v :: vs => by simp only [AV.weakL, List.map_cons, weakL_eq vs]
theorem weakLL_eq : ∀ es : List (List AV), AV.weakLL es = es.map AV.weakL
  | [] => rfl
  | v :: vs => by simp only [AV.weakLL, List.map_cons, weakLL_eq vs]

theorem RepI.weak {ok : Nat → Prop} {w : World} {u : AV} {v : Value} (h : RepI ok w u v) : RepI ok w u.weak v := by
  induction h with
  | undef v => exact .undef v
  | int k n => exact .int k n
  | bool b => exact .bool b
  | str s => exact .str s
  | nilp => exact .nilp
  | nils sz => exact .imm ⟨0, 0, none⟩ (fun _ _ => Go.undef) (by simp [AV.weakLL]) (by simp [AV.weakLL]) (by simp [AV.weakLL]) (by simp [AV.weakLL]) (by simp [AV.weakLL]) (by simp [AV.weakLL])
  | imm ad vs hn hc hA hsz hcell hrep ih =>
    simp only [AV.weak, weakLL_eq]
    refine .imm ad vs (by simpa using hn) (by simpa using hc) (fun hne => hA (by simpa using hne)) (fun cs hcs => ?_) (fun i cs j u hi hj => ?_) fun i cs j u hi hj => ?_
    · obtain ⟨c0, hc0, rfl⟩ := List.mem_map.1 hcs
      rw [weakL_eq, List.length_map]; exact hsz c0 hc0
    · rw [List.getElem?_map, Option.map_eq_some_iff] at hi
      obtain ⟨c0, hc0, rfl⟩ := hi
      rw [weakL_eq, List.getElem?_map, Option.map_eq_some_iff] at hj
      obtain ⟨u0, hu0, rfl⟩ := hj
      exact hcell i c0 j u0 hc0 hu0
    · rw [List.getElem?_map, Option.map_eq_some_iff] at hi
      obtain ⟨c0, hc0, rfl⟩ := hi
      rw [weakL_eq, List.getElem?_map, Option.map_eq_some_iff] at hj
      obtain ⟨u0, hu0, rfl⟩ := hj
      exact ih i c0 j u0 hc0 hu0
  | ref vs hok hcell hrep ih =>
    simp only [AV.weak, weakL_eq]
    refine .ref vs hok (fun j u hj => ?_) fun j u hj => ?_
    · rw [List.getElem?_map, Option.map_eq_some_iff] at hj
      obtain ⟨u0, hu0, rfl⟩ := hj
      exact hcell j u0 hu0
    · rw [List.getElem?_map, Option.map_eq_some_iff] at hj
      obtain ⟨u0, hu0, rfl⟩ := hj
      exact ih j u0 hu0
  | agg hl hrep ih =>
    simp only [AV.weak, weakL_eq]
    refine .agg (by simpa using hl) fun j u v hj hv => ?_
    rw [List.getElem?_map, Option.map_eq_some_iff] at hj
    obtain ⟨u0, hu0, rfl⟩ := hj
    exact ih j u0 v hu0 hv

theorem Rep.weak {C : Conc} {ok : Nat → Prop} {w : World} {u : AV} {v : Value} (h : Rep C ok w u v) : Rep C ok w u.weak v := by
  have sub : ∀ {cs : List AV} {vs : Array Value}, (∀ (j : Nat) (u : AV) (v : Value), cs[j]? = some u → vs[j]? = some v → Rep C ok w u.weak v) → ∀ (j : Nat) (u : AV) (v : Value), (AV.weakL cs)[j]? = some u → vs[j]? = some v → Rep C ok w u v := by
    intro cs vs ih j u v hj hv
    rw [weakL_eq, List.getElem?_map, Option.map_eq_some_iff] at hj
    obtain ⟨x, hx, rfl⟩ := hj
    exact ih j x v hx hv
  induction h with
  | data h => exact .data h.weak
  | ptr h => exact .ptr h
  | sl h hn hc => exact .sl h hn hc
  | nilsl h => exact .nilsl h
  | agg hl _ ih => exact .agg (by rw [weakL_eq]; simpa using hl) (sub ih)
  | tup hl _ ih => exact .tup (by rw [weakL_eq]; simpa using hl) (sub ih)
  | fn hl _ ih => exact .fn (by rw [weakL_eq]; simpa using hl) (sub ih)

section
mutual
theorem keys_weak : ∀ (u : AV), u.weak.keys = u.keys
  | .agg cs => by simp only [AV.weak, AV.keys, keysL_weak cs]
  | .tup cs => by simp only [AV.weak, AV.keys, keysL_weak cs]
  | .fn f cs => by simp only [AV.weak, AV.keys, keysL_weak cs]
  | .ptr x i off => rfl
  | .sl x i n => rfl
  | .undef => rfl
  | .int _ _ => rfl
  | .bool _ => rfl
  | .str _ => rfl
  | .nilp => rfl
  | .imm _ _ _ => rfl
  | .ref _ => rfl
theorem keysL_weak : ∀ (cs : List AV), AV.keysL (AV.weakL cs) = AV.keysL cs
  | [] => rfl
  | v :: vs => by simp only [AV.weakL, AV.keysL, keys_weak v, keysL_weak vs]
end
end

theorem Meets.weak {g g' : List AV → Option PRes} (h : Meets P f g) (hg : ∀ args r, g' args = some r → ∃ r0, g args = some r0 ∧ r.objs = r0.objs ∧ r.val = r0.val.weak) : Meets P f g' := by
  intro args r hr w vs ok0 hok hlen hrep
  obtain ⟨r0, h1, h2, h3⟩ := hg args r hr
  refine (h args r0 h1 w vs ok0 hok hlen hrep).mono fun e w' he => ?_
  obtain ⟨v, rfl, C, k1, k2, k3⟩ := he
  refine ⟨v, rfl, C, ?_, ?_, ?_⟩
  · rw [h2]; exact k1
  · rw [h2, h3]; exact k2.weak
  · rw [h2, h3, keys_weak]; exact k3

theorem meets_none : Meets P f (fun _ => none) := fun _ _ h => by cases h
theorem meetsU_none {p : Nat} {ty : TypeId} : MeetsU P f p ty (fun _ => none) := fun _ _ h => by cases h

/-- What the evaluation gives, nil forgotten, is what the function gives. -/
def FSpec (Fr : List AV → Nat → Option PRes) (g : List AV → Option PRes) : Prop := ∀ args r, g args = some r → ∃ r0, (∃ n, Fr args n = some r0) ∧ r.objs = r0.objs ∧ r.val = r0.val.weak

open Classical in
theorem FSpec.meets {Fr : List AV → Nat → Option PRes} {g : List AV → Option PRes} (h : FSpec Fr g) (hm : ∀ g0 : List AV → Option PRes, (∀ args r, g0 args = some r → ∃ n, Fr args n = some r) → Meets P f g0) : Meets P f g := by
  intro args r hr
  obtain ⟨r0, hn, h1, h2⟩ := h args r hr
  have m0 := hm (fun a => if a = args then some r0 else none) fun a r1 h3 => by
    split at h3
    · rename_i e; cases h3; rw [e]; exact hn
    · cases h3
  exact m0.weak (g' := fun a => if a = args then some r else none) (fun a r1 h3 => by
    split at h3
    · rename_i e; cases h3; exact ⟨r0, by rw [if_pos e], h1, h2⟩
    · cases h3) args r (if_pos rfl)

/-- A function that takes data and gives data. -/
theorem pure_spec (hP : P.follows .mixedOrders = true) (hG : GoodG P ks G) (hI : InlSound P ic) {F : AFun} (hF : IsFun P ks f F) {g : List AV → Option PRes} (h : FSpec (fun args n => pureF G ic n F args) g) : Meets P f g :=
  h.meets fun g0 h0 => pureF_meets hP hG hI hF g0 h0

theorem fresh_spec (hP : P.follows .mixedOrders = true) (hG : GoodG P ks G) (hI : InlSound P ic) {F : AFun} (hF : IsFun P ks f F) {g : List AV → Option PRes} (h : FSpec (fun args n => freshF G ic n F args) g) : Meets P f g :=
  h.meets fun g0 h0 => freshF_meets hP hG hI hF g0 h0

/-! ### The callees so far -/

def addG (G : Pure) (f : FuncId) (g : List AV → Option PRes) : Pure := fun x => if x = f then g else G x

theorem addG_self (G : Pure) (f : FuncId) (g : List AV → Option PRes) : addG G f g f = g := by simp [addG]
theorem addG_ne (G : Pure) {f x : FuncId} (g : List AV → Option PRes) (h : x ≠ f) : addG G f g x = G x := by simp [addG, h]

/-- Callees of one kind each. -/
theorem GoodG.add (hG : GoodG P ks G) {g : List AV → Option PRes} (hm : (updOf ks f = none ∧ Meets P f g) ∨ (kindOf ks f = none ∧ ∃ p ty, updOf ks f = some (p, ty) ∧ MeetsU P f p ty g)) : GoodG P ks (addG G f g) := by
  refine ⟨fun x fresh hx => ?_, fun x p ty hx => ?_⟩
  · refine ⟨?_, (hG.1 x fresh hx).2⟩
    by_cases e : x = f
    · subst e
      rcases hm with ⟨_, hm⟩ | ⟨h, _⟩
      · rw [addG_self]; exact hm
      · rw [h] at hx; cases hx
    · rw [addG_ne _ _ e]; exact (hG.1 x fresh hx).1
  · refine ⟨?_, (hG.2 x p ty hx).2⟩
    by_cases e : x = f
    · subst e
      rcases hm with ⟨h, _⟩ | ⟨_, p', ty', h, hm⟩
      · rw [h] at hx; cases hx
      · rw [h] at hx; cases hx; rw [addG_self]; exact hm
    · rw [addG_ne _ _ e]; exact (hG.2 x p ty hx).1

/-- Every callee that is named can be entered. -/
def entersB (P : Program) (ks : Kinds) : Bool :=
  (ks.pure.map (·.1) ++ ks.upd.map (·.1)).all fun f => match P.funcs[f]? with | some fn => !(fn.name == "runtime.NumGoroutine") && fn.body.isSome | none => false

theorem good_none (h : entersB P ks = true) : GoodG P ks (fun _ _ => none) := by
  have key : ∀ f, f ∈ ks.pure.map (·.1) ++ ks.upd.map (·.1) → Enters P f := fun f hf => by
    have := List.all_eq_true.1 h f hf
    split at this
    · rename_i fn hfn
      simp only [Bool.and_eq_true, Bool.not_eq_true'] at this
      refine ⟨fn, hfn, this.1, ?_⟩
      cases hb : fn.body with
      | none => rw [hb] at this; simp at this
      | some c => rfl
    · cases this
  refine ⟨fun f fresh hf => ⟨meets_none, key f ?_⟩, fun f p ty hf => ⟨meetsU_none, key f ?_⟩⟩
  · unfold kindOf at hf
    rw [Option.map_eq_some_iff] at hf
    obtain ⟨x, hx, _⟩ := hf
    have h1 := List.mem_of_find?_eq_some hx
    have h2 := List.find?_some hx
    exact List.mem_append.2 (.inl (List.mem_map.2 ⟨x, h1, by simpa using h2⟩))
  · unfold updOf at hf
    rw [Option.map_eq_some_iff] at hf
    obtain ⟨x, hx, _⟩ := hf
    have h1 := List.mem_of_find?_eq_some hx
    have h2 := List.find?_some hx
    exact List.mem_append.2 (.inr (List.mem_map.2 ⟨x, h1, by simpa using h2⟩))

end
end Go.Ev

/-
  A callee that is evaluated in place, and whose own rows are dropped at its end.
-/
namespace Go.Ev
open Go

section
variable {P : Program} {ks : Kinds} {f : FuncId} {G : Pure} {ic : Inl}

end
end Go.Ev
