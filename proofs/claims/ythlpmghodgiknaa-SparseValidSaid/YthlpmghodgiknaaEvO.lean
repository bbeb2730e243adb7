/-
  Regions: in whatever order their operations come.
-/
import Derived.Test.YthlpmghodgiknaaEvR
namespace Go.Ev
open Go Go.RowKit

/-! ### What an operation hangs on -/

theorem mapO_frame {α β : Type} {f f' : α → Option (β × List Nat)} {p : Nat → Prop} (hf : ∀ x y ks, f x = some (y, ks) → (∀ k ∈ ks, p k) → f' x = some (y, ks)) :
    ∀ (l : List α) (l' : List β) (ks : List Nat), mapO f l = some (l', ks) → (∀ k ∈ ks, p k) → mapO f' l = some (l', ks)
  | [], l', ks, h, _ => h
  | x :: r, l', ks, h, hk => by
    simp only [mapO] at h ⊢
    split at h
    · rename_i b ks1 hb
      split at h
      · rename_i bs ks2 hbs
        cases h
        rw [hf _ _ _ hb fun k h => hk k (List.mem_append.2 (.inl h))]
        simp only
        rw [mapO_frame hf _ _ _ hbs fun k h => hk k (List.mem_append.2 (.inr h))]
      · cases h
    · cases h

theorem fz_frame {H H' : Nat → Option Obj} : ∀ (d : Nat) (u u' : AV) (ks : List Nat), fz H d u = some (u', ks) → (∀ k ∈ ks, H' k = H k) → fz H' d u = some (u', ks) := by
  intro d
  induction d with
  | zero => intro u u' ks h; cases u <;> simp [fz] at h
  | succ d ih =>
    intro u u' ks h hk
    cases u with
    | sl o i n =>
      simp only [fz] at h ⊢
      split at h
      · rename_i ob hob
        rw [Option.ite_none_right_eq_some] at h
        obtain ⟨hin, h⟩ := h
        split at h
        · rename_i hr
          cases h
          rw [hk o (by simp), hob]
          simp [hin, hr]
        · rename_i hr
          split at h
          · rename_i es ks' hes
            cases h
            rw [hk o (by simp), hob]
            simp only
            rw [if_pos hin, if_neg hr, mapO_frame (p := fun k => H' k = H k) (fun x y ks hx hks => mapO_frame (p := fun k => H' k = H k) (fun x y ks hx hks => ih x y ks hx hks) _ _ _ hx hks) _ _ _ hes fun k hk' => hk k (by simp [hk'])]
          · cases h
      · cases h
    | ptr o i off =>
      simp only [fz] at h ⊢
      split at h
      · rename_i ob hob
        split at h
        · rename_i cs hcs
          split at h
          · rename_i hr
            cases h
            rw [hk o (by simp), hob]
            simp [hcs, hr]
          · rename_i hr
            split at h
            · rename_i es ks' hes
              cases h
              rw [hk o (by simp), hob]
              simp only [hcs]
              rw [if_neg hr, mapO_frame (p := fun k => H' k = H k) (fun x y ks hx hks => ih x y ks hx hks) _ _ _ hes fun k hk' => hk k (by simp [hk'])]
            · cases h
        · cases h
      · cases h
    | agg cs =>
      simp only [fz] at h ⊢
      split at h
      · rename_i es ks' hes
        cases h
        rw [mapO_frame (p := fun k => H' k = H k) (fun x y ks hx hks => ih x y ks hx hks) _ _ _ hes hk]
      · cases h
    | tup cs => simp [fz] at h
    | fn f cs => simp [fz] at h
    | _ => simpa only [fz] using h

theorem fzL_frame {H H' : Nat → Option Obj} {us us' : List AV} {ks : List Nat} (h : fzL H us = some (us', ks)) (hk : ∀ k ∈ ks, H' k = H k) : fzL H' us = some (us', ks) :=
  mapO_frame (p := fun k => H' k = H k) (fun x y ks hx hks => fz_frame 8 x y ks hx hks) _ _ _ h hk

theorem fzLL_frame {H H' : Nat → Option Obj} {us us' : List (List AV)} {ks : List Nat} (h : fzLL H us = some (us', ks)) (hk : ∀ k ∈ ks, H' k = H k) : fzLL H' us = some (us', ks) :=
  mapO_frame (p := fun k => H' k = H k) (fun x y ks hx hks => mapO_frame (p := fun k => H' k = H k) (fun x y ks hx hks => fz_frame 8 x y ks hx hks) _ _ _ hx hks) _ _ _ h hk

theorem freeKeys_frame {H H' : Nat → Option Obj} : ∀ (l : List (Nat × Obj)), (∀ k ∈ l.map (·.1), H' k = H k) → freeKeys H' l = freeKeys H l
  | [], _ => rfl
  | (k, o) :: r, h => by simp only [freeKeys]; rw [h k (by simp), freeKeys_frame r fun x hx => h x (by simp at hx ⊢; exact .inr hx)]

section
variable {S S' : St} {G : Pure}

theorem at_frame {v : AV} {cs : List AV} (h : S.at v = some cs) (hk : ∀ k ∈ v.keys, S'.heap k = S.heap k) : S'.at v = some cs := by
  unfold St.at at h ⊢
  cases v with
  | ref cs' => exact h
  | ptr o i off => simp only at h ⊢; rw [hk o (by simp [AV.keys])]; exact h
  | _ => cases h

/-- The effect of an operation hangs on its operands, and on the rows that it names. -/
theorem eff_frame (op : AOp) (e : Eff) (h : eff G op S = some e) (hx : ∀ x ∈ op.axs, S'.ev x = S.ev x) (hh : ∀ k ∈ e.acc, S'.heap k = S.heap k) (hf : ∀ k ∈ e.ups.map (·.1), S'.frz k = S.frz k) : eff G op S' = some e := by
  cases op with
  | mv x => simp only [eff] at h ⊢; rw [hx x (by simp [AOp.axs])]; exact h
  | pick c a b =>
    simp only [eff] at h ⊢
    rw [hx c (by simp [AOp.axs]), hx a (by simp [AOp.axs]), hx b (by simp [AOp.axs])]; exact h
  | box k ty n x =>
    simp only [eff] at h ⊢
    rw [hx x (by simp [AOp.axs])]
    split at h
    · rename_i hk
      obtain ⟨hc, he⟩ := of_ite h
      cases he
      rw [hh k (by simp), hk]
      simp only
      rw [if_pos hc]
    · cases h
  | alloc k ty z =>
    simp only [eff] at h ⊢
    split at h
    · rename_i hk
      cases h
      rw [hh k (by simp), hk]
    · cases h
  | build z parts =>
    simp only [eff] at h ⊢
    have : (parts.map fun p => (p.1, p.2.1, S'.ev p.2.2)) = parts.map fun p => (p.1, p.2.1, S.ev p.2.2) := List.map_congr_left fun p hp => by rw [hx p.2.2 (by simp only [AOp.axs]; exact List.mem_map.2 ⟨p, hp, rfl⟩)]
    rw [this]; exact h
  | bslice ty sz len z parts =>
    simp only [eff] at h ⊢
    have h1 : (parts.map fun p => (S'.ev p.2).cells) = parts.map fun p => (S.ev p.2).cells := List.map_congr_left fun p hp => by rw [hx p.2 (by simp only [AOp.axs]; exact List.mem_map.2 ⟨p, hp, rfl⟩)]
    have h2 : (parts.map fun p => (p.1, (S'.ev p.2).cells)) = parts.map fun p => (p.1, (S.ev p.2).cells) := List.map_congr_left fun p hp => by rw [hx p.2 (by simp only [AOp.axs]; exact List.mem_map.2 ⟨p, hp, rfl⟩)]
    rw [h1, h2]
    obtain ⟨hc, he⟩ := of_ite h
    rw [if_pos hc]
    split at he
    · rename_i es ks hz
      cases he
      rw [fzLL_frame hz hh]
    · cases he
  | load n x =>
    cases n with
    | none =>
      simp only [eff] at h ⊢
      rw [hx x (by simp [AOp.axs])]
      split at h
      · rename_i c r hat
        cases h
        rw [at_frame hat hh]
      · cases h
    | some n =>
      simp only [eff] at h ⊢
      rw [hx x (by simp [AOp.axs])]
      split at h
      · rename_i cs hat
        obtain ⟨hc, he⟩ := of_ite h
        cases he
        rw [at_frame hat hh]
        simp only
        rw [if_pos hc]
      · cases h
  | store n x v =>
    simp only [eff] at h ⊢
    rw [hx x (by simp [AOp.axs]), hx v (by simp [AOp.axs])]
    split at h
    · rename_i o i off hxe
      split at h
      · rename_i ob hob
        split at h
        · rename_i cs hcs
          obtain ⟨hc, he⟩ := of_ite h
          cases he
          rw [hh o (by simp), hob]
          simp only [hcs]
          rw [hf o (by simp), if_pos hc]
        · cases h
      · cases h
    · cases h
  | nilchk x => simp only [eff] at h ⊢; rw [hx x (by simp [AOp.axs])]; exact h
  | bin op x y => simp only [eff] at h ⊢; rw [hx x (by simp [AOp.axs]), hx y (by simp [AOp.axs])]; exact h
  | binb op x y => simp only [eff] at h ⊢; rw [hx x (by simp [AOp.axs]), hx y (by simp [AOp.axs])]; exact h
  | un op x => simp only [eff] at h ⊢; rw [hx x (by simp [AOp.axs])]; exact h
  | conv k x => simp only [eff] at h ⊢; rw [hx x (by simp [AOp.axs])]; exact h
  | make k ty sz bytes z l c =>
    simp only [eff] at h ⊢
    rw [hx l (by simp [AOp.axs]), hx c (by simp [AOp.axs])]
    split at h
    · rename_i hk
      split at h
      · rename_i hl hc
        obtain ⟨hc', he⟩ := of_ite h
        cases he
        rw [hh k (by simp), hk]
        simp only [hl, hc]
        rw [if_pos hc']
      · cases h
    · cases h
  | slice sz x lo hi mx =>
    simp only [eff] at h ⊢
    have e1 : lo.map S'.ev = lo.map S.ev := by cases lo with
      | none => rfl
      | some y => simp only [Option.map_some]; rw [hx y (by simp [AOp.axs])]
    have e2 : hi.map S'.ev = hi.map S.ev := by cases hi with
      | none => rfl
      | some y => simp only [Option.map_some]; rw [hx y (by simp [AOp.axs])]
    have e3 : mx.map S'.ev = mx.map S.ev := by cases mx with
      | none => rfl
      | some y => simp only [Option.map_some]; rw [hx y (by simp [AOp.axs])]
    rw [hx x (by simp [AOp.axs]), e1, e2, e3]
    split at h
    · exact h
    · rename_i o i n kl l hxe hlo
      split at h
      · rename_i ob kh hh' km m hob hhi hmx
        obtain ⟨hc, he⟩ := of_ite h
        cases he
        rw [hh o (by simp), hob, hhi, hmx]
        simp only
        rw [if_pos hc]
      · cases h
    · cases h
  | faddr off x => simp only [eff] at h ⊢; rw [hx x (by simp [AOp.axs])]; exact h
  | field off n x =>
    cases n with
    | none => simp only [eff] at h ⊢; rw [hx x (by simp [AOp.axs])]; exact h
    | some n => simp only [eff] at h ⊢; rw [hx x (by simp [AOp.axs])]; exact h
  | iaddr sz x i =>
    simp only [eff] at h ⊢
    rw [hx x (by simp [AOp.axs]), hx i (by simp [AOp.axs])]
    split at h
    · exact h
    · rename_i o i0 len k n hxe hie
      split at h
      · rename_i ob hob
        obtain ⟨hc, he⟩ := of_ite h
        cases he
        rw [hh o (by simp), hob]
        simp only
        rw [if_pos hc]
      · cases h
    · cases h
  | len x => simp only [eff] at h ⊢; rw [hx x (by simp [AOp.axs])]; exact h
  | lens x => simp only [eff] at h ⊢; rw [hx x (by simp [AOp.axs])]; exact h
  | max x y => simp only [eff] at h ⊢; rw [hx x (by simp [AOp.axs]), hx y (by simp [AOp.axs])]; exact h
  | extract x i => simp only [eff] at h ⊢; rw [hx x (by simp [AOp.axs])]; exact h
  | mkfn f caps =>
    simp only [eff] at h ⊢
    have : caps.map S'.ev = caps.map S.ev := List.map_congr_left fun x hx' => hx x (by simpa [AOp.axs] using hx')
    rw [this]; exact h
  | call k f args fresh =>
    simp only [eff] at h ⊢
    have : args.map S'.ev = args.map S.ev := List.map_congr_left fun x hx' => hx x (by simpa [AOp.axs] using hx')
    rw [this]
    split at h
    · rename_i as ks hz
      split at h
      · rename_i r hr
        split at h
        · rename_i hfr
          obtain ⟨hc, he⟩ := of_ite h
          cases he
          rw [fzL_frame hz fun k hk => hh k (by simp [hk])]
          simp only [hr]
          rw [if_pos hfr, freeKeys_frame (H := S.heap) _ fun x hx => hh x (List.mem_append.2 (.inr hx)), if_pos hc]
        · rename_i hfr
          obtain ⟨hc, he⟩ := of_ite h
          cases he
          rw [fzL_frame hz fun k hk => hh k hk]
          simp only [hr]
          rw [if_neg hfr, if_pos hc]
      · cases h
    · cases h
  | appn k ty sz bytes x =>
    simp only [eff] at h ⊢
    rw [hx x (by simp [AOp.axs])]
    split at h
    case h_2 => cases h
    rename_i hk
    split at h
    case h_2 => cases h
    rename_i news hnews
    obtain ⟨hc, he⟩ := of_ite h
    cases he
    have hap : appended S'.heap sz (S.ev x) = some news := by
      rw [← hnews]
      unfold appended
      split
      · rfl
      · rename_i o i n hxe
        rw [hh o (List.mem_cons_of_mem _ (by rw [hxe]; simp [AV.keys]))]
      · rfl
    rw [hh k (by simp), hk, hap]
    simp only
    rw [hf k (by simp), if_pos hc]
  | ucall f j ty args =>
    simp only [eff] at h ⊢
    have hm : args.map S'.ev = args.map S.ev := List.map_congr_left fun x hx' => hx x (by simpa [AOp.axs] using hx')
    rw [hm]
    split at h
    case h_2 => cases h
    rename_i o n hp
    split at h
    case h_2 => cases h
    rename_i ob hob
    obtain ⟨hc, he⟩ := of_ite h
    clear h
    split at he
    case h_2 => cases he
    rename_i as fks hfz
    split at he
    case h_2 => cases he
    rename_i r hr
    split at he
    case h_2 => cases he
    rename_i ob' hobj
    obtain ⟨hc2, he2⟩ := of_ite he
    cases he2
    rw [hh o (by simp), hob]
    simp only
    rw [hf o (by simp), if_pos hc, fzL_frame hfz fun k hk => hh k (by simp [hk])]
    simp only [hr, hobj]
    rw [if_pos hc2]
  | app _ _ _ _ _ _ => simp [eff] at h
  | icall _ _ => simp [eff] at h
  | ccall _ _ => simp [eff] at h

/-- 'acc' holds what is written and what is frozen. -/
theorem eff_acc (op : AOp) (e : Eff) (h : eff G op S = some e) : (∀ k ∈ e.ups.map (·.1), k ∈ e.acc) ∧ (∀ k ∈ e.frz, k ∈ e.acc) ∧ (op.mem = false → e.acc = []) ∧ (op.wr = false → e.ups = []) := by
  cases op with
  | load n x => cases n <;> (simp only [eff] at h; repeat' split at h) <;> first | (cases h; done) | (cases h; simp [AOp.mem, AOp.wr])
  | field off n x => cases n <;> (simp only [eff] at h; repeat' split at h) <;> first | (cases h; done) | (cases h; simp [AOp.mem, AOp.wr])
  | call k f args fresh =>
    simp only [eff] at h
    repeat' split at h
    all_goals first
      | (cases h; done)
      | (cases h; subst_vars; simp [AOp.mem, AOp.wr]; done)
      | (cases h; simp_all [AOp.mem, AOp.wr])
  | _ =>
    simp only [eff] at h
    repeat' split at h
    all_goals first
      | (cases h; done)
      | (cases h; simp [AOp.mem, AOp.wr]; done)
      | (cases h; simp [AOp.mem, AOp.wr]; exact fun k hk => .inr hk)

end
end Go.Ev
