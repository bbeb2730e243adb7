/-
  Where ways meet; the code as a whole.
-/
import Derived.Test.YthlpmghodgiknaaEvL
namespace Go.Ev
open Go Go.RowKit

section
variable {N B : Nat} {ok0 : Nat → Prop} {w0 : World} {E : Entry} {C : Conc} {s s' : SL} {a : Act} {w : World} {P : Program} {ks : Kinds} {fid : Nat} {G : Pure} {ic : Inl} {H : Nat → Option Obj} {F : Nat → Bool}

theorem aget_keepSlots (f : Nat → AV) : ∀ (l : List Nat) (t : Nat), aget .undef (keepSlots f l) t = f t ∨ aget .undef (keepSlots f l) t = .undef
  | [], t => .inr rfl
  | x :: r, t => by
    simp only [keepSlots, aget]
    split
    · rename_i e; subst e; exact .inl rfl
    · exact aget_keepSlots f r t

theorem afind_adel (ds : List Nat) : ∀ (heap : List (Nat × Obj)) (k : Nat), afind (adel heap ds) k = if k ∈ ds then none else afind heap k
  | [], k => by simp [adel, afind]
  | (x, o) :: r, k => by
    simp only [adel]
    split
    · rename_i hc
      rw [afind_adel ds r k]
      simp only [afind]
      split
      · rfl
      · rename_i hk
        rw [if_neg]
        rintro rfl
        exact hk (by simpa using hc)
    · rename_i hc
      simp only [afind]
      rw [afind_adel ds r k]
      by_cases e : x = k
      · subst e
        rw [if_pos rfl, if_pos rfl, if_neg (by simpa using hc)]
      · rw [if_neg e, if_neg e]

theorem mem_dropKeys {ds : List Nat} {k : Nat} : ∀ {l : List Nat}, k ∈ dropKeys ds l ↔ k ∈ l ∧ k ∉ ds
  | [] => by simp [dropKeys]
  | x :: r => by
    simp only [dropKeys]
    split
    · rename_i hc
      rw [mem_dropKeys (l := r)]
      have : x ∈ ds := by simpa using hc
      constructor
      · rintro ⟨h1, h2⟩; exact ⟨List.mem_cons_of_mem _ h1, h2⟩
      · rintro ⟨h1, h2⟩
        rcases List.mem_cons.1 h1 with rfl | h1
        · exact absurd this h2
        · exact ⟨h1, h2⟩
    · rename_i hc
      have hc' : x ∉ ds := by simpa using hc
      simp only [List.mem_cons, mem_dropKeys (l := r)]
      constructor
      · rintro (rfl | ⟨h1, h2⟩)
        · exact ⟨.inl rfl, hc'⟩
        · exact ⟨.inr h1, h2⟩
      · rintro ⟨rfl | h1, h2⟩
        · exact .inl rfl
        · exact .inr ⟨h1, h2⟩

theorem dropOk_spec {ds : List Nat} : ∀ {l : List (Nat × AV)}, dropOk ds l = true → ∀ t, ∀ k ∈ (aget .undef l t).keys, k ∉ ds
  | [], _, t, k, hk => by simp [aget, AV.keys] at hk
  | (x, v) :: r, h, t, k, hk => by
    simp only [dropOk, Bool.and_eq_true] at h
    simp only [aget] at hk
    split at hk
    · have := List.all_eq_true.1 h.1 k hk
      simpa using this
    · exact dropOk_spec h.2 t k hk

theorem dropOkH_spec {ds : List Nat} : ∀ {l : List (Nat × Obj)}, dropOkH ds l = true → ∀ k o, afind l k = some o → ∀ x ∈ o.refs, x ∉ ds
  | [], _, k, o, h, _, _ => by simp [afind] at h
  | (y, v) :: r, h, k, o, ho, x, hx => by
    simp only [dropOkH, Bool.and_eq_true] at h
    simp only [afind] at ho
    split at ho
    · cases ho
      have := List.all_eq_true.1 h.1 x hx
      simpa using this
    · exact dropOkH_spec h.2 k o ho x hx

theorem ownOk_spec {own : List Nat} {heap : List (Nat × Obj)} : ∀ {l : List Nat}, ownOk own heap l = true → ∀ k ∈ l, k ∈ own ∨ afind heap k = none
  | [], _, k, hk => by simp at hk
  | x :: r, h, k, hk => by
    simp only [ownOk, Bool.and_eq_true, Bool.or_eq_true] at h
    rcases List.mem_cons.1 hk with rfl | hk
    · rcases h.1 with h1 | h1
      · exact .inl (by simpa using h1)
      · exact .inr (by simpa using h1)
    · exact ownOk_spec h.2 k hk

/-- Rows are dropped. -/
theorem SimH.drop (h : SimH B ok0 w0 C H F w) {H' : Nat → Option Obj} {F' : Nat → Bool} {ds : List Nat} (hH : ∀ k, H' k = if k ∈ ds then none else H k) (hF : ∀ k, k ∉ ds → F' k = F k) (hr : ∀ k o, H' k = some o → ∀ x ∈ o.refs, x ∉ ds) :
    SimH B ok0 w0 C H' F' w ∧ ∀ b, okb B ok0 C H F w b → okb B ok0 C H' F' w b := by
  have inv : ∀ {k : Nat} {o : Obj}, H' k = some o → k ∉ ds ∧ H k = some o := fun {k o} hk => by
    rw [hH] at hk
    split at hk
    · cases hk
    · rename_i hn; exact ⟨hn, hk⟩
  have hok : ∀ b, okb B ok0 C H F w b → okb B ok0 C H' F' w b := fun b hb => ⟨hb.1, hb.2.1, fun k o L h1 h2 h3 => by
    obtain ⟨g1, g2⟩ := inv h1
    rw [hF k g1] at h2
    exact hb.2.2 k o L g2 h2 h3⟩
  refine ⟨⟨h.below, h.base, fun k o hk => (h.row k o (inv hk).2).mono hok (fun _ _ => rfl) rfl (fun _ _ => rfl) fun _ _ => rfl, fun k o L hk => h.blk k o L (inv hk).2, fun k k' o o' L L' h1 h2 => h.inj k k' o o' L L' (inv h1).2 (inv h2).2,
    fun k o x hk hx => ?_, h.up, fun k o L hk => h.okrow k o L (inv hk).2, h.keep⟩, hok⟩
  rw [hH, if_neg (hr k o hk x hx)]
  exact h.wf k o x (inv hk).2 hx

theorem adoptL_sound : ∀ (l : List (Nat × Nat × TypeId × Nat)) (s s' : SL), adoptL l s = some s' → SimLX N B ok0 w0 E s a w → SimLX N B ok0 w0 E s' a w
  | [], s, s', h, hs => by cases h; exact hs
  | (t, k, e, sz) :: r, s, s', h, hs => by
    simp only [adoptL] at h
    split at h
    · rename_i szn ht
      split at h
      · rename_i hk
        refine adoptL_sound r _ s' h ?_
        obtain ⟨C, hs⟩ := hs
        obtain ⟨ad1, ad2⟩ := hs.sim.h.adopt (k := k) hk e sz
        have dom : ∀ x, s.den.heap x ≠ none → setH s.den.heap k { sz := sz, ty := e, es := [], refs := [] } x ≠ none := fun x hx => by
          by_cases ex : x = k
          · subst ex; rw [setH_self]; simp
          · rw [setH_ne _ _ ex]; exact hx
        have hne : ∀ x, s.den.heap x ≠ none → setC C k none x = C x := fun x hx => setC_ne _ _ (by rintro rfl; exact hx hk)
        refine ⟨setC C k none, ⟨?_, fun x hx => ?_⟩⟩
        · have hput : aget .undef (aput s.slots t (.sl k 0 0)) = fun x => if t = x then .sl k 0 0 else aget .undef s.slots x := by funext x; exact aget_aput _ _ _ _ _
          rw [den_of, afind_aputF, hput]
          refine ⟨ad1, fun x => ?_, fun x y hy => ?_, hs.sim.defers, hs.sim.size, fun b hb => ⟨ad2 b (hs.sim.ent.1 b hb).1, (hs.sim.ent.1 b hb).2⟩, fun x hx => ⟨dom x (hs.sim.ent.2 x hx).1, fun hR => (hne x (hs.sim.ent.2 x hx).1).trans ((hs.sim.ent.2 x hx).2 hR)⟩⟩
          · simp only
            split
            · rename_i e1
              subst e1
              have hv := hs.sim.slot t
              rw [ht] at hv
              have h1 := hv.imm_inv
              generalize a.tmps.getD t undef = v at *
              cases h1
              exact .nilsl (setC_self _ _ _)
            · exact (hs.sim.slot x).mono ad2 (fun _ _ => rfl) fun y hy => hne y (hs.sim.wfs x y hy)
          · simp only at hy ⊢
            split at hy
            · simp [AV.keys] at hy; subst hy; rw [setH_self]; simp
            · exact dom y (hs.sim.wfs x y hy)
        · rcases List.mem_cons.1 hx with rfl | hx
          · exact notD hs hk
          · exact hs.own x hx
      · cases h
    · exact adoptL_sound r s s' h hs

theorem keepL_sound {kp : Keep} (h : keepL kp s = some s') (hs : SimLX N B ok0 w0 E s a w) : SimLX N B ok0 w0 E s' a w := by
  unfold keepL at h
  obtain ⟨C, hs⟩ := hs
  split at h
  · refine adoptL_sound kp.adopt _ s' h ⟨C, ⟨?_, hs.own⟩⟩
    show Sim N B ok0 w0 { E with R := s.reb } C { slot := aget .undef (keepSlots s.den.slot kp.slots), heap := afind s.heap, frz := fun k => s.frz.contains k } a w
    refine ⟨hs.sim.h, fun t => ?_, fun t k hk => ?_, hs.sim.defers, hs.sim.size, hs.sim.ent⟩
    · simp only
      rcases aget_keepSlots s.den.slot kp.slots t with e | e
      · rw [e]; exact hs.sim.slot t
      · rw [e]; exact .data (.undef _)
    · simp only at hk
      rcases aget_keepSlots s.den.slot kp.slots t with e | e
      · rw [e] at hk; exact hs.sim.wfs t k hk
      · rw [e] at hk; simp [AV.keys] at hk
  · rename_i d ds heq
    obtain ⟨⟨h1, h2, h3⟩, h4⟩ := of_ite h
    clear h
    refine adoptL_sound kp.adopt _ s' h4 ⟨C, ⟨?_, fun k hk => hs.own k (mem_dropKeys.1 hk).1⟩⟩
    show Sim N B ok0 w0 { E with R := s.reb } C { slot := aget .undef (keepSlots s.den.slot kp.slots), heap := afind (adel s.heap (d :: ds)), frz := fun k => (dropKeys (d :: ds) s.frz).contains k } a w
    obtain ⟨g1, g2⟩ := hs.sim.h.drop (H' := afind (adel s.heap (d :: ds))) (F' := fun k => (dropKeys (d :: ds) s.frz).contains k) (ds := d :: ds) (fun k => afind_adel _ _ k) (fun k hk => by
        show (dropKeys (d :: ds) s.frz).contains k = s.frz.contains k
        by_cases hc : k ∈ s.frz
        · have : k ∈ dropKeys (d :: ds) s.frz := mem_dropKeys.2 ⟨hc, hk⟩
          simp [hc, this]
        · have : k ∉ dropKeys (d :: ds) s.frz := fun h => hc (mem_dropKeys.1 h).1
          simp [hc, this]) (dropOkH_spec h3)
    refine ⟨g1, fun t => ?_, fun t k hk => ?_, hs.sim.defers, hs.sim.size, fun b hb => ⟨g2 b (hs.sim.ent.1 b hb).1, (hs.sim.ent.1 b hb).2⟩, fun k hk => ⟨?_, (hs.sim.ent.2 k hk).2⟩⟩
    · simp only
      rcases aget_keepSlots s.den.slot kp.slots t with e | e
      · rw [e]; exact (hs.sim.slot t).mono g2 (fun _ _ => rfl) fun _ _ => rfl
      · rw [e]; exact .data (.undef _)
    · simp only at hk ⊢
      rw [afind_adel, if_neg (dropOk_spec h2 t k hk)]
      rcases aget_keepSlots s.den.slot kp.slots t with e | e
      · rw [e] at hk; exact hs.sim.wfs t k hk
      · rw [e] at hk; simp [AV.keys] at hk
    · simp only
      rw [afind_adel, if_neg]
      · exact (hs.sim.ent.2 k hk).1
      · intro hm
        rcases ownOk_spec h1 k hm with q | q
        · exact hs.own k q hk
        · exact notD hs q hk

theorem keepO_sound {kp : Option Keep} (h : keepO kp s = some s') (hs : SimLX N B ok0 w0 E s a w) : SimLX N B ok0 w0 E s' a w := by
  cases kp with
  | none => cases h; exact hs
  | some kp => exact keepL_sound h hs

/-! ### The code -/

def outQ (Q : Exit → Act → World → Prop) : AExit → Act → World → Prop
  | .normal => Q .normal
  | .exit id => Q (.exit id)
  | .ret => Q .ret

theorem outO_inv {e e' : AExit} {x : Option SL} {s' : SL} (h : outO e x = some (e', s')) : e' = e ∧ x = some s' := by
  cases x with
  | none => cases h
  | some s => cases h; exact ⟨rfl, rfl⟩

theorem evalC_sound (hP : P.follows .mixedOrders = true) (hG : GoodG P ks G) (hI : InlSound P ic) (n : Nat) :
    ∀ (ac : ACode) (c : Code), cCode P ks fid N c = some ac.erase → ∀ (s s' : SL) (e : AExit) (a : Act) (w : World) (Q : Exit → Act → World → Prop), evalC G ic n ac s = some (e, s') → SimLX N B ok0 w0 E s a w →
      (∀ a w, SimLX N B ok0 w0 E s' a w → outQ Q e a w) → c.wp P Q a w := by
  intro ac
  induction ac with
  | skip =>
    intro c hc s s' e a w Q he hs hQ
    cases he
    have : c = .skip := by
      cases c
      case skip => rfl
      all_goals simp only [cCode, ACode.erase] at hc
      all_goals (repeat' split at hc)
      all_goals first | (cases hc; done) | (simp at hc; done)
    subst this
    exact wp_skip (hQ a w hs)
  | reg pairs pre post =>
    intro c hc s s' e a w Q he hs hQ
    simp only [ACode.erase] at hc
    cases c
    case region id ops draw =>
      simp only [cCode] at hc
      split at hc
      case h_2 => cases hc
      rename_i l hl
      obtain ⟨C, hs⟩ := hs
      split at hc
      · rename_i hd
        obtain ⟨hok, hc1⟩ := of_ite hc
        clear hc
        simp only [Option.some.injEq, ACode.reg.injEq] at hc1
        obtain ⟨rfl, rfl, rfl⟩ := hc1
        simp only [evalC] at he
        split at he
        · rename_i sm hsm
          obtain ⟨rfl, hsn⟩ := outO_inv he
          rw [hd]
          exact region_draw hG hI hP hl hok hsm hsn hs hQ
        · cases he
      · rename_i hd
        simp only [Option.some.injEq, ACode.reg.injEq] at hc
        obtain ⟨rfl, rfl, rfl⟩ := hc
        simp only [evalC] at he
        split at he
        · rename_i sm hsm
          obtain ⟨rfl, hsn⟩ := outO_inv he
          simp only [runL, Option.some.injEq] at hsn
          subst hsn
          have hd' : draw = false := by simpa using hd
          rw [hd']
          refine wp_region ?_
          rw [List.range_eq_range']
          exact runL_sound hG hI hl hQ ops.size 0 s a w (by omega) ⟨C, hs⟩ hsm
        · cases he
    all_goals simp only [cCode] at hc
    all_goals (repeat' split at hc)
    all_goals first | (cases hc; done) | (simp at hc; done)
  | seq x y ihx ihy =>
    intro c hc s s' e a w Q he hs hQ
    simp only [ACode.erase] at hc
    cases c
    case seq cx cy =>
      simp only [cCode] at hc
      split at hc
      · rename_i ax ay hx hy
        cases hc
        simp only [evalC] at he
        refine wp_seq ?_
        split at he
        · rename_i s1 hs1
          exact ihx cx hx s s1 .normal a w _ hs1 hs fun a w h1 => ihy cy hy s1 s' e a w Q he h1 hQ
        · rename_i hnn
          refine ihx cx hx s s' e a w _ he hs fun a w h1 => ?_
          have := hQ a w h1
          cases e with
          | normal => exact absurd he (hnn s')
          | exit id => exact this
          | ret => exact this
      · cases hc
    all_goals simp only [cCode] at hc
    all_goals (repeat' split at hc)
    all_goals first | (cases hc; done) | (simp at hc; done)
  | cond cx x y ihx ihy =>
    intro c hc s s' e a w Q he hs hQ
    simp only [ACode.erase] at hc
    cases c
    case cond c0 c1 c2 =>
      simp only [cCode] at hc
      split at hc
      · rename_i a0 a1 a2 h0 h1 h2
        simp only [Option.some.injEq, ACode.cond.injEq] at hc
        obtain ⟨rfl, rfl, rfl⟩ := hc
        simp only [evalC] at he
        split at he
        · rename_i t ht
          have hv : a.eval c0 = .bool t := by
            obtain ⟨C, hs⟩ := hs
            have := (hs.sim.ev h0).1
            rw [ht] at this
            exact this.bool_inv
          refine wp_cond hv ?_
          cases t with
          | true => exact ihx c1 h1 s s' e a w Q (by simpa using he) hs hQ
          | false => exact ihy c2 h2 s s' e a w Q (by simpa using he) hs hQ
        · cases he
      · cases hc
    all_goals simp only [cCode] at hc
    all_goals (repeat' split at hc)
    all_goals first | (cases hc; done) | (simp at hc; done)
  | block kp id x ih =>
    intro c hc s s' e a w Q he hs hQ
    simp only [ACode.erase] at hc
    cases c
    case block id0 c0 =>
      simp only [cCode, Option.map_eq_some_iff] at hc
      obtain ⟨ax, hax, h2⟩ := hc
      simp only [ACode.block.injEq, true_and] at h2
      obtain ⟨rfl, rfl⟩ := h2
      refine wp_block ?_
      simp only [evalC] at he
      cases hb : evalC G ic n x s with
      | none => rw [hb] at he; cases he
      | some r =>
        obtain ⟨e1, s1⟩ := r
        rw [hb] at he
        refine ih c0 hax s s1 e1 a w _ hb hs fun a w h1 => ?_
        cases e1 with
        | normal =>
          simp only [blockE] at he
          obtain ⟨rfl, hk⟩ := outO_inv he
          exact hQ a w (keepO_sound hk h1)
        | exit id' =>
          simp only [blockE] at he
          simp only [outQ, Exit.inBlock]
          split at he
          · rename_i hid
            obtain ⟨rfl, hk⟩ := outO_inv he
            rw [if_pos hid]
            exact hQ a w (keepO_sound hk h1)
          · rename_i hid
            cases he
            rw [if_neg hid]
            exact hQ a w h1
        | ret =>
          cases he
          exact hQ a w h1
    all_goals simp only [cCode] at hc
    all_goals (repeat' split at hc)
    all_goals first | (cases hc; done) | (simp at hc; done)
  | loop kp x ih =>
    intro c hc s s' e a w Q he hs hQ
    simp only [ACode.erase] at hc
    cases c
    case loop c0 =>
      simp only [cCode, Option.map_eq_some_iff] at hc
      obtain ⟨ax, hax, h2⟩ := hc
      simp only [ACode.loop.injEq, true_and] at h2
      subst h2
      simp only [evalC] at he
      split at he
      case h_2 => cases he
      rename_i s0 hs0
      refine wp_loop_rounds n ?_
      have key : ∀ (m : Nat) (s : SL) (a : Act) (w : World), iterF kp (evalC G ic n x) m s = some (e, s') → SimLX N B ok0 w0 E s a w → Code.rounds P c0 Q m a w := by
        intro m
        induction m with
        | zero => intro s a w h; cases h
        | succ m ihm =>
          intro s a w h hs
          rw [rounds_succ]
          simp only [iterF] at h
          split at h
          · rename_i s1 h1
            split at h
            · rename_i s2 h2
              exact ih c0 hax s s1 .normal a w _ h1 hs fun a w h3 => ihm s2 a w h (keepL_sound h2 h3)
            · cases h
          · rename_i hnn
            refine ih c0 hax s s' e a w _ h hs fun a w h1 => ?_
            have := hQ a w h1
            cases e with
            | normal => exact absurd h (hnn s')
            | exit id => exact this
            | ret => exact this
      exact key n s0 a w he (keepL_sound hs0 hs)
    all_goals simp only [cCode] at hc
    all_goals (repeat' split at hc)
    all_goals first | (cases hc; done) | (simp at hc; done)
  | exit id =>
    intro c hc s s' e a w Q he hs hQ
    cases he
    have : c = .exit id := by
      cases c
      case exit id' => simp only [cCode, ACode.erase, Option.some.injEq, ACode.exit.injEq] at hc; rw [hc]
      all_goals simp only [cCode, ACode.erase] at hc
      all_goals (repeat' split at hc)
      all_goals first | (cases hc; done) | (simp at hc; done)
    subst this
    exact wp_exit (hQ a w hs)
  | ret kp =>
    intro c hc s s' e a w Q he hs hQ
    have : c = .ret := by
      cases c
      case ret => rfl
      all_goals simp only [cCode, ACode.erase] at hc
      all_goals (repeat' split at hc)
      all_goals first | (cases hc; done) | (simp at hc; done)
    subst this
    simp only [evalC] at he
    obtain ⟨rfl, hk⟩ := outO_inv he
    exact wp_ret (hQ a w (keepO_sound hk hs))

end
end Go.Ev
