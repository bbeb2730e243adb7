/-
  One step of the evaluation over the state by lists: what it says is what the model does.
-/
import Derived.Test.YthlpmghodgiknaaEvY
namespace Go.Ev
open Go Go.RowKit

structure SimL (N B : Nat) (ok0 : Nat → Prop) (w0 : World) (E : Entry) (C : Conc) (s : SL) (a : Act) (w : World) : Prop where
  sim : Sim N B ok0 w0 { E with R := s.reb } C s.den a w
  own : ∀ k ∈ s.own, ¬ E.D k

def SimLX (N B : Nat) (ok0 : Nat → Prop) (w0 : World) (E : Entry) (s : SL) (a : Act) (w : World) : Prop := ∃ C, SimL N B ok0 w0 E C s a w

/-- What a step of an operation gives. -/
def DoesL (P : Program) (N B : Nat) (ok0 : Nat → Prop) (w0 : World) (E : Entry) (o : Oper) (a : Act) (w : World) (s' : SL) : Prop :=
  ∀ (K : Act → World → Prop) (Q : Exit → Act → World → Prop), (∀ a' w', SimLX N B ok0 w0 E s' a' w' → K a' w') → o.wp P a w K Q

/-- What a callee that is evaluated in place is said to do. -/
def InlSound (P : Program) (ic : Inl) : Prop :=
  ∀ (f : FuncId) (args : List AV) (heap : List (Nat × Obj)) (frz : List Nat) (r : IRes), ic f args heap frz = some r → Enters P f ∧
    ∀ (B : Nat) (ok0 : Nat → Prop) (w0 : World) (C : Conc) (w : World) (vs : Array Value), SimH B ok0 w0 C (afind heap) (fun k => frz.contains k) w → args.length = vs.size →
      (∀ (j : Nat) (u : AV) (v : Value), args[j]? = some u → vs[j]? = some v → Rep C (okb B ok0 C (afind heap) (fun k => frz.contains k) w) w u v) → (∀ u ∈ args, ∀ k ∈ u.keys, afind heap k ≠ none) →
      Calls P f vs w fun e w' => ∃ v, e = .returned v ∧ ∃ C' : Conc, SimH B ok0 w0 C' (afind r.heap) (fun k => r.frz.contains k) w' ∧
        (∀ k, afind heap k ≠ none → afind r.heap k ≠ none ∧ (k ∉ r.scr → C' k = C k)) ∧
        (∀ b, okb B ok0 C (afind heap) (fun k => frz.contains k) w b → okb B ok0 C' (afind r.heap) (fun k => r.frz.contains k) w' b ∧ w'.heap[b]? = w.heap[b]?) ∧
        Rep C' (okb B ok0 C' (afind r.heap) (fun k => r.frz.contains k) w') w' r.val v ∧ (∀ k ∈ r.val.keys, afind r.heap k ≠ none) ∧ ∀ k ∈ r.own, afind heap k = none

section
variable {N B : Nat} {ok0 : Nat → Prop} {w0 : World} {E : Entry} {C : Conc} {s s' : SL} {a : Act} {w : World} {P : Program} {ks : Kinds} {fid : Nat} {G : Pure} {ic : Inl}

theorem notD (hs : SimL N B ok0 w0 E C s a w) {k : Nat} (hk : afind s.heap k = none) : ¬ E.D k := fun hd => (hs.sim.ent.2 k hd).1 hk

theorem Does.toL (hs : SimL N B ok0 w0 E C s a w) {o : Oper} {d : Option Nat} {e : Eff} (h : Does P N B ok0 w0 { E with R := s.reb } o a w (s.den.app d e)) : DoesL P N B ok0 w0 E o a w (s.apply d e) := by
  intro K Q hK
  refine h K Q fun a' w' hx => ?_
  obtain ⟨C', hs'⟩ := hx
  refine hK a' w' ⟨C', ⟨?_, fun k hk => ?_⟩⟩
  · rw [den_apply]; exact hs'
  · rcases mem_newKeys e.ups s.heap s.own hk with h1 | h1
    · exact hs.own k h1
    · exact notD hs h1

theorem not_contains {l : List Nat} {k : Nat} (h : l.contains k = false) : k ∉ l := by simpa using h

theorem den_of (slots : List (Nat × AV)) (heap : List (Nat × Obj)) (frz own reb : List Nat) : SL.den { slots := slots, heap := heap, frz := frz, own := own, reb := reb } = { slot := aget .undef slots, heap := afind heap, frz := fun k => frz.contains k } := rfl

theorem aget_putD (slots : List (Nat × AV)) (d : Option Nat) (v : AV) : aget .undef (putD slots d v) = fun t => if d = some t then v else aget .undef slots t := by
  funext t
  cases d with
  | none => simp [putD]
  | some x => simp [putD, aget_aput]

theorem afind_aputF (heap : List (Nat × Obj)) (k : Nat) (o : Obj) : afind (aput heap k o) = setH (afind heap) k o := by
  funext x
  rw [afind_aput]
  simp [setH, eq_comm]

theorem afind_scrubF (ks : List Nat) (heap : List (Nat × Obj)) : afind (scrubHeap ks heap) = mapH ks (afind heap) := by
  funext x
  exact afind_scrubHeap ks heap x

/-- Append. -/
theorem d_app {args : Array Operand} {argTypes : Array TypeId} {dst : Option Nat} {ty : Nat} {pos : String} {after : Array Edge} {guard : Option (Nat × Bool)} {k : Nat} {e1 : TypeId} {sz bytes : Nat} {x1 y1 : AX}
    (hc : cOp P ks fid ⟨dst, .call ⟨.builtin .append, args, argTypes⟩, ty, pos, after, guard⟩ = some (.app k e1 sz bytes x1 y1)) (he : stepApp k e1 sz bytes (s.den.ev x1) (s.den.ev y1) s dst = some s')
    (hs : SimL N B ok0 w0 E C s a w) (hd : ∀ x, dst = some x → x < N) : DoesL P N B ok0 w0 E ⟨dst, .call ⟨.builtin .append, args, argTypes⟩, ty, pos, after, guard⟩ a w s' := by
  simp only [cOp] at hc
  split at hc
  case h_2 => cases hc
  rename_i x0 y0 t u hargs hts
  obtain ⟨htu, hc1⟩ := of_ite hc
  clear hc
  subst htu
  split at hc1
  case h_2 => cases hc1
  rename_i e x y helem hx' hy'
  obtain ⟨⟨c1, c2, c3, c4⟩, hc2⟩ := of_ite hc1
  clear hc1
  split at hc2
  case isTrue => cases hc2
  simp only [Option.some.injEq, AOp.app.injEq] at hc2
  obtain ⟨-, rfl, rfl, rfl, rfl, rfl⟩ := hc2
  have hargs' : args = #[x0, y0] := by rw [← Array.toArray_toList (xs := args), hargs]
  have hts' : argTypes = #[t, t] := by rw [← Array.toArray_toList (xs := argTypes), hts]
  subst hargs'
  subst hts'
  have ht : P.underlying t = some (.slice e) := by
    unfold elemT at helem
    split at helem
    · rename_i hu; cases helem; exact hu
    · cases helem
  obtain ⟨z, hz, hzl⟩ : ∃ z, zeroC P e = some z ∧ z.length = P.cellsOf e := by
    cases hz : zeroC P e with
    | none => rw [hz] at c4; simp at c4
    | some z => rw [hz] at c4; exact ⟨z, rfl, by simpa using c4⟩
  have hsx := hs.sim.ev hx'
  have hsy := hs.sim.ev hy'
  unfold stepApp at he
  split at he
  case h_2 => cases he
  rename_i news hnews
  obtain ⟨hall0, he1⟩ := of_ite he
  clear he
  have hall : ∀ cs ∈ news, cs.length = P.cellsOf e ∧ ∀ u ∈ cs, u.isCell = true := fun cs hcs => by
    have := List.all_eq_true.1 hall0 cs hcs
    simp only [Bool.and_eq_true, decide_eq_true_eq] at this
    exact ⟨this.1, fun u hu => List.all_eq_true.1 this.2 u hu⟩
  split at he1
  · -- onto nil
    rename_i szn hxe
    split at he1
    case h_2 => cases he1
    rename_i hk
    obtain ⟨⟨hby, hfk⟩, he2⟩ := of_ite he1
    clear he1
    cases he2
    rw [hxe] at hsx
    have hvx : a.eval x0 = .slice none 0 0 := by
      have := hsx.1.imm_inv
      generalize a.eval x0 = vx at *
      cases this
      rfl
    intro K Q hK
    have hk' : s.den.heap k = none := hk
    obtain ⟨ad1, ad2⟩ := hs.sim.h.adopt (k := k) hk e (P.cellsOf e)
    have dom_ne : ∀ {u : AV}, (∀ x ∈ u.keys, s.den.heap x ≠ none) → ∀ x ∈ u.keys, setC C k none x = C x := fun h x hx => setC_ne _ _ (by rintro rfl; exact h x hx hk)
    have hnews' : appended (setH s.den.heap k { sz := P.cellsOf e, ty := e, es := [], refs := [] }) (P.cellsOf e) (s.den.ev y) = some news := by
      rw [← hnews]
      unfold appended
      split
      · rfl
      · rename_i o i n hy
        have : o ≠ k := by rintro rfl; exact hsy.2 o (by rw [hy]; simp [AV.keys]) hk
        rw [setH_ne _ _ this]
      · rfl
    obtain ⟨_, _, _, _, hnk⟩ := appended_rep hs.sim.h hnews hsy.1 hall
    have hnoself : ∀ cs ∈ news, k ∉ AV.keysL cs := fun cs hcs hkm => hnk cs hcs k hkm hk
    obtain ⟨C', v', w', r1, r2, r3, r4, r5⟩ := s_append (ty := ty) ad1 (o := k) (n := 0) (setH_self _ _ _) hfk rfl rfl rfl ht c1 rfl c3 c2 hz hzl (.nilsl (setC_self _ _ _)) hnews' (hsy.1.mono ad2 (fun _ _ => rfl) (dom_ne hsy.2)) hall (by simpa using hby) hnoself (by simp) (rs := keysLL news)
        (fun cs hcs x hx => keysLL_mem.2 ⟨cs, hcs, hx⟩) (fun x hx => keysLL_mem.1 hx)
    refine wp_of_value (v := v') (w' := w') (run_append_op (by rw [hvx]; exact r1)) (hK _ _ ⟨C', ⟨?_, fun x hx => ?_⟩⟩)
    · have hH : setH (mapH [k] (setH s.den.heap k { sz := P.cellsOf e, ty := e, es := [], refs := [] })) k { sz := P.cellsOf e, ty := e, es := [] ++ news, refs := keysLL news ++ [] } = setH s.den.heap k { sz := P.cellsOf e, ty := e, es := news, refs := keysLL news } := by
        funext x
        by_cases ex : x = k
        · subst ex; rw [setH_self, setH_self]; simp
        · rw [setH_ne _ _ ex, setH_ne _ _ ex]
          simp only [mapH, setH_ne _ _ ex]
          cases hx : s.den.heap x with
          | none => rfl
          | some ox =>
            rw [Option.map_some, scrubO_id]
            intro q hq hqk
            simp at hqk
            subst hqk
            exact hs.sim.h.wf x ox _ hx hq hk
      rw [hH] at r3 r4
      have fin := hs.sim.put r3 (fun x hx => by
          have ex : x ≠ k := by rintro rfl; exact hx hk
          rw [r2 x ex, setC_ne _ _ ex]) (fun b hb => (r4 b (ad2 b hb)).1) (fun b hb => (r4 b (ad2 b hb)).2) (fun x hx => by
          by_cases ex : x = k
          · subst ex; rw [setH_self]; simp
          · rw [setH_ne _ _ ex]; exact hx) (r5 _) (fun x hx => by simp [AV.keys] at hx; subst hx; rw [setH_self]; simp) (d := dst) hd
      rw [den_of, aget_putD, afind_aputF]
      simp only [Nat.zero_add] at fin
      exact fin
    · rcases List.mem_cons.1 hx with rfl | hx
      · exact notD hs hk
      · exact hs.own x hx
  · -- onto a row
    rename_i o n hxe
    split at he1
    case h_2 => cases he1
    rename_i ob hob
    obtain ⟨⟨q1, q2, q3, q4, q5, q6, q7⟩, he2⟩ := of_ite he1
    clear he1
    cases he2
    rw [hxe] at hsx
    have hob' : s.den.heap o = some ob := hob
    intro K Q hK
    obtain ⟨_, _, _, _, hnk⟩ := appended_rep hs.sim.h hnews hsy.1 hall
    obtain ⟨C', v', w', r1, r2, r3, r4, r5⟩ := s_append (ty := ty) hs.sim.h (o := o) (n := n) hob' q4 q1 q2 q3 ht c1 rfl c3 c2 hz hzl hsx.1 hnews hsy.1 hall q5 (fun cs hcs hm => not_contains q6 (keysLL_mem.2 ⟨cs, hcs, hm⟩)) (not_contains q7) (rs := keysLL news)
        (fun cs hcs x hx => keysLL_mem.2 ⟨cs, hcs, hx⟩) (fun x hx => keysLL_mem.1 hx)
    refine wp_of_value (v := v') (w' := w') (run_append_op r1) (hK _ _ ⟨C', ⟨?_, hs.own⟩⟩)
    have dom : ∀ x, s.den.heap x ≠ none → setH (mapH [o] s.den.heap) o { ob with es := ob.es ++ news, refs := keysLL news ++ ob.refs } x ≠ none := fun x hx => by
      by_cases ex : x = o
      · subst ex; rw [setH_self]; simp
      · rw [setH_ne _ _ ex]; simpa [mapH] using hx
    rw [den_of, aget_putD, afind_aputF, afind_scrubF]
    refine ⟨r3, fun t => ?_, fun t k hk => ?_, by rw [Act.put_defers']; exact hs.sim.defers, by rw [Act.put_size]; exact hs.sim.size, fun b hb => ?_, fun k hk => ?_⟩
    · rw [Act.put_tmps a dst v' t (fun x hx => Nat.lt_of_lt_of_le (hd x hx) hs.sim.size)]
      simp only
      split
      · exact r5 _
      · rw [aget_scrub]
        exact (hs.sim.slot t).scrub (fun b hb => (r4 b hb).1) (fun b hb => (r4 b hb).2) fun k _ hk => r2 k (by simpa using hk)
    · simp only at hk ⊢
      split at hk
      · simp [AV.keys] at hk; subst hk; rw [setH_self]; simp
      · rw [aget_scrub] at hk
        exact dom k (hs.sim.wfs t k (keys_scrub _ _ _ hk).1)
    · have := hs.sim.ent.1 b hb
      exact ⟨(r4 b this.1).1, (r4 b this.1).2.trans this.2⟩
    · have := hs.sim.ent.2 k hk
      refine ⟨dom k this.1, fun hR => ?_⟩
      simp only [List.mem_cons, not_or] at hR
      exact (r2 k hR.1).trans (this.2 hR.2)
  · cases he1

/-- A call that is evaluated in place. -/
theorem d_inl {o : Oper} {f : FuncId} {args : Array Value} {as : List AV} (hI : InlSound P ic) (he : stepInl (ic f as s.heap s.frz) s o.dst = some s') (hs : SimL N B ok0 w0 E C s a w) (hd : ∀ x, o.dst = some x → x < N)
    (hrun : Enters P f → (execOp a.eval o).run P w = .ok (.enter f args) w) (hlen : as.length = args.size)
    (hrep : ∀ (j : Nat) (u : AV) (v : Value), as[j]? = some u → args[j]? = some v → Rep C (okb B ok0 C s.den.heap s.den.frz w) w u v) (hkeys : ∀ u ∈ as, ∀ k ∈ u.keys, s.den.heap k ≠ none) : DoesL P N B ok0 w0 E o a w s' := by
  unfold stepInl at he
  split at he
  case h_2 => cases he
  rename_i r hr
  cases he
  obtain ⟨hen, hcall⟩ := hI f as s.heap s.frz r hr
  intro K Q hK
  have hcalls := hcall B ok0 w0 C w args hs.sim.h hlen hrep hkeys
  unfold Oper.wp
  rw [hrun hen]
  simp only [Oper.upon]
  refine hcalls.mono fun e w' he => ?_
  obtain ⟨v, rfl, C', h1, h2, h3, h4, h5, h6⟩ := he
  refine hK _ _ ⟨C', ⟨?_, fun k hk => ?_⟩⟩
  · rw [den_of, aget_putD]
    refine ⟨h1, fun t => ?_, fun t k hk => ?_, by rw [Act.put_defers']; exact hs.sim.defers, by rw [Act.put_size]; exact hs.sim.size, fun b hb => ?_, fun k hk => ?_⟩
    · rw [Act.put_tmps a o.dst v t (fun x hx => Nat.lt_of_lt_of_le (hd x hx) hs.sim.size)]
      simp only
      split
      · exact h4
      · rw [aget_scrub]
        exact (hs.sim.slot t).scrub (fun b hb => (h3 b hb).1) (fun b hb => (h3 b hb).2) fun k hk hn => (h2 k (hs.sim.wfs t k hk)).2 hn
    · simp only at hk ⊢
      split at hk
      · exact h5 k hk
      · rw [aget_scrub] at hk
        exact (h2 k (hs.sim.wfs t k (keys_scrub _ _ _ hk).1)).1
    · have := hs.sim.ent.1 b hb
      exact ⟨(h3 b this.1).1, (h3 b this.1).2.trans this.2⟩
    · have := hs.sim.ent.2 k hk
      refine ⟨(h2 k this.1).1, fun hR => ?_⟩
      simp only [List.mem_append, not_or] at hR
      exact ((h2 k this.1).2 hR.1).trans (this.2 hR.2)
  · rcases List.mem_append.1 hk with hk | hk
    · exact notD hs (h6 k hk)
    · exact hs.own k hk

theorem map_some_simple {α : Type} {x : Option α} {f : α → AOp} {y : AOp} (h : x.map f = some y) (hf : ∀ z, (f z).simple = true) : y.simple = true := by
  obtain ⟨z, _, rfl⟩ := Option.map_eq_some_iff.1 h
  exact hf z

theorem cOp_simple {o : Oper} {aop : AOp} (hc : cOp P ks fid o = some aop) (hcall : ∀ c, o.op ≠ .call c) : aop.simple = true := by
  obtain ⟨dst, op, ty, pos, after, guard⟩ := o
  cases op
  case call c => exact absurd rfl (hcall c)
  all_goals simp only [cOp] at hc
  all_goals (repeat' split at hc)
  all_goals first
    | (cases hc; done)
    | contradiction
    | (cases hc; rfl)
    | exact map_some_simple hc fun _ => rfl

theorem cOp_call {c : Call} {dst : Option Nat} {ty : Nat} {pos : String} {after : Array Edge} {guard : Option (Nat × Bool)} {aop : AOp} (hc : cOp P ks fid ⟨dst, .call c, ty, pos, after, guard⟩ = some aop) :
    aop.simple = true ∨ (∃ k e sz bytes x y, aop = .app k e sz bytes x y ∧ c.callee = .builtin .append) ∨
      (∃ f as, aop = .icall f as ∧ c.callee = .value (.func f) ∧ axs P c.argTypes.toList c.args.toList = some as) ∨
      ∃ v x as, aop = .ccall x as ∧ c.callee = .value v ∧ axOf P 0 v = some x ∧ axs P c.argTypes.toList c.args.toList = some as := by
  obtain ⟨callee, args, argTypes⟩ := c
  simp only [cOp] at hc
  split at hc
  · repeat' split at hc
    all_goals first
      | (cases hc; done)
      | (cases hc; exact .inl rfl)
  · repeat' split at hc
    all_goals first
      | (cases hc; done)
      | (cases hc; exact .inl rfl)
  · repeat' split at hc
    all_goals first
      | (cases hc; done)
      | (cases hc; exact .inr (.inl ⟨_, _, _, _, _, _, rfl, rfl⟩))
      | (cases hc; exact .inl rfl)
  · split at hc
    · rename_i as has
      split at hc
      · cases hc; exact .inl rfl
      · split at hc
        · cases hc; exact .inl rfl
        · cases hc; exact .inr (.inr (.inl ⟨_, _, rfl, rfl, has⟩))
    · cases hc
  · split at hc
    · rename_i x as hx has
      cases hc
      exact .inr (.inr (.inr ⟨_, _, _, rfl, rfl, hx, has⟩))
    · cases hc
  · cases hc

theorem applyO_inv {s : SL} {d : Option Nat} {x : Option Eff} {s' : SL} (h : applyO s d x = some s') : ∃ e, x = some e ∧ s' = s.apply d e := by
  cases x with
  | none => cases h
  | some e => cases h; exact ⟨e, rfl, rfl⟩

/-- One operation, its guard aside. -/
theorem stepGo_sound {o : Oper} {aop : AOp} (hc : cOp P ks fid o = some aop) (he : stepGo G ic o.dst aop s = some s') (hs : SimL N B ok0 w0 E C s a w) (hd : ∀ x, o.dst = some x → x < N)
    (hG : GoodG P ks G) (hI : InlSound P ic) : DoesL P N B ok0 w0 E o a w s' := by
  have red : aop.simple = true → ∃ e, eff G aop s.den = some e ∧ s' = s.apply o.dst e := fun hsimp => by
    cases aop <;> first | exact applyO_inv he | cases hsimp
  by_cases hcall : ∃ c, o.op = .call c
  · obtain ⟨c, hop⟩ := hcall
    obtain ⟨dst, op, ty, pos, after, guard⟩ := o
    simp only at hop
    subst hop
    rcases cOp_call hc with h | ⟨k, e, sz, bytes, x, y, rfl, h⟩ | ⟨f, as, rfl, h, has⟩ | ⟨v, x, as, rfl, h, hx, has⟩
    · obtain ⟨e, h1, rfl⟩ := red h
      exact (simple_call c hc h1 hs.sim hd hG).toL hs
    · obtain ⟨callee, args, argTypes⟩ := c
      simp only at h
      subst h
      exact d_app hc he hs hd
    · obtain ⟨callee, args, argTypes⟩ := c
      simp only at h has
      subst h
      obtain ⟨m1, m2⟩ := args_rep hs.sim has
      refine d_inl (args := args.map a.eval) hI he hs hd (fun hen => by simp [execOp, resolve, Act.eval, Deferred.ofValue, invoke, run_callFunc hen]) (by simpa using m1) (fun j u v hj hv => ?_) fun u hu k hk => ?_
      · obtain ⟨x, hx, hrep, _⟩ := m2 j u hj
        have hx' : args[j]? = some x := by simpa using hx
        simp [hx'] at hv
        subst hv
        exact hrep
      · obtain ⟨j, hj⟩ := List.getElem?_of_mem hu
        obtain ⟨_, _, _, hk'⟩ := m2 j u hj
        exact hk' k hk
    · obtain ⟨callee, args, argTypes⟩ := c
      simp only at h has
      subst h
      obtain ⟨m1, m2⟩ := args_rep hs.sim has
      have hv := hs.sim.ev hx
      simp only [stepGo] at he
      split at he
      · rename_i f caps hxe
        rw [hxe] at hv
        obtain ⟨vs, hvs, hl, hcap⟩ := hv.1.fn_inv
        refine d_inl (args := args.map a.eval ++ vs) hI he hs hd (fun hen => ?_) (by simp; have := m1; simp at this; omega) (fun j u y hj hy => ?_) fun u hu k hk => ?_
        · simp [execOp, resolve, hvs, Deferred.ofValue, invoke, run_callFunc hen]
        · have hm : (List.map s.den.ev as).length = (args.map a.eval).size := by simpa using m1
          rcases Nat.lt_or_ge j (List.map s.den.ev as).length with lt | ge
          · rw [List.getElem?_append_left lt] at hj
            rw [Array.getElem?_append_left (by omega)] at hy
            obtain ⟨x, hx, hrep, _⟩ := m2 j u hj
            have hx' : args[j]? = some x := by simpa using hx
            simp [hx'] at hy
            subst hy
            exact hrep
          · rw [List.getElem?_append_right ge] at hj
            rw [Array.getElem?_append_right (by omega), ← hm] at hy
            exact hcap _ u y hj hy
        · rcases List.mem_append.1 hu with hu | hu
          · obtain ⟨j, hj⟩ := List.getElem?_of_mem hu
            obtain ⟨_, _, _, hk'⟩ := m2 j u hj
            exact hk' k hk
          · obtain ⟨j, hj⟩ := List.getElem?_of_mem hu
            exact hv.2 k (by simp only [AV.keys]; exact mem_keysL.2 ⟨j, u, hj, hk⟩)
      · cases he
  · obtain ⟨e, h1, rfl⟩ := red (cOp_simple hc fun c hop => hcall ⟨c, hop⟩)
    exact (eff_sound o aop e hc h1 hs.sim hd fun c hop => hcall ⟨c, hop⟩).toL hs

/-- One operation of a region. -/
theorem stepL_sound {ops : Array Oper} {i : Nat} {o : Oper} {aop : AOp} {g : Option (Nat × Bool)} {Q : Exit → Act → World → Prop} {K : Act → World → Prop} (hi : ops[i]? = some o) (hc : cOp P ks fid o = some aop) (hg : cGuard ops o.guard = some g)
    (he : stepL G ic ⟨o.dst, g, aop⟩ s = some s') (hs : SimL N B ok0 w0 E C s a w) (hd : ∀ x, o.dst = some x → x < N) (hG : GoodG P ks G) (hI : InlSound P ic)
    (hK : ∀ a' w', SimLX N B ok0 w0 E s' a' w' → K a' w') : wpOp P ops Q i K a w := by
  unfold wpOp
  simp only [hi]
  cases hgd : o.guard with
  | none =>
    rw [hgd] at hg
    cases hg
    simp only [Region.wanted, hgd, if_true]
    exact .inl (stepGo_sound hc he hs hd hG hI K Q hK)
  | some jw =>
    obtain ⟨j, want⟩ := jw
    rw [hgd] at hg
    simp only [cGuard] at hg
    split at hg
    case h_2 => cases hg
    rename_i d hd'
    cases hg
    simp only [stepL] at he
    split at he
    case h_2 => cases he
    rename_i b hb
    have hv : a.tmps[d]? = some (.bool b) := by
      have h1 := (hs.sim.slot d)
      rw [hb] at h1
      have h2 := h1.bool_inv
      rw [Array.getD_eq_getD_getElem?] at h2
      cases h3 : a.tmps[d]? with
      | none => rw [h3] at h2; cases h2
      | some x => rw [h3] at h2; simp at h2; rw [h2]
    have hy : yielded ops a.tmps j = some b := by simp [yielded, hd', hv]
    simp only [Region.wanted, hgd, hy]
    by_cases hbw : b = want
    · subst hbw
      rw [if_pos rfl] at he
      rw [if_pos (by simp)]
      exact .inl (stepGo_sound hc he hs hd hG hI K Q hK)
    · rw [if_neg hbw] at he
      cases he
      rw [if_neg (by simp [hbw])]
      refine hK _ _ ⟨C, ⟨?_, hs.own⟩⟩
      have := hs.sim.put (u := .undef) (v := undef) hs.sim.h (fun _ _ => rfl) (fun _ h => h) (fun _ _ => rfl) (fun _ h => h) (.data (.undef _)) (by simp [AV.keys]) hd
      rw [den_of, aget_putD]
      exact this

end
end Go.Ev
