/-
  The operations without a call: what the evaluator says of them is what the model does.
-/
import Derived.Test.YthlpmghodgiknaaEvB
import Derived.Laws.Cells
import Derived.Laws.CopyRow
import Derived.Laws.Slices
import Derived.Laws.Build
import Derived.Laws.Small
namespace Go.Ev
open Go Go.RowKit

def upsH (H : Nat → Option Obj) : List (Nat × Obj) → Nat → Option Obj
  | [] => H
  | (k, o) :: r => upsH (setH H k o) r

def St.app (S : St) (d : Option Nat) (e : Eff) : St :=
  { slot := fun t => if d = some t then e.val else S.slot t, heap := upsH S.heap e.ups, frz := fun k => e.frz.contains k || S.frz k }

/-- Where a call began: the blocks in which data lay, the world, the rows and their places; 'R': the rows whose place may have turned since. -/
structure Entry where
  ok : Nat → Prop
  w : World
  C : Conc
  D : Nat → Prop
  R : List Nat

structure Sim (N B : Nat) (ok0 : Nat → Prop) (w0 : World) (E : Entry) (C : Conc) (S : St) (a : Act) (w : World) : Prop where
  h : SimH B ok0 w0 C S.heap S.frz w
  slot : ∀ t, Rep C (okb B ok0 C S.heap S.frz w) w (S.slot t) (a.tmps.getD t undef)
  wfs : ∀ t k, k ∈ (S.slot t).keys → S.heap k ≠ none
  defers : a.defers = []
  size : N ≤ a.tmps.size
  ent : (∀ b, E.ok b → okb B ok0 C S.heap S.frz w b ∧ w.heap[b]? = E.w.heap[b]?) ∧ ∀ k, E.D k → S.heap k ≠ none ∧ (k ∉ E.R → C k = E.C k)

def SimX (N B : Nat) (ok0 : Nat → Prop) (w0 : World) (E : Entry) (S : St) (a : Act) (w : World) : Prop := ∃ C, Sim N B ok0 w0 E C S a w

section
variable {N B : Nat} {ok0 : Nat → Prop} {w0 : World} {E : Entry} {C : Conc} {S : St} {a : Act} {w : World} {P : Program} {ks : Kinds} {fid : FuncId}

theorem Act.put_tmps (a : Act) (d : Option Nat) (v : Value) (t : Nat) (hd : ∀ x, d = some x → x < a.tmps.size) : (a.put d v).tmps.getD t undef = if d = some t then v else a.tmps.getD t undef := by
  cases d with
  | none => simp [Act.put]
  | some x =>
    have hx := hd x rfl
    simp only [Act.put, Array.getD_eq_getD_getElem?, Array.getElem?_setIfInBounds, Option.some.injEq]
    by_cases e : x = t
    · subst e; simp [hx]
    · simp [e]

theorem Act.put_size (a : Act) (d : Option Nat) (v : Value) : (a.put d v).tmps.size = a.tmps.size := by cases d <;> simp [Act.put]
theorem Act.put_defers' (a : Act) (d : Option Nat) (v : Value) : (a.put d v).defers = a.defers := by cases d <;> rfl

/-- A slot is written; the memory may have turned where nobody looks. -/
theorem Sim.put (hs : Sim N B ok0 w0 E C S a w) {C' : Conc} {H' : Nat → Option Obj} {F' : Nat → Bool} {w' : World} (h' : SimH B ok0 w0 C' H' F' w')
    (hC : ∀ k, S.heap k ≠ none → C' k = C k) (hok : ∀ b, okb B ok0 C S.heap S.frz w b → okb B ok0 C' H' F' w' b) (hw : ∀ b, okb B ok0 C S.heap S.frz w b → w'.heap[b]? = w.heap[b]?)
    (hdom : ∀ k, S.heap k ≠ none → H' k ≠ none) {u : AV} {v : Value} (hr : Rep C' (okb B ok0 C' H' F' w') w' u v) (hk : ∀ k ∈ u.keys, H' k ≠ none) {d : Option Nat} (hd : ∀ x, d = some x → x < N) :
    Sim N B ok0 w0 E C' { slot := fun t => if d = some t then u else S.slot t, heap := H', frz := F' } (a.put d v) w' := by
  refine ⟨h', fun t => ?_, fun t k hk' => ?_, by rw [Act.put_defers']; exact hs.defers, by rw [Act.put_size]; exact hs.size, fun b hb => ⟨hok b (hs.ent.1 b hb).1, (hw b (hs.ent.1 b hb).1).trans (hs.ent.1 b hb).2⟩,
    fun k hk => ⟨hdom k (hs.ent.2 k hk).1, fun hR => (hC k (hs.ent.2 k hk).1).trans ((hs.ent.2 k hk).2 hR)⟩⟩
  · rw [Act.put_tmps a d v t (fun x hx => Nat.lt_of_lt_of_le (hd x hx) hs.size)]
    simp only
    split
    · exact hr
    · exact (hs.slot t).mono hok hw fun k hk' => hC k (hs.wfs t k hk')
  · simp only at hk' ⊢
    split at hk'
    · exact hk k hk'
    · exact hdom k (hs.wfs t k hk')

/-- An operation that yields a value and leaves the memory alone (rows may be frozen). -/
theorem Sim.value (hs : Sim N B ok0 w0 E C S a w) {e : Eff} (hu : e.ups = []) {v : Value} (hr : Rep C (okb B ok0 C S.heap (S.app none e).frz w) w e.val v) (hk : ∀ k ∈ e.val.keys, S.heap k ≠ none)
    {d : Option Nat} (hd : ∀ x, d = some x → x < N) : SimX N B ok0 w0 E (S.app d e) (a.put d v) w := by
  obtain ⟨h', hok⟩ := hs.h.freeze (F' := (S.app none e).frz) (fun k hk => by simp [St.app, hk])
  refine ⟨C, ?_⟩
  have := hs.put h' (fun _ _ => rfl) hok (fun _ _ => rfl) (fun _ h => h) hr hk hd
  simpa [St.app, hu, upsH] using this

theorem wp_of_value {o : Oper} {K : Act → World → Prop} {Q : Exit → Act → World → Prop} {v : Value} {w' : World} (h : (execOp a.eval o).run P w = .ok (.value v) w') (hK : K (a.put o.dst v) w') : o.wp P a w K Q := by
  unfold Oper.wp; rw [h]; exact hK

theorem wp_of_skip {o : Oper} {K : Act → World → Prop} {Q : Exit → Act → World → Prop} {w' : World} (h : (execOp a.eval o).run P w = .ok .skip w') (hK : K (a.put o.dst undef) w') : o.wp P a w K Q := by
  unfold Oper.wp; rw [h]; exact hK

/-! ### Operands -/

theorem constAV_rep {ok : Nat → Prop} {t : TypeId} {v : Value} {u : AV} (h : constAV P t v = some u) : RepI ok w u v ∧ u.keys = [] := by
  unfold constAV at h
  split at h
  · cases h; exact ⟨.int _ _, rfl⟩
  · cases h; exact ⟨.bool _, rfl⟩
  · cases h; exact ⟨.str _, rfl⟩
  · cases h; exact ⟨.nilp, rfl⟩
  · split at h
    · cases h; exact ⟨.nils _, rfl⟩
    · cases h
  · cases h

theorem Sim.ev (hs : Sim N B ok0 w0 E C S a w) {t : TypeId} {x : Operand} {y : AX} (h : axOf P t x = some y) :
    Rep C (okb B ok0 C S.heap S.frz w) w (S.ev y) (a.eval x) ∧ ∀ k ∈ (S.ev y).keys, S.heap k ≠ none := by
  cases x with
  | tmp n => simp only [axOf] at h; cases h; exact ⟨hs.slot n, hs.wfs n⟩
  | const v =>
    simp only [axOf, Option.map_eq_some_iff] at h
    obtain ⟨u, hu, rfl⟩ := h
    obtain ⟨h1, h2⟩ := constAV_rep hu
    exact ⟨.data h1, by simp [St.ev, h2]⟩
  | func f => simp only [axOf] at h; cases h; exact ⟨.fn (by simp) (by simp), by simp [St.ev, AV.keys, AV.keysL]⟩
  | global g => simp [axOf] at h

theorem zOkV_rep {ok : Nat → Prop} {z : AV} {v : Value} (h : zOkV z v = true) : RepI ok w z v ∧ z.keys = [] ∧ z.isCell = true := by
  unfold zOkV at h
  split at h
  · simp at h; subst h; exact ⟨.bool _, rfl, rfl⟩
  · simp at h; obtain ⟨rfl, rfl⟩ := h; exact ⟨.int _ _, rfl, rfl⟩
  · simp at h; subst h; exact ⟨.str _, rfl, rfl⟩
  · exact ⟨.nilp, rfl, rfl⟩
  · exact ⟨.nils _, rfl, rfl⟩
  · cases h

theorem zOkL_rep {ok : Nat → Prop} : ∀ {z : List AV} {vs : List Value}, zOkL z vs = true → z.length = vs.length ∧ (∀ (j : Nat) (u : AV) (v : Value), z[j]? = some u → vs[j]? = some v → RepI ok w u v) ∧ AV.keysL z = [] ∧ ∀ u ∈ z, u.isCell = true
  | [], [], _ => ⟨rfl, by simp, rfl, by simp⟩
  | z :: zs, v :: vs, h => by
    simp only [zOkL, Bool.and_eq_true] at h
    obtain ⟨h1, h2, h3⟩ := zOkV_rep (w := w) (ok := ok) h.1
    obtain ⟨i1, i2, i3, i4⟩ := zOkL_rep (ok := ok) h.2
    refine ⟨by simp [i1], fun j u x hj hx => ?_, by simp [AV.keysL, h2, i3], by simpa [h3] using i4⟩
    cases j with
    | zero => simp at hj hx; subst hj; subst hx; exact h1
    | succ j => exact i2 j u x (by simpa using hj) (by simpa using hx)
  | [], _ :: _, h => by simp [zOkL] at h
  | _ :: _, [], h => by simp [zOkL] at h

theorem zeroC_rep {t : TypeId} {z : List AV} (h : zeroC P t = some z) : ∃ i v, P.info? t = some i ∧ i.zero = some v ∧ zOkL z v.cells.toList = true := by
  unfold zeroC at h
  split at h
  · rename_i z' v h1 h2
    split at h
    · rename_i h3
      cases h
      obtain ⟨i, hi, hz⟩ := Option.bind_eq_some_iff.1 h2
      exact ⟨i, v, hi, hz, h3⟩
    · cases h
  · cases h

/-! ### Arithmetic -/

theorem if_some {p : Prop} [Decidable p] {z : Option AV} {r : AV} (hh : (if p then z else none) = some r) : p ∧ z = some r := by split at hh <;> simp_all
theorem if_none {p : Prop} [Decidable p] {z : Option AV} {r : AV} (hh : (if p then none else z) = some r) : ¬ p ∧ z = some r := by split at hh <;> simp_all

theorem run_binI {op : BinOp} {t : TypeId} {k k' : IntKind} {n n' : Int} {r : AV} {ok : Nat → Prop} (h : binI op k n k' n' = some r) :
    ∃ v, (binOp op t (.int k n) (.int k' n')).run P w = .ok v w ∧ RepI ok w r v ∧ r.keys = [] := by
  cases op with
  | shl => simp only [binI] at h; obtain ⟨h0, h2⟩ := if_none h; cases h2; refine ⟨_, ?_, .int _ _, rfl⟩; rw [binOp_shl]; simp [Op.shift, h0]
  | shr => simp only [binI] at h; obtain ⟨h0, h2⟩ := if_none h; cases h2; refine ⟨_, ?_, .int _ _, rfl⟩; rw [binOp_shr]; simp [Op.shift, h0]
  | quo => simp only [binI] at h; obtain ⟨e, h1⟩ := if_some h; clear h; subst e; obtain ⟨h0, h2⟩ := if_none h1; cases h2; refine ⟨_, ?_, .int _ _, rfl⟩; rw [binOp_quo]; simp [Op.intDiv, h0]
  | rem => simp only [binI] at h; obtain ⟨e, h1⟩ := if_some h; clear h; subst e; obtain ⟨h0, h2⟩ := if_none h1; cases h2; refine ⟨_, ?_, .int _ _, rfl⟩; rw [binOp_rem]; simp [Op.intDiv, h0]
  | add => simp only [binI] at h; obtain ⟨e, h1⟩ := if_some h; clear h; subst e; cases h1; refine ⟨_, ?_, .int _ _, rfl⟩; rw [binOp_add]; rfl
  | sub => simp only [binI] at h; obtain ⟨e, h1⟩ := if_some h; clear h; subst e; cases h1; refine ⟨_, ?_, .int _ _, rfl⟩; rw [binOp_sub]; rfl
  | mul => simp only [binI] at h; obtain ⟨e, h1⟩ := if_some h; clear h; subst e; cases h1; refine ⟨_, ?_, .int _ _, rfl⟩; rw [binOp_mul]; rfl
  | and => simp only [binI] at h; obtain ⟨e, h1⟩ := if_some h; clear h; subst e; cases h1; refine ⟨_, ?_, .int _ _, rfl⟩; rw [binOp_and]; rfl
  | or => simp only [binI] at h; obtain ⟨e, h1⟩ := if_some h; clear h; subst e; cases h1; refine ⟨_, ?_, .int _ _, rfl⟩; rw [binOp_or]; rfl
  | xor => simp only [binI] at h; obtain ⟨e, h1⟩ := if_some h; clear h; subst e; cases h1; refine ⟨_, ?_, .int _ _, rfl⟩; rw [binOp_xor]; rfl
  | andNot => simp only [binI] at h; obtain ⟨e, h1⟩ := if_some h; clear h; subst e; cases h1; refine ⟨_, ?_, .int _ _, rfl⟩; rw [binOp_andNot]; rfl
  | eql => simp only [binI] at h; obtain ⟨e, h1⟩ := if_some h; clear h; subst e; cases h1; refine ⟨_, ?_, .bool _, rfl⟩; rw [binOp_eql]; rfl
  | neq => simp only [binI] at h; obtain ⟨e, h1⟩ := if_some h; clear h; subst e; cases h1; refine ⟨_, ?_, .bool _, rfl⟩; rw [binOp_neq]; rfl
  | lss => simp only [binI] at h; obtain ⟨e, h1⟩ := if_some h; clear h; subst e; cases h1; refine ⟨_, ?_, .bool _, rfl⟩; rw [binOp_lss]; rfl
  | leq => simp only [binI] at h; obtain ⟨e, h1⟩ := if_some h; clear h; subst e; cases h1; refine ⟨_, ?_, .bool _, rfl⟩; rw [binOp_leq]; rfl
  | gtr => simp only [binI] at h; obtain ⟨e, h1⟩ := if_some h; clear h; subst e; cases h1; refine ⟨_, ?_, .bool _, rfl⟩; rw [binOp_gtr]; rfl
  | geq => simp only [binI] at h; obtain ⟨e, h1⟩ := if_some h; clear h; subst e; cases h1; refine ⟨_, ?_, .bool _, rfl⟩; rw [binOp_geq]; rfl

theorem run_binB {op : BinOp} {t : TypeId} {b b' : Bool} {r : AV} {ok : Nat → Prop} (ht : P.underlying t = some .bool) (h : binB op b b' = some r) :
    ∃ v, (binOp op t (.bool b) (.bool b')).run P w = .ok v w ∧ RepI ok w r v ∧ r.keys = [] := by
  cases op with
  | eql => cases h; exact ⟨_, run_eql_bool w t b b' ht, .bool _, rfl⟩
  | neq => cases h; exact ⟨_, run_neq_bool w t b b' ht, .bool _, rfl⟩
  | _ => cases h

theorem run_binOp {op : BinOp} {t : TypeId} {x y r : AV} {vx vy : Value} {ok : Nat → Prop} (hx : Rep C ok w x vx) (hy : Rep C ok w y vy) (h : binE op x y = some r) :
    ∃ k n k' n' v, vx = .int k n ∧ vy = .int k' n' ∧ (binOp op t vx vy).run P w = .ok v w ∧ RepI ok w r v ∧ r.keys = [] := by
  cases x <;> cases y <;> first | (cases h; done) | skip
  obtain ⟨v, h1, h2, h3⟩ := run_binI (P := P) (w := w) (t := t) (ok := ok) h
  exact ⟨_, _, _, _, v, hx.int_inv, hy.int_inv, by rw [hx.int_inv, hy.int_inv]; exact h1, h2, h3⟩

theorem run_binbOp {op : BinOp} {t : TypeId} {x y r : AV} {vx vy : Value} {ok : Nat → Prop} (ht : P.underlying t = some .bool) (hx : Rep C ok w x vx) (hy : Rep C ok w y vy) (h : binbE op x y = some r) :
    ∃ b b' v, vx = .bool b ∧ vy = .bool b' ∧ (binOp op t vx vy).run P w = .ok v w ∧ RepI ok w r v ∧ r.keys = [] := by
  cases x <;> cases y <;> first | (cases h; done) | skip
  obtain ⟨v, h1, h2, h3⟩ := run_binB (P := P) (w := w) (t := t) (ok := ok) ht h
  exact ⟨_, _, v, hx.bool_inv, hy.bool_inv, by rw [hx.bool_inv, hy.bool_inv]; exact h1, h2, h3⟩

theorem run_unOp {op : UnOp} {x r : AV} {vx : Value} {ok : Nat → Prop} (hx : Rep C ok w x vx) (h : unE op x = some r) : ∃ v, (Op.unary op vx).run P w = .ok v w ∧ RepI ok w r v ∧ r.keys = [] := by
  unfold unE at h
  split at h
  · obtain rfl := hx.int_inv
    cases op <;> simp only at h <;> first | (cases h; done) | skip
    · cases h; refine ⟨_, ?_, .int _ _, rfl⟩; simp [Op.unary, Op.intArith]
    · cases h; refine ⟨_, ?_, .int _ _, rfl⟩; simp [Op.unary, Op.intBits]
  · obtain rfl := hx.bool_inv
    cases op <;> simp only at h <;> first | (cases h; done) | skip
    cases h; refine ⟨_, ?_, .bool _, rfl⟩; simp [Op.unary]
  · cases h

end
end Go.Ev
