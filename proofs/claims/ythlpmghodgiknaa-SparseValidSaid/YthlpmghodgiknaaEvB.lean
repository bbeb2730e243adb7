/-
  What abstract values stand for in a world, and how long.
-/
import Derived.Test.YthlpmghodgiknaaEvC
namespace Go.Ev
open Go Go.RowKit

theorem block_add (a : Addr) (n : Nat) : (a.add n).block = a.block := by unfold Addr.add; split <;> rfl
theorem add_add (a : Addr) (i j : Nat) : (a.add i).add j = a.add (i + j) := by
  unfold Addr.add
  by_cases hi : i = 0 <;> by_cases hj : j = 0 <;> simp [hi, hj, Nat.add_assoc]
theorem add_mk (b o n : Nat) : (⟨b, o, none⟩ : Addr).add n = ⟨b, o + n, none⟩ := by unfold Addr.add; split <;> simp_all

/-- Where a row of the call's own lies: its block, the type and size of an element, its capacity. -/
structure Loc where
  block : Nat
  ty : TypeId
  sz : Nat
  cap : Nat

abbrev Conc := Nat → Option Loc

/-- Data: what nobody writes any more. 'ok': the blocks in which it may lie. -/
inductive RepI (ok : Nat → Prop) (w : World) : AV → Value → Prop where
  | undef (v : Value) : RepI ok w .undef v
  | int (k : IntKind) (n : Int) : RepI ok w (.int k n) (.int k n)
  | bool (b : Bool) : RepI ok w (.bool b) (.bool b)
  | str (s : ByteArray) : RepI ok w (.str s) (.string s)
  | nilp : RepI ok w .nilp (.pointer none)
  | nils (sz : Nat) : RepI ok w (.imm true sz []) (.slice none 0 0)
  | imm {sz : Nat} {es : List (List AV)} {A : Option Addr} {n c : Nat} (ad : Addr) (vs : Nat → Nat → Value) (hn : n = es.length) (hc : es.length ≤ c)
      (hA : es ≠ [] → A = some ad ∧ ok ad.block) (hsz : ∀ cs ∈ es, cs.length = sz)
      (hcell : ∀ (i : Nat) (cs : List AV) (j : Nat) (u : AV), es[i]? = some cs → cs[j]? = some u → w.cell? (ad.add (i * sz + j)) = some (vs i j))
      (hrep : ∀ (i : Nat) (cs : List AV) (j : Nat) (u : AV), es[i]? = some cs → cs[j]? = some u → RepI ok w u (vs i j)) : RepI ok w (.imm false sz es) (.slice A n c)
  | ref {cs : List AV} {ad : Addr} (vs : Nat → Value) (hok : ok ad.block) (hcell : ∀ (j : Nat) (u : AV), cs[j]? = some u → w.cell? (ad.add j) = some (vs j))
      (hrep : ∀ (j : Nat) (u : AV), cs[j]? = some u → RepI ok w u (vs j)) : RepI ok w (.ref cs) (.pointer (some ad))
  | agg {cs : List AV} {vs : Array Value} (hl : cs.length = vs.size) (hrep : ∀ (j : Nat) (u : AV) (v : Value), cs[j]? = some u → vs[j]? = some v → RepI ok w u v) : RepI ok w (.agg cs) (.agg vs)

theorem RepI.mono {ok ok' : Nat → Prop} {w w' : World} (hok : ∀ b, ok b → ok' b) (hw : ∀ b, ok b → w'.heap[b]? = w.heap[b]?) {u : AV} {v : Value} (h : RepI ok w u v) : RepI ok' w' u v := by
  have hc : ∀ (ad : Addr) (n : Nat), ok ad.block → w'.cell? (ad.add n) = w.cell? (ad.add n) := fun ad n hb => World.cell?_of_block (by rw [block_add]; exact hw _ hb)
  induction h with
  | undef v => exact .undef v
  | int k n => exact .int k n
  | bool b => exact .bool b
  | str s => exact .str s
  | nilp => exact .nilp
  | nils sz => exact .nils sz
  | imm ad vs hn hcap hA hsz hcell _ ih =>
    refine .imm ad vs hn hcap (fun h => ⟨(hA h).1, hok _ (hA h).2⟩) hsz (fun i cs j u hi hj => ?_) ih
    rw [hc _ _ (hA (by rintro rfl; simp at hi)).2]
    exact hcell i cs j u hi hj
  | ref vs hb hcell _ ih => exact .ref vs (hok _ hb) (fun j u hj => by rw [hc _ _ hb]; exact hcell j u hj) ih
  | agg hl _ ih => exact .agg hl ih

inductive Rep (C : Conc) (ok : Nat → Prop) (w : World) : AV → Value → Prop where
  | data {u : AV} {v : Value} (h : RepI ok w u v) : Rep C ok w u v
  | ptr {o : Nat} {i off : Nat} {L : Loc} (h : C o = some L) : Rep C ok w (.ptr o i off) (.pointer (some ⟨L.block, i * L.sz + off, none⟩))
  | sl {o : Nat} {i n c : Nat} {L : Loc} (h : C o = some L) (hn : n ≤ c) (hc : i + c = L.cap) : Rep C ok w (.sl o i n) (.slice (some ⟨L.block, i * L.sz, none⟩) n c)
  | nilsl {o : Nat} (h : C o = none) : Rep C ok w (.sl o 0 0) (.slice none 0 0)
  | agg {cs : List AV} {vs : Array Value} (hl : cs.length = vs.size) (hrep : ∀ (j : Nat) (u : AV) (v : Value), cs[j]? = some u → vs[j]? = some v → Rep C ok w u v) : Rep C ok w (.agg cs) (.agg vs)
  | tup {cs : List AV} {vs : Array Value} (hl : cs.length = vs.size) (hrep : ∀ (j : Nat) (u : AV) (v : Value), cs[j]? = some u → vs[j]? = some v → Rep C ok w u v) : Rep C ok w (.tup cs) (.tuple vs)
  | fn {f : FuncId} {cs : List AV} {vs : Array Value} (hl : cs.length = vs.size) (hrep : ∀ (j : Nat) (u : AV) (v : Value), cs[j]? = some u → vs[j]? = some v → Rep C ok w u v) :
      Rep C ok w (.fn f cs) (.func (.func f) #[] vs)

theorem mem_keysL {k : Nat} {cs : List AV} : k ∈ AV.keysL cs ↔ ∃ (j : Nat) (u : AV), cs[j]? = some u ∧ k ∈ u.keys := by
  induction cs with
  | nil => simp [AV.keysL]
  | cons v vs ih =>
    simp only [AV.keysL, List.mem_append, ih]
    constructor
    · rintro (h | ⟨j, u, hj, hk⟩)
      · exact ⟨0, v, rfl, h⟩
      · exact ⟨j + 1, u, by simpa using hj, hk⟩
    · rintro ⟨j, u, hj, hk⟩
      cases j with
      | zero => simp at hj; subst hj; exact .inl hk
      | succ j => exact .inr ⟨j, u, by simpa using hj, hk⟩

theorem Rep.mono {C C' : Conc} {ok ok' : Nat → Prop} {w w' : World} (hok : ∀ b, ok b → ok' b) (hw : ∀ b, ok b → w'.heap[b]? = w.heap[b]?) {u : AV} {v : Value} (h : Rep C ok w u v) :
    (∀ k ∈ u.keys, C' k = C k) → Rep C' ok' w' u v := by
  induction h with
  | data h => exact fun _ => .data (h.mono hok hw)
  | ptr h => exact fun hC => .ptr ((hC _ (by simp [AV.keys])).trans h)
  | sl h hn hc => exact fun hC => .sl ((hC _ (by simp [AV.keys])).trans h) hn hc
  | nilsl h => exact fun hC => .nilsl ((hC _ (by simp [AV.keys])).trans h)
  | agg hl _ ih => exact fun hC => .agg hl fun j u v hj hv => ih j u v hj hv fun k hk => hC k (by simp only [AV.keys]; exact mem_keysL.2 ⟨j, u, hj, hk⟩)
  | tup hl _ ih => exact fun hC => .tup hl fun j u v hj hv => ih j u v hj hv fun k hk => hC k (by simp only [AV.keys]; exact mem_keysL.2 ⟨j, u, hj, hk⟩)
  | fn hl _ ih => exact fun hC => .fn hl fun j u v hj hv => ih j u v hj hv fun k hk => hC k (by simp only [AV.keys]; exact mem_keysL.2 ⟨j, u, hj, hk⟩)

/-! ### Readings -/
section
variable {C : Conc} {ok : Nat → Prop} {w : World} {v : Value}
theorem Rep.int_inv {k : IntKind} {n : Int} (h : Rep C ok w (.int k n) v) : v = .int k n := by cases h with | data h => cases h; rfl
theorem Rep.bool_inv {b : Bool} (h : Rep C ok w (.bool b) v) : v = .bool b := by cases h with | data h => cases h; rfl
theorem Rep.str_inv {s : ByteArray} (h : Rep C ok w (.str s) v) : v = .string s := by cases h with | data h => cases h; rfl
theorem Rep.nilp_inv (h : Rep C ok w .nilp v) : v = .pointer none := by cases h with | data h => cases h; rfl
theorem Rep.imm_inv {nl : Bool} {sz : Nat} {es : List (List AV)} (h : Rep C ok w (.imm nl sz es) v) : RepI ok w (.imm nl sz es) v := by cases h with | data h => exact h
theorem Rep.ref_inv {cs : List AV} (h : Rep C ok w (.ref cs) v) : RepI ok w (.ref cs) v := by cases h with | data h => exact h
theorem Rep.ptr_inv {o : Nat} {i off : Nat} (h : Rep C ok w (.ptr o i off) v) : ∃ L, C o = some L ∧ v = .pointer (some ⟨L.block, i * L.sz + off, none⟩) := by
  cases h with
  | data h => cases h
  | ptr h => exact ⟨_, h, rfl⟩
theorem Rep.sl_inv {o : Nat} {i n : Nat} (h : Rep C ok w (.sl o i n) v) :
    (∃ L c, C o = some L ∧ v = .slice (some ⟨L.block, i * L.sz, none⟩) n c ∧ n ≤ c ∧ i + c = L.cap) ∨ (C o = none ∧ v = .slice none 0 0 ∧ i = 0 ∧ n = 0) := by
  cases h with
  | data h => cases h
  | sl h hn hc => exact .inl ⟨_, _, h, rfl, hn, hc⟩
  | nilsl h => exact .inr ⟨h, rfl, rfl, rfl⟩
theorem Rep.agg_inv {cs : List AV} (h : Rep C ok w (.agg cs) v) : ∃ vs : Array Value, v = .agg vs ∧ cs.length = vs.size ∧ ∀ (j : Nat) (u : AV) (x : Value), cs[j]? = some u → vs[j]? = some x → Rep C ok w u x := by
  cases h with
  | data h =>
    cases h with
    | agg hl hrep => exact ⟨_, rfl, hl, fun j u x hj hx => .data (hrep j u x hj hx)⟩
  | agg hl hrep => exact ⟨_, rfl, hl, hrep⟩
theorem Rep.tup_inv {cs : List AV} (h : Rep C ok w (.tup cs) v) : ∃ vs : Array Value, v = .tuple vs ∧ cs.length = vs.size ∧ ∀ (j : Nat) (u : AV) (x : Value), cs[j]? = some u → vs[j]? = some x → Rep C ok w u x := by
  cases h with
  | data h => cases h
  | tup hl hrep => exact ⟨_, rfl, hl, hrep⟩
theorem Rep.fn_inv {f : FuncId} {cs : List AV} (h : Rep C ok w (.fn f cs) v) : ∃ vs : Array Value, v = .func (.func f) #[] vs ∧ cs.length = vs.size ∧ ∀ (j : Nat) (u : AV) (x : Value), cs[j]? = some u → vs[j]? = some x → Rep C ok w u x := by
  cases h with
  | data h => cases h
  | fn hl hrep => exact ⟨_, rfl, hl, hrep⟩

/-- A value of one cell. -/
theorem Rep.oneCell {u : AV} (h : Rep C ok w u v) (hu : u.isCell = true) : v.oneCell' = true := by
  cases h with
  | data h => cases h <;> first | rfl | simp [AV.isCell] at hu
  | ptr | sl | nilsl => rfl
  | agg => simp [AV.isCell] at hu
  | tup => simp [AV.isCell] at hu
  | fn => simp [AV.isCell] at hu

/-- What names no row is data. -/
theorem Rep.toI {u : AV} (h : Rep C ok w u v) (hk : u.keys = []) (hu : u.isCell = true ∨ u = .undef) : RepI ok w u v := by
  cases h with
  | data h => exact h
  | ptr | sl | nilsl => simp [AV.keys] at hk
  | agg | tup | fn => simp [AV.isCell] at hu

/-- The cells of a value, each with its reading. -/
theorem Rep.cells {u : AV} (h : Rep C ok w u v) (hu : u ≠ .undef) :
    u.cells.length = v.cells.size ∧ ∀ (j : Nat) (x : AV) (y : Value), u.cells[j]? = some x → v.cells[j]? = some y → Rep C ok w x y := by
  cases hu' : u with
  | agg cs =>
    subst hu'
    obtain ⟨vs, rfl, hl, hr⟩ := h.agg_inv
    exact ⟨hl, hr⟩
  | _ =>
    subst hu'
    have hv : v.cells = #[v] := by
      cases h <;> first | rfl | (rename_i h; cases h <;> first | rfl | exact absurd rfl hu)
    simp only [AV.cells, hv]
    refine ⟨rfl, fun j x y hj hy => ?_⟩
    cases j with
    | zero => simp at hj hy; subst hj; subst hy; exact h
    | succ j => simp at hj
end

/-- The blocks in which data may lie: those that the caller let, and what is new but for the rows that may still be written. -/
def okb (B : Nat) (ok0 : Nat → Prop) (C : Conc) (H : Nat → Option Obj) (F : Nat → Bool) (w : World) (b : Nat) : Prop :=
  b < w.heap.size ∧ ok0 b ∧ ∀ k o L, H k = some o → F k = false → C k = some L → L.block ≠ b

/-- A row of the call's own, as it lies. -/
structure RowOk (C : Conc) (ok : Nat → Prop) (w : World) (k : Nat) (o : Obj) : Prop where
  cells : ∀ cs ∈ o.es, cs.length = o.sz
  one : ∀ cs ∈ o.es, ∀ u ∈ cs, u.isCell = true ∨ u = .undef
  refs : ∀ cs ∈ o.es, ∀ x ∈ AV.keysL cs, x ∈ o.refs
  place : match C k with
    | none => o.es = []
    | some L => L.sz = o.sz ∧ L.ty = o.ty ∧ ∃ cur, w.heap[L.block]? = some (.cells cur L.ty (0, 0)) ∧ cur.size = L.cap * L.sz ∧ o.es.length ≤ L.cap ∧ L.cap ≤ maxLen ∧
        ∀ (i : Nat) (cs : List AV) (j : Nat) (u : AV), o.es[i]? = some cs → cs[j]? = some u → ∃ v, cur[i * L.sz + j]? = some v ∧ Rep C ok w u v

structure SimH (B : Nat) (ok0 : Nat → Prop) (w0 : World) (C : Conc) (H : Nat → Option Obj) (F : Nat → Bool) (w : World) : Prop where
  below : Below B w0 w
  base : B ≤ w.heap.size
  row : ∀ k o, H k = some o → RowOk C (okb B ok0 C H F w) w k o
  blk : ∀ k o L, H k = some o → C k = some L → B ≤ L.block
  inj : ∀ k k' o o' L L', H k = some o → H k' = some o' → C k = some L → C k' = some L' → L.block = L'.block → k = k'
  wf : ∀ k o x, H k = some o → x ∈ o.refs → H x ≠ none
  up : ∀ b, w.heap.size ≤ b → ok0 b
  okrow : ∀ k o L, H k = some o → C k = some L → ok0 L.block
  keep : ∀ b, b < w0.heap.size → ¬ ok0 b → w.heap[b]? = w0.heap[b]?

/-- What lay there before is as the caller let it; what is new is free. -/
def upto (ok0 : Nat → Prop) (w : World) : Nat → Prop := fun b => b < w.heap.size → ok0 b

theorem RowOk.mono {C C' : Conc} {ok ok' : Nat → Prop} {w w' : World} {k : Nat} {o : Obj} (h : RowOk C ok w k o) (hok : ∀ b, ok b → ok' b) (hw : ∀ b, ok b → w'.heap[b]? = w.heap[b]?)
    (hk : C' k = C k) (hC : ∀ x ∈ o.refs, C' x = C x) (hb : ∀ L, C k = some L → w'.heap[L.block]? = w.heap[L.block]?) : RowOk C' ok' w' k o := by
  refine ⟨h.cells, h.one, h.refs, ?_⟩
  have hp := h.place
  rw [hk]
  cases hL : C k with
  | none => rw [hL] at hp; exact hp
  | some L =>
    rw [hL] at hp
    simp only at hp ⊢
    obtain ⟨h1, h2, cur, h3, h4, h5, h6, h7⟩ := hp
    refine ⟨h1, h2, cur, (hb L hL).trans h3, h4, h5, h6, fun i cs j u hi hj => ?_⟩
    obtain ⟨v, hv, hr⟩ := h7 i cs j u hi hj
    exact ⟨v, hv, hr.mono hok hw fun x hx => hC x (h.refs cs (List.mem_of_getElem? hi) x (mem_keysL.2 ⟨j, u, hj, hx⟩))⟩

section
variable {B : Nat} {ok0 : Nat → Prop} {w0 : World} {C : Conc} {H : Nat → Option Obj} {F : Nat → Bool} {w : World}

theorem SimH.lt (h : SimH B ok0 w0 C H F w) {k : Nat} {o : Obj} {L : Loc} (hk : H k = some o) (hL : C k = some L) : L.block < w.heap.size := by
  have hp := (h.row k o hk).place
  rw [hL] at hp
  obtain ⟨_, _, cur, h3, _⟩ := hp
  exact (Array.getElem?_eq_some_iff.1 h3).1

/-- More rows are frozen. -/
theorem SimH.freeze (h : SimH B ok0 w0 C H F w) {F' : Nat → Bool} (hF : ∀ k, F k = true → F' k = true) :
    SimH B ok0 w0 C H F' w ∧ ∀ b, okb B ok0 C H F w b → okb B ok0 C H F' w b := by
  have hok : ∀ b, okb B ok0 C H F w b → okb B ok0 C H F' w b := fun b hb =>
    ⟨hb.1, hb.2.1, fun k o L hk hf hL => hb.2.2 k o L hk (by cases hfk : F k with | false => rfl | true => rw [hF k hfk] at hf; cases hf) hL⟩
  exact ⟨⟨h.below, h.base, fun k o hk => (h.row k o hk).mono hok (fun _ _ => rfl) rfl (fun _ _ => rfl) (fun _ _ => rfl), h.blk, h.inj, h.wf, h.up, h.okrow, h.keep⟩, hok⟩

theorem okb_lt {b : Nat} (h : okb B ok0 C H F w b) : b < w.heap.size := h.1

def setC (C : Conc) (k : Nat) (L : Option Loc) : Conc := fun x => if x = k then L else C x
def setH (H : Nat → Option Obj) (k : Nat) (o : Obj) : Nat → Option Obj := fun x => if x = k then some o else H x
theorem setC_self (C : Conc) (k : Nat) (L : Option Loc) : setC C k L k = L := by simp [setC]
theorem setC_ne (C : Conc) {k x : Nat} (L : Option Loc) (h : x ≠ k) : setC C k L x = C x := by simp [setC, h]
theorem setH_self (H : Nat → Option Obj) (k : Nat) (o : Obj) : setH H k o k = some o := by simp [setH]
theorem setH_ne (H : Nat → Option Obj) {k x : Nat} (o : Obj) (h : x ≠ k) : setH H k o x = H x := by simp [setH, h]

theorem RepI.keys {ok : Nat → Prop} {u : AV} {v : Value} (h : RepI ok w u v) : u.keys = [] := by
  induction h with
  | agg hl hrep ih =>
    rename_i cs vs
    simp only [AV.keys]
    refine List.eq_nil_iff_forall_not_mem.2 fun k hk => ?_
    obtain ⟨j, u, hj, hku⟩ := mem_keysL.1 hk
    have hlt : j < vs.size := by rw [← hl]; exact (List.getElem?_eq_some_iff.1 hj).1
    rw [ih j u vs[j] hj (Array.getElem?_eq_getElem hlt)] at hku
    simp at hku
  | _ => rfl

theorem okb_setH {k : Nat} {o : Obj} {b : Nat} (h : okb B ok0 C (setH H k o) F w b) (hk : H k ≠ none) : okb B ok0 C H F w b := by
  refine ⟨h.1, h.2.1, fun k' o' L' h1 h2 h3 => ?_⟩
  by_cases e : k' = k
  · subst e; exact h.2.2 _ o L' (setH_self _ _ _) h2 h3
  · exact h.2.2 k' o' L' (by rw [setH_ne _ _ e]; exact h1) h2 h3

/-- A row is made, or turned: at a place of its own, where no data lies. -/
theorem SimH.set (h : SimH B ok0 w0 C H F w) {k : Nat} {o' : Obj} {L : Loc} {w' : World} (hbel : Below B w w') (hLB : B ≤ L.block) (hLok : ok0 L.block)
    (hblocks : ∀ b, b < w.heap.size → b ≠ L.block → w'.heap[b]? = w.heap[b]?) (hfresh : ∀ x o'' L', x ≠ k → H x = some o'' → C x = some L' → L'.block ≠ L.block)
    (hok : ∀ b, okb B ok0 C H F w b → b ≠ L.block) (hCk : C k = some L ∨ ∀ x o'', x ≠ k → H x = some o'' → k ∉ o''.refs)
    (hrow : RowOk (setC C k (some L)) (okb B ok0 (setC C k (some L)) (setH H k o') F w') w' k o') (hwf : ∀ x ∈ o'.refs, x ≠ k → H x ≠ none) :
    SimH B ok0 w0 (setC C k (some L)) (setH H k o') F w' ∧ (∀ b, okb B ok0 C H F w b → okb B ok0 (setC C k (some L)) (setH H k o') F w' b) ∧ (∀ b, okb B ok0 C H F w b → w'.heap[b]? = w.heap[b]?) := by
  have hsize := hbel.size
  have hok' : ∀ b, okb B ok0 C H F w b → okb B ok0 (setC C k (some L)) (setH H k o') F w' b := by
    intro b hb
    refine ⟨Nat.lt_of_lt_of_le hb.1 hsize, hb.2.1, fun x ox Lx h1 h2 h3 => ?_⟩
    by_cases e : x = k
    · subst e; rw [setC_self] at h3; cases h3; exact fun e => hok b hb e.symm
    · rw [setC_ne _ _ e] at h3; rw [setH_ne _ _ e] at h1; exact hb.2.2 x ox Lx h1 h2 h3
  have hheap : ∀ b, okb B ok0 C H F w b → w'.heap[b]? = w.heap[b]? := fun b hb => hblocks b hb.1 (hok b hb)
  refine ⟨⟨h.below.trans hbel, Nat.le_trans h.base hsize, fun x ox hx => ?_, fun x ox Lx h1 h2 => ?_, fun x y ox oy Lx Ly h1 h2 h3 h4 h5 => ?_, fun x ox y h1 h2 => ?_, fun b hb => h.up b (Nat.le_trans hsize hb), fun x ox Lx h1 h2 => ?_, fun b hb hn => (hblocks b (Nat.lt_of_lt_of_le hb h.below.size) (by rintro rfl; exact hn hLok)).trans (h.keep b hb hn)⟩, hok', hheap⟩
  · by_cases e : x = k
    · subst e; rw [setH_self] at hx; cases hx; exact hrow
    · rw [setH_ne _ _ e] at hx
      refine (h.row x ox hx).mono hok' hheap (setC_ne _ _ e) (fun y hy => ?_) fun Lx hLx => hblocks _ (h.lt hx hLx) (hfresh x ox Lx e hx hLx)
      by_cases ey : y = k
      · subst ey
        rcases hCk with hc | hc
        · rw [setC_self, hc]
        · exact absurd hy (hc x ox e hx)
      · exact setC_ne _ _ ey
  · by_cases e : x = k
    · subst e; rw [setC_self] at h2; cases h2; exact hLB
    · rw [setC_ne _ _ e] at h2; rw [setH_ne _ _ e] at h1; exact h.blk x ox Lx h1 h2
  · by_cases e : x = k
    · by_cases e' : y = k
      · rw [e, e']
      · exfalso
        subst e; rw [setC_self] at h3; cases h3
        rw [setC_ne _ _ e'] at h4; rw [setH_ne _ _ e'] at h2
        exact hfresh y oy Ly e' h2 h4 h5.symm
    · by_cases e' : y = k
      · exfalso
        subst e'; rw [setC_self] at h4; cases h4
        rw [setC_ne _ _ e] at h3; rw [setH_ne _ _ e] at h1
        exact hfresh x ox Lx e h1 h3 h5
      · rw [setC_ne _ _ e] at h3; rw [setH_ne _ _ e] at h1; rw [setC_ne _ _ e'] at h4; rw [setH_ne _ _ e'] at h2
        exact h.inj x y ox oy Lx Ly h1 h2 h3 h4 h5
  · by_cases ey : y = k
    · subst ey; rw [setH_self]; simp
    · rw [setH_ne _ _ ey]
      by_cases e : x = k
      · subst e; rw [setH_self] at h1; cases h1; exact hwf y h2 ey
      · rw [setH_ne _ _ e] at h1; exact h.wf x ox y h1 h2
  · by_cases e : x = k
    · subst e; rw [setC_self] at h2; cases h2; exact hLok
    · rw [setC_ne _ _ e] at h2; rw [setH_ne _ _ e] at h1; exact h.okrow x ox Lx h1 h2

/-- A new row at the end of the heap. -/
theorem SimH.new (h : SimH B ok0 w0 C H F w) {k : Nat} (hk : H k = none) {o' : Obj} {L : Loc} (hL : L.block = w.heap.size) {cur : Array Value} (hcur : cur.size = L.cap * L.sz)
    (hsz : L.sz = o'.sz) (hty : L.ty = o'.ty) (hcap : o'.es.length ≤ L.cap) (hmax : L.cap ≤ maxLen) (hcells : ∀ cs ∈ o'.es, cs.length = o'.sz) (hone : ∀ cs ∈ o'.es, ∀ u ∈ cs, u.isCell = true ∨ u = .undef) (hrefs : ∀ cs ∈ o'.es, ∀ x ∈ AV.keysL cs, x ∈ o'.refs)
    (hdom : ∀ x ∈ o'.refs, H x ≠ none)
    (hrep : ∀ (i : Nat) (cs : List AV) (j : Nat) (u : AV), o'.es[i]? = some cs → cs[j]? = some u → ∃ v, cur[i * L.sz + j]? = some v ∧ Rep C (okb B ok0 C H F w) w u v) :
    SimH B ok0 w0 (setC C k (some L)) (setH H k o') F (w.alloc (.cells cur L.ty)) ∧ (∀ b, okb B ok0 C H F w b → okb B ok0 (setC C k (some L)) (setH H k o') F (w.alloc (.cells cur L.ty)) b) ∧
      (∀ b, okb B ok0 C H F w b → (w.alloc (.cells cur L.ty)).heap[b]? = w.heap[b]?) := by
  have hne : ∀ b, okb B ok0 C H F w b → b ≠ L.block := fun b hb => by have := hb.1; omega
  have hbl : ∀ b, b < w.heap.size → b ≠ L.block → (w.alloc (.cells cur L.ty)).heap[b]? = w.heap[b]? := fun b hb _ => Below.heap_alloc w _ b hb
  have hsize : w.heap.size ≤ (w.alloc (.cells cur L.ty)).heap.size := by simp
  refine h.set ((Below.refl _ _).alloc h.base _) (by rw [hL]; exact h.base) (by rw [hL]; exact h.up _ (Nat.le_refl _)) hbl (fun x o'' L' _ h1 h2 => by have := h.lt h1 h2; omega) hne
    (.inr fun x o'' _ h1 hx => h.wf x o'' k h1 hx hk) ⟨hcells, hone, hrefs, ?_⟩ (fun x hx _ => hdom x hx)
  rw [setC_self]
  refine ⟨hsz, hty, cur, by rw [hL]; exact heap_alloc_new w _, hcur, hcap, hmax, fun i cs j u hi hj => ?_⟩
  obtain ⟨v, hv, hr⟩ := hrep i cs j u hi hj
  refine ⟨v, hv, hr.mono (fun b hb => ?_) (fun b hb => hbl b hb.1 (hne b hb)) fun x hx => setC_ne _ _ ?_⟩
  · refine ⟨Nat.lt_of_lt_of_le hb.1 hsize, hb.2.1, fun x ox Lx h1 h2 h3 => ?_⟩
    by_cases e : x = k
    · subst e; rw [setC_self] at h3; cases h3; exact fun e => hne b hb e.symm
    · rw [setC_ne _ _ e] at h3; rw [setH_ne _ _ e] at h1; exact hb.2.2 x ox Lx h1 h2 h3
  · rintro rfl
    exact hdom _ (hrefs cs (List.mem_of_getElem? hi) _ (mem_keysL.2 ⟨j, u, hj, hx⟩)) hk
end
end Go.Ev
