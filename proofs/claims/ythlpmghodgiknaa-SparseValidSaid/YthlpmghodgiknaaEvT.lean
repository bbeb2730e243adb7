/-
  Loads, stores, new rows, addresses, slices.
-/
import Derived.Test.YthlpmghodgiknaaEvS
namespace Go.Ev
open Go Go.RowKit

section
variable {N B : Nat} {ok0 : Nat → Prop} {w0 : World} {E : Entry} {C : Conc} {S : St} {a : Act} {w : World} {P : Program}

theorem okT_info {t : TypeId} (h : okT P t = true) : ∃ i d, P.info? t = some i ∧ P.underlying t = some d := by
  unfold okT at h
  obtain ⟨d, hd⟩ := Option.isSome_iff_exists.1 h
  cases hi : P.info? t with
  | none => simp [Program.underlying, hi] at hd
  | some i => exact ⟨i, d, rfl, hd⟩

theorem run_isAgg {t : TypeId} (h : okT P t = true) (w : World) : (isAgg t).run P w = .ok (isAggT P t) w := by
  obtain ⟨i, d, _, hd⟩ := okT_info h
  simp only [isAgg, Sem.run_bind, run_underlying hd, Result.andThen_ok, isAggT, hd]
  cases d <;> rfl

theorem cellsOf_info {t : TypeId} {i : TypeInfo} (hi : P.info? t = some i) : P.cellsOf t = i.size := by simp [Program.cellsOf, hi]
theorem bytesOf_info {t : TypeId} {i : TypeInfo} (hi : P.info? t = some i) : P.bytesOf t = i.bytes := by simp [Program.bytesOf, hi]

theorem run_sizeOf {t : TypeId} (h : okT P t = true) (w : World) : (sizeOf t).run P w = .ok (P.cellsOf t) w := by
  obtain ⟨i, d, hi, _⟩ := okT_info h
  simp [sizeOf, typeInfo, hi, cellsOf_info hi]

theorem elemT_under {t e : TypeId} (h : elemT P t = some e) : P.underlying t = some (.slice e) := by
  unfold elemT at h
  split at h
  · rename_i e' hu; cases h; exact hu
  · cases h

/-- What can be read from a pointer on. -/
theorem at_rep {F : Nat → Bool} {x : AV} {v : Value} {cs : List AV} (h : SimH B ok0 w0 C S.heap F w) (hx : Rep C (okb B ok0 C S.heap F w) w x v) (hat : S.at x = some cs) :
    ∃ ad, v = .pointer (some ad) ∧ (∀ (j : Nat) (u : AV), cs[j]? = some u → ∃ y, w.cell? (ad.add j) = some y ∧ Rep C (okb B ok0 C S.heap F w) w u y) ∧ ∀ k ∈ AV.keysL cs, S.heap k ≠ none := by
  unfold St.at at hat
  split at hat
  · cases hat
    have h1 := hx.ref_inv
    cases h1 with
    | ref vs hok hcell hrep =>
      refine ⟨_, rfl, fun j u hj => ⟨vs j, hcell j u hj, .data (hrep j u hj)⟩, fun k hk => ?_⟩
      obtain ⟨j, u, hj, hku⟩ := mem_keysL.1 hk
      rw [(hrep j u hj).keys] at hku
      simp at hku
  · rename_i o i off
    obtain ⟨L, hL, rfl⟩ := hx.ptr_inv
    split at hat
    · rename_i ob hob
      split at hat
      · rename_i cs0 hcs
        cases hat
        have hr := h.row o ob hob
        have hp := hr.place
        rw [hL] at hp
        obtain ⟨h1, h2, cur, h3, h4, h5, h6, h7⟩ := hp
        refine ⟨_, rfl, fun j u hj => ?_, fun k hk => ?_⟩
        · rw [List.getElem?_drop] at hj
          obtain ⟨y, hy, hry⟩ := h7 i cs0 (off + j) u hcs hj
          refine ⟨y, ?_, hry⟩
          rw [add_mk, cell_of_row w L.block _ cur L.ty (0, 0) h3, ← hy]
          congr 1
          omega
        · obtain ⟨j, u, hj, hku⟩ := mem_keysL.1 hk
          rw [List.getElem?_drop] at hj
          exact h.wf o ob k hob (hr.refs cs0 (List.mem_of_getElem? hcs) k (mem_keysL.2 ⟨_, u, hj, hku⟩))
      · cases hat
    · cases hat
  · cases hat

theorem run_loads {ad : Addr} {cs : List AV} {ok : Nat → Prop} (h : ∀ (j : Nat) (u : AV), cs[j]? = some u → ∃ y, w.cell? (ad.add j) = some y ∧ Rep C ok w u y) :
    ∃ vs : Array Value, (loadCells ad cs.length).run P w = .ok vs w ∧ cs.length = vs.size ∧ ∀ (j : Nat) (u : AV) (y : Value), cs[j]? = some u → vs[j]? = some y → Rep C ok w u y := by
  have hf : ∀ j, j < cs.length → w.cell? (ad.add j) = some ((w.cell? (ad.add j)).getD undef) := fun j hj => by
    obtain ⟨y, hy, _⟩ := h j cs[j] (List.getElem?_eq_getElem hj)
    rw [hy]; rfl
  refine ⟨_, run_loadCells w ad cs.length _ hf, by simp, fun j u y hj hy => ?_⟩
  obtain ⟨y', hy', hr⟩ := h j u hj
  have hlt : j < cs.length := (List.getElem?_eq_some_iff.1 hj).1
  simp [hlt, hy'] at hy
  subst hy
  exact hr

theorem s_load {t : TypeId} {x : AV} {v : Value} {r : AV} {F : Nat → Bool} (ht : okT P t = true) (h : SimH B ok0 w0 C S.heap F w) (hx : Rep C (okb B ok0 C S.heap F w) w x v)
    (hr : (match loadN P t, S.at x with | none, some (c :: _) => some c | some n, some cs => if n ≤ cs.length then some (.agg (cs.take n)) else none | _, _ => none) = some r) :
    ∃ y, (Instr.loadAt t v).run P w = .ok y w ∧ Rep C (okb B ok0 C S.heap F w) w r y ∧ ∀ k ∈ r.keys, S.heap k ≠ none := by
  cases hat : S.at x with
  | none => rw [hat] at hr; split at hr <;> simp_all
  | some cs =>
    rw [hat] at hr
    obtain ⟨ad, rfl, hcell, hkeys⟩ := at_rep h hx hat
    simp only [Instr.loadAt, Instr.sureAddr, Sem.run_bind, Sem.run_pure, Result.andThen_ok, loadVar, run_isAgg ht]
    unfold loadN at hr
    cases hagg : isAggT P t with
    | false =>
      rw [hagg] at hr
      cases cs with
      | nil => simp at hr
      | cons c rest =>
        simp at hr
        subst hr
        obtain ⟨y, hy, hrep⟩ := hcell 0 c rfl
        have hy' : w.cell? ad = some y := by simpa [Addr.add] using hy
        exact ⟨y, by simp [hy'], hrep, fun k hk => hkeys k (by simp [AV.keysL, hk])⟩
    | true =>
      rw [hagg] at hr
      simp only [if_true, Option.ite_none_right_eq_some] at hr
      obtain ⟨hn, hr⟩ := hr
      cases hr
      have hlen : (cs.take (P.cellsOf t)).length = P.cellsOf t := by simp; omega
      obtain ⟨vs, hv1, hv2, hv3⟩ := run_loads (P := P) (cs := cs.take (P.cellsOf t)) (fun j u hj => hcell j u (by rw [List.getElem?_take] at hj; split at hj <;> simp_all))
      rw [hlen] at hv1
      refine ⟨.agg vs, by simp [run_sizeOf ht, hv1], .agg hv2 hv3, fun k hk => ?_⟩
      simp only [AV.keys] at hk
      obtain ⟨j, u, hj, hku⟩ := mem_keysL.1 hk
      exact hkeys k (mem_keysL.2 ⟨j, u, by rw [List.getElem?_take] at hj; split at hj <;> simp_all, hku⟩)

theorem seg_get {α : Type} (cs new : List α) (off j : Nat) (h : off + new.length ≤ cs.length) :
    (cs.take off ++ new ++ cs.drop (off + new.length))[j]? = if j < off then cs[j]? else if j < off + new.length then new[j - off]? else cs[j]? := by
  by_cases c1 : j < off
  · rw [if_pos c1, List.append_assoc, List.getElem?_append_left (by simp; omega), List.getElem?_take, if_pos c1]
  · rw [if_neg c1]
    by_cases c2 : j < off + new.length
    · rw [if_pos c2, List.append_assoc, List.getElem?_append_right (by simp; omega), List.getElem?_append_left (by simp; omega)]
      congr 1
      simp
      omega
    · rw [if_neg c2, List.getElem?_append_right (by simp; omega), List.getElem?_drop]
      congr 1
      simp
      omega

theorem splice_length {cs new : List AV} {off : Nat} (h : off + new.length ≤ cs.length) : (splice cs off new).length = cs.length := by simp [splice]; omega

theorem splice_get {cs new : List AV} {off j : Nat} (h : off + new.length ≤ cs.length) : (splice cs off new)[j]? = if j < off then cs[j]? else if j < off + new.length then new[j - off]? else cs[j]? :=
  seg_get cs new off j h

theorem keysL_splice {cs new : List AV} {off : Nat} {k : Nat} (h : off + new.length ≤ cs.length) (hk : k ∈ AV.keysL (splice cs off new)) : k ∈ AV.keysL new ∨ k ∈ AV.keysL cs := by
  obtain ⟨j, u, hj, hku⟩ := mem_keysL.1 hk
  rw [splice_get h] at hj
  split at hj
  · exact .inr (mem_keysL.2 ⟨j, u, hj, hku⟩)
  · split at hj
    · exact .inl (mem_keysL.2 ⟨_, u, hj, hku⟩)
    · exact .inr (mem_keysL.2 ⟨j, u, hj, hku⟩)

theorem arr_of_segs (cur : List Value) (o : Nat) (vs : List Value) (h : o + vs.length ≤ cur.length) (j : Nat) :
    (cur.take o ++ vs ++ cur.drop (o + vs.length)).toArray[j]? = if j < o then cur[j]? else if j < o + vs.length then vs[j - o]? else cur[j]? := by
  rw [List.getElem?_toArray]; exact seg_get cur vs o j h

theorem cells_keys {u : AV} {k : Nat} (h : k ∈ AV.keysL u.cells) : k ∈ u.keys := by
  cases u with
  | agg cs => exact h
  | _ => rcases mem_keysL.1 h with ⟨j, u, hj, hk⟩; cases j <;> simp at hj; subst hj; exact hk

theorem s_store {t : TypeId} {o : Nat} {i off : Nat} {u : AV} {vx v : Value} {ob : Obj} {cs : List AV} {F : Nat → Bool} (ht : okT P t = true) (h : SimH B ok0 w0 C S.heap F w)
    (hx : Rep C (okb B ok0 C S.heap F w) w (.ptr o i off) vx) (hv : Rep C (okb B ok0 C S.heap F w) w u v) (hk : ∀ k ∈ u.keys, S.heap k ≠ none)
    (hob : S.heap o = some ob) (hcs : ob.es[i]? = some cs) (hf : F o = false) (hn : u.cells.length = P.cellsOf t) (hoff : off + P.cellsOf t ≤ cs.length) (hcell : u.cells.all AV.isCell = true) :
    ∃ w', (Instr.storeAt t vx v).run P w = .ok () w' ∧ Below B w w' ∧
      SimH B ok0 w0 C (setH S.heap o { ob with es := ob.es.set i (splice cs off u.cells), refs := AV.keysL u.cells ++ ob.refs }) F w' ∧
      (∀ b, okb B ok0 C S.heap F w b → okb B ok0 C (setH S.heap o { ob with es := ob.es.set i (splice cs off u.cells), refs := AV.keysL u.cells ++ ob.refs }) F w' b) ∧
      (∀ b, okb B ok0 C S.heap F w b → w'.heap[b]? = w.heap[b]?) := by
  obtain ⟨L, hL, rfl⟩ := hx.ptr_inv
  have hund : u ≠ .undef := by rintro rfl; simp at hcell
  obtain ⟨hc1, hc2⟩ := hv.cells hund
  have hr := h.row o ob hob
  have hp := hr.place
  rw [hL] at hp
  obtain ⟨h1, h2, cur, h3, h4, h5, h6, h7⟩ := hp
  have hcsl : cs.length = L.sz := by rw [hr.cells cs (List.mem_of_getElem? hcs), h1]
  have hi : i < ob.es.length := (List.getElem?_eq_some_iff.1 hcs).1
  have hvl : v.cells.toList.length = P.cellsOf t := by simp [← hc1, hn]
  have hroom : i * L.sz + off + P.cellsOf t ≤ cur.size := by
    have : (i + 1) * L.sz ≤ L.cap * L.sz := Nat.mul_le_mul_right _ (by omega)
    rw [Nat.add_mul, Nat.one_mul] at this
    omega
  have hone : ∀ x ∈ v.cells.toList, x.oneCell' = true := by
    intro x hx'
    obtain ⟨j, hj⟩ := List.getElem?_of_mem hx'
    have hj' : v.cells[j]? = some x := by simpa using hj
    have hlt : j < u.cells.length := by rw [hc1]; exact (Array.getElem?_eq_some_iff.1 hj').1
    have hmem : u.cells[j] ∈ u.cells := List.getElem_mem hlt
    exact (hc2 j _ x (List.getElem?_eq_getElem hlt) hj').oneCell (List.all_eq_true.1 hcell _ hmem)
  have hst := run_storeCells_at P L.block (i * L.sz + off) L.ty v.cells.toList 0 cur w h3 (by rw [hvl]; simpa using hroom) hone
  have hinst : (Instr.storeAt t (.pointer (some ⟨L.block, i * L.sz + off, none⟩)) v).run P w = .ok () (w.setRow L.block (cur.toList.take (i * L.sz + off) ++ v.cells.toList ++ cur.toList.drop (i * L.sz + off + P.cellsOf t)).toArray) := by
    have hne : v.cells.size = P.cellsOf t := by rw [← hc1, hn]
    simp only [Instr.storeAt, Instr.sureAddr, storeVar, Sem.run_bind, Sem.run_pure, Result.andThen_ok, run_sizeOf ht, hne, ne_eq, not_true_eq_false, if_false]
    simpa [hvl] using hst
  generalize hcur' : (cur.toList.take (i * L.sz + off) ++ v.cells.toList ++ cur.toList.drop (i * L.sz + off + P.cellsOf t)).toArray = cur' at hinst
  have hget : ∀ j : Nat, cur'[j]? = if j < i * L.sz + off then cur[j]? else if j < i * L.sz + off + P.cellsOf t then v.cells[j - (i * L.sz + off)]? else cur[j]? := by
    intro j
    have := arr_of_segs cur.toList (i * L.sz + off) v.cells.toList (by rw [hvl]; simpa using hroom) j
    rw [hvl] at this
    rw [← hcur', this]
    simp
  have hlt := h.lt hob hL
  have hbl : ∀ b, b < w.heap.size → b ≠ L.block → (w.setRow L.block cur').heap[b]? = w.heap[b]? := fun b _ hne => setRow_other w L.block b _ hne
  have hsz : (w.setRow L.block cur').heap.size = w.heap.size := by simp [World.setRow]
  have hbel : Below B w (w.setRow L.block cur') := ⟨rfl, rfl, rfl, by rw [hsz]; exact Nat.le_refl _, fun k hk' => hbl k (by have := h.base; omega) (by have := h.blk o ob L hob hL; omega)⟩
  have hCs : setC C o (some L) = C := by funext x; by_cases e : x = o <;> simp [setC, e, hL]
  have hok : ∀ b, okb B ok0 C S.heap F w b → b ≠ L.block := fun b hb e => hb.2.2 o ob L hob hf hL e.symm
  have hokm : ∀ b, okb B ok0 C S.heap F w b → okb B ok0 C (setH S.heap o { ob with es := ob.es.set i (splice cs off u.cells), refs := AV.keysL u.cells ++ ob.refs }) F (w.setRow L.block cur') b := by
    intro b hb
    refine ⟨by rw [hsz]; exact hb.1, hb.2.1, fun x ox Lx g1 g2 g3 => ?_⟩
    by_cases e : x = o
    · subst e; rw [hL] at g3; cases g3; exact fun e => hok b hb e.symm
    · rw [setH_ne _ _ e] at g1; exact hb.2.2 x ox Lx g1 g2 g3
  have hheap : ∀ b, okb B ok0 C S.heap F w b → (w.setRow L.block cur').heap[b]? = w.heap[b]? := fun b hb => hbl b hb.1 (hok b hb)
  have hmono : ∀ {u' : AV} {y : Value}, Rep C (okb B ok0 C S.heap F w) w u' y → Rep C (okb B ok0 C (setH S.heap o { ob with es := ob.es.set i (splice cs off u.cells), refs := AV.keysL u.cells ++ ob.refs }) F (w.setRow L.block cur')) (w.setRow L.block cur') u' y :=
    fun hh => hh.mono hokm hheap fun _ _ => rfl
  refine ⟨_, hinst, hbel, ?_⟩
  have hnl : off + u.cells.length ≤ cs.length := by omega
  have key := h.set (k := o) (o' := { ob with es := ob.es.set i (splice cs off u.cells), refs := AV.keysL u.cells ++ ob.refs }) (L := L) hbel (h.blk o ob L hob hL) (h.okrow o ob L hob hL) hbl
    (fun x o'' L' hne g1 g2 e => hne (h.inj x o o'' ob L' L g1 hob g2 hL e)) hok (.inl hL) (by
      rw [hCs]
      refine ⟨fun c hc => ?_, fun c hc x hx => ?_, fun c hc x hx => ?_, ?_⟩
      · rcases List.mem_or_eq_of_mem_set hc with hc | rfl
        · exact hr.cells c hc
        · rw [splice_length hnl, hr.cells cs (List.mem_of_getElem? hcs)]
      · rcases List.mem_or_eq_of_mem_set hc with hc | rfl
        · exact hr.one c hc x hx
        · obtain ⟨j, hj⟩ := List.getElem?_of_mem hx
          rw [splice_get hnl] at hj
          split at hj
          · exact hr.one cs (List.mem_of_getElem? hcs) x (List.mem_of_getElem? hj)
          · split at hj
            · exact .inl (List.all_eq_true.1 hcell x (List.mem_of_getElem? hj))
            · exact hr.one cs (List.mem_of_getElem? hcs) x (List.mem_of_getElem? hj)
      · rcases List.mem_or_eq_of_mem_set hc with hc | rfl
        · exact List.mem_append.2 (.inr (hr.refs c hc x hx))
        · rcases keysL_splice hnl hx with hx | hx
          · exact List.mem_append.2 (.inl hx)
          · exact List.mem_append.2 (.inr (hr.refs cs (List.mem_of_getElem? hcs) x hx))
      · rw [hL]
        refine ⟨h1, h2, cur', setRow_heap w L.block cur _ L.ty _ h3, ?_, by simpa using h5, h6, fun i' cs' j u' hi' hj' => ?_⟩
        · rw [← h4, ← hcur']; simp [hvl]; omega
        · simp only [List.getElem?_set] at hi'
          rw [hget]
          have hcut : ∀ (q : Nat) (c : List AV) (x : AV), ob.es[q]? = some c → c[j]? = some x → q * L.sz + j < q * L.sz + L.sz := fun q c x g1 g2 => by
            have : j < c.length := (List.getElem?_eq_some_iff.1 g2).1
            rw [hr.cells c (List.mem_of_getElem? g1), ← h1] at this
            omega
          by_cases ei : i = i'
          · subst ei
            rw [if_pos rfl, if_pos hi] at hi'
            cases hi'
            rw [splice_get hnl] at hj'
            by_cases c1 : j < off
            · rw [if_pos c1] at hj'
              rw [if_pos (by omega)]
              obtain ⟨y, g1, g2⟩ := h7 i cs j u' hcs hj'
              exact ⟨y, g1, hmono g2⟩
            · rw [if_neg c1] at hj'
              rw [if_neg (by omega)]
              by_cases c2 : j < off + u.cells.length
              · rw [if_pos c2] at hj'
                rw [if_pos (by omega)]
                have hlt' : j - off < v.cells.size := by omega
                refine ⟨v.cells[j - off], ?_, hmono (hc2 (j - off) u' _ hj' (Array.getElem?_eq_getElem hlt'))⟩
                rw [show i * L.sz + j - (i * L.sz + off) = j - off by omega, Array.getElem?_eq_getElem hlt']
              · rw [if_neg c2] at hj'
                rw [if_neg (by omega)]
                obtain ⟨y, g1, g2⟩ := h7 i cs j u' hcs hj'
                exact ⟨y, g1, hmono g2⟩
          · rw [if_neg ei] at hi'
            obtain ⟨y, g1, g2⟩ := h7 i' cs' j u' hi' hj'
            have g3 := hcut i' cs' u' hi' hj'
            refine ⟨y, ?_, hmono g2⟩
            rcases Nat.lt_or_gt_of_ne ei with lt | gt
            · have : (i + 1) * L.sz ≤ i' * L.sz := Nat.mul_le_mul_right _ lt
              rw [Nat.add_mul, Nat.one_mul] at this
              rw [if_neg (by omega), if_neg (by omega)]
              exact g1
            · have : (i' + 1) * L.sz ≤ i * L.sz := Nat.mul_le_mul_right _ gt
              rw [Nat.add_mul, Nat.one_mul] at this
              rw [if_pos (by omega)]
              exact g1)
    (fun x hx _ => by
      rcases List.mem_append.1 hx with hx | hx
      · exact hk x (cells_keys hx)
      · exact h.wf o ob x hob hx)
  rw [hCs] at key
  exact key

/-- A new variable, with a value's cells. -/
theorem s_newVar {k : Nat} {e : TypeId} {u : AV} {v : Value} {F : Nat → Bool} (h : SimH B ok0 w0 C S.heap F w) (hk : S.heap k = none) (hl : u.cells.length = v.cells.size)
    (hv : ∀ (j : Nat) (x : AV) (y : Value), u.cells[j]? = some x → v.cells[j]? = some y → Rep C (okb B ok0 C S.heap F w) w x y) (hkk : ∀ x ∈ AV.keysL u.cells, S.heap x ≠ none) (hone : ∀ x ∈ u.cells, x.isCell = true ∨ x = .undef) :
    ∃ L : Loc, (newVar e v).run P w = .ok ⟨L.block, 0, none⟩ (w.alloc (.cells v.cells e)) ∧
      SimH B ok0 w0 (setC C k (some L)) (setH S.heap k { sz := u.cells.length, ty := e, es := [u.cells], refs := AV.keysL u.cells }) F (w.alloc (.cells v.cells e)) ∧
      (∀ b, okb B ok0 C S.heap F w b → okb B ok0 (setC C k (some L)) (setH S.heap k { sz := u.cells.length, ty := e, es := [u.cells], refs := AV.keysL u.cells }) F (w.alloc (.cells v.cells e)) b) ∧
      (∀ b, okb B ok0 C S.heap F w b → (w.alloc (.cells v.cells e)).heap[b]? = w.heap[b]?) := by
  refine ⟨{ block := w.heap.size, ty := e, sz := u.cells.length, cap := 1 }, by simp [newVar, newRow], ?_⟩
  refine h.new hk (L := { block := w.heap.size, ty := e, sz := u.cells.length, cap := 1 }) (o' := { sz := u.cells.length, ty := e, es := [u.cells], refs := AV.keysL u.cells }) rfl (cur := v.cells) (by simp [hl]) rfl rfl (by simp) (by simp [maxLen]) (by simp) (by simpa using hone) (by simp) (by simpa using hkk) (fun i cs j x hi hj => ?_)
  cases i with
  | zero =>
    simp at hi
    subst hi
    have hlt : j < v.cells.size := by rw [← hl]; exact (List.getElem?_eq_some_iff.1 hj).1
    exact ⟨v.cells[j], by simp [hlt], hv j x _ hj (Array.getElem?_eq_getElem hlt)⟩
  | succ i => simp at hi

end
end Go.Ev
