/-
  What a callee is said to do ('Meets'); every operation without append and without an inlined call does what 'eff' says.
-/
import Derived.Test.YthlpmghodgiknaaEvV
namespace Go.Ev
open Go Go.RowKit

def heapOf (objs : List Obj) : Nat → Option Obj := fun k => objs[k]?

/-- What a pure call leaves: old memory as it was, its value, and the fresh rows that come with it. -/
def Gives (ok0 : Nat → Prop) (w : World) (r : PRes) (v : Value) (w' : World) : Prop :=
  ∃ C : Conc, SimH w.heap.size (upto ok0 w) w C (heapOf r.objs) (fun _ => false) w' ∧
    Rep C (okb w.heap.size (upto ok0 w) C (heapOf r.objs) (fun _ => false) w') w' r.val v ∧ ∀ k ∈ r.val.keys, heapOf r.objs k ≠ none

/-- The function gives what 'g' says, on data. -/
def Meets (P : Program) (f : FuncId) (g : List AV → Option PRes) : Prop :=
  ∀ (args : List AV) (r : PRes), g args = some r → ∀ (w : World) (vs : Array Value) (ok0 : Nat → Prop), (∀ b, ok0 b → b < w.heap.size) → args.length = vs.size →
    (∀ (j : Nat) (u : AV) (v : Value), args[j]? = some u → vs[j]? = some v → RepI ok0 w u v) →
    Calls P f vs w fun e w' => ∃ v, e = .returned v ∧ Gives ok0 w r v w'

/-- The function can be entered. -/
def Enters (P : Program) (f : FuncId) : Prop := ∃ fn, P.funcs[f]? = some fn ∧ (fn.name == "runtime.NumGoroutine") = false ∧ fn.body.isNone = false

theorem run_callFunc {P : Program} {f : FuncId} {args : Array Value} {w : World} (h : Enters P f) : (callFunc f args).run P w = .ok (.enter f args) w := by
  obtain ⟨fn, h1, h2, h3⟩ := h
  simp only [callFunc, Sem.run_bind, run_program, Result.andThen_ok, h1, h2, h3, Bool.false_eq_true, if_false]; rfl

section
variable {N B : Nat} {ok0 : Nat → Prop} {w0 : World} {E : Entry} {C : Conc} {S : St} {a : Act} {w : World} {P : Program} {ks : Kinds} {fid : FuncId} {G : Pure}

/-- What a step of an operation gives. -/
def Does (P : Program) (N B : Nat) (ok0 : Nat → Prop) (w0 : World) (E : Entry) (o : Oper) (a : Act) (w : World) (S' : St) : Prop :=
  ∀ (K : Act → World → Prop) (Q : Exit → Act → World → Prop), (∀ a' w', SimX N B ok0 w0 E S' a' w' → K a' w') → o.wp P a w K Q

theorem Does.of_value (hs : Sim N B ok0 w0 E C S a w) {o : Oper} {e : Eff} {v : Value} (hrun : (execOp a.eval o).run P w = .ok (.value v) w) (hu : e.ups = [])
    (hr : Rep C (okb B ok0 C S.heap (S.app none e).frz w) w e.val v) (hk : ∀ k ∈ e.val.keys, S.heap k ≠ none) (hd : ∀ x, o.dst = some x → x < N) : Does P N B ok0 w0 E o a w (S.app o.dst e) :=
  fun _ _ hK => wp_of_value hrun (hK _ _ (hs.value hu hr hk hd))

theorem Does.of_data (hs : Sim N B ok0 w0 E C S a w) {o : Oper} {u : AV} {acc : List Nat} {v : Value} (hrun : (execOp a.eval o).run P w = .ok (.value v) w)
    (hr : Rep C (okb B ok0 C S.heap S.frz w) w u v) (hk : ∀ k ∈ u.keys, S.heap k ≠ none) (hd : ∀ x, o.dst = some x → x < N) : Does P N B ok0 w0 E o a w (S.app o.dst { val := u, acc := acc }) :=
  Does.of_value hs hrun rfl (by simpa [St.app] using hr) hk hd

/-- A new row, and a pointer or slice that names it. -/
theorem Does.of_new (hs : Sim N B ok0 w0 E C S a w) {o : Oper} {k : Nat} {ob : Obj} {u : AV} {acc : List Nat} {v : Value} {L : Loc} {w' : World} (hk : S.heap k = none) (hrun : (execOp a.eval o).run P w = .ok (.value v) w')
    (h' : SimH B ok0 w0 (setC C k (some L)) (setH S.heap k ob) S.frz w') (hok : ∀ b, okb B ok0 C S.heap S.frz w b → okb B ok0 (setC C k (some L)) (setH S.heap k ob) S.frz w' b)
    (hw : ∀ b, okb B ok0 C S.heap S.frz w b → w'.heap[b]? = w.heap[b]?) (hr : ∀ ok, Rep (setC C k (some L)) ok w' u v) (hu : ∀ x ∈ u.keys, x = k) (hd : ∀ x, o.dst = some x → x < N) :
    Does P N B ok0 w0 E o a w (S.app o.dst { val := u, ups := [(k, ob)], acc := acc }) := by
  intro K Q hK
  refine wp_of_value hrun (hK _ _ ⟨setC C k (some L), ?_⟩)
  have := hs.put h' (fun x hx => setC_ne _ _ (by rintro rfl; exact hx hk)) hok hw (fun x hx => by by_cases e : x = k <;> simp [setH, e, hx]) (hr _) (fun x hx => by rw [hu x hx, setH_self]; simp) hd
  simpa [St.app, upsH] using this

theorem run_asIntOf {k : IntKind} {n : Int} (w : World) : (asIntOf (.int k n)).run P w = .ok (k, n) w := rfl

theorem rep_frz {F' : Nat → Bool} (hs : Sim N B ok0 w0 E C S a w) (hF : ∀ k, S.frz k = true → F' k = true) {u : AV} {v : Value} (hr : Rep C (okb B ok0 C S.heap S.frz w) w u v) : Rep C (okb B ok0 C S.heap F' w) w u v :=
  hr.mono (hs.h.freeze hF).2 (fun _ _ => rfl) fun _ _ => rfl

theorem mapM_some {α β : Type} {f : α → Option β} : ∀ {l : List α} {l' : List β}, l.mapM f = some l' → l'.length = l.length ∧ ∀ (i : Nat) (x : α) (y : β), l[i]? = some x → l'[i]? = some y → f x = some y
  | [], l', h => by simp at h; subst h; simp
  | x :: l, l', h => by
    rw [List.mapM_cons] at h
    cases hx : f x with
    | none => simp [hx] at h
    | some y =>
      cases hl : l.mapM f with
      | none => simp [hx, hl] at h
      | some ys =>
        simp [hx, hl] at h
        subst h
        obtain ⟨h1, h2⟩ := mapM_some hl
        refine ⟨by simp [h1], fun i z u hz hu => ?_⟩
        cases i with
        | zero => simp at hz hu; subst hz; subst hu; exact hx
        | succ i => exact h2 i z u (by simpa using hz) (by simpa using hu)

/-- The operands of a call, or of a closure. -/
theorem axs_spec : ∀ (ts : List TypeId) (xs : List Operand) (ys : List AX), axs P ts xs = some ys → ys.length = xs.length ∧ ∀ (i : Nat) (x : Operand) (y : AX), xs[i]? = some x → ys[i]? = some y → ∃ t, axOf P t x = some y
  | ts, [], ys, h => by cases ts <;> (simp [axs] at h; subst h; simp)
  | [], x :: xs, ys, h => by
    simp only [axs] at h
    split at h
    · rename_i y ys' h1 h2
      cases h
      obtain ⟨i1, i2⟩ := axs_spec [] xs ys' h2
      refine ⟨by simp [i1], fun i z u hz hu => ?_⟩
      cases i with
      | zero => simp at hz hu; subst hz; subst hu; exact ⟨0, h1⟩
      | succ i => exact i2 i z u (by simpa using hz) (by simpa using hu)
    · cases h
  | t :: ts, x :: xs, ys, h => by
    simp only [axs] at h
    split at h
    · rename_i y ys' h1 h2
      cases h
      obtain ⟨i1, i2⟩ := axs_spec ts xs ys' h2
      refine ⟨by simp [i1], fun i z u hz hu => ?_⟩
      cases i with
      | zero => simp at hz hu; subst hz; subst hu; exact ⟨t, h1⟩
      | succ i => exact i2 i z u (by simpa using hz) (by simpa using hu)
    · cases h


theorem of_ite {α : Type} {p : Prop} [Decidable p] {x : Option α} {y : α} (h : (if p then x else none) = some y) : p ∧ x = some y := by rwa [Option.ite_none_right_eq_some] at h

theorem d_build {dst : Option Nat} {t : TypeId} {parts : Array (Nat × Operand)} {ty : TypeId} {pos : String} {after : Array Edge} {guard : Option (Nat × Bool)} {aop : AOp} {e : Eff}
    (hc : cOp P ks fid ⟨dst, .build t parts, ty, pos, after, guard⟩ = some aop) (he : eff G aop S = some e) (hs : Sim N B ok0 w0 E C S a w) (hd : ∀ x, dst = some x → x < N) :
    Does P N B ok0 w0 E ⟨dst, .build t parts, ty, pos, after, guard⟩ a w (S.app dst e) := by
  simp only [cOp] at hc
  split at hc
  · rename_i fs z hfs hz
    split at hc
    · cases hc
    rename_i hok
    rw [Option.map_eq_some_iff] at hc
    obtain ⟨ps, hps, rfl⟩ := hc
    obtain ⟨m1, m2⟩ := mapM_some hps
    simp only [eff] at he
    split at he
    · rename_i cs hcs
      cases he
      obtain ⟨i, v, hi, hiz, hcz, hkz, _⟩ := zero_cells (P := P) (C := C) (ok := okb B ok0 C S.heap S.frz w) (w := w) hz
      have hokf : ∀ f ∈ fs.toList, okT P f.type = true := by
        cases h : fs.toList.all (fun f => okT P f.type) with
        | true => exact List.all_eq_true.1 h
        | false => rw [h] at hok; exact absurd rfl hok
      have hpart : ∀ (j : Nat) (p : Nat × Operand) (q : Nat × Nat × AX), parts.toList[j]? = some p → ps[j]? = some q → ∃ fd, fs[p.1]? = some fd ∧ q.1 = fd.offset ∧ q.2.1 = P.cellsOf fd.type ∧ axOf P fd.type p.2 = some q.2.2 := by
        intro j p q hp hq
        have := m2 j p q hp hq
        split at this
        · rename_i fd hfd
          rw [Option.map_eq_some_iff] at this
          obtain ⟨y, hy, rfl⟩ := this
          exact ⟨fd, hfd, rfl, rfl, hy⟩
        · cases this
      have hplaces : (fs.mapM (fun f => do pure (f.offset, ← sizeOf f.type) : Field → Sem (Nat × Nat))).run P w = .ok (fs.toList.map fun f => (f.offset, P.cellsOf f.type)).toArray w := by
        rw [Array.mapM_eq_mapM_toList]
        simp only [Sem.run_map]
        rw [run_mapM_fields (P := P) (fun f => (f.offset, P.cellsOf f.type)) _ w fs.toList (fun f hf => by simp [run_sizeOf (hokf f hf)])]
        rfl
      obtain ⟨vs', r1, r2⟩ := fill_rep (C := C) (ok := okb B ok0 C S.heap S.frz w) (w := w) (place := fun i => (fs.toList.map fun f => (f.offset, P.cellsOf f.type)).toArray[i]?)
        (ps.map fun p => (p.1, p.2.1, S.ev p.2.2)) (parts.toList.map fun p => (p.1, a.eval p.2)) z cs v.cells (by simp [m1]) (fun j p q hp hq => by
          rw [List.getElem?_map, Option.map_eq_some_iff] at hp hq
          obtain ⟨p0, hp0, rfl⟩ := hp
          obtain ⟨q0, hq0, rfl⟩ := hq
          obtain ⟨fd, h1, h2, h3, h4⟩ := hpart j q0 p0 hq0 hp0
          refine ⟨?_, (hs.ev h4).1⟩
          simp only [List.getElem?_toArray, List.getElem?_map, Array.getElem?_toList, h1, Option.map_some]
          rw [h2, h3]) hcz hcs
      refine .of_data hs (v := .agg vs') ?_ (.agg r2.1 r2.2) (fun k hk => ?_) hd
      · simp only [execOp, Sem.run_bind, Instr.build, zeroValue, typeInfo, run_program, Result.andThen_ok, hi, hiz, Sem.run_pure, run_underlying hfs]
        rw [hplaces]
        simp only [Result.andThen_ok, Array.toList_map]
        rw [r1]
        rfl
      · simp only [AV.keys] at hk
        rcases keysL_fillA _ _ _ hcs hk with h1 | ⟨p, hp, h1⟩
        · rw [hkz] at h1; simp at h1
        · obtain ⟨j, hj⟩ := List.getElem?_of_mem hp
          rw [List.getElem?_map, Option.map_eq_some_iff] at hj
          obtain ⟨q, hq, rfl⟩ := hj
          have hlt : j < parts.toList.length := by rw [← m1]; exact (List.getElem?_eq_some_iff.1 hq).1
          obtain ⟨fd, _, _, _, h4⟩ := hpart j _ q (List.getElem?_eq_getElem hlt) hq
          exact (hs.ev h4).2 k h1
    · cases he
  · cases hc

theorem setPart_length : ∀ (ps : List (Nat × List AV)) (es : List (List AV)), (setPart es ps).length = es.length
  | [], es => rfl
  | (i, cs) :: r, es => by rw [setPart, setPart_length r]; simp

/-- The rows of a literal: cells that read as a list of elements. -/
def CellsLL (C : Conc) (ok : Nat → Prop) (w : World) (sz : Nat) (es : List (List AV)) (vs : Array Value) : Prop :=
  vs.size = es.length * sz ∧ (∀ cs ∈ es, cs.length = sz) ∧ ∀ (i : Nat) (cs : List AV) (j : Nat) (u : AV), es[i]? = some cs → cs[j]? = some u → ∃ v, vs[i * sz + j]? = some v ∧ Rep C ok w u v

theorem CellsLL.write {ok : Nat → Prop} {sz i : Nat} {es : List (List AV)} {vs x : Array Value} {cs : List AV} (h : CellsLL C ok w sz es vs) (hn : Cells C ok w cs x) (hl : cs.length = sz) (hi : i < es.length) :
    CellsLL C ok w sz (es.set i cs) (x.zipIdx.foldl (fun cs p => cs.setIfInBounds (i * sz + p.2) p.1) vs) := by
  obtain ⟨h1, h2, h3⟩ := h
  have hfold : x.zipIdx.foldl (fun cs p => cs.setIfInBounds (i * sz + p.2) p.1) vs = (x.toList.zipIdx 0).foldl (fun cs p => cs.setIfInBounds (i * sz + p.2) p.1) vs := by
    rw [← Array.foldl_toList, Array.toList_zipIdx]
  rw [hfold]
  have hxl : x.toList.length = sz := by simp [← hn.1, hl]
  refine ⟨by rw [foldl_size, h1]; simp, fun c hc => ?_, fun q c j u hq hj => ?_⟩
  · rcases List.mem_or_eq_of_mem_set hc with hc | rfl
    · exact h2 c hc
    · exact hl
  · rw [foldl_get vs (i * sz) x.toList 0 vs rfl]
    have hjl : j < sz := by
      have h0 := (List.getElem?_eq_some_iff.1 hj).1
      by_cases e : i = q
      · subst e; rw [List.getElem?_set, if_pos rfl, if_pos hi] at hq; cases hq; omega
      · rw [List.getElem?_set, if_neg e] at hq; rw [h2 c (List.mem_of_getElem? hq)] at h0; exact h0
    rw [List.getElem?_set] at hq
    by_cases e : i = q
    · subst e
      rw [if_pos rfl, if_pos hi] at hq
      cases hq
      have hb : (i + 1) * sz ≤ es.length * sz := Nat.mul_le_mul_right _ hi
      rw [Nat.add_mul, Nat.one_mul] at hb
      rw [if_pos ⟨by omega, by omega, by omega⟩]
      have hx : j < x.size := by rw [← hn.1, hl]; exact hjl
      refine ⟨x[j], by simp [show i * sz + j - (i * sz) = j by omega, hx], hn.2 j u _ hj (Array.getElem?_eq_getElem hx)⟩
    · rw [if_neg e] at hq
      obtain ⟨v, g1, g2⟩ := h3 q c j u hq hj
      refine ⟨v, ?_, g2⟩
      rw [if_neg]
      · exact g1
      · rcases Nat.lt_or_gt_of_ne e with lt | gt
        · have : (i + 1) * sz ≤ q * sz := Nat.mul_le_mul_right _ lt
          rw [Nat.add_mul, Nat.one_mul] at this
          omega
        · have : (q + 1) * sz ≤ i * sz := Nat.mul_le_mul_right _ gt
          rw [Nat.add_mul, Nat.one_mul] at this
          omega

theorem fillLL_rep {ok : Nat → Prop} {sz : Nat} : ∀ (parts : List (Nat × List AV)) (vparts : List (Nat × Value)) (es : List (List AV)) (vs : Array Value), parts.length = vparts.length →
    (∀ (j : Nat) (p : Nat × List AV) (q : Nat × Value), parts[j]? = some p → vparts[j]? = some q → q.1 = p.1 ∧ p.1 < es.length ∧ p.2.length = sz ∧ Cells C ok w p.2 q.2.cells) →
    CellsLL C ok w sz es vs → ∃ vs', Instr.fill (fun i => some (i * sz, sz)) vs vparts = some vs' ∧ CellsLL C ok w sz (setPart es parts) vs'
  | [], [], es, vs, _, _, hc => ⟨vs, rfl, hc⟩
  | (i, cs) :: parts, (i', v) :: vparts, es, vs, hl, hp, hc => by
    obtain ⟨p1, p2, p3, p4⟩ := hp 0 (i, cs) (i', v) rfl rfl
    simp only at p1 p2 p3 p4
    subst p1
    obtain ⟨vs', r1, r2⟩ := fillLL_rep parts vparts _ _ (by simpa using hl) (fun j p q hj hq => by have := hp (j + 1) p q (by simpa using hj) (by simpa using hq); simpa using this) (hc.write p4 p3 p2)
    refine ⟨vs', ?_, r2⟩
    have hsz : v.cells.size = sz := by rw [← p4.1, p3]
    have hb : (i' + 1) * sz ≤ es.length * sz := Nat.mul_le_mul_right _ p2
    rw [Nat.add_mul, Nat.one_mul] at hb
    simp only [Instr.fill]
    rw [if_neg (by simp [hsz, hc.1]; omega)]
    exact r1
  | [], _ :: _, _, _, hl, _, _ => by simp at hl
  | _ :: _, [], _, _, hl, _, _ => by simp at hl

theorem d_bslice {dst : Option Nat} {t : TypeId} {len : Nat} {parts : Array (Nat × Operand)} {ty : TypeId} {pos : String} {after : Array Edge} {guard : Option (Nat × Bool)} {aop : AOp} {e : Eff}
    (hc : cOp P ks fid ⟨dst, .buildSlice t len parts, ty, pos, after, guard⟩ = some aop) (he : eff G aop S = some e) (hs : Sim N B ok0 w0 E C S a w) (hd : ∀ x, dst = some x → x < N) :
    Does P N B ok0 w0 E ⟨dst, .buildSlice t len parts, ty, pos, after, guard⟩ a w (S.app dst e) := by
  simp only [cOp] at hc
  split at hc
  · rename_i el hel
    split at hc
    · rename_i z ps hz hps
      obtain ⟨⟨hlim, hok⟩, hc⟩ := of_ite hc
      cases hc
      obtain ⟨m1, m2⟩ := mapM_some hps
      simp only [eff] at he
      obtain ⟨⟨hall, hidx, hzl⟩, he⟩ := of_ite he
      split at he
      · rename_i es fs hfz
        cases he
        obtain ⟨i, v, hi, hiz, hcz, hkz, hone⟩ := zero_cells (P := P) (C := C) (ok := okb B ok0 C S.heap S.frz w) (w := w) hz
        have hu := elemT_under hel
        have hvs : v.cells.size = P.cellsOf el := by rw [← hcz.1, hzl]
        have hpart : ∀ (j : Nat) (p : Nat × Operand) (q : Nat × AX), parts.toList[j]? = some p → ps[j]? = some q → q.1 = p.1 ∧ axOf P el p.2 = some q.2 := by
          intro j p q hp hq
          have := m2 j p q hp hq
          rw [Option.map_eq_some_iff] at this
          obtain ⟨y, hy, rfl⟩ := this
          exact ⟨rfl, hy⟩
        have hbase : CellsLL C (okb B ok0 C S.heap S.frz w) w (P.cellsOf el) (List.replicate len z) ((Array.range (len * P.cellsOf el)).map (fun k => (if len * P.cellsOf el = 0 then #[] else v.cells)[k % (if len * P.cellsOf el = 0 then #[] else v.cells).size]!)) := by
          refine ⟨by simp, fun c hcm => by rw [(List.mem_replicate.1 hcm).2, hzl], fun q c j u hq hj => ?_⟩
          simp only [List.getElem?_replicate] at hq
          split at hq
          · rename_i hlt
            cases hq
            have hj' : j < v.cells.size := by rw [← hcz.1]; exact (List.getElem?_eq_some_iff.1 hj).1
            have hne : len * P.cellsOf el ≠ 0 := Nat.ne_of_gt (Nat.mul_pos (by omega) (by omega))
            simp only [hne, if_false]
            refine ⟨v.cells[j], ?_, hcz.2 j u _ hj (Array.getElem?_eq_getElem hj')⟩
            have := madeCells_get v.cells len j q hj' hlt
            rw [hvs] at this
            exact this
          · cases hq
        generalize hcur : (Array.range (len * P.cellsOf el)).map (fun k => (if len * P.cellsOf el = 0 then #[] else v.cells)[k % (if len * P.cellsOf el = 0 then #[] else v.cells).size]!) = cur at hbase
        obtain ⟨vs', r1, r2⟩ := fillLL_rep (C := C) (ok := okb B ok0 C S.heap S.frz w) (w := w) (sz := P.cellsOf el) (ps.map fun p => (p.1, (S.ev p.2).cells)) (parts.toList.map fun p => (p.1, a.eval p.2)) (List.replicate len z) cur (by simp [m1]) (fun j p q hp hq => by
          rw [List.getElem?_map, Option.map_eq_some_iff] at hp hq
          obtain ⟨p0, hp0, rfl⟩ := hp
          obtain ⟨q0, hq0, rfl⟩ := hq
          obtain ⟨h1, h2⟩ := hpart j q0 p0 hq0 hp0
          have hm := List.mem_of_getElem? hp0
          have ha := List.all_eq_true.1 hall _ (List.mem_map.2 ⟨p0, hm, rfl⟩)
          simp only [Bool.and_eq_true, decide_eq_true_eq] at ha
          have hlt := List.all_eq_true.1 hidx p0 hm
          simp only [decide_eq_true_eq] at hlt
          exact ⟨h1.symm, by simpa using hlt, ha.1, (hs.ev h2).1.cells (by rintro hun; rw [hun] at ha; simp at ha)⟩) hbase
        obtain ⟨h', hok'⟩ := hs.h.freeze (F' := fun k => fs.contains k || S.frz k) (fun k hk => by simp [hk])
        obtain ⟨g1, g2⟩ := mapO_spec hfz
        have hlen : es.length = len := by rw [g1, setPart_length]; simp
        -- the new world, and the literal's reading there
        have hw' : ∀ b, okb B ok0 C S.heap (fun k => fs.contains k || S.frz k) w b → (w.alloc (.cells vs' el)).heap[b]? = w.heap[b]? := fun b hb => Below.heap_alloc w _ b hb.1
        have hokw : ∀ b, okb B ok0 C S.heap (fun k => fs.contains k || S.frz k) w b → okb B ok0 C S.heap (fun k => fs.contains k || S.frz k) (w.alloc (.cells vs' el)) b := fun b hb => ⟨by simp; have := hb.1; omega, hb.2.1, hb.2.2⟩
        have hbel : Below B w (w.alloc (.cells vs' el)) := (Below.refl _ _).alloc hs.h.base _
        have h'' : SimH B ok0 w0 C S.heap (fun k => fs.contains k || S.frz k) (w.alloc (.cells vs' el)) :=
          ⟨h'.below.trans hbel, Nat.le_trans h'.base hbel.size, fun k o hk => (h'.row k o hk).mono hokw hw' rfl (fun _ _ => rfl) (fun L hL => Below.heap_alloc w _ _ (h'.lt hk hL)), h'.blk, h'.inj, h'.wf, fun b hb => h'.up b (Nat.le_trans hbel.size hb), h'.okrow, fun b hb hn => (Below.heap_alloc w _ _ (Nat.lt_of_lt_of_le hb h'.below.size)).trans (h'.keep b hb hn)⟩
        have hnew : okb B ok0 C S.heap (fun k => fs.contains k || S.frz k) (w.alloc (.cells vs' el)) w.heap.size := by
          refine ⟨by simp, hs.h.up _ (Nat.le_refl _), fun k o L hk _ hL e => ?_⟩
          have := h'.lt hk hL
          omega
        have hcell : ∀ (q : Nat) (c : List AV) (j : Nat) (u : AV), es[q]? = some c → c[j]? = some u → ∃ y, vs'[q * P.cellsOf el + j]? = some y ∧ RepI (okb B ok0 C S.heap (fun k => fs.contains k || S.frz k) w) w u y := by
          intro q c j u hq hj
          have hlt : q < (setPart (List.replicate len z) (ps.map fun p => (p.1, (S.ev p.2).cells))).length := by rw [← g1]; exact (List.getElem?_eq_some_iff.1 hq).1
          obtain ⟨kc, g3, g4⟩ := g2 q _ c (List.getElem?_eq_getElem hlt) hq
          obtain ⟨g5, g6⟩ := mapO_spec g3
          have hlt' : j < ((setPart (List.replicate len z) (ps.map fun p => (p.1, (S.ev p.2).cells)))[q]).length := by rw [← g5]; exact (List.getElem?_eq_some_iff.1 hj).1
          obtain ⟨kx, g7, g8⟩ := g6 j _ u (List.getElem?_eq_getElem hlt') hj
          obtain ⟨y, hy, hr⟩ := r2.2.2 q _ j _ (List.getElem?_eq_getElem hlt) (List.getElem?_eq_getElem hlt')
          exact ⟨y, hy, fz_data hs.h (fun k hk => by simp [hk]) g7 (fun k hk => by simp [g4 k (g8 k hk)]) hr⟩
        have hsl : RepI (okb B ok0 C S.heap (fun k => fs.contains k || S.frz k) (w.alloc (.cells vs' el))) (w.alloc (.cells vs' el)) (.imm false (P.cellsOf el) es) (.slice (some ⟨w.heap.size, 0, none⟩) len len) := by
          refine .imm ⟨w.heap.size, 0, none⟩ (fun q j => (vs'[q * P.cellsOf el + j]?).getD undef) hlen.symm (by omega) (fun _ => ⟨rfl, hnew⟩) (fun c hcm => ?_) (fun q c j u hq hj => ?_) (fun q c j u hq hj => ?_)
          · obtain ⟨q, hq⟩ := List.getElem?_of_mem hcm
            have hlt : q < (setPart (List.replicate len z) (ps.map fun p => (p.1, (S.ev p.2).cells))).length := by rw [← g1]; exact (List.getElem?_eq_some_iff.1 hq).1
            obtain ⟨kc, g3, _⟩ := g2 q _ c (List.getElem?_eq_getElem hlt) hq
            rw [(mapO_spec g3).1]
            exact r2.2.1 _ (List.getElem_mem hlt)
          · obtain ⟨y, hy, _⟩ := hcell q c j u hq hj
            rw [add_mk, cell_of_row _ w.heap.size _ vs' el (0, 0) (heap_alloc_new w _), Nat.zero_add, hy]
            rfl
          · obtain ⟨y, hy, hr⟩ := hcell q c j u hq hj
            rw [hy]
            exact hr.mono hokw hw'
        intro K Q hK
        refine wp_of_value (v := .slice (some ⟨w.heap.size, 0, none⟩) len len) (w' := w.alloc (.cells vs' el)) ?_ (hK _ _ ⟨C, ?_⟩)
        · have hnl : ¬ (16777216 < len * P.cellsOf el) := by omega
          simp only [execOp, Sem.run_bind, Instr.buildSlice, run_underlying hu, Result.andThen_ok, run_sizeOf hok]
          rw [if_neg (by simpa using hnl)]
          by_cases h0 : len * P.cellsOf el = 0
          · rw [if_pos h0]
            simp only [if_pos h0] at hcur
            simp only [Sem.run_bind, Sem.run_pure, Result.andThen_ok, Array.toList_map]
            rw [hcur, r1]
            rfl
          · rw [if_neg h0]
            simp only [if_neg h0] at hcur
            simp only [Sem.run_bind, Sem.run_pure, Result.andThen_ok, Array.toList_map, zeroValue, typeInfo, run_program, hi, hiz]
            rw [hcur, r1]
            rfl
        · have := hs.put h'' (fun _ _ => rfl) (fun b hb => hokw b (hok' b hb)) (fun b hb => hw' b (hok' b hb)) (fun _ h => h) (.data hsl) (by simp [AV.keys]) hd
          simpa [St.app, upsH] using this
      · cases he
    · cases hc
  · cases hc

/-- Every operation but calls: what 'eff' says is done. -/
theorem eff_sound (o : Oper) (aop : AOp) (e : Eff) (hc : cOp P ks fid o = some aop) (he : eff G aop S = some e) (hs : Sim N B ok0 w0 E C S a w) (hd : ∀ x, o.dst = some x → x < N)
    (hcall : ∀ c, o.op ≠ .call c) : Does P N B ok0 w0 E o a w (S.app o.dst e) := by
  obtain ⟨dst, op, ty, pos, after, guard⟩ := o
  have ok' := okb B ok0 C S.heap S.frz w
  cases op with
  | move x =>
    simp only [cOp, Option.map_eq_some_iff] at hc
    obtain ⟨y, hy, rfl⟩ := hc
    cases he
    obtain ⟨h1, h2⟩ := hs.ev hy
    exact .of_data hs (by simp [execOp]) h1 h2 hd
  | assign x =>
    simp only [cOp, Option.map_eq_some_iff] at hc
    obtain ⟨y, hy, rfl⟩ := hc
    cases he
    obtain ⟨h1, h2⟩ := hs.ev hy
    exact .of_data hs (by simp [execOp]) h1 h2 hd
  | pick c x y =>
    simp only [cOp] at hc
    split at hc
    · rename_i c' x' y' hc' hx' hy'
      cases hc
      obtain ⟨c1, c2⟩ := hs.ev hc'
      obtain ⟨x1, x2⟩ := hs.ev hx'
      obtain ⟨y1, y2⟩ := hs.ev hy'
      simp only [eff] at he
      split at he
      · rename_i b hb
        cases he
        rw [hb] at c1
        have := c1.bool_inv
        cases b with
        | true => exact .of_data hs (u := S.ev x') (by simp [execOp, this, asBool]) x1 x2 hd
        | false => exact .of_data hs (u := S.ev y') (by simp [execOp, this, asBool]) y1 y2 hd
      · cases he
    · cases hc
  | alloc t =>
    simp only [cOp, Option.map_eq_some_iff] at hc
    obtain ⟨z, hz, rfl⟩ := hc
    simp only [eff] at he
    split at he
    · rename_i hk
      cases he
      obtain ⟨i, v, hi, hiz, hcz, hkz, hone⟩ := zero_cells (P := P) (C := C) (ok := okb B ok0 C S.heap S.frz w) (w := w) hz
      have hcells : (AV.agg z).cells = z := rfl
      obtain ⟨L, r1, r2, r3, r4⟩ := s_newVar (P := P) (e := t) (u := .agg z) (v := v) hs.h hk (by rw [hcells]; exact hcz.1) (by rw [hcells]; exact hcz.2) (by rw [hcells, hkz]; simp) (by rw [hcells]; exact fun x hx => .inl (hone x hx))
      rw [hcells, hkz] at r2 r3
      refine .of_new hs hk (v := .pointer (some ⟨L.block, 0, none⟩)) ?_ r2 r3 r4 (fun ok => ?_) (by simp [AV.keys]) hd
      · simp [execOp, Instr.alloc, zeroValue, typeInfo, hi, hiz, r1]
      · simpa using Rep.ptr (i := 0) (off := 0) (ok := ok) (w := w.alloc (.cells v.cells t)) (setC_self C _ (some L))
    · cases he
  | box t x =>
    simp only [cOp] at hc
    obtain ⟨ht, hc⟩ := of_ite hc
    rw [Option.map_eq_some_iff] at hc
    obtain ⟨y, hy, rfl⟩ := hc
    obtain ⟨h1, h2⟩ := hs.ev hy
    simp only [eff] at he
    split at he
    · rename_i hk
      obtain ⟨⟨hl, hcell⟩, he⟩ := of_ite he
      cases he
      have hund : S.ev y ≠ .undef := by rintro e; rw [e] at hcell; simp at hcell
      obtain ⟨c1, c2⟩ := h1.cells hund
      obtain ⟨L, r1, r2, r3, r4⟩ := s_newVar (P := P) (e := t) (u := S.ev y) (v := a.eval x) hs.h hk c1 c2 (fun k hk => h2 k (cells_keys hk)) (fun u hu => .inl (List.all_eq_true.1 hcell u hu))
      rw [hl] at r2 r3
      refine .of_new hs hk (v := .pointer (some ⟨L.block, 0, none⟩)) ?_ r2 r3 r4 (fun ok => ?_) (by simp [AV.keys]) hd
      · simp [execOp, Instr.box, r1]
      · simpa using Rep.ptr (i := 0) (off := 0) (ok := ok) (w := w.alloc (.cells (a.eval x).cells t)) (setC_self C _ (some L))
    · cases he
  | build t parts => exact d_build hc he hs hd
  | buildSlice t len parts => exact d_bslice hc he hs hd
  | load t x =>
    simp only [cOp] at hc
    obtain ⟨ht, hc⟩ := of_ite hc
    rw [Option.map_eq_some_iff] at hc
    obtain ⟨y, hy, rfl⟩ := hc
    obtain ⟨h1, h2⟩ := hs.ev hy
    have hcase : ∃ u acc, e = { val := u, acc := acc } ∧ (match loadN P t, S.at (S.ev y) with | none, some (c :: _) => some c | some n, some cs => if n ≤ cs.length then some (.agg (cs.take n)) else none | _, _ => none) = some u := by
      cases hn : loadN P t with
      | none =>
        rw [hn] at he
        simp only [eff] at he
        split at he
        · rename_i c rest hat; cases he; exact ⟨c, _, rfl, by rw [hat]⟩
        · cases he
      | some n =>
        rw [hn] at he
        simp only [eff] at he
        split at he
        · rename_i cs hat
          obtain ⟨hle, he⟩ := of_ite he
          cases he
          exact ⟨_, _, rfl, by rw [hat]; simp [hle]⟩
        · cases he
    obtain ⟨u, acc, rfl, hu⟩ := hcase
    obtain ⟨v, r1, r2, r3⟩ := s_load (P := P) ht hs.h h1 hu
    exact .of_data hs (by simp [execOp, r1]) r2 r3 hd
  | store t x y =>
    simp only [cOp] at hc
    obtain ⟨ht, hc⟩ := of_ite hc
    split at hc
    · rename_i x' y' hx' hy'
      cases hc
      obtain ⟨x1, x2⟩ := hs.ev hx'
      obtain ⟨y1, y2⟩ := hs.ev hy'
      simp only [eff] at he
      split at he
      · rename_i o i off hxe
        rw [hxe] at x1
        split at he
        · rename_i ob hob
          split at he
          · rename_i cs hcs
            obtain ⟨⟨g1, g2, g3, g4⟩, he⟩ := of_ite he
            cases he
            obtain ⟨w', r1, _, r2, r3, r4⟩ := s_store (P := P) ht hs.h x1 y1 y2 hob hcs g1 g2 g3 g4
            intro K Q hK
            refine wp_of_skip (w' := w') (by simp [execOp, r1]) (hK _ _ ⟨C, ?_⟩)
            have := hs.put r2 (fun _ _ => rfl) r3 r4 (fun x hx => by by_cases e : x = o <;> simp [setH, e, hx]) (u := .undef) (v := undef) (.data (.undef _)) (by simp [AV.keys]) hd
            simpa [St.app, upsH] using this
          · cases he
        · cases he
      · cases he
    · cases hc
  | nilCheck x =>
    simp only [cOp, Option.map_eq_some_iff] at hc
    obtain ⟨y, hy, rfl⟩ := hc
    obtain ⟨h1, h2⟩ := hs.ev hy
    simp only [eff] at he
    split at he
    · rename_i o i off hxe
      cases he
      rw [hxe] at h1 h2
      obtain ⟨L, hL, hv⟩ := h1.ptr_inv
      exact .of_data hs (by simp [execOp, hv]) (hv ▸ h1) h2 hd
    · rename_i cs hxe
      cases he
      rw [hxe] at h1 h2
      have hr := h1.ref_inv
      cases hv : a.eval x with
      | pointer p =>
        rw [hv] at hr h1
        cases hr with
        | ref vs hok hcell hrep => exact .of_data hs (v := .pointer (some _)) (by simp [execOp, hv]) h1 h2 hd
      | _ => rw [hv] at hr; cases hr
    · rename_i f cs hxe
      cases he
      rw [hxe] at h1 h2
      obtain ⟨vs, hv, _, _⟩ := h1.fn_inv
      exact .of_data hs (by simp [execOp, hv]) (hv ▸ h1) h2 hd
    · cases he
  | binOp op t x y u =>
    simp only [cOp] at hc
    split at hc
    · rename_i k x' y' hu hx' hy'
      cases hc
      simp only [eff] at he
      split at he
      · rename_i r hr
        cases he
        obtain ⟨x1, _⟩ := hs.ev hx'
        obtain ⟨y1, _⟩ := hs.ev hy'
        obtain ⟨k1, n1, k2, n2, v, e1, e2, r1, r2, r3⟩ := run_binOp (P := P) (t := t) x1 y1 hr
        have hg : (eqGuard op t x y (a.eval x) (a.eval y)).run P w = .ok () w := by rw [e1, e2]; cases op <;> rfl
        exact .of_data hs (by simp [execOp, hg, r1]) (.data r2) (by simp [r3]) hd
      · cases he
    · rename_i x' y' hu hx' hy'
      cases hc
      simp only [eff] at he
      split at he
      · rename_i r hr
        cases he
        obtain ⟨x1, _⟩ := hs.ev hx'
        obtain ⟨y1, _⟩ := hs.ev hy'
        obtain ⟨b1, b2, v, e1, e2, r1, r2, r3⟩ := run_binbOp (P := P) hu x1 y1 hr
        have hg : (eqGuard op t x y (a.eval x) (a.eval y)).run P w = .ok () w := by rw [e1, e2]; cases op <;> rfl
        exact .of_data hs (by simp [execOp, hg, r1]) (.data r2) (by simp [r3]) hd
      · cases he
    · cases hc
  | unOp op t x =>
    simp only [cOp, Option.map_eq_some_iff] at hc
    obtain ⟨y, hy, rfl⟩ := hc
    simp only [eff] at he
    split at he
    · rename_i r hr
      cases he
      obtain ⟨v, r1, r2, r3⟩ := run_unOp (P := P) (hs.ev hy).1 hr
      exact .of_data hs (by simp [execOp, r1]) (.data r2) (by simp [r3]) hd
    · cases he
  | convert src dt x =>
    simp only [cOp] at hc
    obtain ⟨hok, hc⟩ := of_ite hc
    obtain ⟨_, d, _, hsrc⟩ := okT_info hok
    split at hc
    · rename_i k y hu hy
      cases hc
      simp only [eff] at he
      split at he
      · rename_i k' n hn
        cases he
        have h1 := (hs.ev hy).1
        rw [hn] at h1
        have e1 := h1.int_inv
        have hrun : (convert src dt (.int k' n)).run P w = .ok (.int k (k.wrap n)) w := by
          simp only [convert, Sem.run_bind, run_underlying hsrc, run_underlying hu, Result.andThen_ok]
          cases d <;> rfl
        exact .of_data hs (by simp only [execOp, e1, Sem.run_bind, hrun]; rfl) (.data (.int _ _)) (by simp [AV.keys]) hd
      · cases he
    · cases hc
  | makeSlice t l c =>
    simp only [cOp] at hc
    split at hc
    · rename_i el hel
      split at hc
      · rename_i z l' c' hz hl hcap
        obtain ⟨⟨hok, hby⟩, hc⟩ := of_ite hc
        cases hc
        simp only [eff] at he
        split at he
        · rename_i hk
          split at he
          · rename_i k1 n k2 m hn hm
            obtain ⟨hcond, he1⟩ := of_ite he
            clear he
            obtain ⟨rfl, h0, hb, hzl⟩ := hcond
            cases he1
            have e1 := (hs.ev hl).1
            have e2 := (hs.ev hcap).1
            rw [hn] at e1
            rw [hm] at e2
            obtain ⟨L, cur, q1, q2, q3, r1, r2, r3, r4⟩ := s_make (P := P) (kl := k1) (kc := k2) hs.h hk (elemT_under hel) hz hzl h0 hb (by
              have : n * 1 ≤ n * (P.bytesOf el : Int) := Int.mul_le_mul_of_nonneg_left (by omega) h0
              omega)
            refine .of_new hs hk (v := .slice (some ⟨L.block, 0, none⟩) n.toNat n.toNat) ?_ r2 r3 r4 (fun ok => ?_) (by simp [AV.keys]) hd
            · simp only [execOp, e1.int_inv, e2.int_inv, Sem.run_bind, r1]; rfl
            · simpa using Rep.sl (i := 0) (n := n.toNat) (c := n.toNat) (ok := ok) (w := w.alloc (.cells cur L.ty)) (setC_self C _ (some L)) (Nat.le_refl _) (by omega)
          · cases he
        · cases he
      · cases hc
    · cases hc
  | fieldAddr s x f =>
    simp only [cOp] at hc
    split at hc
    · rename_i fs hfs
      split at hc
      · rename_i fd y hfd hy
        split at hc
        · cases hc
        · rename_i hcond
          cases hc
          simp only [Bool.or_eq_true, decide_eq_true_eq, Bool.not_eq_true', not_or, Bool.not_eq_false] at hcond
          have h1 := hs.ev hy
          have hcase : ∃ r, e = { val := r } ∧ faddrA fd.offset (S.ev y) = some r := by
            simp only [eff] at he
            split at he
            · rename_i cs hh; cases he; exact ⟨_, rfl, by rw [hh]; rfl⟩
            · rename_i o i g hh; cases he; exact ⟨_, rfl, by rw [hh]; rfl⟩
            · cases he
          obtain ⟨r, rfl, hr⟩ := hcase
          obtain ⟨v, r1, r2, r3⟩ := s_faddr (P := P) hfs hfd (by simpa using hcond.1) hcond.2 h1.1 hr
          exact .of_data hs (by simp [execOp, r1]) r2 (fun k hk => h1.2 k (r3 k hk)) hd
      · cases hc
    · cases hc
  | field s x f =>
    simp only [cOp] at hc
    split at hc
    · rename_i fs hfs
      split at hc
      · rename_i fd y hfd hy
        obtain ⟨ht, hc⟩ := of_ite hc
        cases hc
        have h1 := hs.ev hy
        have hcase : ∃ cs r, S.ev y = .agg cs ∧ e = { val := r } ∧ (match loadN P fd.type with | none => cs[fd.offset]? | some n => if fd.offset + n ≤ cs.length then some (.agg ((cs.drop fd.offset).take n)) else none) = some r := by
          cases hn : loadN P fd.type with
          | none =>
            rw [hn] at he
            simp only [eff] at he
            split at he
            · rename_i cs hh
              split at he
              · rename_i v hv; cases he; exact ⟨cs, v, hh, rfl, hv⟩
              · cases he
            · cases he
          | some n =>
            rw [hn] at he
            simp only [eff] at he
            split at he
            · rename_i cs hh
              obtain ⟨hle, he⟩ := of_ite he
              cases he
              exact ⟨cs, _, hh, rfl, by simp [hle]⟩
            · cases he
        obtain ⟨cs, r, hcs, rfl, hr⟩ := hcase
        rw [hcs] at h1
        obtain ⟨v, r1, r2, r3⟩ := s_field (P := P) hfs hfd ht h1.1 hr
        exact .of_data hs (by simp [execOp, r1]) r2 (fun k hk => h1.2 k (r3 k hk)) hd
      · cases hc
    · cases hc
  | indexAddr t x i =>
    simp only [cOp] at hc
    split at hc
    · rename_i el x' i' hel hx' hi'
      obtain ⟨ht, hc⟩ := of_ite hc
      cases hc
      have hu := elemT_under hel
      have h1 := hs.ev hx'
      have h2 := (hs.ev hi').1
      simp only [eff] at he
      split at he
      · rename_i nl sz' es k n hxe hie
        split at he
        · rename_i cs hcs
          obtain ⟨hcond, he1⟩ := of_ite he
          clear he
          obtain ⟨rfl, h0⟩ := hcond
          cases he1
          rw [hxe] at h1
          rw [hie] at h2
          obtain ⟨v, r1, r2⟩ := s_iaddr_imm (P := P) (k := k) hu ht h1.1 hcs h0
          exact .of_data hs (by simp [execOp, h2.int_inv, r1]) r2 (by simp [AV.keys]) hd
        · cases he
      · rename_i o i0 len k n hxe hie
        split at he
        · rename_i ob hob
          obtain ⟨⟨hsz, h0, hlt⟩, he⟩ := of_ite he
          cases he
          rw [hxe] at h1
          rw [hie] at h2
          obtain ⟨v, r1, r2⟩ := s_iaddr_sl (P := P) (k := k) hu ht hs.h h1.1 hob hsz h0 hlt
          exact .of_data hs (by simp [execOp, h2.int_inv, r1]) r2 (by simpa [AV.keys] using h1.2) hd
        · cases he
      · cases he
    · cases hc
  | slice t x lo hi mx =>
    simp only [cOp] at hc
    split at hc
    · rename_i el x' hel hx'
      split at hc
      · rename_i lo' hi' mx' hlo hhi hmx
        obtain ⟨ht, hc⟩ := of_ite hc
        cases hc
        have hu := elemT_under hel
        have h1 := hs.ev hx'
        -- a bound: absent on both sides, or a number
        have bound : ∀ (o : Option Operand) (o' : Option AX) (dflt : AV) (k : IntKind) (n : Int), axO P o = some o' → (o'.map S.ev).getD dflt = .int k n → (o = none ∧ o' = none ∧ dflt = .int k n) ∨ (o'.isSome = true ∧ o.map a.eval = some (.int k n)) := by
          intro o o' dflt k n hoo hv
          cases o with
          | none => simp only [axO] at hoo; cases hoo; exact .inl ⟨rfl, rfl, by simpa using hv⟩
          | some q =>
            simp only [axO, Option.map_eq_some_iff] at hoo
            obtain ⟨y, hy, rfl⟩ := hoo
            simp only [Option.map_some, Option.getD_some] at hv
            have := (hs.ev hy).1
            rw [hv] at this
            exact .inr ⟨rfl, by simp [this.int_inv]⟩
        simp only [eff] at he
        split at he
        · rename_i nl sz' es k l hxe hle
          split at he
          · rename_i k2 h k3 m hhe hme
            obtain ⟨hcond, he1⟩ := of_ite he
            clear he
            obtain ⟨rfl, c1, c2, c3, c4, c5⟩ := hcond
            cases he1
            rw [hxe] at h1
            have hI := h1.1.imm_inv
            obtain ⟨A, n, c, hv, hn, hcap⟩ : ∃ A n c, a.eval x = .slice A n c ∧ n = es.length ∧ es.length ≤ c := by
              cases hev : a.eval x with
              | slice A n c =>
                rw [hev] at hI
                cases hI with
                | nils => exact ⟨_, _, _, rfl, rfl, Nat.le_refl _⟩
                | imm ad vs hn hc hA hsz hcell hrep => exact ⟨_, _, _, rfl, hn, hc⟩
              | _ => rw [hev] at hI; cases hI
            rw [hv] at hI
            subst hn
            have bl := bound lo lo' _ k l hlo hle
            have bh := bound hi hi' _ k2 h hhi hhe
            have bm := bound mx mx' _ k3 m hmx hme
            have key := run_slice_gen (P := P) (w := w) (A := A) (n := es.length) (c := c) (lo := lo.map a.eval) (hi := hi.map a.eval) (mx := mx.map a.eval) (l := l.toNat) (h := h.toNat) (m := if mx.isSome then m.toNat else c) hu ht
              (by rcases bm with ⟨rfl, _, _⟩ | ⟨_, e⟩
                  · exact .inl ⟨rfl, rfl⟩
                  · refine .inr ⟨k3, ?_⟩
                    have : mx.isSome = true := by cases mx <;> simp_all
                    rw [e, if_pos this, Int.toNat_of_nonneg (by omega)])
              (by split <;> omega)
              (by rcases bh with ⟨rfl, e0, e⟩ | ⟨_, e⟩
                  · refine .inl ⟨rfl, ?_, ?_⟩
                    · rcases bm with ⟨rfl, _, _⟩ | ⟨e2, _⟩
                      · rfl
                      · have := c5 e2; rw [e0] at this; cases this
                    · cases e; simp
                  · exact .inr ⟨k2, by rw [e, Int.toNat_of_nonneg (by omega)]⟩)
              (by split <;> omega)
              (by rcases bl with ⟨rfl, _, e⟩ | ⟨_, e⟩
                  · cases e; exact .inl ⟨rfl, rfl⟩
                  · exact .inr ⟨k, by rw [e, Int.toNat_of_nonneg (by omega)]⟩)
              (by omega)
            have hrep := s_slice_imm (l := l.toNat) (h := h.toNat) (m := if mx.isSome then m.toNat else c) hI (by omega) (by omega) (by split <;> omega) (by split <;> omega)
            exact .of_data hs (v := sliced A l.toNat h.toNat (if mx.isSome then m.toNat else c) (P.cellsOf el)) (by simp only [execOp, hv, Sem.run_bind, key]; rfl) (.data hrep) (by simp [AV.keys]) hd
          · cases he
        · rename_i o i n k l hxe hle
          split at he
          · rename_i ob k2 h k3 m hob hhe hme
            obtain ⟨hcond, he1⟩ := of_ite he
            clear he
            obtain ⟨hsz, c1, c2, c3, c4, c5⟩ := hcond
            cases he1
            rw [hxe] at h1
            have bl := bound lo lo' _ k l hlo hle
            have bh := bound hi hi' _ k2 h hhi hhe
            have bm := bound mx mx' _ k3 m hmx hme
            rcases h1.1.sl_inv with ⟨L, c, hL, hv, hn, hcap⟩ | ⟨hC, hv, rfl, rfl⟩
            · have hp := (hs.h.row o ob hob).place
              rw [hL] at hp
              have key := run_slice_gen (P := P) (w := w) (A := some ⟨L.block, i * L.sz, none⟩) (n := n) (c := c) (lo := lo.map a.eval) (hi := hi.map a.eval) (mx := mx.map a.eval) (l := l.toNat) (h := h.toNat) (m := c) hu ht
                (by rcases bm with ⟨rfl, _, _⟩ | ⟨e, _⟩
                    · exact .inl ⟨rfl, rfl⟩
                    · rw [e] at c5; cases c5)
                (Nat.le_refl _)
                (by rcases bh with ⟨rfl, e0, e⟩ | ⟨_, e⟩
                    · refine .inl ⟨rfl, ?_, ?_⟩
                      · rcases bm with ⟨rfl, _, _⟩ | ⟨e2, _⟩
                        · rfl
                        · rw [e2] at c5; cases c5
                      · cases e; simp
                    · exact .inr ⟨k2, by rw [e, Int.toNat_of_nonneg (by omega)]⟩)
                (by omega)
                (by rcases bl with ⟨rfl, _, e⟩ | ⟨_, e⟩
                    · cases e; exact .inl ⟨rfl, rfl⟩
                    · exact .inr ⟨k, by rw [e, Int.toNat_of_nonneg (by omega)]⟩)
                (by omega)
              refine .of_data hs (v := sliced (some ⟨L.block, i * L.sz, none⟩) l.toNat h.toNat c (P.cellsOf el)) (by simp only [execOp, hv, Sem.run_bind, key]; rfl) ?_ ?_ hd
              · split
                · rename_i hlt
                  have hmne : c ≠ l.toNat := by omega
                  simp only [sliced, if_neg hmne, Option.map_some, add_mk]
                  have e1 : i * L.sz + l.toNat * P.cellsOf el = (i + l.toNat) * L.sz := by rw [← hsz, ← hp.1, Nat.add_mul]
                  have e2 : (h - l).toNat = h.toNat - l.toNat := by omega
                  rw [e1, e2]
                  exact .sl hL (by omega) (by omega)
                · rename_i hlt
                  obtain rfl : l = h := by omega
                  exact .data (.imm ⟨0, 0, none⟩ (fun _ _ => undef) (by simp) (by simp) (by simp) (by simp) (by simp) (by simp))
              · intro x hx
                split at hx
                · simp only [AV.keys, List.mem_singleton] at hx
                  subst hx
                  rw [hob]; simp
                · simp [AV.keys] at hx
            · have hl0 : l = 0 := by omega
              have hh0 : h = 0 := by omega
              subst hl0
              subst hh0
              have key := run_slice_gen (P := P) (w := w) (A := none) (n := 0) (c := 0) (lo := lo.map a.eval) (hi := hi.map a.eval) (mx := mx.map a.eval) (l := 0) (h := 0) (m := 0) hu ht
                (by rcases bm with ⟨rfl, _, _⟩ | ⟨e, _⟩
                    · exact .inl ⟨rfl, rfl⟩
                    · rw [e] at c5; cases c5)
                (by omega)
                (by rcases bh with ⟨rfl, e0, e⟩ | ⟨_, e⟩
                    · refine .inl ⟨rfl, ?_, rfl⟩
                      rcases bm with ⟨rfl, _, _⟩ | ⟨e2, _⟩
                      · rfl
                      · rw [e2] at c5; cases c5
                    · exact .inr ⟨k2, by rw [e]; rfl⟩)
                (by omega)
                (by rcases bl with ⟨rfl, _, e⟩ | ⟨_, e⟩
                    · exact .inl ⟨rfl, rfl⟩
                    · exact .inr ⟨k, by rw [e]; rfl⟩)
                (by omega)
              refine .of_data hs (u := .imm false (P.cellsOf el) []) (v := sliced none 0 0 0 (P.cellsOf el)) (by simp only [execOp, hv, Sem.run_bind, key]; rfl) (.data ?_) (by simp [AV.keys]) hd
              exact .imm ⟨0, 0, none⟩ (fun _ _ => undef) (by simp) (by simp) (by simp) (by simp) (by simp) (by simp)
          · cases he
        · cases he
      · cases hc
    · cases hc
  | extract x i =>
    simp only [cOp, Option.map_eq_some_iff] at hc
    obtain ⟨y, hy, rfl⟩ := hc
    have h1 := hs.ev hy
    simp only [eff] at he
    split at he
    · rename_i cs hcs
      split at he
      · rename_i v hv
        cases he
        rw [hcs] at h1
        obtain ⟨vs, e1, hl, hr⟩ := h1.1.tup_inv
        have hlt : i < vs.size := by rw [← hl]; exact (List.getElem?_eq_some_iff.1 hv).1
        refine .of_data hs (v := vs[i]) ?_ (hr i v _ hv (Array.getElem?_eq_getElem hlt)) (fun k hk => h1.2 k (by simp only [AV.keys]; exact mem_keysL.2 ⟨i, v, hv, hk⟩)) hd
        simp [execOp, Instr.extract, e1, hlt]
      · cases he
    · cases he
  | makeFunc f first caps =>
    cases f with
    | func f =>
      simp only [cOp] at hc
      obtain ⟨hf, hc⟩ := of_ite hc
      rw [Option.map_eq_some_iff] at hc
      obtain ⟨ys, hys, rfl⟩ := hc
      cases he
      obtain ⟨m1, m2⟩ := axs_spec [] caps.toList ys hys
      have hget : ∀ (j : Nat) (u : AV), (ys.map S.ev)[j]? = some u → ∃ (x : Operand) (y : AX) (t : TypeId), caps.toList[j]? = some x ∧ axOf P t x = some y ∧ u = S.ev y := by
        intro j u hj
        rw [List.getElem?_map, Option.map_eq_some_iff] at hj
        obtain ⟨y, hy, rfl⟩ := hj
        have hlt : j < caps.toList.length := by rw [← m1]; exact (List.getElem?_eq_some_iff.1 hy).1
        obtain ⟨t, ht⟩ := m2 j _ y (List.getElem?_eq_getElem hlt) hy
        exact ⟨_, y, t, List.getElem?_eq_getElem hlt, ht, rfl⟩
      refine .of_data hs (v := .func (.func f) #[] (caps.map a.eval)) ?_ (.fn (by simp [m1]) (fun j u v hj hv => ?_)) (fun k hk => ?_) hd
      · have : first = #[] := Array.eq_empty_of_size_eq_zero hf
        simp [execOp, Instr.makeFunc, this]
      · obtain ⟨x, y, t, hx, ht, rfl⟩ := hget j u hj
        have : caps[j]? = some x := by simpa using hx
        simp [this] at hv
        subst hv
        exact (hs.ev ht).1
      · simp only [AV.keys] at hk
        obtain ⟨j, u, hj, hku⟩ := mem_keysL.1 hk
        obtain ⟨x, y, t, hx, ht, rfl⟩ := hget j u hj
        exact (hs.ev ht).2 k hku
    | _ => simp [cOp] at hc
  | call c => exact absurd rfl (hcall c)
  | _ => simp [cOp] at hc
end
end Go.Ev
