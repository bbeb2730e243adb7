/-
  Calls of pure callees; append; calls that are evaluated in place.
-/
import Derived.Test.YthlpmghodgiknaaEvQ
namespace Go.Ev
open Go Go.RowKit

/-- A row as it lies, its cells data. -/
def RowAt (ok : Nat → Prop) (w : World) (L : Loc) (es : List (List AV)) : Prop :=
  (∀ cs ∈ es, cs.length = L.sz) ∧ (∀ cs ∈ es, ∀ u ∈ cs, u.isCell = true ∨ u = .undef) ∧ ∃ cur, w.heap[L.block]? = some (.cells cur L.ty (0, 0)) ∧ cur.size = L.cap * L.sz ∧ es.length ≤ L.cap ∧ L.cap ≤ maxLen ∧
    ∀ (i : Nat) (cs : List AV) (j : Nat) (u : AV), es[i]? = some cs → cs[j]? = some u → ∃ v, cur[i * L.sz + j]? = some v ∧ RepI ok w u v

/-- The function gives what 'g' says, on data and one row, which it turns. -/
def MeetsU (P : Program) (f : FuncId) (p : Nat) (ty : TypeId) (g : List AV → Option PRes) : Prop :=
  ∀ (args : List AV) (r : PRes), g args = some r → ∀ (w : World) (vs : Array Value) (ok0 : Nat → Prop) (L : Loc) (es : List (List AV)), L.ty = ty → RowAt ok0 w L es → (∀ b, ok0 b → b < w.heap.size ∧ b ≠ L.block) → args.length = vs.size →
    args[p]? = some (.imm false L.sz es) → vs[p]? = some (.slice (some ⟨L.block, 0, none⟩) es.length L.cap) →
    (∀ (i : Nat) (u : AV) (v : Value), i ≠ p → args[i]? = some u → vs[i]? = some v → RepI ok0 w u v) →
    Calls P f vs w fun e w' => ∃ (v : Value) (ob : Obj) (ok' : Nat → Prop), e = .returned v ∧ r.objs = [ob] ∧ ob.es.length = es.length ∧ Below L.block w w' ∧ (∀ b, b < w.heap.size → b ≠ L.block → w'.heap[b]? = w.heap[b]?) ∧
      (∀ b, ok' b → b < w'.heap.size ∧ b ≠ L.block ∧ (b < w.heap.size → ok0 b)) ∧ RowAt ok' w' L ob.es ∧ Rep (fun _ => none) ok' w' r.val v ∧ r.val.keys = []

/-- The callees are as they are said to be. -/
def GoodG (P : Program) (ks : Kinds) (G : Pure) : Prop :=
  (∀ f fresh, kindOf ks f = some fresh → Meets P f (G f) ∧ Enters P f) ∧ ∀ f p ty, updOf ks f = some (p, ty) → MeetsU P f p ty (G f) ∧ Enters P f

section
variable {N B : Nat} {ok0 : Nat → Prop} {w0 : World} {E : Entry} {C : Conc} {S : St} {a : Act} {w : World} {P : Program} {ks : Kinds} {fid : Nat} {G : Pure}

/-- The operands of a call, read. -/
theorem args_rep {ts : List Nat} {xs : List Operand} {ys : List AX} (hs : Sim N B ok0 w0 E C S a w) (h : axs P ts xs = some ys) :
    ys.length = xs.length ∧ ∀ (j : Nat) (u : AV), (ys.map S.ev)[j]? = some u → ∃ x, xs[j]? = some x ∧ Rep C (okb B ok0 C S.heap S.frz w) w u (a.eval x) ∧ ∀ k ∈ u.keys, S.heap k ≠ none := by
  obtain ⟨m1, m2⟩ := axs_spec ts xs ys h
  refine ⟨m1, fun j u hj => ?_⟩
  rw [List.getElem?_map, Option.map_eq_some_iff] at hj
  obtain ⟨y, hy, rfl⟩ := hj
  have hlt : j < xs.length := by rw [← m1]; exact (List.getElem?_eq_some_iff.1 hy).1
  obtain ⟨t, ht⟩ := m2 j _ y (List.getElem?_eq_getElem hlt) hy
  exact ⟨_, List.getElem?_eq_getElem hlt, hs.ev ht⟩

theorem upsH_nil_of {H : Nat → Option Obj} {b : Nat} {objs : List Obj} : upsH H (shiftObjs b 0 objs) = mergeH b H objs := by
  funext k
  rw [upsH_shift]
  simp [mergeH]

/-- A call of a pure callee. -/
theorem pure_call {o : Oper} {f k : Nat} {args : Array Value} {as as' : List AV} {fks : List Nat} {r : PRes} {fresh : Bool} (hs : Sim N B ok0 w0 E C S a w) (hm : Meets P f (G f)) (hd : ∀ x, o.dst = some x → x < N)
    (hrun : (execOp a.eval o).run P w = .ok (.enter f args) w) (hlen : as.length = args.size)
    (hrep : ∀ (j : Nat) (u : AV) (v : Value), as[j]? = some u → args[j]? = some v → Rep C (okb B ok0 C S.heap S.frz w) w u v) (hfz : fzL S.heap as = some (as', fks)) (hG : G f as' = some r)
    (hfree : ∀ x, k ≤ x → x < k + r.objs.length → S.heap x = none) (hkeys : fresh = false → r.objs = []) :
    Does P N B ok0 w0 E o a w (S.app o.dst { val := if fresh = true then r.val.rk k else r.val, ups := if fresh = true then shiftObjs k 0 r.objs else [], frz := fks, acc := if fresh = true then fks ++ (shiftObjs k 0 r.objs).map (·.1) else fks }) := by
  intro K Q hK
  obtain ⟨h', hok⟩ := hs.h.freeze (F' := fun k => fks.contains k || S.frz k) (fun k hk => by simp [hk])
  obtain ⟨g1, g2⟩ := mapO_spec hfz
  have hdata : ∀ (j : Nat) (u : AV) (v : Value), as'[j]? = some u → args[j]? = some v → RepI (okb B ok0 C S.heap (fun k => fks.contains k || S.frz k) w) w u v := by
    intro j u v hj hv
    have hlt : j < as.length := by rw [← g1]; exact (List.getElem?_eq_some_iff.1 hj).1
    obtain ⟨kx, g3, g4⟩ := g2 j _ u (List.getElem?_eq_getElem hlt) hj
    exact fz_data hs.h (fun k hk => by simp [hk]) g3 (fun k hk => by simp [g4 k hk]) (hrep j _ v (List.getElem?_eq_getElem hlt) hv)
  have hcalls := hm as' r hG w args (okb B ok0 C S.heap (fun k => fks.contains k || S.frz k) w) (fun b hb => hb.1) (by rw [g1, hlen]) hdata
  unfold Oper.wp
  rw [hrun]
  simp only [Oper.upon]
  refine hcalls.mono fun e w' he => ?_
  obtain ⟨v, rfl, C1, hs1, hr1, hk1⟩ := he
  refine hK _ _ ⟨mergeC k r.objs.length C C1, ?_⟩
  obtain ⟨m1, m2, m3, m4⟩ := h'.merge hfree hs1
  have notnew : ∀ x, S.heap x ≠ none → ¬ (k ≤ x ∧ x < k + r.objs.length) := fun x hx hc => hx (hfree x hc.1 hc.2)
  have hlt : ∀ x ∈ r.val.keys, x < r.objs.length := fun x hx => by
    rcases Nat.lt_or_ge x r.objs.length with lt | ge
    · exact lt
    · exact absurd (by simp [heapOf, List.getElem?_eq_none ge]) (hk1 x hx)
  have hval : Rep (mergeC k r.objs.length C C1) (okb B ok0 (mergeC k r.objs.length C C1) (mergeH k S.heap r.objs) (fun k => fks.contains k || S.frz k) w') w' (r.val.rk k) v :=
    (hr1.rk (C' := mergeC k r.objs.length C C1) (b := k) fun x hx => by
      have := hlt x hx
      simp only [mergeC]
      rw [if_pos ⟨by omega, by omega⟩]
      congr 1
      omega).mono m3 (fun _ _ => rfl) (fun _ _ => rfl)
  have fin := hs.put m1 (fun x hx => by simp [mergeC, notnew x hx]) (fun b hb => m2 b (hok b hb)) (fun b hb => m4 b (hok b hb)) (fun x hx => by simp [mergeH, notnew x hx, hx]) hval (fun x hx => by
    rw [keys_rk] at hx
    obtain ⟨x0, hx0, rfl⟩ := List.mem_map.1 hx
    have := hlt x0 hx0
    simp only [mergeH]
    rw [if_pos ⟨by omega, by omega⟩]
    simp [this]) hd
  cases fresh with
  | true => simpa [St.app, upsH_nil_of] using fin
  | false =>
    have ho := hkeys rfl
    have hz : r.val.keys = [] := List.eq_nil_iff_forall_not_mem.2 fun x hx => by have := hlt x hx; rw [ho] at this; simp at this
    rw [rk_id k _ hz] at fin
    have e1 : mergeH k S.heap r.objs = S.heap := by funext x; simp [mergeH, ho]; omega
    rw [e1] at fin
    simpa [St.app, upsH] using fin

/-- A call that turns one row. -/
theorem upd_call {o : Oper} {f p : Nat} {ty : TypeId} {args : Array Value} {us as : List AV} {fks : List Nat} {r : PRes} {q n : Nat} {ob ob' : Obj} (hs : Sim N B ok0 w0 E C S a w) (hm : MeetsU P f p ty (G f)) (hd : ∀ x, o.dst = some x → x < N)
    (hrun : (execOp a.eval o).run P w = .ok (.enter f args) w) (hlen : us.length = args.size)
    (hrep : ∀ (j : Nat) (u : AV) (v : Value), us[j]? = some u → args[j]? = some v → Rep C (okb B ok0 C S.heap S.frz w) w u v) (hp : us[p]? = some (.sl q 0 n)) (hq : S.heap q = some ob) (hn : n = ob.es.length) (hne : ob.es ≠ []) (href : ob.refs = [])
    (hty : ob.ty = ty) (hfr : S.frz q = false) (hfz : fzL S.heap (us.set p (.imm false ob.sz ob.es)) = some (as, fks)) (hG : G f as = some r) (hobj : r.objs = [ob']) (hks : fks.contains q = false) :
    Does P N B ok0 w0 E o a w (S.app o.dst { val := r.val, ups := [(q, { ob with es := ob'.es })], frz := fks, acc := q :: fks }) := by
  intro K Q hK
  obtain ⟨h', hok⟩ := hs.h.freeze (F' := fun k => fks.contains k || S.frz k) (fun k hk => by simp [hk])
  have hFq : (fun k => fks.contains k || S.frz k) q = false := by simp only [hks, hfr, Bool.or_self]
  have hplt : p < us.length := (List.getElem?_eq_some_iff.1 hp).1
  have hrow := h'.row q ob hq
  have hpl := hrow.place
  obtain ⟨L, hL⟩ : ∃ L, C q = some L := by
    cases hc : C q with
    | some L => exact ⟨L, rfl⟩
    | none => rw [hc] at hpl; exact absurd hpl hne
  rw [hL] at hpl
  obtain ⟨p1, p2, cur, p3, p4, p5, p6, p7⟩ := hpl
  have hLlt := h'.lt hq hL
  have hvp : args[p]? = some (.slice (some ⟨L.block, 0, none⟩) ob.es.length L.cap) := by
    have hv := hrep p _ args[p] hp (Array.getElem?_eq_getElem (by omega))
    rcases hv.sl_inv with ⟨L1, c, h1, h2, h3, h4⟩ | ⟨h1, _⟩
    · rw [hL] at h1
      cases h1
      rw [Array.getElem?_eq_getElem (by omega), h2, ← hn]
      have : c = L.cap := by omega
      rw [this, Nat.zero_mul]
    · rw [hL] at h1; cases h1
  obtain ⟨g1, g2⟩ := mapO_spec hfz
  rw [List.length_set] at g1
  have hasp : as[p]? = some (.imm false L.sz ob.es) := by
    have hlt : p < as.length := by omega
    obtain ⟨kx, g3, _⟩ := g2 p (.imm false ob.sz ob.es) as[p] (by rw [List.getElem?_set_self hplt]) (List.getElem?_eq_getElem hlt)
    simp only [fz, Option.some.injEq, Prod.mk.injEq] at g3
    rw [List.getElem?_eq_getElem hlt, ← g3.1, p1]
  have hdata : ∀ (j : Nat) (u : AV) (v : Value), j ≠ p → as[j]? = some u → args[j]? = some v → RepI (okb B ok0 C S.heap (fun k => fks.contains k || S.frz k) w) w u v := by
    intro j u v hjp hj hv
    have hlt : j < us.length := by rw [← g1]; exact (List.getElem?_eq_some_iff.1 hj).1
    obtain ⟨kx, g3, g4⟩ := g2 j us[j] u (by rw [List.getElem?_set_ne (Ne.symm hjp)]; exact List.getElem?_eq_getElem hlt) hj
    exact fz_data hs.h (fun k hk => by simp [hk]) g3 (fun k hk => by simp [g4 k hk]) (hrep j _ v (List.getElem?_eq_getElem hlt) hv)
  have hat : RowAt (okb B ok0 C S.heap (fun k => fks.contains k || S.frz k) w) w L ob.es := by
    refine ⟨fun cs hcs => by rw [p1]; exact hrow.cells cs hcs, hrow.one, cur, p3, p4, p5, p6, fun i cs j u hi hj => ?_⟩
    obtain ⟨v, q1, q2⟩ := p7 i cs j u hi hj
    exact ⟨v, q1, q2.toI (noKeys hrow href (List.mem_of_getElem? hi) hj) (hrow.one cs (List.mem_of_getElem? hi) u (List.mem_of_getElem? hj))⟩
  have hcalls := hm as r hG w args _ L ob.es (p2.trans hty) hat (fun b hb => ⟨hb.1, fun e => hb.2.2 q ob L hq hFq hL e.symm⟩) (by rw [g1]; exact hlen) hasp hvp hdata
  unfold Oper.wp
  rw [hrun]
  simp only [Oper.upon]
  refine hcalls.mono fun e w' he => ?_
  obtain ⟨v, ob1, ok', rfl, h1, h2, h3, h4, h5, h6, h7, h8⟩ := he
  rw [hobj] at h1
  cases h1
  obtain ⟨r1, r2, cur', r3, r4, r5, r6, r7⟩ := h6
  have hset : setC C q (some L) = C := by funext x; by_cases e : x = q <;> simp [setC, e, hL]
  have hok' : ∀ b, ok' b → okb B ok0 C (setH S.heap q { ob with es := ob'.es }) (fun k => fks.contains k || S.frz k) w' b := fun b hb => by
    obtain ⟨q1, q2, q3⟩ := h5 b hb
    refine ⟨q1, ?_, fun k o1 L1 e1 e2 e3 => ?_⟩
    · rcases Nat.lt_or_ge b w.heap.size with lt | ge
      · exact (q3 lt).2.1
      · exact h'.up b ge
    · by_cases ek : k = q
      · subst ek; rw [hL] at e3; cases e3; exact fun e => q2 e.symm
      · rw [setH_ne _ _ ek] at e1
        rcases Nat.lt_or_ge b w.heap.size with lt | ge
        · exact (q3 lt).2.2 k o1 L1 e1 e2 e3
        · have := h'.lt e1 e3; omega
  have key := h'.set (k := q) (o' := { ob with es := ob'.es }) (L := L) (h3.mono (h'.blk q ob L hq hL)) (h'.blk q ob L hq hL) (h'.okrow q ob L hq hL) (fun b hb hne => h4 b hb hne)
    (fun x o2 L2 hx e1 e2 e3 => hx (h'.inj x q o2 ob L2 L e1 hq e2 hL e3)) (fun b hb e => hb.2.2 q ob L hq hFq hL e.symm) (.inl hL) (by
      rw [hset]
      refine ⟨fun cs hcs => by rw [← p1]; exact r1 cs hcs, r2, fun cs hcs x hx => ?_, ?_⟩
      · exfalso
        obtain ⟨i, hi⟩ := List.getElem?_of_mem hcs
        obtain ⟨j, u, hj, hku⟩ := mem_keysL.1 hx
        obtain ⟨v, _, q2⟩ := r7 i cs j u hi hj
        rw [q2.keys] at hku
        simp at hku
      · rw [hL]
        refine ⟨p1, p2, cur', r3, r4, r5, r6, fun i cs j u hi hj => ?_⟩
        obtain ⟨v, q1, q2⟩ := r7 i cs j u hi hj
        exact ⟨v, q1, .data (q2.mono hok' fun _ _ => rfl)⟩) (by simp [href])
  rw [hset] at key
  obtain ⟨k1, k2, k3⟩ := key
  have fin := hs.put k1 (fun _ _ => rfl) (fun b hb => k2 b (hok b hb)) (fun b hb => k3 b (hok b hb)) (fun x hx => by
    by_cases ex : x = q
    · subst ex; rw [setH_self]; simp
    · rw [setH_ne _ _ ex]; exact hx) (h7.mono hok' (fun _ _ => rfl) (by rw [h8]; simp)) (by rw [h8]; simp) hd
  refine hK _ _ ⟨C, ?_⟩
  simpa [St.app, upsH] using fin

theorem run_append_op {P : Program} {a : Act} {w w' : World} {dst : Option Nat} {x y : Operand} {ts : Array TypeId} {ty : Nat} {pos : String} {after : Array Edge} {guard : Option (Nat × Bool)} {v : Value}
    (h : (Builtin.append_ ts ty #[a.eval x, a.eval y]).run P w = .ok v w') : (execOp a.eval ⟨dst, .call ⟨.builtin .append, #[x, y], ts⟩, ty, pos, after, guard⟩).run P w = .ok (.value v) w' := by
  simp [execOp, resolve, invoke, builtin, h]

theorem keysLL_mem {k : Nat} : ∀ {l : List (List AV)}, k ∈ keysLL l ↔ ∃ cs ∈ l, k ∈ AV.keysL cs
  | [] => by simp [keysLL]
  | cs :: r => by simp [keysLL, keysLL_mem (l := r)]

/-- Append onto nil: a new row. -/
theorem nil_append (hs : Sim N B ok0 w0 E C S a w) {x0 y0 : Operand} {t e : TypeId} {k : Nat} {y : AV} {z : List AV} {news : List (List AV)} (hk : S.heap k = none) (ht : P.underlying t = some (.slice e)) (hok : okT P e = true) (hb0 : 1 ≤ P.bytesOf e) (hs0 : 1 ≤ P.cellsOf e)
    (hz : zeroC P e = some z) (hzl : z.length = P.cellsOf e) (hvx : a.eval x0 = .slice none 0 0) (hy : Rep C (okb B ok0 C S.heap S.frz w) w y (a.eval y0)) (hyk : ∀ x ∈ y.keys, S.heap x ≠ none) (hnews : appended S.heap (P.cellsOf e) y = some news)
    (hall : ∀ cs ∈ news, cs.length = P.cellsOf e ∧ ∀ u ∈ cs, u.isCell = true) (hby : news.length * P.bytesOf e ≤ 140737488355328) (hfk : S.frz k = false) {dst : Option Nat} {ty : Nat} {pos : String} {after : Array Edge} {guard : Option (Nat × Bool)} (hd : ∀ x, dst = some x → x < N) {acc : List Nat} :
    Does P N B ok0 w0 E ⟨dst, .call ⟨.builtin .append, #[x0, y0], #[t, t]⟩, ty, pos, after, guard⟩ a w (S.app dst { val := .sl k 0 news.length, ups := [(k, { sz := P.cellsOf e, ty := e, es := news, refs := keysLL news })], acc := acc }) := by
  intro K Q hK
  obtain ⟨ad1, ad2⟩ := hs.h.adopt (k := k) hk e (P.cellsOf e)
  have dom_ne : ∀ {u : AV}, (∀ x ∈ u.keys, S.heap x ≠ none) → ∀ x ∈ u.keys, setC C k none x = C x := fun h x hx => setC_ne _ _ (by rintro rfl; exact h x hx hk)
  have hnews' : appended (setH S.heap k { sz := P.cellsOf e, ty := e, es := [], refs := [] }) (P.cellsOf e) y = some news := by
    rw [← hnews]
    unfold appended
    split
    · rfl
    · rename_i o i n
      have : o ≠ k := by rintro rfl; exact hyk o (by simp [AV.keys]) hk
      rw [setH_ne _ _ this]
    · rfl
  obtain ⟨_, _, _, _, hnk⟩ := appended_rep hs.h hnews hy hall
  have hnoself : ∀ cs ∈ news, k ∉ AV.keysL cs := fun cs hcs hkm => hnk cs hcs k hkm hk
  obtain ⟨C', v', w', r1, r2, r3, r4, r5⟩ := s_append (ty := ty) ad1 (o := k) (n := 0) (setH_self _ _ _) hfk rfl rfl rfl ht hok rfl hs0 hb0 hz hzl (.nilsl (setC_self _ _ _)) hnews' (hy.mono ad2 (fun _ _ => rfl) (dom_ne hyk)) hall (by simpa using hby) hnoself (by simp) (rs := keysLL news)
      (fun cs hcs x hx => keysLL_mem.2 ⟨cs, hcs, hx⟩) (fun x hx => keysLL_mem.1 hx)
  refine wp_of_value (v := v') (w' := w') (run_append_op (by rw [hvx]; exact r1)) (hK _ _ ⟨C', ?_⟩)
  have hH : setH (mapH [k] (setH S.heap k { sz := P.cellsOf e, ty := e, es := [], refs := [] })) k { sz := P.cellsOf e, ty := e, es := [] ++ news, refs := keysLL news ++ [] } = setH S.heap k { sz := P.cellsOf e, ty := e, es := news, refs := keysLL news } := by
    funext x
    by_cases ex : x = k
    · subst ex; rw [setH_self, setH_self]; simp
    · rw [setH_ne _ _ ex, setH_ne _ _ ex]
      simp only [mapH, setH_ne _ _ ex]
      cases hx : S.heap x with
      | none => rfl
      | some ox =>
        rw [Option.map_some, scrubO_id]
        intro q hq hqk
        simp at hqk
        subst hqk
        exact hs.h.wf x ox _ hx hq hk
  rw [hH] at r3 r4
  have fin := hs.put r3 (fun x hx => by
      have ex : x ≠ k := by rintro rfl; exact hx hk
      rw [r2 x ex, setC_ne _ _ ex]) (fun b hb => (r4 b (ad2 b hb)).1) (fun b hb => (r4 b (ad2 b hb)).2) (fun x hx => by
      by_cases ex : x = k
      · subst ex; rw [setH_self]; simp
      · rw [setH_ne _ _ ex]; exact hx) (r5 _) (fun x hx => by simp [AV.keys] at hx; subst hx; rw [setH_self]; simp) (d := dst) hd
  simp only [Nat.zero_add] at fin
  simpa [St.app, upsH] using fin

theorem isNilC_inv {x : AX} (h : isNilC x = true) : ∃ sz, x = .c (.imm true sz []) := by
  unfold isNilC at h
  split at h
  · exact ⟨_, rfl⟩
  · cases h

theorem elemT_inv {t e : TypeId} (h : elemT P t = some e) : P.underlying t = some (.slice e) := by
  unfold elemT at h
  split at h
  · rename_i hu; cases h; exact hu
  · cases h

theorem any_zero {t : TypeId} (h : ((zeroC P t).any fun z => z.length == P.cellsOf t) = true) : ∃ z, zeroC P t = some z ∧ z.length = P.cellsOf t := by
  cases hz : zeroC P t with
  | none => rw [hz] at h; simp at h
  | some z => rw [hz] at h; exact ⟨z, rfl, by simpa using h⟩

theorem all_cells {news : List (List AV)} {n : Nat} (h : (news.all fun cs => decide (cs.length = n) && cs.all AV.isCell) = true) : ∀ cs ∈ news, cs.length = n ∧ ∀ u ∈ cs, u.isCell = true := fun cs hcs => by
  have := List.all_eq_true.1 h cs hcs
  simp only [Bool.and_eq_true, decide_eq_true_eq] at this
  exact ⟨this.1, fun u hu => List.all_eq_true.1 this.2 u hu⟩

/-- Which operations the evaluator takes in place: the callee is 'f'. -/
theorem simple_call (c : Call) {dst : Option Nat} {ty : Nat} {pos : String} {after : Array Edge} {guard : Option (Nat × Bool)} {aop : AOp} {e : Eff}
    (hc : cOp P ks fid ⟨dst, .call c, ty, pos, after, guard⟩ = some aop) (he : eff G aop S = some e) (hs : Sim N B ok0 w0 E C S a w) (hd : ∀ x, dst = some x → x < N)
    (hG : GoodG P ks G) : Does P N B ok0 w0 E ⟨dst, .call c, ty, pos, after, guard⟩ a w (S.app dst e) := by
  obtain ⟨callee, args, argTypes⟩ := c
  simp only [cOp] at hc
  split at hc
  · split at hc
    · rename_i x t hargs ht
      have hargs' : args = #[x] := by rw [← Array.toArray_toList (xs := args), hargs]
      subst hargs'
      have hres : (execOp a.eval ⟨dst, .call ⟨.builtin .len, #[x], argTypes⟩, ty, pos, after, guard⟩).run P w = ((Builtin.len_ argTypes ty #[a.eval x]).run P w).andThen fun v w => .ok (.value v) w := by
        simp [execOp, resolve, invoke, builtin]
      split at hc
      · rename_i x' hu hx'
        cases hc
        have h1 := hs.ev hx'
        have hlen : ∀ A n c, a.eval x = .slice A n c → (Builtin.len_ argTypes ty #[a.eval x]).run P w = .ok (.int .i64 n) w := fun A n c hv => by
          simp [Builtin.len_, ht, hv, run_underlying hu, goInt]
        simp only [eff] at he
        split at he
        · rename_i nl sz es hxe
          cases he
          rw [hxe] at h1
          have hI := h1.1.imm_inv
          cases hv : a.eval x with
          | slice A n c =>
            rw [hv] at hI
            have hn : n = es.length := by cases hI with | nils => rfl | imm ad vs hn => exact hn
            subst hn
            exact .of_data hs (by rw [hres, hlen A _ c hv]; rfl) (.data (.int _ _)) (by simp [AV.keys]) hd
          | _ => rw [hv] at hI; cases hI
        · rename_i o i n hxe
          cases he
          rw [hxe] at h1
          rcases h1.1.sl_inv with ⟨L, c, _, hv, _, _⟩ | ⟨_, hv, _, rfl⟩
          · exact .of_data hs (by rw [hres, hlen _ _ _ hv]; rfl) (.data (.int _ _)) (by simp [AV.keys]) hd
          · exact .of_data hs (by rw [hres, hlen _ _ _ hv]; rfl) (.data (.int _ _)) (by simp [AV.keys]) hd
        · cases he
      · rename_i x' hu hx'
        cases hc
        have h1 := hs.ev hx'
        simp only [eff] at he
        split at he
        · rename_i s hxe
          cases he
          rw [hxe] at h1
          have hv := h1.1.str_inv
          have hrun : (Builtin.len_ argTypes ty #[a.eval x]).run P w = .ok (.int .i64 s.size) w := by simp [Builtin.len_, ht, hv, run_underlying hu, goInt]
          exact .of_data hs (by rw [hres, hrun]; rfl) (.data (.int _ _)) (by simp [AV.keys]) hd
        · cases he
      · cases hc
    · cases hc
  · split at hc
    · rename_i x y t u hargs hts
      split at hc
      · rename_i k1 k2 x' y' hu1 hu2 hx' hy'
        cases hc
        have hargs' : args = #[x, y] := by rw [← Array.toArray_toList (xs := args), hargs]
        subst hargs'
        simp only [eff] at he
        split at he
        · rename_i kx n ky m hxe hye
          obtain ⟨hk, he1⟩ := of_ite he
          clear he
          subst hk
          cases he1
          have h1 := (hs.ev hx').1
          have h2 := (hs.ev hy').1
          rw [hxe] at h1
          rw [hye] at h2
          refine .of_data hs (v := .int kx (if n < m then m else n)) ?_ (.data (.int _ _)) (by simp [AV.keys]) hd
          simp only [execOp, resolve, invoke, builtin, Sem.run_bind, Sem.run_pure, Result.andThen_ok, Builtin.max_, h1.int_inv, h2.int_inv, List.map_toArray, List.map_cons, List.map_nil]
          simp [Builtin.max2]
        · cases he
      · cases hc
    · cases hc
  · split at hc
    · rename_i x0 y0 t u hargs hts
      obtain ⟨htu, hc1⟩ := of_ite hc
      clear hc
      subst htu
      split at hc1
      · rename_i e' x y helem hx hy
        obtain ⟨⟨c1, c2, c3, c4⟩, hc2⟩ := of_ite hc1
        clear hc1
        split at hc2
        · rename_i hnil
          have hargs' : args = #[x0, y0] := by rw [← Array.toArray_toList (xs := args), hargs]
          have hts' : argTypes = #[t, t] := by rw [← Array.toArray_toList (xs := argTypes), hts]
          subst hargs'
          subst hts'
          obtain ⟨z, hz, hzl⟩ := any_zero c4
          cases hc2
          obtain ⟨szn, rfl⟩ := isNilC_inv hnil
          have hsx := hs.ev hx
          have hsy := hs.ev hy
          have hvx : a.eval x0 = .slice none 0 0 := by
            have := hsx.1.imm_inv
            generalize a.eval x0 = vx at *
            cases this
            rfl
          simp only [eff] at he
          split at he
          case h_2 => cases he
          rename_i hk
          split at he
          case h_2 => cases he
          rename_i news hnews
          obtain ⟨⟨q1, q2, q3⟩, he1⟩ := of_ite he
          clear he
          cases he1
          exact nil_append hs hk (elemT_inv helem) c1 c2 c3 hz hzl hvx hsy.1 hsy.2 hnews (all_cells q1) q2 q3 hd
        · cases hc2; simp [eff] at he
      · cases hc1
    · cases hc
  · rename_i f
    split at hc
    · rename_i as has
      split at hc
      · rename_i fresh hk
        cases hc
        obtain ⟨hm, hen⟩ := hG.1 f fresh hk
        obtain ⟨m1, m2⟩ := args_rep hs has
        simp only [eff] at he
        split at he
        · rename_i as' fks hfz
          split at he
          · rename_i r hr
            have hrun : (execOp a.eval ⟨dst, .call ⟨.value (.func f), args, argTypes⟩, ty, pos, after, guard⟩).run P w = .ok (.enter f (args.map a.eval)) w := by
              simp [execOp, resolve, Act.eval, Deferred.ofValue, invoke, run_callFunc hen]
            have key := fun (fr : Bool) (h1 : _) (h2 : fr = false → r.objs = []) => pure_call (P := P) (G := G) (o := ⟨dst, .call ⟨.value (.func f), args, argTypes⟩, ty, pos, after, guard⟩) (k := (fid * 1000 + dst.getD 999) * 16) (fresh := fr) hs hm hd hrun (by simp [m1]) (fun j u v hj hv => by
              obtain ⟨x, hx, hrep, _⟩ := m2 j u hj
              have : args[j]? = some x := by simpa using hx
              simp [this] at hv
              subst hv
              exact hrep) hfz hr h1 h2
            cases fresh with
            | true =>
              simp only [if_true] at he
              obtain ⟨hfree, he1⟩ := of_ite he
              clear he
              cases he1
              exact key true (fun x h1 h2 => freeKeys_spec _ r.objs 0 hfree x (by omega) (by omega)) (by simp)
            | false =>
              simp only [Bool.false_eq_true, if_false] at he
              obtain ⟨hobj, he1⟩ := of_ite he
              clear he
              cases he1
              exact key false (fun x h1 h2 => by rw [hobj] at h2; simp at h2; omega) (fun _ => hobj)
          · cases he
        · cases he
      · split at hc
        · rename_i p ty' hu
          cases hc
          obtain ⟨hm, hen⟩ := hG.2 f p ty' hu
          obtain ⟨m1, m2⟩ := args_rep hs has
          have hrun : (execOp a.eval ⟨dst, .call ⟨.value (.func f), args, argTypes⟩, ty, pos, after, guard⟩).run P w = .ok (.enter f (args.map a.eval)) w := by
            simp [execOp, resolve, Act.eval, Deferred.ofValue, invoke, run_callFunc hen]
          simp only [eff] at he
          split at he
          case h_2 => cases he
          rename_i q n hp
          split at he
          case h_2 => cases he
          rename_i ob hob
          obtain ⟨⟨e1, e2, e3, e4, e5⟩, he1⟩ := of_ite he
          clear he
          split at he1
          case h_2 => cases he1
          rename_i as' fks hfz
          split at he1
          case h_2 => cases he1
          rename_i r hr
          split at he1
          case h_2 => cases he1
          rename_i ob' hobj
          obtain ⟨e6, he2⟩ := of_ite he1
          clear he1
          cases he2
          exact upd_call (o := ⟨dst, .call ⟨.value (.func f), args, argTypes⟩, ty, pos, after, guard⟩) hs hm hd hrun (by simpa using m1) (fun j u v hj hv => by
            obtain ⟨x, hx, hrep, _⟩ := m2 j u hj
            have : args[j]? = some x := by simpa using hx
            simp [this] at hv
            subst hv
            exact hrep) hp hob e1 e2 e3 e4 e5 hfz hr hobj e6
        · cases hc; simp [eff] at he
    · cases hc
  · split at hc
    · cases hc; simp [eff] at he
    · cases hc
  · cases hc

end
end Go.Ev
