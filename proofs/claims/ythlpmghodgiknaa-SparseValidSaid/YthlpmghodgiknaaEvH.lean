/-
  Further kinds of callees: fresh rows, one row turned, evaluated in place; and the forgetting of nil.
-/
import Derived.Test.YthlpmghodgiknaaEvF
namespace Go.Ev
open Go Go.RowKit

section
variable {N B : Nat} {ok0 : Nat → Prop} {w0 : World} {C : Conc} {s s' : SL} {w : World} {P : Program} {ks : Kinds} {f : FuncId} {G : Pure} {ic : Inl}

/-! ### Fresh rows -/

mutual
/-- The row 'o' becomes the row 0. -/
def AV.dn (o : Nat) : AV → AV
  | .ptr x i off => .ptr (x - o) i off
  | .sl x i n => .sl (x - o) i n
  | .agg cs => .agg (AV.dnL o cs)
  | .tup cs => .tup (AV.dnL o cs)
  | .fn f cs => .fn f (AV.dnL o cs)
  | v => v
def AV.dnL (o : Nat) : List AV → List AV
  | [] => []
  | v :: vs => v.dn o :: AV.dnL o vs
end

theorem dnL_eq (o : Nat) : ∀ cs : List AV, AV.dnL o cs = cs.map (AV.dn o)
  | [] => rfl
  | v :: vs => by simp only [AV.dnL, List.map_cons, dnL_eq o vs]

section
mutual
theorem dn_id (o : Nat) : ∀ (u : AV), u.keys = [] → u.dn o = u
  | .agg cs, h => by simp only [AV.keys] at h; simp only [AV.dn, dnL_id o cs h]
  | .tup cs, h => by simp only [AV.keys] at h; simp only [AV.dn, dnL_id o cs h]
  | .fn f cs, h => by simp only [AV.keys] at h; simp only [AV.dn, dnL_id o cs h]
  | .ptr x i off, h => by simp [AV.keys] at h
  | .sl x i n, h => by simp [AV.keys] at h
  | .undef, h => rfl
  | .int _ _, h => rfl
  | .bool _, h => rfl
  | .str _, h => rfl
  | .nilp, h => rfl
  | .imm _ _ _, h => rfl
  | .ref _, h => rfl
theorem dnL_id (o : Nat) : ∀ (cs : List AV), AV.keysL cs = [] → AV.dnL o cs = cs
  | [], _ => rfl
  | v :: vs, h => by
    simp only [AV.keysL, List.append_eq_nil_iff] at h
    simp only [AV.dnL, dn_id o v h.1, dnL_id o vs h.2]
end
end

section
mutual
theorem keys_dn (o : Nat) : ∀ (u : AV), (u.dn o).keys = u.keys.map (· - o)
  | .agg cs => by simp only [AV.dn, AV.keys, keysL_dn o cs]
  | .tup cs => by simp only [AV.dn, AV.keys, keysL_dn o cs]
  | .fn f cs => by simp only [AV.dn, AV.keys, keysL_dn o cs]
  | .ptr x i off => rfl
  | .sl x i n => rfl
  | .undef => rfl
  | .int _ _ => rfl
  | .bool _ => rfl
  | .str _ => rfl
  | .nilp => rfl
  | .imm _ _ _ => rfl
  | .ref _ => rfl
theorem keysL_dn (o : Nat) : ∀ (cs : List AV), AV.keysL (AV.dnL o cs) = (AV.keysL cs).map (· - o)
  | [] => rfl
  | v :: vs => by simp only [AV.dnL, AV.keysL, keys_dn o v, keysL_dn o vs, List.map_append]
end
end

theorem Rep.dn {C C' : Conc} {ok : Nat → Prop} {w : World} {o : Nat} {u : AV} {v : Value} (h : Rep C ok w u v) : (∀ k ∈ u.keys, C' (k - o) = C k) → Rep C' ok w (u.dn o) v := by
  have sub : ∀ {cs : List AV} {vs : Array Value}, (∀ (j : Nat) (u : AV) (v : Value), cs[j]? = some u → vs[j]? = some v → (∀ k ∈ u.keys, C' (k - o) = C k) → Rep C' ok w (u.dn o) v) → (∀ k ∈ AV.keysL cs, C' (k - o) = C k) →
      ∀ (j : Nat) (u : AV) (v : Value), (AV.dnL o cs)[j]? = some u → vs[j]? = some v → Rep C' ok w u v := by
    intro cs vs ih hC j u v hj hv
    rw [dnL_eq, List.getElem?_map, Option.map_eq_some_iff] at hj
    obtain ⟨x, hx, rfl⟩ := hj
    exact ih j x v hx hv fun k hk => hC k (mem_keysL.2 ⟨j, x, hx, hk⟩)
  induction h with
  | data h => intro _; rw [dn_id o _ h.keys]; exact .data h
  | ptr h => exact fun hC => .ptr ((hC _ (by simp [AV.keys])).trans h)
  | sl h hn hc => exact fun hC => .sl ((hC _ (by simp [AV.keys])).trans h) hn hc
  | nilsl h => exact fun hC => .nilsl ((hC _ (by simp [AV.keys])).trans h)
  | agg hl _ ih => exact fun hC => .agg (by rw [dnL_eq]; simpa using hl) (sub ih (by simpa only [AV.keys] using hC))
  | tup hl _ ih => exact fun hC => .tup (by rw [dnL_eq]; simpa using hl) (sub ih (by simpa only [AV.keys] using hC))
  | fn hl _ ih => exact fun hC => .fn (by rw [dnL_eq]; simpa using hl) (sub ih (by simpa only [AV.keys] using hC))

theorem RowOk.rekey {C C' : Conc} {ok ok' : Nat → Prop} {w : World} {k k' : Nat} {o : Obj} (h : RowOk C ok w k o) (hok : ∀ b, ok b → ok' b) (hk : C' k' = C k) (hr : o.refs = []) : RowOk C' ok' w k' o := by
  refine ⟨h.cells, h.one, h.refs, ?_⟩
  have hp := h.place
  rw [hk]
  cases hL : C k with
  | none => rw [hL] at hp; exact hp
  | some L =>
    rw [hL] at hp
    obtain ⟨p1, p2, cur, p3, p4, p5, p6, p7⟩ := hp
    refine ⟨p1, p2, cur, p3, p4, p5, p6, fun i cs j u hi hj => ?_⟩
    obtain ⟨v, e1, e2⟩ := p7 i cs j u hi hj
    exact ⟨v, e1, e2.mono hok (fun _ _ => rfl) (by rw [noKeys h hr (List.mem_of_getElem? hi) hj]; simp)⟩

/-- One row alone, number 0. -/
def at0 (L : Option Loc) : Conc := fun k => if k = 0 then L else none
theorem at0_zero (L : Option Loc) : at0 L 0 = L := rfl

/-- The value of a call, with the one row that it names. -/
def freshO : Option (List AV × SL) → Option PRes
  | some (us, s) =>
    match AV.keysL us with
    | [] => dataO (some (us, s))
    | o :: r =>
      match afind s.heap o with
      | some ob => if r.all (· == o) = true ∧ ob.refs = [] ∧ s.frz.contains o = false then some { val := (packA us).dn o, objs := [ob] } else none
      | none => none
  | none => none

def freshF (G : Pure) (ic : Inl) (n : Nat) (f : AFun) (args : List AV) : Option PRes := freshO (runF G ic n f args [] [])

theorem start_okb {ok0 : Nat → Prop} {w : World} (hok : ∀ b, ok0 b → b < w.heap.size) : ∀ b, ok0 b → okb w.heap.size (upto ok0 w) (fun _ => none) (afind []) (fun k => ([] : List Nat).contains k) w b :=
  fun b hb => ⟨hok b hb, fun _ => hb, fun k o L h1 => by simp [afind] at h1⟩

/-- A run of a function on data. -/
theorem run_data (hP : P.follows .mixedOrders = true) (hG : GoodG P ks G) (hI : InlSound P ic) {F : AFun} (hF : IsFun P ks f F) {n : Nat} {args : List AV} {us : List AV} {s : SL} (hrun : runF G ic n F args [] [] = some (us, s)) {w : World} {vals : Array Value} {ok0 : Nat → Prop}
    (hok : ∀ b, ok0 b → b < w.heap.size) (hlen : args.length = vals.size) (hrep : ∀ (j : Nat) (u : AV) (v : Value), args[j]? = some u → vals[j]? = some v → RepI ok0 w u v) :
    Calls P f vals w fun e w' => ∃ vs : List Value, e = .returned (packV vs) ∧ ∃ C' : Conc, SimH w.heap.size (upto ok0 w) w C' (afind s.heap) (fun k => s.frz.contains k) w' ∧
      Reads C' (okb w.heap.size (upto ok0 w) C' (afind s.heap) (fun k => s.frz.contains k) w') w' us vs ∧ ∀ u ∈ us, ∀ k ∈ u.keys, afind s.heap k ≠ none := by
  have h0 := simH_start ok0 w
  have hH : (afind ([] : List (Nat × Obj))) = fun _ => none := by funext k; rfl
  have hF0 : (fun k => ([] : List Nat).contains k) = fun _ => false := by funext k; rfl
  refine (run_calls (B := w.heap.size) (ok0 := upto ok0 w) (w0 := w) (C := fun _ => none) hP hG hI hF hrun (by rw [hH, hF0]; exact h0) hlen (fun j u v hu hv => .data ((hrep j u v hu hv).mono (start_okb hok) fun _ _ => rfl)) (fun u hu k hk => by
    obtain ⟨j, hj⟩ := List.getElem?_of_mem hu
    have hlt : j < vals.size := by rw [← hlen]; exact (List.getElem?_eq_some_iff.1 hj).1
    rw [(hrep j u vals[j] hj (Array.getElem?_eq_getElem hlt)).keys] at hk
    simp at hk)).mono fun e w' he => ?_
  obtain ⟨vs, rfl, C', h1, _, _, h4, h5, _⟩ := he
  exact ⟨vs, rfl, C', h1, h4, h5⟩

theorem gives_data {w w' : World} {ok0 : Nat → Prop} {us us' : List AV} {fks : List Nat} {s : SL} {vs : List Value} {C' : Conc} (h1 : SimH w.heap.size (upto ok0 w) w C' (afind s.heap) (fun k => s.frz.contains k) w')
    (h4 : Reads C' (okb w.heap.size (upto ok0 w) C' (afind s.heap) (fun k => s.frz.contains k) w') w' us vs) (hfz : fzL s.den.heap us = some (us', fks)) : Gives ok0 w { val := packA us' } (packV vs) w' := by
  obtain ⟨m1, m2⟩ := mapO_spec hfz
  have hI : ∀ (j : Nat) (u : AV) (v : Value), us'[j]? = some u → vs[j]? = some v → RepI (okb w.heap.size (upto ok0 w) (fun _ => none) (heapOf []) (fun _ => false) w') w' u v := fun j u v hu hv => by
    have hlt : j < us.length := by rw [← m1]; exact (List.getElem?_eq_some_iff.1 hu).1
    obtain ⟨kx, g3, g4⟩ := m2 j _ u (List.getElem?_eq_getElem hlt) hu
    have := fz_data (S := s.den) (F' := fun _ => true) h1 (fun _ _ => rfl) g3 (fun _ _ => rfl) (h4.2 j _ v (List.getElem?_eq_getElem hlt) hv)
    exact this.mono (fun b hb => ⟨hb.1, hb.2.1, fun k o L h => by simp [heapOf] at h⟩) fun _ _ => rfl
  refine ⟨fun _ => none, ⟨h1.below, h1.base, by simp [heapOf], by simp, by simp, by simp [heapOf], h1.up, by simp, h1.keep⟩, packA_rep ⟨by rw [m1]; exact h4.1, fun j u v hu hv => .data (hI j u v hu hv)⟩, fun k hk => ?_⟩
  obtain ⟨u, hu, hku⟩ := keys_packA hk
  exfalso
  obtain ⟨j, hj⟩ := List.getElem?_of_mem hu
  have hlv : j < vs.length := by rw [← h4.1, ← m1]; exact (List.getElem?_eq_some_iff.1 hj).1
  rw [(hI j u vs[j] hj (List.getElem?_eq_getElem hlv)).keys] at hku
  simp at hku

theorem keys_packA_eq (us : List AV) : (packA us).keys = AV.keysL us := by
  match us with
  | [] => rfl
  | [u] => simp [packA, AV.keysL]
  | u :: u' :: us => rfl

/-- A function that takes data and gives data, or one row of its own. -/
theorem freshF_meets (hP : P.follows .mixedOrders = true) (hG : GoodG P ks G) (hI : InlSound P ic) {F : AFun} (hF : IsFun P ks f F) (g : List AV → Option PRes) (hg : ∀ args r, g args = some r → ∃ n, freshF G ic n F args = some r) : Meets P f g := by
  intro args r hr w vals ok0 hok hlen hrep
  obtain ⟨n, hn⟩ := hg args r hr
  unfold freshF at hn
  cases hrun : runF G ic n F args [] [] with
  | none => rw [hrun] at hn; cases hn
  | some x =>
    obtain ⟨us, s⟩ := x
    rw [hrun] at hn
    refine (run_data hP hG hI hF hrun hok hlen hrep).mono fun e w' he => ?_
    obtain ⟨vs, rfl, C', h1, h4, h5⟩ := he
    refine ⟨_, rfl, ?_⟩
    simp only [freshO] at hn
    split at hn
    · simp only [dataO] at hn
      split at hn
      case h_2 => cases hn
      rename_i us' fks hfz
      cases hn
      exact gives_data h1 h4 hfz
    · rename_i o rest hkeys
      split at hn
      case h_2 => cases hn
      rename_i ob hob
      obtain ⟨⟨q1, q2, q3⟩, hn1⟩ := of_ite hn
      clear hn
      cases hn1
      have hall : ∀ k ∈ (packA us).keys, k = o := fun k hk => by
        rw [keys_packA_eq, hkeys] at hk
        rcases List.mem_cons.1 hk with rfl | hk
        · rfl
        · simpa using List.all_eq_true.1 q1 k hk
      have hH0 : ∀ k o1, heapOf [ob] k = some o1 → k = 0 ∧ o1 = ob := fun k o1 h => by
        cases k with
        | zero => simp [heapOf] at h; exact ⟨rfl, h.symm⟩
        | succ k => simp [heapOf] at h
      have hok' : ∀ b, okb w.heap.size (upto ok0 w) C' (afind s.heap) (fun k => s.frz.contains k) w' b → okb w.heap.size (upto ok0 w) (at0 (C' o)) (heapOf [ob]) (fun _ => false) w' b := fun b hb =>
        ⟨hb.1, hb.2.1, fun k o1 L e1 _ e3 => by
          obtain ⟨rfl, rfl⟩ := hH0 k o1 e1
          rw [at0_zero] at e3
          exact hb.2.2 o o1 L hob q3 e3⟩
      refine ⟨at0 (C' o), ⟨h1.below, h1.base, fun k o1 hk => ?_, fun k o1 L hk hL => ?_, fun k k' o1 o2 L L' e1 e2 _ _ _ => ?_, fun k o1 x hk hx => ?_, h1.up, fun k o1 L hk hL => ?_, h1.keep⟩, ?_, fun k hk => ?_⟩
      · obtain ⟨rfl, rfl⟩ := hH0 k o1 hk
        exact (h1.row o o1 hob).rekey hok' rfl q2
      · obtain ⟨rfl, rfl⟩ := hH0 k o1 hk
        rw [at0_zero] at hL
        exact h1.blk o o1 L hob hL
      · rw [(hH0 k o1 e1).1, (hH0 k' o2 e2).1]
      · obtain ⟨rfl, rfl⟩ := hH0 k o1 hk
        rw [q2] at hx; simp at hx
      · obtain ⟨rfl, rfl⟩ := hH0 k o1 hk
        rw [at0_zero] at hL
        exact h1.okrow o o1 L hob hL
      · refine ((packA_rep h4).dn (C' := at0 (C' o)) (o := o) fun k hk => ?_).mono hok' (fun _ _ => rfl) fun _ _ => rfl
        rw [hall k hk, Nat.sub_self, at0_zero]
      · rw [keys_dn] at hk
        obtain ⟨x, hx, rfl⟩ := List.mem_map.1 hk
        rw [hall x hx, Nat.sub_self]
        simp [heapOf]

/-! ### One row turned -/

def updO (len : Nat) : Option (List AV × SL) → Option PRes
  | some (us, s) =>
    match afind s.heap 0 with
    | some ob =>
      if s.reb = [] ∧ ob.refs = [] ∧ s.frz.contains 0 = false ∧ ob.es.length = len then
        match fzL s.den.heap us with
        | some (us', fks) => if fks.contains 0 = false then some { val := packA us', objs := [ob] } else none
        | none => none
      else none
    | none => none
  | none => none

def updF (G : Pure) (ic : Inl) (n : Nat) (f : AFun) (p : Nat) (ty : TypeId) (args : List AV) : Option PRes :=
  match args[p]? with
  | some (.imm false sz es) => updO es.length (runF G ic n f (args.set p (.sl 0 0 es.length)) [(0, { sz := sz, ty := ty, es := es, refs := [] })] [])
  | _ => none

theorem updF_meets (hP : P.follows .mixedOrders = true) (hG : GoodG P ks G) (hI : InlSound P ic) {F : AFun} (hF : IsFun P ks f F) {p : Nat} {ty : TypeId} (g : List AV → Option PRes) (hg : ∀ args r, g args = some r → ∃ n, updF G ic n F p ty args = some r) : MeetsU P f p ty g := by
  intro args r hr w vals ok0 L es hty hat hok hlen hp hvp hrep
  obtain ⟨n, hn⟩ := hg args r hr
  unfold updF at hn
  rw [hp] at hn
  simp only at hn
  obtain ⟨r1, r2, cur, r3, r4, r5, r6, r7⟩ := hat
  have hLlt : L.block < w.heap.size := (Array.getElem?_eq_some_iff.1 r3).1
  cases hrun : runF G ic n F (args.set p (.sl 0 0 es.length)) [(0, { sz := L.sz, ty := ty, es := es, refs := [] })] [] with
  | none => rw [hrun] at hn; cases hn
  | some x =>
    obtain ⟨us, s⟩ := x
    rw [hrun] at hn
    simp only [updO] at hn
    split at hn
    case h_2 => cases hn
    rename_i ob1 hob1
    obtain ⟨⟨q1, q2, q3, q4⟩, hn1⟩ := of_ite hn
    clear hn
    split at hn1
    case h_2 => cases hn1
    rename_i us' fks hfz
    obtain ⟨q5, hn2⟩ := of_ite hn1
    clear hn1
    cases hn2
    have hH0 : ∀ (k : Nat) (o1 : Obj), afind [(0, ({ sz := L.sz, ty := ty, es := es, refs := [] } : Obj))] k = some o1 → k = 0 ∧ o1 = { sz := L.sz, ty := ty, es := es, refs := [] } := fun k o1 h => by
      simp only [afind] at h
      split at h
      · rename_i e; cases h; exact ⟨e.symm, rfl⟩
      · cases h
    have hok1 : ∀ b, ok0 b → okb L.block (fun b => ok0 b ∨ w.heap.size ≤ b ∨ b = L.block) (at0 (some L)) (afind [(0, { sz := L.sz, ty := ty, es := es, refs := [] })]) (fun k => ([] : List Nat).contains k) w b := fun b hb =>
      ⟨(hok b hb).1, .inl hb, fun k o1 L1 e1 _ e3 => by
        obtain ⟨rfl, rfl⟩ := hH0 k o1 e1
        rw [at0_zero] at e3
        cases e3
        exact fun e => (hok b hb).2 e.symm⟩
    have hstart : SimH L.block (fun b => ok0 b ∨ w.heap.size ≤ b ∨ b = L.block) w (at0 (some L)) (afind [(0, { sz := L.sz, ty := ty, es := es, refs := [] })]) (fun k => ([] : List Nat).contains k) w := by
      refine ⟨Below.refl _ _, Nat.le_of_lt hLlt, fun k o1 hk => ?_, fun k o1 L1 hk hL => ?_, fun k k' o1 o2 L1 L2 e1 e2 _ _ _ => ?_, fun k o1 x hk hx => ?_, fun b hb => .inr (.inl hb), fun k o1 L1 hk hL => ?_, fun _ _ _ => rfl⟩
      · obtain ⟨rfl, rfl⟩ := hH0 k o1 hk
        refine ⟨r1, r2, fun cs hcs x hx => ?_, ?_⟩
        · exfalso
          obtain ⟨i, hi⟩ := List.getElem?_of_mem hcs
          obtain ⟨j, u, hj, hku⟩ := mem_keysL.1 hx
          obtain ⟨v, _, e2⟩ := r7 i cs j u hi hj
          rw [e2.keys] at hku
          simp at hku
        · rw [at0_zero]
          refine ⟨rfl, hty, cur, r3, r4, r5, r6, fun i cs j u hi hj => ?_⟩
          obtain ⟨v, e1, e2⟩ := r7 i cs j u hi hj
          exact ⟨v, e1, .data (e2.mono hok1 fun _ _ => rfl)⟩
      · obtain ⟨rfl, rfl⟩ := hH0 k o1 hk
        rw [at0_zero] at hL; cases hL; exact Nat.le_refl _
      · rw [(hH0 k o1 e1).1, (hH0 k' o2 e2).1]
      · obtain ⟨rfl, rfl⟩ := hH0 k o1 hk
        simp at hx
      · obtain ⟨rfl, rfl⟩ := hH0 k o1 hk
        rw [at0_zero] at hL; cases hL; exact .inr (.inr rfl)
    have hplt : p < args.length := (List.getElem?_eq_some_iff.1 hp).1
    have hsetp : ∀ (j : Nat) (u : AV), (args.set p (.sl 0 0 es.length))[j]? = some u → (j = p ∧ u = .sl 0 0 es.length) ∨ (j ≠ p ∧ args[j]? = some u) := fun j u hj => by
      by_cases e : j = p
      · subst e; rw [List.getElem?_set_self hplt] at hj; cases hj; exact .inl ⟨rfl, rfl⟩
      · rw [List.getElem?_set_ne (Ne.symm e)] at hj; exact .inr ⟨e, hj⟩
    refine (run_calls (B := L.block) (w0 := w) hP hG hI hF hrun hstart (by rw [List.length_set]; exact hlen) (fun j u v hu hv => ?_) (fun u hu k hk => ?_)).mono fun e w' he => ?_
    · rcases hsetp j u hu with ⟨rfl, rfl⟩ | ⟨hne, hu⟩
      · rw [hvp] at hv
        cases hv
        have := Rep.sl (C := at0 (some L)) (ok := okb L.block (fun b => ok0 b ∨ w.heap.size ≤ b ∨ b = L.block) (at0 (some L)) (afind [(0, { sz := L.sz, ty := ty, es := es, refs := [] })]) (fun k => ([] : List Nat).contains k) w)
          (w := w) (o := 0) (i := 0) (n := es.length) (c := L.cap) (L := L) rfl r5 (by simp)
        simpa using this
      · exact .data ((hrep j u v hne hu hv).mono hok1 fun _ _ => rfl)
    · obtain ⟨j, hj⟩ := List.getElem?_of_mem hu
      rcases hsetp j u hj with ⟨rfl, rfl⟩ | ⟨hne, hu⟩
      · simp [AV.keys] at hk; subst hk; simp [afind]
      · have hlt : j < vals.size := by rw [← hlen]; exact (List.getElem?_eq_some_iff.1 hu).1
        rw [(hrep j u vals[j] hne hu (Array.getElem?_eq_getElem hlt)).keys] at hk
        simp at hk
    · obtain ⟨vs, rfl, C', h1, h2, h3, h4, h5, _⟩ := he
      have hC0 : C' 0 = some L := by
        have := (h2 0 (by simp [afind])).2 (by rw [q1]; simp)
        rw [this]; rfl
      have hrow := h1.row 0 ob1 hob1
      have hpl := hrow.place
      rw [hC0] at hpl
      obtain ⟨p1, p2, cur', p3, p4, p5, p6, p7⟩ := hpl
      obtain ⟨m1, m2⟩ := mapO_spec hfz
      have hI' : ∀ (j : Nat) (u : AV) (v : Value), us'[j]? = some u → vs[j]? = some v → RepI (okb L.block (fun b => ok0 b ∨ w.heap.size ≤ b ∨ b = L.block) C' (afind s.heap) (fun k => fks.contains k || s.frz.contains k) w') w' u v := fun j u v hu hv => by
        have hlt : j < us.length := by rw [← m1]; exact (List.getElem?_eq_some_iff.1 hu).1
        obtain ⟨kx, g3, g4⟩ := m2 j _ u (List.getElem?_eq_getElem hlt) hu
        exact fz_data (S := s.den) h1 (fun k hk => by show (fks.contains k || s.frz.contains k) = true; rw [show s.frz.contains k = true from hk, Bool.or_true]) g3 (fun k hk => by simp [g4 k hk]) (h4.2 j _ v (List.getElem?_eq_getElem hlt) hv)
      obtain ⟨_, hfok⟩ := h1.freeze (F' := fun k => fks.contains k || s.frz.contains k) (fun k hk => by show (fks.contains k || s.frz.contains k) = true; rw [show s.frz.contains k = true from hk, Bool.or_true])
      refine ⟨_, ob1, okb L.block (fun b => ok0 b ∨ w.heap.size ≤ b ∨ b = L.block) C' (afind s.heap) (fun k => fks.contains k || s.frz.contains k) w', rfl, rfl, q4, h1.below, fun b hb hne => ?_, fun b hb => ⟨hb.1, fun e => ?_, fun hlt => ?_⟩,
        ⟨fun cs hcs => by rw [p1]; exact hrow.cells cs hcs, hrow.one, cur', p3, p4, p5, p6, fun i cs j u hi hj => ?_⟩, packA_rep ⟨by rw [m1]; exact h4.1, fun j u v hu hv => .data (hI' j u v hu hv)⟩, ?_⟩
      · by_cases hb0 : ok0 b
        · exact (h3 b (hok1 b hb0)).2
        · refine h1.keep b hb ?_
          rintro (h | h | h)
          · exact hb0 h
          · omega
          · exact hne h
      · exact hb.2.2 0 ob1 L hob1 (by simp only [q5, q3, Bool.or_self]) hC0 e.symm
      · rcases hb.2.1 with h | h | h
        · exact h
        · omega
        · exact absurd h.symm (hb.2.2 0 ob1 L hob1 (by simp only [q5, q3, Bool.or_self]) hC0)
      · obtain ⟨v, e1, e2⟩ := p7 i cs j u hi hj
        have hk := noKeys hrow q2 (List.mem_of_getElem? hi) hj
        exact ⟨v, e1, (e2.toI hk (hrow.one cs (List.mem_of_getElem? hi) u (List.mem_of_getElem? hj))).mono hfok fun _ _ => rfl⟩
      · rw [keys_packA_eq]
        refine List.eq_nil_iff_forall_not_mem.2 fun k hk => ?_
        obtain ⟨j, u, hj, hku⟩ := mem_keysL.1 hk
        have hlv : j < vs.length := by rw [← h4.1, ← m1]; exact (List.getElem?_eq_some_iff.1 hj).1
        rw [(hI' j u vs[j] hj (List.getElem?_eq_getElem hlv)).keys] at hku
        simp at hku

/-! ### Evaluated in place -/

def inlF (G : Pure) (ic : Inl) (n : Nat) (F : AFun) (args : List AV) (heap : List (Nat × Obj)) (frz : List Nat) : Option IRes :=
  match runF G ic n F args heap frz with
  | some (us, s) => some { val := packA us, heap := s.heap, frz := s.frz, own := s.own, scr := s.reb }
  | none => none

def inlAdd (ic : Inl) (f0 : FuncId) (g : List AV → List (Nat × Obj) → List Nat → Option IRes) : Inl := fun f args heap frz => if f = f0 then g args heap frz else ic f args heap frz

theorem inlAdd_sound (hP : P.follows .mixedOrders = true) (hG : GoodG P ks G) (hI : InlSound P ic) {ic' : Inl} (hI' : InlSound P ic') {F : AFun} (hF : IsFun P ks f F) (g : List AV → List (Nat × Obj) → List Nat → Option IRes)
    (hg : ∀ args heap frz r, g args heap frz = some r → ∃ n, inlF G ic n F args heap frz = some r) : InlSound P (inlAdd ic' f g) := by
  intro f1 args heap frz r hr
  unfold inlAdd at hr
  split at hr
  · rename_i e
    subst e
    refine ⟨hF.enters, fun B ok0 w0 C w vs hs hlen hrep hkeys => ?_⟩
    obtain ⟨n, hn⟩ := hg args heap frz r hr
    unfold inlF at hn
    cases hrun : runF G ic n F args heap frz with
    | none => rw [hrun] at hn; cases hn
    | some x =>
      obtain ⟨us, s⟩ := x
      rw [hrun] at hn
      cases hn
      refine (run_calls hP hG hI hF hrun hs hlen hrep hkeys).mono fun e w' he => ?_
      obtain ⟨vs', rfl, C', h1, h2, h3, h4, h5, h6⟩ := he
      exact ⟨_, rfl, C', h1, h2, h3, packA_rep h4, fun k hk => by obtain ⟨u, hu, hku⟩ := keys_packA hk; exact h5 u hu k hku, h6⟩
  · exact hI' f1 args heap frz r hr

/-! ### Nil is forgotten -/

mutual
def AV.weak : AV → AV
  | .imm _ sz es => .imm false sz (AV.weakLL es)
  | .ref cs => .ref (AV.weakL cs)
  | .agg cs => .agg (AV.weakL cs)
  | .tup cs => .tup (AV.weakL cs)
  | .fn f cs => .fn f (AV.weakL cs)
  | v => v
def AV.weakL : List AV → List AV
  | [] => []
  | v :: vs => v.weak :: AV.weakL vs
def AV.weakLL : List (List AV) → List (List AV)
  | [] => []
  | v :: vs => AV.weakL v :: AV.weakLL vs
end

theorem weakL_eq : ∀ cs : List AV, AV.weakL cs = cs.map AV.weak
  | [] => rfl
  | v :: vs => by simp only [AV.weakL, List.map_cons, weakL_eq vs]
theorem weakLL_eq : ∀ es : List (List AV), AV.weakLL es = es.map AV.weakL
  | [] => rfl
  | v :: vs => by simp only [AV.weakLL, List.map_cons, weakLL_eq vs]

theorem RepI.weak {ok : Nat → Prop} {w : World} {u : AV} {v : Value} (h : RepI ok w u v) : RepI ok w u.weak v := by
  induction h with
  | undef v => exact .undef v
  | int k n => exact .int k n
  | bool b => exact .bool b
  | str s => exact .str s
  | nilp => exact .nilp
  | nils sz => exact .imm ⟨0, 0, none⟩ (fun _ _ => Go.undef) (by simp [AV.weakLL]) (by simp [AV.weakLL]) (by simp [AV.weakLL]) (by simp [AV.weakLL]) (by simp [AV.weakLL]) (by simp [AV.weakLL])
  | imm ad vs hn hc hA hsz hcell hrep ih =>
    simp only [AV.weak, weakLL_eq]
    refine .imm ad vs (by simpa using hn) (by simpa using hc) (fun hne => hA (by simpa using hne)) (fun cs hcs => ?_) (fun i cs j u hi hj => ?_) fun i cs j u hi hj => ?_
    · obtain ⟨c0, hc0, rfl⟩ := List.mem_map.1 hcs
      rw [weakL_eq, List.length_map]; exact hsz c0 hc0
    · rw [List.getElem?_map, Option.map_eq_some_iff] at hi
      obtain ⟨c0, hc0, rfl⟩ := hi
      rw [weakL_eq, List.getElem?_map, Option.map_eq_some_iff] at hj
      obtain ⟨u0, hu0, rfl⟩ := hj
      exact hcell i c0 j u0 hc0 hu0
    · rw [List.getElem?_map, Option.map_eq_some_iff] at hi
      obtain ⟨c0, hc0, rfl⟩ := hi
      rw [weakL_eq, List.getElem?_map, Option.map_eq_some_iff] at hj
      obtain ⟨u0, hu0, rfl⟩ := hj
      exact ih i c0 j u0 hc0 hu0
  | ref vs hok hcell hrep ih =>
    simp only [AV.weak, weakL_eq]
    refine .ref vs hok (fun j u hj => ?_) fun j u hj => ?_
    · rw [List.getElem?_map, Option.map_eq_some_iff] at hj
      obtain ⟨u0, hu0, rfl⟩ := hj
      exact hcell j u0 hu0
    · rw [List.getElem?_map, Option.map_eq_some_iff] at hj
      obtain ⟨u0, hu0, rfl⟩ := hj
      exact ih j u0 hu0
  | agg hl hrep ih =>
    simp only [AV.weak, weakL_eq]
    refine .agg (by simpa using hl) fun j u v hj hv => ?_
    rw [List.getElem?_map, Option.map_eq_some_iff] at hj
    obtain ⟨u0, hu0, rfl⟩ := hj
    exact ih j u0 v hu0 hv

theorem Rep.weak {C : Conc} {ok : Nat → Prop} {w : World} {u : AV} {v : Value} (h : Rep C ok w u v) : Rep C ok w u.weak v := by
  have sub : ∀ {cs : List AV} {vs : Array Value}, (∀ (j : Nat) (u : AV) (v : Value), cs[j]? = some u → vs[j]? = some v → Rep C ok w u.weak v) → ∀ (j : Nat) (u : AV) (v : Value), (AV.weakL cs)[j]? = some u → vs[j]? = some v → Rep C ok w u v := by
    intro cs vs ih j u v hj hv
    rw [weakL_eq, List.getElem?_map, Option.map_eq_some_iff] at hj
    obtain ⟨x, hx, rfl⟩ := hj
    exact ih j x v hx hv
  induction h with
  | data h => exact .data h.weak
  | ptr h => exact .ptr h
  | sl h hn hc => exact .sl h hn hc
  | nilsl h => exact .nilsl h
  | agg hl _ ih => exact .agg (by rw [weakL_eq]; simpa using hl) (sub ih)
  | tup hl _ ih => exact .tup (by rw [weakL_eq]; simpa using hl) (sub ih)
  | fn hl _ ih => exact .fn (by rw [weakL_eq]; simpa using hl) (sub ih)

section
mutual
theorem keys_weak : ∀ (u : AV), u.weak.keys = u.keys
  | .agg cs => by simp only [AV.weak, AV.keys, keysL_weak cs]
  | .tup cs => by simp only [AV.weak, AV.keys, keysL_weak cs]
  | .fn f cs => by simp only [AV.weak, AV.keys, keysL_weak cs]
  | .ptr x i off => rfl
  | .sl x i n => rfl
  | .undef => rfl
  | .int _ _ => rfl
  | .bool _ => rfl
  | .str _ => rfl
  | .nilp => rfl
  | .imm _ _ _ => rfl
  | .ref _ => rfl
theorem keysL_weak : ∀ (cs : List AV), AV.keysL (AV.weakL cs) = AV.keysL cs
  | [] => rfl
  | v :: vs => by simp only [AV.weakL, AV.keysL, keys_weak v, keysL_weak vs]
end
end

theorem Meets.weak {g g' : List AV → Option PRes} (h : Meets P f g) (hg : ∀ args r, g' args = some r → ∃ r0, g args = some r0 ∧ r.objs = r0.objs ∧ r.val = r0.val.weak) : Meets P f g' := by
  intro args r hr w vs ok0 hok hlen hrep
  obtain ⟨r0, h1, h2, h3⟩ := hg args r hr
  refine (h args r0 h1 w vs ok0 hok hlen hrep).mono fun e w' he => ?_
  obtain ⟨v, rfl, C, k1, k2, k3⟩ := he
  refine ⟨v, rfl, C, ?_, ?_, ?_⟩
  · rw [h2]; exact k1
  · rw [h2, h3]; exact k2.weak
  · rw [h2, h3, keys_weak]; exact k3

theorem meets_none : Meets P f (fun _ => none) := fun _ _ h => by cases h
theorem meetsU_none {p : Nat} {ty : TypeId} : MeetsU P f p ty (fun _ => none) := fun _ _ h => by cases h

/-- What the evaluation gives, nil forgotten, is what the function gives. -/
def FSpec (Fr : List AV → Nat → Option PRes) (g : List AV → Option PRes) : Prop := ∀ args r, g args = some r → ∃ r0, (∃ n, Fr args n = some r0) ∧ r.objs = r0.objs ∧ r.val = r0.val.weak

open Classical in
theorem FSpec.meets {Fr : List AV → Nat → Option PRes} {g : List AV → Option PRes} (h : FSpec Fr g) (hm : ∀ g0 : List AV → Option PRes, (∀ args r, g0 args = some r → ∃ n, Fr args n = some r) → Meets P f g0) : Meets P f g := by
  intro args r hr
  obtain ⟨r0, hn, h1, h2⟩ := h args r hr
  have m0 := hm (fun a => if a = args then some r0 else none) fun a r1 h3 => by
    split at h3
    · rename_i e; cases h3; rw [e]; exact hn
    · cases h3
  exact m0.weak (g' := fun a => if a = args then some r else none) (fun a r1 h3 => by
    split at h3
    · rename_i e; cases h3; exact ⟨r0, by rw [if_pos e], h1, h2⟩
    · cases h3) args r (if_pos rfl)

/-- A function that takes data and gives data. -/
theorem pure_spec (hP : P.follows .mixedOrders = true) (hG : GoodG P ks G) (hI : InlSound P ic) {F : AFun} (hF : IsFun P ks f F) {g : List AV → Option PRes} (h : FSpec (fun args n => pureF G ic n F args) g) : Meets P f g :=
  h.meets fun g0 h0 => pureF_meets hP hG hI hF g0 h0

theorem fresh_spec (hP : P.follows .mixedOrders = true) (hG : GoodG P ks G) (hI : InlSound P ic) {F : AFun} (hF : IsFun P ks f F) {g : List AV → Option PRes} (h : FSpec (fun args n => freshF G ic n F args) g) : Meets P f g :=
  h.meets fun g0 h0 => freshF_meets hP hG hI hF g0 h0

/-! ### The callees so far -/

def addG (G : Pure) (f : FuncId) (g : List AV → Option PRes) : Pure := fun x => if x = f then g else G x

theorem addG_self (G : Pure) (f : FuncId) (g : List AV → Option PRes) : addG G f g f = g := by simp [addG]
theorem addG_ne (G : Pure) {f x : FuncId} (g : List AV → Option PRes) (h : x ≠ f) : addG G f g x = G x := by simp [addG, h]

/-- Callees of one kind each. -/
theorem GoodG.add (hG : GoodG P ks G) {g : List AV → Option PRes} (hm : (updOf ks f = none ∧ Meets P f g) ∨ (kindOf ks f = none ∧ ∃ p ty, updOf ks f = some (p, ty) ∧ MeetsU P f p ty g)) : GoodG P ks (addG G f g) := by
  refine ⟨fun x fresh hx => ?_, fun x p ty hx => ?_⟩
  · refine ⟨?_, (hG.1 x fresh hx).2⟩
    by_cases e : x = f
    · subst e
      rcases hm with ⟨_, hm⟩ | ⟨h, _⟩
      · rw [addG_self]; exact hm
      · rw [h] at hx; cases hx
    · rw [addG_ne _ _ e]; exact (hG.1 x fresh hx).1
  · refine ⟨?_, (hG.2 x p ty hx).2⟩
    by_cases e : x = f
    · subst e
      rcases hm with ⟨h, _⟩ | ⟨_, p', ty', h, hm⟩
      · rw [h] at hx; cases hx
      · rw [h] at hx; cases hx; rw [addG_self]; exact hm
    · rw [addG_ne _ _ e]; exact (hG.2 x p ty hx).1

/-- Every callee that is named can be entered. -/
def entersB (P : Program) (ks : Kinds) : Bool :=
  (ks.pure.map (·.1) ++ ks.upd.map (·.1)).all fun f => match P.funcs[f]? with | some fn => !(fn.name == "runtime.NumGoroutine") && fn.body.isSome | none => false

theorem good_none (h : entersB P ks = true) : GoodG P ks (fun _ _ => none) := by
  have key : ∀ f, f ∈ ks.pure.map (·.1) ++ ks.upd.map (·.1) → Enters P f := fun f hf => by
    have := List.all_eq_true.1 h f hf
    split at this
    · rename_i fn hfn
      simp only [Bool.and_eq_true, Bool.not_eq_true'] at this
      refine ⟨fn, hfn, this.1, ?_⟩
      cases hb : fn.body with
      | none => rw [hb] at this; simp at this
      | some c => rfl
    · cases this
  refine ⟨fun f fresh hf => ⟨meets_none, key f ?_⟩, fun f p ty hf => ⟨meetsU_none, key f ?_⟩⟩
  · unfold kindOf at hf
    rw [Option.map_eq_some_iff] at hf
    obtain ⟨x, hx, _⟩ := hf
    have h1 := List.mem_of_find?_eq_some hx
    have h2 := List.find?_some hx
    exact List.mem_append.2 (.inl (List.mem_map.2 ⟨x, h1, by simpa using h2⟩))
  · unfold updOf at hf
    rw [Option.map_eq_some_iff] at hf
    obtain ⟨x, hx, _⟩ := hf
    have h1 := List.mem_of_find?_eq_some hx
    have h2 := List.find?_some hx
    exact List.mem_append.2 (.inr (List.mem_map.2 ⟨x, h1, by simpa using h2⟩))

end
end Go.Ev
