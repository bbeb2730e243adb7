/-
  Functions: what the evaluation gives is what the call gives.
-/
import Derived.Test.YthlpmghodgiknaaEvK
namespace Go.Ev
open Go Go.RowKit

section
variable {N B : Nat} {ok0 : Nat → Prop} {w0 : World} {E : Entry} {C : Conc} {s s' : SL} {S : St} {a : Act} {w : World} {P : Program} {ks : Kinds} {f : FuncId} {G : Pure} {ic : Inl} {H : Nat → Option Obj}

theorem isFun_inv {F : AFun} (h : IsFun P ks f F) : ∃ fn c, P.funcs[f]? = some fn ∧ fn.body = some c ∧ cCode P ks f fn.ntmps c = some F.code.erase ∧ F.results = fn.results.toList.map (cRes P) ∧ fn.results.toList.all (resOk P) = true ∧ (fn.name == "runtime.NumGoroutine") = false := by
  unfold IsFun at h
  rw [Option.map_eq_some_iff] at h
  obtain ⟨x, hx, he⟩ := h
  simp only [Prod.mk.injEq] at he
  obtain ⟨h1, h2⟩ := he
  unfold cFun at hx
  split at hx
  · rename_i fn hfn
    split at hx
    · rename_i c hc
      split at hx
      · rename_i ac hac
        obtain ⟨hh, hx1⟩ := of_ite hx
        clear hx
        cases hx1
        simp only at h1 h2
        exact ⟨fn, c, hfn, hc, by rw [hac, h1], h2.symm, hh.1, hh.2⟩
      · cases hx
    · cases hx
  · cases hx

theorem IsFun.enters {F : AFun} (h : IsFun P ks f F) : Enters P f := by
  obtain ⟨fn, c, h1, h2, _, _, _, h3⟩ := isFun_inv h
  exact ⟨fn, h1, h3, by rw [h2]; rfl⟩

theorem run_mapM_get {α : Type} (g : α → Sem Value) (w : World) : ∀ (l : List α) (vs : List Value), l.length = vs.length → (∀ (i : Nat) (x : α) (v : Value), l[i]? = some x → vs[i]? = some v → (g x).run P w = .ok v w) → (l.mapM g).run P w = .ok vs w
  | [], [], _, _ => by simp
  | x :: l, v :: vs, hl, h => by
    rw [List.mapM_cons]
    simp only [Sem.run_bind, h 0 x v rfl rfl, Result.andThen_ok, run_mapM_get g w l vs (by simpa using hl) (fun i y u hy hu => h (i + 1) y u (by simpa using hy) (by simpa using hu)), Sem.run_pure]
  | [], _ :: _, hl, _ => by simp at hl
  | _ :: _, [], hl, _ => by simp at hl

theorem resAll_spec {S : St} : ∀ {rs : List ARes} {vs : List AV}, resAll S rs = some vs → vs.length = rs.length ∧ ∀ (i : Nat) (r : ARes) (v : AV), rs[i]? = some r → vs[i]? = some v → resOf S r = some v
  | [], vs, h => by cases h; simp
  | r :: rs, vs, h => by
    simp only [resAll] at h
    split at h
    · rename_i v hv
      split at h
      · rename_i vs' hvs
        cases h
        obtain ⟨i1, i2⟩ := resAll_spec hvs
        refine ⟨by simp [i1], fun i x y hx hy => ?_⟩
        cases i with
        | zero => simp at hx hy; subst hx; subst hy; exact hv
        | succ i => exact i2 i x y (by simpa using hx) (by simpa using hy)
      · cases h
    · cases h

def packV (vs : List Value) : Value :=
  match vs with
  | [v] => v
  | vs => .tuple vs.toArray

/-- A list that reads as another. -/
def Reads (C : Conc) (ok : Nat → Prop) (w : World) (us : List AV) (vs : List Value) : Prop :=
  us.length = vs.length ∧ ∀ (j : Nat) (u : AV) (v : Value), us[j]? = some u → vs[j]? = some v → Rep C ok w u v

theorem choose_list {α β : Type} {R : α → β → Prop} : ∀ (l : List α), (∀ x ∈ l, ∃ y, R x y) → ∃ l' : List β, l'.length = l.length ∧ ∀ (i : Nat) (x : α) (y : β), l[i]? = some x → l'[i]? = some y → R x y
  | [], _ => ⟨[], rfl, by simp⟩
  | x :: l, h => by
    obtain ⟨y, hy⟩ := h x List.mem_cons_self
    obtain ⟨l', h1, h2⟩ := choose_list l fun z hz => h z (List.mem_cons_of_mem _ hz)
    refine ⟨y :: l', by simp [h1], fun i a b ha hb => ?_⟩
    cases i with
    | zero => simp at ha hb; subst ha; subst hb; exact hy
    | succ i => exact h2 i a b (by simpa using ha) (by simpa using hb)

theorem results_sound (hs : Sim N B ok0 w0 E C S a w) {fn : Func} (hok : fn.results.toList.all (resOk P) = true) {us : List AV} (hr : resAll S (fn.results.toList.map (cRes P)) = some us) :
    ∃ vs : List Value, (results fn a.tmps).run P w = .ok (packV vs) w ∧ Reads C (okb B ok0 C S.heap S.frz w) w us vs ∧ ∀ u ∈ us, ∀ k ∈ u.keys, S.heap k ≠ none := by
  obtain ⟨h1, h2⟩ := resAll_spec hr
  have hlen : us.length = fn.results.toList.length := by simpa using h1
  have one : ∀ (r : ResultVar) (u : AV), r ∈ fn.results.toList → resOf S (cRes P r) = some u → ∃ v, (match r with
      | .tmp t => pure (a.tmps.getD t undef)
      | .cell x t => do loadVar t (← asAddr (a.tmps.getD x undef)) : Sem Value).run P w = .ok v w ∧ Rep C (okb B ok0 C S.heap S.frz w) w u v ∧ ∀ k ∈ u.keys, S.heap k ≠ none := fun r u hm hu => by
    have hro := List.all_eq_true.1 hok r hm
    cases r with
    | tmp t =>
      simp only [cRes, resOf, Option.some.injEq] at hu
      subst hu
      exact ⟨_, rfl, hs.slot t, hs.wfs t⟩
    | cell x t =>
      simp only [resOk] at hro
      simp only [cRes, resOf] at hu
      cases hat : S.at (S.slot x) with
      | none => rw [hat] at hu; cases hu
      | some cs =>
        rw [hat] at hu
        obtain ⟨ad, hv, _, _⟩ := at_rep hs.h (hs.slot x) hat
        have hpt := hs.slot x
        rw [hv] at hpt
        obtain ⟨y, g1, g2, g3⟩ := s_load (P := P) (t := t) (r := u) hro hs.h hpt (by
          rw [hat]
          cases hl : loadN P t with
          | none =>
            rw [hl] at hu
            cases cs with
            | nil => cases hu
            | cons c r => exact hu
          | some n => rw [hl] at hu; exact hu)
        refine ⟨y, ?_, g2, g3⟩
        have : (Instr.loadAt t (.pointer (some ad))).run P w = (loadVar t ad).run P w := by simp [Instr.loadAt, Instr.sureAddr]
        rw [this] at g1
        show ((asAddr (a.tmps.getD x undef)) >>= fun ad => loadVar t ad).run P w = _
        rw [hv]
        simpa [asAddr] using g1
  obtain ⟨ps, p1, p2⟩ := choose_list (R := fun (x : ResultVar × AV) (v : Value) => (match x.1 with
      | .tmp t => pure (a.tmps.getD t undef)
      | .cell x t => do loadVar t (← asAddr (a.tmps.getD x undef)) : Sem Value).run P w = .ok v w ∧ Rep C (okb B ok0 C S.heap S.frz w) w x.2 v ∧ ∀ k ∈ x.2.keys, S.heap k ≠ none) (fn.results.toList.zip us) (fun x hx => by
        obtain ⟨i, hi⟩ := List.getElem?_of_mem hx
        rw [List.getElem?_zip_eq_some] at hi
        exact one x.1 x.2 (List.mem_of_getElem? hi.1) (h2 i _ _ (by rw [List.getElem?_map, hi.1]; rfl) hi.2))
  have hpl : ps.length = us.length := by rw [p1, List.length_zip]; omega
  refine ⟨ps, ?_, ⟨hpl.symm, fun j u v hu hv => ?_⟩, fun u hu k hk => ?_⟩
  · have hm := run_mapM_get (P := P) (fun r : ResultVar => (match r with
      | .tmp t => pure (a.tmps.getD t undef)
      | .cell x t => do loadVar t (← asAddr (a.tmps.getD x undef)) : Sem Value)) w fn.results.toList ps (by omega) (fun i x v hx hv => by
        have hi : i < us.length := by rw [← hpl]; exact (List.getElem?_eq_some_iff.1 hv).1
        exact (p2 i (x, us[i]) v (List.getElem?_zip_eq_some.2 ⟨hx, List.getElem?_eq_getElem hi⟩) hv).1)
    have hm' : Sem.run P (List.toArray <$> List.mapM (fun r : ResultVar => (match r with
      | .tmp t => pure (a.tmps.getD t undef)
      | .cell x t => do loadVar t (← asAddr (a.tmps.getD x undef)) : Sem Value)) fn.results.toList) w = .ok ps.toArray w := by rw [Sem.run_map, hm]; rfl
    unfold results
    rw [Array.mapM_eq_mapM_toList, Sem.run_bind]
    refine (congrArg (fun r => Result.andThen r _) hm').trans ?_
    simp only [Result.andThen_ok]
    cases ps with
    | nil => simp [packV]
    | cons p r =>
      cases r with
      | nil => simp [packV]
      | cons q r => simp [packV]
  · have hi : j < fn.results.toList.length := by rw [← hlen]; exact (List.getElem?_eq_some_iff.1 hu).1
    exact (p2 j (fn.results.toList[j], u) v (List.getElem?_zip_eq_some.2 ⟨List.getElem?_eq_getElem hi, hu⟩) hv).2.1
  · obtain ⟨j, hj⟩ := List.getElem?_of_mem hu
    have hi : j < fn.results.toList.length := by rw [← hlen]; exact (List.getElem?_eq_some_iff.1 hj).1
    have hpj : j < ps.length := by rw [hpl]; exact (List.getElem?_eq_some_iff.1 hj).1
    exact (p2 j (fn.results.toList[j], u) ps[j] (List.getElem?_zip_eq_some.2 ⟨List.getElem?_eq_getElem hi, hj⟩) (List.getElem?_eq_getElem hpj)).2.2 k hk

theorem aget_argSlots : ∀ (args : List AV) (p t : Nat), aget .undef (argSlots p args) t = if p ≤ t then args.getD (t - p) .undef else .undef
  | [], p, t => by simp [argSlots, aget]
  | v :: vs, p, t => by
    simp only [argSlots, aget]
    by_cases e : p = t
    · subst e; simp
    · rw [if_neg e, aget_argSlots vs (p + 1) t]
      by_cases h : p ≤ t
      · rw [if_pos h, if_pos (by omega)]
        rw [show t - p = (t - (p + 1)) + 1 by omega]
        simp
      · rw [if_neg h, if_neg (by omega)]

theorem endF_inv {rs : List ARes} {x : Out} {us : List AV} {s : SL} (h : endF rs x = some (us, s)) : (x = some (.normal, s) ∨ x = some (.ret, s)) ∧ resAll s.den rs = some us := by
  unfold endF at h
  split at h
  · split at h
    · rename_i hv; cases h; exact ⟨.inl rfl, hv⟩
    · cases h
  · split at h
    · rename_i hv; cases h; exact ⟨.inr rfl, hv⟩
    · cases h
  · cases h

/-- A call, evaluated in the caller's own memory. -/
theorem run_calls (hP : P.follows .mixedOrders = true) (hG : GoodG P ks G) (hI : InlSound P ic) {F : AFun} (hF : IsFun P ks f F) {n : Nat} {args : List AV} {heap : List (Nat × Obj)} {frz : List Nat}
    {us : List AV} {s : SL} (hrun : runF G ic n F args heap frz = some (us, s)) {vals : Array Value} (hs : SimH B ok0 w0 C (afind heap) (fun k => frz.contains k) w) (hlen : args.length = vals.size)
    (hrep : ∀ (j : Nat) (u : AV) (v : Value), args[j]? = some u → vals[j]? = some v → Rep C (okb B ok0 C (afind heap) (fun k => frz.contains k) w) w u v) (hkeys : ∀ u ∈ args, ∀ k ∈ u.keys, afind heap k ≠ none) :
    Calls P f vals w fun e w' => ∃ vs : List Value, e = .returned (packV vs) ∧ ∃ C' : Conc, SimH B ok0 w0 C' (afind s.heap) (fun k => s.frz.contains k) w' ∧
      (∀ k, afind heap k ≠ none → afind s.heap k ≠ none ∧ (k ∉ s.reb → C' k = C k)) ∧
      (∀ b, okb B ok0 C (afind heap) (fun k => frz.contains k) w b → okb B ok0 C' (afind s.heap) (fun k => s.frz.contains k) w' b ∧ w'.heap[b]? = w.heap[b]?) ∧
      Reads C' (okb B ok0 C' (afind s.heap) (fun k => s.frz.contains k) w') w' us vs ∧ (∀ u ∈ us, ∀ k ∈ u.keys, afind s.heap k ≠ none) ∧ ∀ k ∈ s.own, afind heap k = none := by
  obtain ⟨fn, c, hfn, hb, hc, hres, hrok, _⟩ := isFun_inv hF
  unfold runF at hrun
  obtain ⟨hend, hall⟩ := endF_inv hrun
  refine calls_of_wp hfn hb ?_
  have hsize : fn.ntmps ≤ (vals ++ Array.replicate (fn.ntmps - vals.size) undef).size := by simp; omega
  have init : SimLX fn.ntmps B ok0 w0 { ok := okb B ok0 C (afind heap) (fun k => frz.contains k) w, w := w, C := C, D := fun k => afind heap k ≠ none, R := [] } { slots := argSlots 0 args, heap := heap, frz := frz, own := [], reb := [] }
      { tmps := vals ++ Array.replicate (fn.ntmps - vals.size) undef, defers := [] } w := by
    refine ⟨C, ⟨⟨hs, fun t => ?_, fun t k hk => ?_, rfl, hsize, fun b hb => ⟨hb, rfl⟩, fun k hk => ⟨hk, fun _ => rfl⟩⟩, by simp⟩⟩
    · show Rep C _ w (aget .undef (argSlots 0 args) t) _
      rw [aget_argSlots, if_pos (Nat.zero_le _), Nat.sub_zero]
      rcases Nat.lt_or_ge t args.length with lt | ge
      · have e1 : args.getD t .undef = args[t] := by simp [lt]
        have e2 : (vals ++ Array.replicate (fn.ntmps - vals.size) undef).getD t undef = vals[t]'(by omega) := by
          rw [Array.getD_eq_getD_getElem?, Array.getElem?_append_left (by omega)]
          simp [hlen ▸ lt]
        rw [e1, e2]
        exact hrep t _ _ (List.getElem?_eq_getElem lt) (Array.getElem?_eq_getElem (by omega))
      · have e1 : args.getD t .undef = .undef := by simp [ge]
        rw [e1]
        exact .data (.undef _)
    · replace hk : k ∈ (aget .undef (argSlots 0 args) t).keys := hk
      rw [aget_argSlots, if_pos (Nat.zero_le _), Nat.sub_zero] at hk
      rcases Nat.lt_or_ge t args.length with lt | ge
      · have e1 : args.getD t .undef = args[t] := by simp [lt]
        rw [e1] at hk
        exact hkeys _ (List.getElem_mem lt) k hk
      · have e1 : args.getD t .undef = .undef := by simp [ge]
        rw [e1] at hk
        simp [AV.keys] at hk
  have post : ∀ (a : Act) (w' : World), SimLX fn.ntmps B ok0 w0 { ok := okb B ok0 C (afind heap) (fun k => frz.contains k) w, w := w, C := C, D := fun k => afind heap k ≠ none, R := [] } s a w' →
      a.defers = [] ∧ ∃ v, (results fn a.tmps).run P w' = .ok v w' ∧ ∃ vs : List Value, (Ending.returned v) = .returned (packV vs) ∧ ∃ C' : Conc, SimH B ok0 w0 C' (afind s.heap) (fun k => s.frz.contains k) w' ∧
      (∀ k, afind heap k ≠ none → afind s.heap k ≠ none ∧ (k ∉ s.reb → C' k = C k)) ∧
      (∀ b, okb B ok0 C (afind heap) (fun k => frz.contains k) w b → okb B ok0 C' (afind s.heap) (fun k => s.frz.contains k) w' b ∧ w'.heap[b]? = w.heap[b]?) ∧
      Reads C' (okb B ok0 C' (afind s.heap) (fun k => s.frz.contains k) w') w' us vs ∧ (∀ u ∈ us, ∀ k ∈ u.keys, afind s.heap k ≠ none) ∧ ∀ k ∈ s.own, afind heap k = none := fun a w' hx => by
    obtain ⟨C', hx⟩ := hx
    rw [hres] at hall
    obtain ⟨vs, r1, r2, r3⟩ := results_sound hx.sim hrok hall
    exact ⟨hx.sim.defers, _, r1, vs, rfl, C', hx.sim.h, hx.sim.ent.2, hx.sim.ent.1, r2, r3, fun k hk => Decidable.of_not_not (hx.own k hk)⟩
  rcases hend with he | he
  · exact evalC_sound hP hG hI n F.code c hc _ _ _ _ _ _ he init fun a w' hx => post a w' hx
  · exact evalC_sound hP hG hI n F.code c hc _ _ _ _ _ _ he init fun a w' hx => post a w' hx

/-- No callee is evaluated in place. -/
def noInl : Inl := fun _ _ _ _ => none

theorem noInl_sound : InlSound P noInl := fun _ _ _ _ _ h => by cases h

theorem packA_rep {C : Conc} {ok : Nat → Prop} {w : World} {us : List AV} {vs : List Value} (h : Reads C ok w us vs) : Rep C ok w (packA us) (packV vs) := by
  obtain ⟨h1, h2⟩ := h
  match us, vs, h1, h2 with
  | [], [], _, _ => exact .tup rfl (by simp)
  | [u], [v], _, h2 => exact h2 0 u v rfl rfl
  | u :: u' :: us, v :: v' :: vs, h1, h2 => exact .tup (by simpa using h1) fun j x y hx hy => h2 j x y hx (by simpa using hy)
  | [], _ :: _, h1, _ => simp at h1
  | _ :: _, [], h1, _ => simp at h1
  | [_], _ :: _ :: _, h1, _ => simp at h1
  | _ :: _ :: _, [_], h1, _ => simp at h1

theorem keys_packA {us : List AV} {k : Nat} (h : k ∈ (packA us).keys) : ∃ u ∈ us, k ∈ u.keys := by
  match us, h with
  | [], h => simp [packA, AV.keys, AV.keysL] at h
  | [u], h => exact ⟨u, by simp, h⟩
  | u :: u' :: us, h =>
    simp only [packA, AV.keys] at h
    obtain ⟨j, x, hj, hx⟩ := mem_keysL.1 h
    exact ⟨x, List.mem_of_getElem? hj, hx⟩

/-- Nothing at the start: the memory as the caller left it. -/
theorem simH_start (ok0 : Nat → Prop) (w : World) : SimH w.heap.size (upto ok0 w) w (fun _ => none) (fun _ => none) (fun _ => false) w :=
  ⟨Below.refl _ _, Nat.le_refl _, by simp, by simp, by simp, by simp, fun b hb hlt => absurd hlt (by omega), by simp, fun _ _ _ => rfl⟩

/-- A function that takes data and gives data. -/
theorem pureF_meets (hP : P.follows .mixedOrders = true) (hG : GoodG P ks G) (hI : InlSound P ic) {F : AFun} (hF : IsFun P ks f F) (g : List AV → Option PRes)
    (hg : ∀ args r, g args = some r → ∃ n, pureF G ic n F args = some r) : Meets P f g := by
  intro args r hr w vals ok0 hok hlen hrep
  obtain ⟨n, hn⟩ := hg args r hr
  unfold pureF at hn
  cases hrun : runF G ic n F args [] [] with
  | none => rw [hrun] at hn; cases hn
  | some x =>
    obtain ⟨us, s⟩ := x
    rw [hrun] at hn
    simp only [dataO] at hn
    split at hn
    case h_2 => cases hn
    rename_i us' fks hfz
    cases hn
    have h0 := simH_start ok0 w
    have hokb : ∀ b, ok0 b → okb w.heap.size (upto ok0 w) (fun _ => none) (afind []) (fun k => ([] : List Nat).contains k) w b := fun b hb => ⟨hok b hb, fun _ => hb, fun k o L h1 => by simp [afind] at h1⟩
    have hH : (afind ([] : List (Nat × Obj))) = fun _ => none := by funext k; rfl
    have hF0 : (fun k => ([] : List Nat).contains k) = fun _ => false := by funext k; rfl
    refine (run_calls (B := w.heap.size) (ok0 := upto ok0 w) (w0 := w) (C := fun _ => none) hP hG hI hF hrun (by rw [hH, hF0]; exact h0) hlen (fun j u v hu hv => .data ((hrep j u v hu hv).mono hokb fun _ _ => rfl)) (fun u hu k hk => by
      obtain ⟨j, hj⟩ := List.getElem?_of_mem hu
      have hlt : j < vals.size := by rw [← hlen]; exact (List.getElem?_eq_some_iff.1 hj).1
      rw [(hrep j u vals[j] hj (Array.getElem?_eq_getElem hlt)).keys] at hk
      simp at hk)).mono fun e w' he => ?_
    obtain ⟨vs, rfl, C', h1, _, _, h4, _, _⟩ := he
    refine ⟨_, rfl, fun _ => none, ⟨h1.below, h1.base, by simp [heapOf], by simp, by simp, by simp [heapOf], h1.up, by simp, h1.keep⟩, ?_, ?_⟩
    · obtain ⟨m1, m2⟩ := mapO_spec hfz
      refine packA_rep ⟨by rw [m1]; exact h4.1, fun j u v hu hv => ?_⟩
      have hlt : j < us.length := by rw [← m1]; exact (List.getElem?_eq_some_iff.1 hu).1
      obtain ⟨kx, g3, g4⟩ := m2 j _ u (List.getElem?_eq_getElem hlt) hu
      have := fz_data (S := s.den) (F' := fun _ => true) h1 (fun _ _ => rfl) g3 (fun _ _ => rfl) (h4.2 j _ v (List.getElem?_eq_getElem hlt) hv)
      exact .data (this.mono (fun b hb => ⟨hb.1, hb.2.1, fun k o L h => by simp [heapOf] at h⟩) fun _ _ => rfl)
    · intro k hk
      obtain ⟨u, hu, hku⟩ := keys_packA hk
      exfalso
      obtain ⟨m1, m2⟩ := mapO_spec hfz
      obtain ⟨j, hj⟩ := List.getElem?_of_mem hu
      have hlt : j < us.length := by rw [← m1]; exact (List.getElem?_eq_some_iff.1 hj).1
      have hlv : j < vs.length := by rw [← h4.1]; exact hlt
      obtain ⟨kx, g3, g4⟩ := m2 j _ u (List.getElem?_eq_getElem hlt) hj
      have := fz_data (S := s.den) (F' := fun _ => true) h1 (fun _ _ => rfl) g3 (fun _ _ => rfl) (h4.2 j _ vs[j] (List.getElem?_eq_getElem hlt) (List.getElem?_eq_getElem hlv))
      rw [this.keys] at hku
      simp at hku

end
end Go.Ev
