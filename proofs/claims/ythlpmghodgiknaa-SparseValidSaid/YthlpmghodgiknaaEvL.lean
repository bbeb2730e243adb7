/-
  Regions: the step through the region as a whole.
-/
import Derived.Test.YthlpmghodgiknaaEvM
namespace Go.Ev
open Go Go.RowKit

section
variable {N B : Nat} {ok0 : Nat → Prop} {w0 : World} {E : Entry} {C : Conc} {s s' : SL} {S T : St} {a : Act} {w : World} {P : Program} {ks : Kinds} {fid : Nat} {G : Pure} {ic : Inl} {ops : Array Oper}
  {l : List AI} {m : Nat} {b : List Nat} {Q : Exit → Act → World → Prop}

theorem getD_listed {listed : Array Bool} {j : Nat} (hj : j < listed.size) (d d' : Bool) : listed.getD j d = listed.getD j d' := by
  simp [hj]

/-- All that binds the least operation that is not listed is listed: it may come up now. -/
theorem ready_least (h : drawOk ops b l m = true) {listed : Array Bool} (hsz : listed.size = ops.size) {i : Nat} (hi : i < ops.size) (hun : listed.getD i false = false) (hless : ∀ j, j < i → listed.getD j false = true) :
    i ∈ Region.ready .any ops listed := by
  refine mem_ready.2 ⟨by rw [getD_listed (by omega) true false]; exact hun, ops[i], Array.getElem?_eq_getElem hi, fun e he hb => hless _ ?_⟩
  exact (drawOk_spec h (Array.getElem?_eq_getElem hi)).1 e he hb

theorem closed_set {listed : Array Bool} (hc : Closed ops listed) {i : Nat} {o : Oper} (ho : ops[i]? = some o) (he : ∀ e ∈ o.after, Region.binds .any e = true → listed.getD e.on false = true) : Closed ops (listed.setIfInBounds i true) := by
  intro j oj hj hoj e he' hb
  by_cases eji : j = i
  · subst eji
    rw [ho] at hoj
    cases hoj
    exact getD_set_true (he e he' hb)
  · rw [getD_set_ne false (Ne.symm eji)] at hj
    exact getD_set_true (hc j oj hj hoj e he' hb)

variable (hG : GoodG P ks G) (hI : InlSound P ic)

include hG in
/-- The part whose order is open. -/
theorem any_pre (h : drawOk ops b l m = true) (hm : m ≤ ops.size)
    (post : ∀ (listed : Array Bool) (a : Act) (w : World), listed.size = ops.size → Closed ops listed → (∀ j, j < ops.size → (listed.getD j false = false ↔ m ≤ j)) → SimX N B ok0 w0 E T a w → wpAny P .any ops Q (ops.size - m) listed a w) :
    ∀ (n : Nat) (rem : List (Nat × AI × Eff)) (listed : Array Bool) (S : St) (a : Act) (w : World), rem.length = n → listed.size = ops.size → Closed ops listed →
      (∀ j, j < ops.size → (listed.getD j false = false ↔ (j ∈ rem.map (·.1) ∨ m ≤ j))) → rem.Pairwise (fun x y => x.1 < y.1) → (∀ x ∈ rem, x.1 < m ∧ OpIs P ks fid N ops x.1 x.2.1) →
      (∀ x ∈ rem, ∀ y ∈ rem, x.1 < y.1 → (b.getD y.1 0).testBit x.1 = false → Ind x.2 y.2) → Steps G (rem.map (·.2)) S T → SimX N B ok0 w0 E S a w → wpAny P .any ops Q (n + (ops.size - m)) listed a w := by
  intro n
  induction n with
  | zero =>
    intro rem listed S a w hn hsz hcl hlist _ _ _ hst hs
    have : rem = [] := List.eq_nil_of_length_eq_zero hn
    subst this
    cases hst with
    | nil =>
      rw [Nat.zero_add]
      exact post listed a w hsz hcl (fun j hj => by simpa using hlist j hj) hs
  | succ n ih =>
    intro rem listed S a w hn hsz hcl hlist hpw hops hind hst hs
    rw [show n + 1 + (ops.size - m) = (n + (ops.size - m)) + 1 by omega]
    obtain ⟨x0, r0, hrem⟩ : ∃ x0 r0, rem = x0 :: r0 := by cases rem with
      | nil => simp at hn
      | cons x r => exact ⟨x, r, rfl⟩
    have hx0 : x0 ∈ rem := by rw [hrem]; exact List.mem_cons_self
    have hx0m := (hops x0 hx0).1
    have hleast : ∀ j, j < x0.1 → listed.getD j false = true := fun j hj => by
      cases hc : listed.getD j false with
      | true => rfl
      | false =>
        rcases (hlist j (by omega)).1 hc with h1 | h1
        · obtain ⟨x, hx, rfl⟩ := List.mem_map.1 h1
          rw [hrem] at hx hpw
          rcases List.mem_cons.1 hx with rfl | hx
          · omega
          · have := (List.pairwise_cons.1 hpw).1 x hx; omega
        · omega
    have hun0 : listed.getD x0.1 false = false := (hlist x0.1 (by omega)).2 (.inl (List.mem_map.2 ⟨x0, hx0, rfl⟩))
    refine ⟨fun hr => absurd (ready_least h hsz (by omega) hun0 hleast) (by rw [hr]; simp), fun i hi => ?_⟩
    obtain ⟨hi1, o, ho, hbind⟩ := mem_ready.1 hi
    have hin : i < ops.size := (Array.getElem?_eq_some_iff.1 ho).1
    have hun : listed.getD i false = false := by rw [← getD_listed (by omega) true false]; exact hi1
    have hbefore := closed_before h hcl i i o (Nat.le_refl _) ho hbind
    have hspec := (drawOk_spec h ho).2
    have hnb : ∀ j, j < i → listed.getD j false = false → (b.getD i 0).testBit j = false := fun j hj hu => by
      cases hc : (b.getD i 0).testBit j with
      | false => rfl
      | true => have := hbefore j hj hc; rw [hu] at this; cases this
    have him : i < m := by
      rcases Nat.lt_or_ge i m with lt | ge
      · exact lt
      · exact ((hspec x0.1 (by omega)).2 (hnb x0.1 (by omega) hun0)).1
    obtain ⟨x, hx, hxi⟩ : ∃ x ∈ rem, x.1 = i := by
      rcases (hlist i hin).1 hun with h1 | h1
      · exact List.mem_map.1 h1
      · omega
    obtain ⟨xs, ys, hsplit⟩ := List.append_of_mem hx
    rw [hsplit, List.pairwise_append] at hpw
    obtain ⟨pw1, pw2, pw3⟩ := hpw
    have pw4 := List.pairwise_cons.1 pw2
    have hxs : ∀ y ∈ xs, y.1 < i := fun y hy => by have := pw3 y hy x List.mem_cons_self; omega
    have hys : ∀ y ∈ ys, i < y.1 := fun y hy => by have := pw4.1 y hy; omega
    have hst' : Steps G (xs.map (·.2) ++ (x.2.1, x.2.2) :: ys.map (·.2)) S T := by
      have e : rem.map (·.2) = xs.map (·.2) ++ (x.2.1, x.2.2) :: ys.map (·.2) := by rw [hsplit]; simp
      rw [e] at hst
      exact hst
    obtain ⟨b1, b2⟩ := bubble _ _ _ _ hst' fun y hy => by
      obtain ⟨z, hz, rfl⟩ := List.mem_map.1 hy
      have hzr : z ∈ rem := by rw [hsplit]; exact List.mem_append.2 (.inl hz)
      have hlt : z.1 < x.1 := by rw [hxi]; exact hxs z hz
      refine hind z hzr x hx hlt ?_
      rw [hxi]
      exact hnb z.1 (hxs z hz) ((hlist z.1 (by omega)).2 (.inl (List.mem_map.2 ⟨z, hzr, rfl⟩)))
    obtain ⟨C, hs⟩ := hs
    have hopx := (hops x hx).2
    rw [hxi] at hopx
    refine stepEff_sound hG hopx b1 hs fun a' w' hs' => ?_
    have hsub : ∀ y, y ∈ xs ++ ys → y ∈ rem := fun y hy => by
      rw [hsplit]
      rcases List.mem_append.1 hy with h1 | h1
      · exact List.mem_append.2 (.inl h1)
      · exact List.mem_append.2 (.inr (List.mem_cons_of_mem _ h1))
    refine ih (xs ++ ys) (listed.setIfInBounds i true) _ a' w' (by rw [hsplit] at hn; simp at hn ⊢; omega) (by simpa using hsz) (closed_set hcl ho hbind) (fun j hj => ?_) ?_ (fun y hy => hops y (hsub y hy)) (fun y hy z hz => hind y (hsub y hy) z (hsub z hz)) (by rw [List.map_append]; exact b2) hs'
    · by_cases eji : j = i
      · subst eji
        have h1 : (listed.setIfInBounds j true).getD j false = true := by simp [hsz, hj]
        rw [h1]
        refine ⟨fun h => by (cases h), fun h => ?_⟩
        rcases h with h | h
        · obtain ⟨z, hz, hzj⟩ := List.mem_map.1 h
          rcases List.mem_append.1 hz with h2 | h2
          · have := hxs z h2; omega
          · have := hys z h2; omega
        · omega
      · rw [getD_set_ne false (Ne.symm eji), hlist j hj, hsplit]
        have : j ≠ x.1 := by omega
        simp [this]
    · rw [List.pairwise_append]
      exact ⟨pw1, pw4.2, fun y hy z hz => pw3 y hy z (List.mem_cons_of_mem _ hz)⟩

include hG hI in
/-- The part whose order is fixed. -/
theorem any_post (h : drawOk ops b l m = true) (hl : cOps P ks fid N ops ops.toList = some l) {sn : SL} (hQ : ∀ a w, SimLX N B ok0 w0 E sn a w → Q .normal a w) :
    ∀ (n p : Nat) (listed : Array Bool) (sp : SL) (a : Act) (w : World), p + n = ops.size → m ≤ p → listed.size = ops.size → Closed ops listed → (∀ j, j < ops.size → (listed.getD j false = false ↔ p ≤ j)) →
      SimLX N B ok0 w0 E sp a w → runL G ic (l.drop p) sp = some sn → wpAny P .any ops Q n listed a w := by
  have hll : l.length = ops.size := by simpa using (cOps_spec _ _ hl).1
  intro n
  induction n with
  | zero =>
    intro p listed sp a w hp _ hsz _ hlist hs hrun
    have hpe : p = ops.size := by omega
    subst hpe
    rw [List.drop_eq_nil_of_le (by omega)] at hrun
    cases hrun
    refine ⟨List.eq_nil_iff_forall_not_mem.2 fun i hi => ?_, hQ a w hs⟩
    obtain ⟨h1, o, ho, _⟩ := mem_ready.1 hi
    have hin : i < ops.size := (Array.getElem?_eq_some_iff.1 ho).1
    rw [getD_listed (by omega) true false] at h1
    have := (hlist i hin).1 h1
    omega
  | succ n ih =>
    intro p listed sp a w hp hmp hsz hcl hlist hs hrun
    have hpn : p < ops.size := by omega
    have hless : ∀ j, j < p → listed.getD j false = true := fun j hj => by
      cases hc : listed.getD j false with
      | true => rfl
      | false => have := (hlist j (by omega)).1 hc; omega
    have hunp := (hlist p hpn).2 (Nat.le_refl _)
    refine ⟨fun hr => absurd (ready_least h hsz hpn hunp hless) (by rw [hr]; simp), fun i hi => ?_⟩
    obtain ⟨h1, o, ho, hbind⟩ := mem_ready.1 hi
    have hin : i < ops.size := (Array.getElem?_eq_some_iff.1 ho).1
    rw [getD_listed (by omega) true false] at h1
    have hpi := (hlist i hin).1 h1
    have hip : i = p := by
      rcases Nat.eq_or_lt_of_le hpi with e | lt
      · exact e.symm
      · exfalso
        have hbefore := closed_before h hcl i i o (Nat.le_refl _) ho hbind p lt
        cases hc : (b.getD i 0).testBit p with
        | true => rw [hbefore hc] at hunp; cases hunp
        | false => have := (((drawOk_spec h ho).2 p lt).2 hc).1; omega
    subst hip
    have hdrop : l.drop i = l[i] :: l.drop (i + 1) := List.drop_eq_getElem_cons (by omega)
    rw [hdrop, runL_cons] at hrun
    cases hst : stepL G ic l[i] sp with
    | none => rw [hst] at hrun; cases hrun
    | some sp' =>
      rw [hst] at hrun
      obtain ⟨o', ho', hd, hc, hg, hN⟩ := opIs_of hl (List.getElem?_eq_getElem (by omega : i < l.length))
      obtain ⟨C, hs⟩ := hs
      have hst' : stepL G ic ⟨o'.dst, l[i].g, l[i].op⟩ sp = some sp' := by rw [← hd]; exact hst
      refine stepL_sound ho' hc hg hst' hs hN hG hI fun a' w' hs' => ?_
      rw [ho] at ho'
      cases ho'
      refine ih (i + 1) _ sp' a' w' (by omega) (by omega) (by simpa using hsz) (closed_set hcl ho hbind) (fun j hj => ?_) hs' hrun
      by_cases eji : j = i
      · subst eji
        have h1 : (listed.setIfInBounds j true).getD j false = true := by simp [hsz, hj]
        rw [h1]
        refine ⟨fun h => by (cases h), fun h => by omega⟩
      · rw [getD_set_ne false (Ne.symm eji), hlist j hj]
        omega

include hG hI in
/-- In the text's order. -/
theorem runL_sound (hl : cOps P ks fid N ops ops.toList = some l) {sn : SL} (hQ : ∀ a w, SimLX N B ok0 w0 E sn a w → Q .normal a w) :
    ∀ (n p : Nat) (sp : SL) (a : Act) (w : World), p + n = ops.size → SimLX N B ok0 w0 E sp a w → runL G ic (l.drop p) sp = some sn → wpOps P ops Q (List.range' p n) a w := by
  have hll : l.length = ops.size := by simpa using (cOps_spec _ _ hl).1
  intro n
  induction n with
  | zero =>
    intro p sp a w hp hs hrun
    have hpe : p = ops.size := by omega
    subst hpe
    rw [List.drop_eq_nil_of_le (by omega)] at hrun
    cases hrun
    exact hQ a w hs
  | succ n ih =>
    intro p sp a w hp hs hrun
    have hdrop : l.drop p = l[p] :: l.drop (p + 1) := List.drop_eq_getElem_cons (by omega)
    rw [hdrop, runL_cons] at hrun
    rw [List.range'_succ, wpOps_cons]
    cases hst : stepL G ic l[p] sp with
    | none => rw [hst] at hrun; cases hrun
    | some sp' =>
      rw [hst] at hrun
      obtain ⟨o', ho', hd, hc, hg, hN⟩ := opIs_of hl (List.getElem?_eq_getElem (by omega : p < l.length))
      obtain ⟨C, hs⟩ := hs
      have hst' : stepL G ic ⟨o'.dst, l[p].g, l[p].op⟩ sp = some sp' := by rw [← hd]; exact hst
      exact stepL_sound ho' hc hg hst' hs hN hG hI fun a' w' hs' => ih (p + 1) sp' a' w' (by omega) hs' hrun

/-- The world's count of draws is nobody's. -/
theorem SimH.same {H : Nat → Option Obj} {F : Nat → Bool} {w' : World} (h : SimH B ok0 w0 C H F w) (hw : w'.heap = w.heap) (hb : Below B w w') : SimH B ok0 w0 C H F w' ∧ ∀ b, okb B ok0 C H F w b → okb B ok0 C H F w' b := by
  have hok : ∀ b, okb B ok0 C H F w b → okb B ok0 C H F w' b := fun b hb => ⟨by rw [hw]; exact hb.1, hb.2⟩
  exact ⟨⟨h.below.trans hb, by rw [hw]; exact h.base, fun k o hk => (h.row k o hk).mono hok (fun _ _ => by rw [hw]) rfl (fun _ _ => rfl) fun _ _ => by rw [hw], h.blk, h.inj, h.wf, by rw [hw]; exact h.up, h.okrow, by rw [hw]; exact h.keep⟩, hok⟩

theorem Sim.same {w' : World} (h : Sim N B ok0 w0 E C S a w) (hw : w'.heap = w.heap) (hb : Below B w w') : Sim N B ok0 w0 E C S a w' := by
  obtain ⟨h1, h2⟩ := h.h.same hw hb
  exact ⟨h1, fun t => (h.slot t).mono h2 (fun _ _ => by rw [hw]) fun _ _ => rfl, h.wfs, h.defers, h.size, fun b hb => ⟨h2 b (h.ent.1 b hb).1, by rw [hw]; exact (h.ent.1 b hb).2⟩, h.ent.2⟩

theorem pairwise_zip_range {α : Type} (xs : List α) : ∀ (p : Nat), ((List.range' p xs.length).zip xs).Pairwise (fun x y => x.1 < y.1) := by
  induction xs with
  | nil => simp
  | cons x xs ih =>
    intro p
    rw [List.length_cons, List.range'_succ, List.zip_cons_cons, List.pairwise_cons]
    refine ⟨fun y hy => ?_, ih (p + 1)⟩
    have := (List.of_mem_zip hy).1
    have := List.mem_range'_1.1 this
    simp only
    omega

theorem mem_zip_range {α : Type} {xs : List α} {x : Nat × α} (h : x ∈ (List.range xs.length).zip xs) : xs[x.1]? = some x.2 := by
  obtain ⟨i, hi⟩ := List.getElem?_of_mem h
  rw [List.getElem?_zip_eq_some] at hi
  obtain ⟨h1, h2⟩ := hi
  have hlt : i < xs.length := (List.getElem?_eq_some_iff.1 h2).1
  rw [List.getElem?_range hlt] at h1
  cases h1
  exact h2

include hG hI in
/-- A region whose order is open. -/
theorem region_draw {id : Nat} (hP : P.follows .mixedOrders = true) (hl : cOps P ks fid N ops ops.toList = some l) (hdraw : drawOk ops (befores ops) l (l.takeWhile (·.op.simple)).length = true) {sm sn : SL}
    (hpre : runP G ic (l.takeWhile (·.op.simple)) s ((openPairs ops (l.takeWhile (·.op.simple)).length).filter (mayClash l)) = some sm) (hpost : runL G ic (l.drop (l.takeWhile (·.op.simple)).length) sm = some sn)
    (hs : SimL N B ok0 w0 E C s a w) (hQ : ∀ a w, SimLX N B ok0 w0 E sn a w → Q .normal a w) : (Code.region id ops true).wp P Q a w := by
  have hll : l.length = ops.size := by simpa using (cOps_spec _ _ hl).1
  obtain ⟨lg, hlog, hpairs⟩ := runP_log hpre
  generalize hpe : l.takeWhile (·.op.simple) = pre at *
  have hple : pre.length ≤ ops.size := by rw [← hll, ← hpe]; exact (List.takeWhile_sublist _).length_le
  have hpget : ∀ {i : Nat} {x : AI}, pre[i]? = some x → l[i]? = some x := fun {i x} hx => by
    have hsplit : l = pre ++ l.dropWhile (·.op.simple) := by rw [← hpe, List.takeWhile_append_dropWhile]
    rw [hsplit, List.getElem?_append_left (List.getElem?_eq_some_iff.1 hx).1]
    exact hx
  have hsimp : ∀ i ∈ pre, i.op.simple = true := fun i hi => by
    rw [← hpe] at hi
    exact List.all_eq_true.1 (List.all_takeWhile (p := fun i : AI => i.op.simple) (l := l)) i hi
  obtain ⟨es, g1, g2, g3, g4, _, _, g7⟩ := logL_steps pre [] s lg sm hsimp hlog
  have hsim : Sim N B ok0 w0 { E with R := s.reb } C s.den a { w with drawn := w.drawn + 1 } := hs.sim.same rfl (Below.refl B w).drew
  refine wp_region_any hP ?_
  have hzl : (pre.zip es).length = pre.length := by simp [g1]
  have main := any_pre (P := P) (ks := ks) (fid := fid) (N := N) (B := B) (ok0 := ok0) (w0 := w0) (E := { E with R := s.reb }) (T := sm.den) (Q := Q) hG hdraw hple (fun listed a w hsz hcl hlist hx => by
      obtain ⟨C', hx⟩ := hx
      refine any_post hG hI hdraw hl hQ (ops.size - pre.length) pre.length listed sm a w (by omega) (Nat.le_refl _) hsz hcl hlist ⟨C', ⟨?_, fun k hk => ?_⟩⟩ hpost
      · rw [g4]; exact hx
      · rcases g3 k hk with h1 | h1
        · exact hs.own k h1
        · exact notD hs h1)
    pre.length ((List.range (pre.zip es).length).zip (pre.zip es)) (Array.replicate ops.size false) s.den a { w with drawn := w.drawn + 1 } (by simp [g1]) (by simp) (fun j o hj => by
      rw [Array.getD_eq_getD_getElem?] at hj
      simp only [Array.getElem?_replicate] at hj
      split at hj <;> simp at hj)
    (fun j hj => by
      have h1 : (Array.replicate ops.size false).getD j false = false := by rw [Array.getD_eq_getD_getElem?, Array.getElem?_replicate]; split <;> rfl
      rw [h1]
      refine ⟨fun _ => ?_, fun _ => rfl⟩
      rcases Nat.lt_or_ge j pre.length with lt | ge
      · left
        rw [List.map_fst_zip (by simp)]
        exact List.mem_range.2 (by omega)
      · exact .inr ge)
    (by rw [List.range_eq_range']; exact pairwise_zip_range _ 0)
    (fun x hx => by
      have h1 := mem_zip_range hx
      rw [List.getElem?_zip_eq_some] at h1
      exact ⟨(List.getElem?_eq_some_iff.1 h1.1).1, opIs_of hl (hpget h1.1)⟩)
    (fun x hx y hy hxy hbit => by
      have h1 := mem_zip_range hx
      have h2 := mem_zip_range hy
      rw [List.getElem?_zip_eq_some] at h1 h2
      have hym : y.1 < pre.length := (List.getElem?_eq_some_iff.1 h2.1).1
      obtain ⟨_, hd⟩ := drawOk_spec hdraw (Array.getElem?_eq_getElem (by omega : y.1 < ops.size))
      obtain ⟨_, ax, ay, q1, q2, q3⟩ := (hd x.1 hxy).2 hbit
      rw [hpget h1.1] at q1
      rw [hpget h2.1] at q2
      cases q1
      cases q2
      refine ⟨q3, ?_⟩
      obtain ⟨lx, k1, k2, k3, k4⟩ := g7 x.1 _ _ h1.2 h1.1
      obtain ⟨ly, m1, m2, m3, m4⟩ := g7 y.1 _ _ h2.2 h2.1
      have triv1 : ∀ z, apartKeys ([], []) z = true := fun z => by simp [apartKeys]
      have triv2 : ∀ z, apartKeys z ([], []) = true := fun z => by simp [apartKeys]
      cases hmc : mayClash l (x.1, y.1) with
      | true =>
        have hmem : (x.1, y.1) ∈ (openPairs ops pre.length).filter (mayClash l) := by
          refine List.mem_filter.2 ⟨?_, hmc⟩
          simp only [openPairs, List.mem_flatMap, List.mem_map, List.mem_filter, List.mem_range]
          exact ⟨y.1, hym, x.1, ⟨hxy, by simp only [unordered, hbit, Bool.not_false]⟩, rfl⟩
        obtain ⟨zx, zy, n1, n2, n3⟩ := pairsOk_spec hpairs _ hmem
        rw [List.length_nil, Nat.zero_add] at k1 m1
        simp only at n1 n2
        rw [k1] at n1
        rw [m1] at n2
        cases n1
        cases n2
        rcases k2 with k2 | k2
        · rw [k2]; exact triv1 _
        · rcases m2 with m2 | m2
          · rw [m2]; exact triv2 _
          · rw [k2, m2]; exact n3
      | false =>
        simp only [mayClash, hpget h1.1, hpget h2.1] at hmc
        cases hxm : x.2.1.op.mem with
        | false => rw [k3 hxm]; exact triv1 _
        | true =>
          cases hym : y.2.1.op.mem with
          | false => rw [m3 hym]; exact triv2 _
          | true =>
            rw [hxm, hym] at hmc
            simp only [Bool.and_self, Bool.true_and, Bool.or_eq_false_iff] at hmc
            refine apartKeys_iff.2 ⟨fun k hk => ?_, fun k hk => ?_⟩
            · rw [k4 hmc.1] at hk; simp at hk
            · rw [m4 hmc.2] at hk; simp at hk)
    (by rw [List.map_snd_zip (by simp)]; exact g2) ⟨C, hsim⟩
  rw [show ops.size = pre.length + (ops.size - pre.length) by omega]
  have e1 : pre.length + (ops.size - pre.length) = ops.size := by omega
  rw [e1] at main ⊢
  exact main

end
end Go.Ev
