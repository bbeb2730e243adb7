/-
  Append onto a row of the call's own.
-/
import Derived.Test.YthlpmghodgiknaaEvZ
namespace Go.Ev
open Go Go.RowKit

section
variable {N B : Nat} {ok0 : Nat → Prop} {w0 : World} {E : Entry} {C : Conc} {H : Nat → Option Obj} {F : Nat → Bool} {w : World} {P : Program}

def mapH (ks : List Nat) (H : Nat → Option Obj) : Nat → Option Obj := fun k => (H k).map (scrubO ks)

theorem mapH_none {ks : List Nat} {k : Nat} : mapH ks H k = none ↔ H k = none := by simp [mapH]

theorem okb_mapH {ks : List Nat} {b : Nat} : okb B ok0 C H F w b ↔ okb B ok0 C (mapH ks H) F w b := by
  refine ⟨fun h => ⟨h.1, h.2.1, fun k o L h1 h2 h3 => ?_⟩, fun h => ⟨h.1, h.2.1, fun k o L h1 h2 h3 => h.2.2 k (scrubO ks o) L (by simp [mapH, h1]) h2 h3⟩⟩
  simp only [mapH, Option.map_eq_some_iff] at h1
  obtain ⟨o', h1, _⟩ := h1
  exact h.2.2 k o' L h1 h2 h3

/-- Rows forget some rows. -/
theorem SimH.scrub (h : SimH B ok0 w0 C H F w) (ks : List Nat) : SimH B ok0 w0 C (mapH ks H) F w := by
  have inv : ∀ {k : Nat} {o : Obj}, mapH ks H k = some o → ∃ o', H k = some o' ∧ o = scrubO ks o' := fun {k o} hk => by
    simp only [mapH, Option.map_eq_some_iff] at hk
    obtain ⟨o', h1, h2⟩ := hk
    exact ⟨o', h1, h2.symm⟩
  refine ⟨h.below, h.base, fun k o hk => ?_, fun k o L hk hL => ?_, fun k k' o o' L L' h1 h2 h3 h4 h5 => ?_, fun k o x hk hx => ?_, h.up, fun k o L hk hL => ?_, h.keep⟩
  · obtain ⟨o', h1, rfl⟩ := inv hk
    exact (h.row k o' h1).scrub (fun b => okb_mapH.1) (fun _ _ => rfl) rfl (fun _ _ _ => rfl) (fun _ _ => rfl)
  · obtain ⟨o', h1, rfl⟩ := inv hk
    exact h.blk k o' L h1 hL
  · obtain ⟨p, hp, rfl⟩ := inv h1
    obtain ⟨q, hq, rfl⟩ := inv h2
    exact h.inj k k' p q L L' hp hq h3 h4 h5
  · obtain ⟨o', h1, rfl⟩ := inv hk
    intro hn
    exact h.wf k o' x h1 (scrubO_refs hx).1 (mapH_none.1 hn)
  · obtain ⟨o', h1, rfl⟩ := inv hk
    exact h.okrow k o' L h1 hL

theorem scrubO_id {ks : List Nat} {o : Obj} (h : ∀ x ∈ o.refs, x ∉ ks) : scrubO ks o = o := by
  unfold scrubO
  rw [if_neg]
  intro hany
  obtain ⟨x, h1, h2⟩ := List.any_eq_true.1 hany
  exact h x h1 (by simpa using h2)

/-- A row is made, or turned, as 'SimH.set' has it; what lay at its old place is nobody's. -/
theorem SimH.turn (h : SimH B ok0 w0 C H F w) {k : Nat} {o' : Obj} {L : Loc} {w' : World} (hbel : Below B w w') (hLB : B ≤ L.block) (hLok : ok0 L.block) (hkeep : ∀ b, b < w.heap.size → ¬ ok0 b → w'.heap[b]? = w.heap[b]?) (hheap : ∀ b, okb B ok0 C H F w b → w'.heap[b]? = w.heap[b]?)
    (hrows : ∀ x o'' L', x ≠ k → H x = some o'' → C x = some L' → w'.heap[L'.block]? = w.heap[L'.block]? ∧ L'.block ≠ L.block)
    (hok : ∀ b, okb B ok0 C H F w b → b ≠ L.block) (hCk : ∀ x o'', x ≠ k → H x = some o'' → k ∉ o''.refs)
    (hrow : (∀ b, okb B ok0 C H F w b → okb B ok0 (setC C k (some L)) (setH H k o') F w' b) → RowOk (setC C k (some L)) (okb B ok0 (setC C k (some L)) (setH H k o') F w') w' k o') (hwf : ∀ x ∈ o'.refs, x ≠ k → H x ≠ none) :
    SimH B ok0 w0 (setC C k (some L)) (setH H k o') F w' ∧ (∀ b, okb B ok0 C H F w b → okb B ok0 (setC C k (some L)) (setH H k o') F w' b) := by
  have hsize := hbel.size
  have hok' : ∀ b, okb B ok0 C H F w b → okb B ok0 (setC C k (some L)) (setH H k o') F w' b := by
    intro b hb
    refine ⟨Nat.lt_of_lt_of_le hb.1 hsize, hb.2.1, fun x ox Lx h1 h2 h3 => ?_⟩
    by_cases e : x = k
    · subst e; rw [setC_self] at h3; cases h3; exact fun e => hok b hb e.symm
    · rw [setC_ne _ _ e] at h3; rw [setH_ne _ _ e] at h1; exact hb.2.2 x ox Lx h1 h2 h3
  refine ⟨⟨h.below.trans hbel, Nat.le_trans h.base hsize, fun x ox hx => ?_, fun x ox Lx h1 h2 => ?_, fun x y ox oy Lx Ly h1 h2 h3 h4 h5 => ?_, fun x ox y h1 h2 => ?_, fun b hb => h.up b (Nat.le_trans hsize hb), fun x ox Lx h1 h2 => ?_, fun b hb hn => (hkeep b (Nat.lt_of_lt_of_le hb h.below.size) hn).trans (h.keep b hb hn)⟩, hok'⟩
  · by_cases e : x = k
    · subst e; rw [setH_self] at hx; cases hx; exact hrow hok'
    · rw [setH_ne _ _ e] at hx
      refine (h.row x ox hx).mono hok' hheap (setC_ne _ _ e) (fun y hy => ?_) fun Lx hLx => (hrows x ox Lx e hx hLx).1
      by_cases ey : y = k
      · subst ey; exact absurd hy (hCk x ox e hx)
      · exact setC_ne _ _ ey
  · by_cases e : x = k
    · subst e; rw [setC_self] at h2; cases h2; exact hLB
    · rw [setC_ne _ _ e] at h2; rw [setH_ne _ _ e] at h1; exact h.blk x ox Lx h1 h2
  · by_cases e : x = k
    · by_cases e' : y = k
      · rw [e, e']
      · exfalso
        subst e; rw [setC_self] at h3; cases h3
        rw [setC_ne _ _ e'] at h4; rw [setH_ne _ _ e'] at h2
        exact (hrows y oy Ly e' h2 h4).2 h5.symm
    · by_cases e' : y = k
      · exfalso
        subst e'; rw [setC_self] at h4; cases h4
        rw [setC_ne _ _ e] at h3; rw [setH_ne _ _ e] at h1
        exact (hrows x ox Lx e h1 h3).2 h5
      · rw [setC_ne _ _ e] at h3; rw [setH_ne _ _ e] at h1; rw [setC_ne _ _ e'] at h4; rw [setH_ne _ _ e'] at h2
        exact h.inj x y ox oy Lx Ly h1 h2 h3 h4 h5
  · by_cases ey : y = k
    · subst ey; rw [setH_self]; simp
    · rw [setH_ne _ _ ey]
      by_cases e : x = k
      · subst e; rw [setH_self] at h1; cases h1; exact hwf y h2 ey
      · rw [setH_ne _ _ e] at h1; exact h.wf x ox y h1 h2
  · by_cases e : x = k
    · subst e; rw [setC_self] at h2; cases h2; exact hLok
    · rw [setC_ne _ _ e] at h2; rw [setH_ne _ _ e] at h1; exact h.okrow x ox Lx h1 h2

/-- A nil slice becomes a row of the call's own, without a place. -/
theorem SimH.adopt (h : SimH B ok0 w0 C H F w) {k : Nat} (hk : H k = none) (e : TypeId) (sz : Nat) :
    SimH B ok0 w0 (setC C k none) (setH H k { sz := sz, ty := e, es := [], refs := [] }) F w ∧ ∀ b, okb B ok0 C H F w b → okb B ok0 (setC C k none) (setH H k { sz := sz, ty := e, es := [], refs := [] }) F w b := by
  have hok' : ∀ b, okb B ok0 C H F w b → okb B ok0 (setC C k none) (setH H k { sz := sz, ty := e, es := [], refs := [] }) F w b := by
    intro b hb
    refine ⟨hb.1, hb.2.1, fun x ox Lx h1 h2 h3 => ?_⟩
    by_cases e : x = k
    · subst e; rw [setC_self] at h3; cases h3
    · rw [setC_ne _ _ e] at h3; rw [setH_ne _ _ e] at h1; exact hb.2.2 x ox Lx h1 h2 h3
  have noref : ∀ x ox, H x = some ox → k ∉ ox.refs := fun x ox hx hm => h.wf x ox k hx hm hk
  refine ⟨⟨h.below, h.base, fun x ox hx => ?_, fun x ox Lx h1 h2 => ?_, fun x y ox oy Lx Ly h1 h2 h3 h4 h5 => ?_, fun x ox y h1 h2 => ?_, h.up, fun x ox Lx h1 h2 => ?_, h.keep⟩, hok'⟩
  · by_cases e : x = k
    · subst e; rw [setH_self] at hx; cases hx
      exact ⟨by simp, by simp, by simp, by rw [setC_self]⟩
    · rw [setH_ne _ _ e] at hx
      exact (h.row x ox hx).mono hok' (fun _ _ => rfl) (setC_ne _ _ e) (fun y hy => setC_ne _ _ (by rintro rfl; exact noref x ox hx hy)) fun _ _ => rfl
  · by_cases e : x = k
    · subst e; rw [setC_self] at h2; cases h2
    · rw [setC_ne _ _ e] at h2; rw [setH_ne _ _ e] at h1; exact h.blk x ox Lx h1 h2
  · by_cases e : x = k
    · subst e; rw [setC_self] at h3; cases h3
    · by_cases e' : y = k
      · subst e'; rw [setC_self] at h4; cases h4
      · rw [setC_ne _ _ e] at h3; rw [setH_ne _ _ e] at h1; rw [setC_ne _ _ e'] at h4; rw [setH_ne _ _ e'] at h2
        exact h.inj x y ox oy Lx Ly h1 h2 h3 h4 h5
  · by_cases ey : y = k
    · subst ey; rw [setH_self]; simp
    · rw [setH_ne _ _ ey]
      by_cases e : x = k
      · subst e; rw [setH_self] at h1; cases h1; simp at h2
      · rw [setH_ne _ _ e] at h1; exact h.wf x ox y h1 h2
  · by_cases e : x = k
    · subst e; rw [setC_self] at h2; cases h2
    · rw [setC_ne _ _ e] at h2; rw [setH_ne _ _ e] at h1; exact h.okrow x ox Lx h1 h2

/-- The elements that are appended, as they lie. -/
theorem appended_rep (h : SimH B ok0 w0 C H F w) {sz : Nat} {y : AV} {v : Value} {news : List (List AV)} (ha : appended H sz y = some news) (hr : Rep C (okb B ok0 C H F w) w y v)
    (hall : ∀ cs ∈ news, cs.length = sz ∧ ∀ u ∈ cs, u.isCell = true) : ∃ A c, v = .slice A news.length c ∧ (news ≠ [] → ∃ ad, A = some ad ∧ ∀ (i : Nat) (cs : List AV) (j : Nat) (u : AV), news[i]? = some cs → cs[j]? = some u →
      ∃ x, w.cell? (ad.add (i * sz + j)) = some x ∧ Rep C (okb B ok0 C H F w) w u x) ∧ ∀ cs ∈ news, ∀ k ∈ AV.keysL cs, H k ≠ none := by
  unfold appended at ha
  split at ha
  · rename_i nl sz' es
    obtain ⟨hsz, ha1⟩ := of_ite ha
    clear ha
    cases ha1
    have hI := hr.imm_inv
    cases hI with
    | nils => exact ⟨none, 0, rfl, fun hne => absurd rfl hne, by simp⟩
    | imm ad vs hn hc hA hs hcell hrep =>
      subst hn
      refine ⟨_, _, rfl, fun hne => ⟨ad, (hA hne).1, fun i cs j u hi hj => ?_⟩, fun cs hcs k hk => ?_⟩
      · have : sz' = sz := by rcases hsz with hsz | hsz
                              · exact hsz
                              · exact absurd hsz hne
        subst this
        exact ⟨vs i j, hcell i cs j u hi hj, .data (hrep i cs j u hi hj)⟩
      · obtain ⟨i, hi⟩ := List.getElem?_of_mem hcs
        obtain ⟨j, u, hj, hku⟩ := mem_keysL.1 hk
        rw [(hrep i cs j u hi hj).keys] at hku
        simp at hku
  · rename_i o i n
    split at ha
    · rename_i ob hob
      obtain ⟨⟨hsz, hin⟩, ha1⟩ := of_ite ha
      clear ha
      cases ha1
      have hrow := h.row o ob hob
      have hlen : ((ob.es.drop i).take n).length = n := by simp; omega
      have hget : ∀ {q : Nat} {cs : List AV}, ((ob.es.drop i).take n)[q]? = some cs → ob.es[i + q]? = some cs := fun {q cs} hq => by
        rw [List.getElem?_take] at hq
        split at hq
        · rwa [List.getElem?_drop] at hq
        · cases hq
      have hkeys : ∀ cs ∈ (ob.es.drop i).take n, ∀ k ∈ AV.keysL cs, H k ≠ none := fun cs hcs k hk => h.wf o ob k hob (hrow.refs cs (List.mem_of_mem_drop (List.mem_of_mem_take hcs)) k hk)
      rcases hr.sl_inv with ⟨L, c, hL, hv, hn, hc⟩ | ⟨hC, hv, rfl, rfl⟩
      · rw [hlen]
        refine ⟨_, _, hv, fun _ => ⟨_, rfl, fun q cs j u hq hj => ?_⟩, hkeys⟩
        have hp := hrow.place
        rw [hL] at hp
        obtain ⟨p1, p2, cur, p3, p4, p5, p6, p7⟩ := hp
        obtain ⟨x, g1, g2⟩ := p7 (i + q) cs j u (hget hq) hj
        refine ⟨x, ?_, g2⟩
        have e : i * L.sz + (q * sz + j) = (i + q) * L.sz + j := by rw [p1, hsz, Nat.add_mul]; omega
        rw [add_mk, e]
        simp [World.cell?, p3, g1]
      · exact ⟨none, 0, by simpa using hv, fun hne => absurd (by simp) hne, hkeys⟩
    · cases ha
  · cases ha

theorem run_append_zero {t ty e : TypeId} (ht : P.underlying t = some (.slice e)) (hok : okT P e = true) (A : Option Addr) (n c : Nat) (hn : n ≤ c) (A' : Option Addr) (c' : Nat) :
    (Builtin.append_ #[t, t] ty #[.slice A n c, .slice A' 0 c']).run P w = .ok (.slice A n c) w := by
  cases A <;> cases A' <;> simp [Builtin.append_, run_underlying ht, run_sizeOf hok, Builtin.lenOf, Builtin.firstCells, loadCells, loadCellsFrom, storeCells, hn]

/-- The cells that are appended, as a list. -/
def flatV (f : Nat → Nat → Value) (sz m : Nat) : List Value := (List.range (m * sz)).map fun t => f (t / sz) (t % sz)

theorem flatV_get {f : Nat → Nat → Value} {sz m i j : Nat} (hi : i < m) (hj : j < sz) : (flatV f sz m)[i * sz + j]? = some (f i j) := by
  have hlt : i * sz + j < m * sz := by
    have : (i + 1) * sz ≤ m * sz := Nat.mul_le_mul_right _ hi
    rw [Nat.add_mul, Nat.one_mul] at this
    omega
  unfold flatV
  rw [List.getElem?_map, List.getElem?_range hlt, Option.map_some]
  have h1 : (i * sz + j) / sz = i := by rw [Nat.mul_comm, Nat.mul_add_div (by omega), Nat.div_eq_of_lt hj]; omega
  have h2 : (i * sz + j) % sz = j := by rw [Nat.add_comm, Nat.add_mul_mod_self_right, Nat.mod_eq_of_lt hj]
  rw [h1, h2]

theorem flatV_inv {f : Nat → Nat → Value} {sz m q : Nat} {u : Value} (h : (flatV f sz m)[q]? = some u) : q < m * sz ∧ u = f (q / sz) (q % sz) ∧ q / sz < m ∧ q % sz < sz ∧ q / sz * sz + q % sz = q := by
  unfold flatV at h
  rw [List.getElem?_map, Option.map_eq_some_iff] at h
  obtain ⟨x, h1, h2⟩ := h
  have hlt : q < m * sz := by have := (List.getElem?_eq_some_iff.1 h1).1; simpa using this
  rw [List.getElem?_range hlt] at h1
  cases h1
  have hsz : 0 < sz := by rcases Nat.eq_zero_or_pos sz with h | h <;> simp_all
  refine ⟨hlt, h2.symm, ?_, Nat.mod_lt _ hsz, by rw [Nat.mul_comm]; exact Nat.div_add_mod q sz⟩
  exact (Nat.div_lt_iff_lt_mul hsz).2 hlt

end
end Go.Ev
