/-
  Literals of structs and slices, make; rows that are frozen.
-/
import Derived.Test.YthlpmghodgiknaaEvU
namespace Go.Ev
open Go Go.RowKit

section
variable {N B : Nat} {ok0 : Nat → Prop} {w0 : World} {E : Entry} {C : Conc} {S : St} {a : Act} {w : World} {P : Program} {ok : Nat → Prop}

theorem mapO_dom {α β : Type} {f : α → Option (β × List Nat)} {p : Nat → Prop} (hf : ∀ x y ks, f x = some (y, ks) → ∀ k ∈ ks, p k) : ∀ {l : List α} {l' : List β} {ks : List Nat}, mapO f l = some (l', ks) → ∀ k ∈ ks, p k
  | [], l', ks, h => by cases h; simp
  | x :: r, l', ks, h => by
    simp only [mapO] at h
    split at h
    · rename_i b ks1 hb
      split at h
      · rename_i bs ks2 hbs
        cases h
        intro k hk
        rcases List.mem_append.1 hk with hk | hk
        · exact hf _ _ _ hb k hk
        · exact mapO_dom hf hbs k hk
      · cases h
    · cases h

theorem fz_dom {H : Nat → Option Obj} : ∀ (d : Nat) (u u' : AV) (ks : List Nat), fz H d u = some (u', ks) → ∀ k ∈ ks, H k ≠ none := by
  intro d
  induction d with
  | zero => intro u u' ks h; cases u <;> simp [fz] at h
  | succ d ih =>
    intro u u' ks h
    cases u with
    | sl o i n =>
      simp only [fz] at h
      split at h
      · rename_i ob hob
        rw [Option.ite_none_right_eq_some] at h
        obtain ⟨_, h⟩ := h
        split at h
        · cases h; intro k hk; simp at hk; subst hk; rw [hob]; simp
        · split at h
          · rename_i es ks' hes
            cases h
            intro k hk
            rcases List.mem_cons.1 hk with rfl | hk
            · rw [hob]; simp
            · exact mapO_dom (fun x y ks hx => mapO_dom (fun x y ks hx => ih x y ks hx) hx) hes k hk
          · cases h
      · cases h
    | ptr o i off =>
      simp only [fz] at h
      split at h
      · rename_i ob hob
        split at h
        · split at h
          · cases h; intro k hk; simp at hk; subst hk; rw [hob]; simp
          · split at h
            · rename_i es ks' hes
              cases h
              intro k hk
              rcases List.mem_cons.1 hk with rfl | hk
              · rw [hob]; simp
              · exact mapO_dom (fun x y ks hx => ih x y ks hx) hes k hk
            · cases h
        · cases h
      · cases h
    | agg cs =>
      simp only [fz] at h
      split at h
      · rename_i es ks' hes
        cases h
        exact mapO_dom (fun x y ks hx => ih x y ks hx) hes
      · cases h
    | tup cs => simp [fz] at h
    | fn f cs => simp [fz] at h
    | _ => simp only [fz] at h; cases h; simp

/-- The block of a row that is frozen is one where data may lie. -/
theorem okb_frozen {F : Nat → Bool} (h : SimH B ok0 w0 C S.heap F w) {k : Nat} {L : Loc} (hk : S.heap k ≠ none) (hf : F k = true) (hL : C k = some L) : okb B ok0 C S.heap F w L.block := by
  obtain ⟨o, ho⟩ := Option.ne_none_iff_exists'.1 hk
  refine ⟨h.lt ho hL, h.okrow k o L ho hL, fun k' o' L' h1 h2 h3 e => ?_⟩
  have := h.inj k' k o' o L' L h1 ho h3 hL e
  subst this
  rw [hf] at h2; cases h2

/-- A deep reading, where what was read is frozen. -/
theorem fz_data {F F' : Nat → Bool} (h : SimH B ok0 w0 C S.heap F w) (hF : ∀ k, F k = true → F' k = true) {d : Nat} {u u' : AV} {v : Value} {ks : List Nat} (hf : fz S.heap d u = some (u', ks))
    (hks : ∀ k ∈ ks, F' k = true) (hr : Rep C (okb B ok0 C S.heap F w) w u v) : RepI (okb B ok0 C S.heap F' w) w u' v := by
  obtain ⟨h', hok⟩ := h.freeze hF
  exact fz_rep h hok d u v u' ks hf (fun k hk L hL => okb_frozen h' (fz_dom d u u' ks hf k hk) (hks k hk) hL) hr

/-! ### Parts laid into cells -/

theorem foldl_get (cells : Array Value) (off : Nat) : ∀ (l : List Value) (i : Nat) (cs : Array Value), cs.size = cells.size →
    ∀ k : Nat, (((l.zipIdx i).foldl (fun cs p => cs.setIfInBounds (off + p.2) p.1) cs)[k]?) = if off + i ≤ k ∧ k < off + i + l.length ∧ k < cs.size then l[k - (off + i)]? else cs[k]?
  | [], i, cs, _, k => by
    rw [List.length_nil, if_neg (by omega)]; rfl
  | v :: l, i, cs, hs, k => by
    rw [List.zipIdx_cons, List.foldl_cons, foldl_get cells off l (i + 1) (cs.setIfInBounds (off + i) v) (by simpa using hs) k]
    simp only [Array.size_setIfInBounds, List.length_cons, Array.getElem?_setIfInBounds]
    by_cases c1 : k = off + i
    · subst c1
      have n1 : ¬ (off + (i + 1) ≤ off + i ∧ off + i < off + (i + 1) + l.length ∧ off + i < cs.size) := by omega
      rw [if_neg n1, if_pos rfl]
      by_cases c2 : off + i < cs.size
      · rw [if_pos c2, if_pos ⟨by omega, by omega, c2⟩]; simp
      · rw [if_neg c2, if_neg (by omega), Array.getElem?_eq_none (by omega)]
    · rw [if_neg (by omega : ¬ off + i = k)]
      by_cases c2 : off + (i + 1) ≤ k ∧ k < off + (i + 1) + l.length ∧ k < cs.size
      · rw [if_pos c2, if_pos ⟨by omega, by omega, by omega⟩]
        rw [show k - (off + i) = (k - (off + (i + 1))) + 1 by omega]; simp
      · rw [if_neg c2, if_neg (by omega)]

theorem foldl_size (off : Nat) : ∀ (l : List (Value × Nat)) (cs : Array Value), (l.foldl (fun cs p => cs.setIfInBounds (off + p.2) p.1) cs).size = cs.size
  | [], cs => rfl
  | p :: l, cs => by rw [List.foldl_cons, foldl_size off l]; simp

/-- Cells that read as a list. -/
def Cells (C : Conc) (ok : Nat → Prop) (w : World) (cs : List AV) (vs : Array Value) : Prop :=
  cs.length = vs.size ∧ ∀ (j : Nat) (u : AV) (v : Value), cs[j]? = some u → vs[j]? = some v → Rep C ok w u v

theorem Cells.write {cs new : List AV} {vs : Array Value} {x : Array Value} {off : Nat} (h : Cells C ok w cs vs) (hn : Cells C ok w new x) (hoff : off + new.length ≤ cs.length) :
    Cells C ok w (splice cs off new) (x.zipIdx.foldl (fun cs p => cs.setIfInBounds (off + p.2) p.1) vs) := by
  obtain ⟨h1, h2⟩ := h
  obtain ⟨n1, n2⟩ := hn
  have hfold : x.zipIdx.foldl (fun cs p => cs.setIfInBounds (off + p.2) p.1) vs = (x.toList.zipIdx 0).foldl (fun cs p => cs.setIfInBounds (off + p.2) p.1) vs := by
    rw [← Array.foldl_toList, Array.toList_zipIdx]
  rw [hfold]
  refine ⟨by rw [splice_length hoff, foldl_size, h1], fun j u v hj hv => ?_⟩
  rw [splice_get hoff] at hj
  rw [foldl_get vs off x.toList 0 vs rfl j] at hv
  have hxl : x.toList.length = new.length := by simp [n1]
  by_cases c1 : j < off
  · rw [if_pos c1] at hj
    rw [if_neg (by omega)] at hv
    exact h2 j u v hj hv
  · rw [if_neg c1] at hj
    by_cases c2 : j < off + new.length
    · rw [if_pos c2] at hj
      rw [if_pos ⟨by omega, by rw [hxl]; omega, by omega⟩] at hv
      exact n2 _ u v hj (by simpa using hv)
    · rw [if_neg c2] at hj
      rw [if_neg (by rw [hxl]; omega)] at hv
      exact h2 j u v hj hv

theorem fill_rep {place : Nat → Option (Nat × Nat)} : ∀ (parts : List (Nat × Nat × AV)) (vparts : List (Nat × Value)) (cs cs' : List AV) (vs : Array Value), parts.length = vparts.length →
    (∀ (j : Nat) (p : Nat × Nat × AV) (q : Nat × Value), parts[j]? = some p → vparts[j]? = some q → place q.1 = some (p.1, p.2.1) ∧ Rep C ok w p.2.2 q.2) →
    Cells C ok w cs vs → fillA cs parts = some cs' → ∃ vs', Instr.fill place vs vparts = some vs' ∧ Cells C ok w cs' vs'
  | [], [], cs, cs', vs, _, _, hc, hf => by cases hf; exact ⟨vs, rfl, hc⟩
  | (off, size, u) :: parts, (i, v) :: vparts, cs, cs', vs, hl, hp, hc, hf => by
    obtain ⟨p1, p2⟩ := hp 0 (off, size, u) (i, v) rfl rfl
    simp only at p1 p2
    simp only [fillA, Option.ite_none_right_eq_some] at hf
    obtain ⟨⟨g1, g2, g3⟩, hf⟩ := hf
    replace p2 : Cells C ok w u.cells v.cells := p2.cells (by rintro rfl; simp at g3)
    have hsz : v.cells.size = size := by rw [← p2.1, g1]
    have hroom : off + v.cells.size ≤ vs.size := by rw [hsz, ← hc.1]; exact g2
    obtain ⟨vs', r1, r2⟩ := fill_rep parts vparts _ cs' _ (by simpa using hl) (fun j p q hj hq => hp (j + 1) p q (by simpa using hj) (by simpa using hq)) (hc.write p2 (by omega)) hf
    refine ⟨vs', ?_, r2⟩
    simp only [Instr.fill, p1]
    rw [if_neg (by simp [hsz]; omega)]
    exact r1
  | [], _ :: _, _, _, _, hl, _, _, _ => by simp at hl
  | _ :: _, [], _, _, _, hl, _, _, _ => by simp at hl

theorem run_mapM_fields (g : Field → Nat × Nat) (s : Field → Sem (Nat × Nat)) (w : World) : ∀ l : List Field, (∀ f ∈ l, (s f).run P w = .ok (g f) w) → (l.mapM s).run P w = .ok (l.map g) w
  | [], _ => by simp
  | f :: l, h => by
    rw [List.mapM_cons]
    simp only [Sem.run_bind, h f (by simp), Result.andThen_ok, run_mapM_fields g s w l (fun x hx => h x (by simp [hx])), Sem.run_pure, List.map_cons]

theorem zero_cells {t : TypeId} {z : List AV} (h : zeroC P t = some z) : ∃ i v, P.info? t = some i ∧ i.zero = some v ∧ Cells C ok w z v.cells ∧ AV.keysL z = [] ∧ ∀ u ∈ z, u.isCell = true := by
  obtain ⟨i, v, hi, hz, hok⟩ := zeroC_rep h
  obtain ⟨h1, h2, h3, h4⟩ := zOkL_rep (w := w) (ok := ok) hok
  exact ⟨i, v, hi, hz, ⟨by simpa using h1, fun j u y hj hy => .data (h2 j u y hj (by simpa using hy))⟩, h3, h4⟩

theorem keysL_fillA {k : Nat} : ∀ (parts : List (Nat × Nat × AV)) (cs cs' : List AV), fillA cs parts = some cs' → k ∈ AV.keysL cs' → k ∈ AV.keysL cs ∨ ∃ p ∈ parts, k ∈ p.2.2.keys
  | [], cs, cs', h, hk => by cases h; exact .inl hk
  | (off, size, u) :: parts, cs, cs', h, hk => by
    simp only [fillA, Option.ite_none_right_eq_some] at h
    obtain ⟨⟨g1, g2, _⟩, h⟩ := h
    rcases keysL_fillA parts _ cs' h hk with h1 | ⟨p, hp, h1⟩
    · rcases keysL_splice (by omega) h1 with h1 | h1
      · exact .inr ⟨_, List.mem_cons_self, cells_keys h1⟩
      · exact .inl h1
    · exact .inr ⟨p, List.mem_cons_of_mem _ hp, h1⟩

/-- The cells that 'make' lays. -/
theorem madeCells_get (z : Array Value) (n j i : Nat) (hj : j < z.size) (hi : i < n) : (madeCells z (n * z.size))[i * z.size + j]? = some z[j] := by
  have hlt : i * z.size + j < n * z.size := by
    have : (i + 1) * z.size ≤ n * z.size := Nat.mul_le_mul_right _ hi
    rw [Nat.add_mul, Nat.one_mul] at this
    omega
  unfold madeCells
  rw [Array.getElem?_map, Array.getElem?_range, if_pos hlt]
  simp only [Option.map_some, Option.some.injEq]
  have : (i * z.size + j) % z.size = j := by rw [Nat.add_comm, Nat.add_mul_mod_self_right, Nat.mod_eq_of_lt hj]
  rw [this]
  exact getElem!_pos z j hj

theorem s_make {F : Nat → Bool} {k : Nat} {t e : TypeId} {z : List AV} {kl kc : IntKind} {n : Int} (h : SimH B ok0 w0 C S.heap F w) (hk : S.heap k = none) (hu : P.underlying t = some (.slice e)) (hz : zeroC P e = some z)
    (hzl : z.length = P.cellsOf e) (h0 : 0 ≤ n) (hn : n * P.bytesOf e ≤ 140737488355328) (h63 : n ≤ 140737488355328) :
    ∃ (L : Loc) (cur : Array Value), L.block = w.heap.size ∧ L.sz = P.cellsOf e ∧ L.cap = n.toNat ∧ (Instr.makeSlice t (.int kl n) (.int kc n)).run P w = .ok (.slice (some ⟨L.block, 0, none⟩) n.toNat n.toNat) (w.alloc (.cells cur L.ty)) ∧
      SimH B ok0 w0 (setC C k (some L)) (setH S.heap k { sz := P.cellsOf e, ty := e, es := List.replicate n.toNat z, refs := [] }) F (w.alloc (.cells cur L.ty)) ∧
      (∀ b, okb B ok0 C S.heap F w b → okb B ok0 (setC C k (some L)) (setH S.heap k { sz := P.cellsOf e, ty := e, es := List.replicate n.toNat z, refs := [] }) F (w.alloc (.cells cur L.ty)) b) ∧
      (∀ b, okb B ok0 C S.heap F w b → (w.alloc (.cells cur L.ty)).heap[b]? = w.heap[b]?) := by
  obtain ⟨i, v, hi, hiz, hc, hkz, hone⟩ := zero_cells (P := P) (C := C) (ok := okb B ok0 C S.heap F w) (w := w) hz
  have hsz : i.size = P.cellsOf e := (cellsOf_info hi).symm
  have hby : i.bytes = P.bytesOf e := (bytesOf_info hi).symm
  have hvs : v.cells.size = P.cellsOf e := by rw [← hc.1, hzl]
  have hrun := run_make (P := P) w t e i v hu hi hiz kl kc n n h0 (Int.le_refl _) (by rw [hby, Int.mul_comm]; omega) (by omega)
  refine ⟨{ block := w.heap.size, ty := e, sz := P.cellsOf e, cap := n.toNat }, madeCells v.cells (n.toNat * i.size), rfl, rfl, rfl, hrun, ?_⟩
  refine h.new hk (L := { block := w.heap.size, ty := e, sz := P.cellsOf e, cap := n.toNat }) (o' := { sz := P.cellsOf e, ty := e, es := List.replicate n.toNat z, refs := [] }) rfl (by rw [size_madeCells, hsz]) rfl rfl (by simp)
    (by simp only [maxLen]; omega) (fun c hcm => by rw [(List.mem_replicate.1 hcm).2, hzl]) (fun c hcm u hu => by rw [(List.mem_replicate.1 hcm).2] at hu; exact .inl (hone u hu))
    (fun c hcm x hx => by rw [(List.mem_replicate.1 hcm).2, hkz] at hx; simp at hx) (by simp) (fun q c j u hq hj => ?_)
  simp only [List.getElem?_replicate] at hq
  split at hq
  · rename_i hlt
    cases hq
    have hj' : j < v.cells.size := by rw [← hc.1]; exact (List.getElem?_eq_some_iff.1 hj).1
    refine ⟨v.cells[j], ?_, hc.2 j u _ hj (Array.getElem?_eq_getElem hj')⟩
    have := madeCells_get v.cells n.toNat j q hj' hlt
    rw [hvs] at this
    rw [hsz]
    exact this
  · cases hq

end
end Go.Ev
