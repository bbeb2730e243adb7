/-
  Addresses, slices, parts of values, rows of literals, make.
-/
import Derived.Test.YthlpmghodgiknaaEvT
namespace Go.Ev
open Go Go.RowKit

section
variable {N B : Nat} {ok0 : Nat → Prop} {w0 : World} {E : Entry} {C : Conc} {S : St} {a : Act} {w : World} {P : Program} {ok : Nat → Prop}

theorem RepI.ref_drop {cs : List AV} {ad : Addr} (n : Nat) (h : RepI ok w (.ref cs) (.pointer (some ad))) : RepI ok w (.ref (cs.drop n)) (.pointer (some (ad.add n))) := by
  cases h with
  | ref vs hok hcell hrep =>
    refine .ref (fun j => vs (n + j)) (by rw [block_add]; exact hok) (fun j u hj => ?_) (fun j u hj => ?_)
    · rw [List.getElem?_drop] at hj; rw [add_add]; exact hcell _ u hj
    · rw [List.getElem?_drop] at hj; exact hrep _ u hj

def faddrA (off : Nat) : AV → Option AV
  | .ref cs => some (.ref (cs.drop off))
  | .ptr o i g => some (.ptr o i (g + off))
  | _ => none

theorem s_faddr {s : TypeId} {fs : Array Field} {f : Nat} {fd : Field} {x r : AV} {v : Value} (hs : P.underlying s = some (.struct fs)) (hf : fs[f]? = some fd) (hz : P.cellsOf fd.type ≠ 0) (ht : okT P fd.type = true)
    (hx : Rep C ok w x v) (hr : faddrA fd.offset x = some r) :
    ∃ y, (Instr.fieldAt s v f).run P w = .ok y w ∧ Rep C ok w r y ∧ ∀ k ∈ r.keys, k ∈ x.keys := by
  have key : ∀ ad, (Instr.fieldAt s (.pointer (some ad)) f).run P w = .ok (.pointer (some (ad.add fd.offset))) w := fun ad => by
    simp [Instr.fieldAt, run_underlying hs, hf, Instr.sureAddr, fieldPlace, run_sizeOf ht, hz]
  cases x with
  | ref cs =>
    cases hr
    have h1 := hx.ref_inv
    cases h1 with
    | ref vs hok hcell hrep => exact ⟨_, key _, .data ((RepI.ref vs hok hcell hrep).ref_drop _), by simp [AV.keys]⟩
  | ptr o i g =>
    cases hr
    obtain ⟨L, hL, rfl⟩ := hx.ptr_inv
    refine ⟨_, key _, ?_, by simp [AV.keys]⟩
    rw [add_mk, Nat.add_assoc]
    exact .ptr hL
  | _ => cases hr

theorem s_field {s : TypeId} {fs : Array Field} {f : Nat} {fd : Field} {cs : List AV} {r : AV} {v : Value} (hs : P.underlying s = some (.struct fs)) (hf : fs[f]? = some fd) (ht : okT P fd.type = true)
    (hx : Rep C ok w (.agg cs) v) (hr : (match loadN P fd.type with | none => cs[fd.offset]? | some n => if fd.offset + n ≤ cs.length then some (.agg ((cs.drop fd.offset).take n)) else none) = some r) :
    ∃ y, (Instr.field s v f).run P w = .ok y w ∧ Rep C ok w r y ∧ ∀ k ∈ r.keys, k ∈ AV.keysL cs := by
  obtain ⟨vs, rfl, hl, hv⟩ := hx.agg_inv
  simp only [Instr.field, Sem.run_bind, run_underlying hs, Result.andThen_ok, hf, asAgg, Sem.run_pure, part, run_isAgg ht]
  unfold loadN at hr
  cases hagg : isAggT P fd.type with
  | false =>
    rw [hagg] at hr
    simp only [Bool.false_eq_true, if_false] at hr ⊢
    have hlt : fd.offset < vs.size := by rw [← hl]; exact (List.getElem?_eq_some_iff.1 hr).1
    refine ⟨vs[fd.offset], by simp [hlt], hv _ _ _ hr (Array.getElem?_eq_getElem hlt), fun k hk => mem_keysL.2 ⟨_, _, hr, hk⟩⟩
  | true =>
    rw [hagg] at hr
    simp only [if_true, Option.ite_none_right_eq_some] at hr ⊢
    obtain ⟨hn, hr⟩ := hr
    cases hr
    have sub : ∀ (j : Nat) (u : AV), ((cs.drop fd.offset).take (P.cellsOf fd.type))[j]? = some u → j < P.cellsOf fd.type ∧ cs[fd.offset + j]? = some u := fun j u hj => by
      rw [List.getElem?_take] at hj
      split at hj
      · rw [List.getElem?_drop] at hj; exact ⟨by assumption, hj⟩
      · cases hj
    refine ⟨.agg (vs.extract fd.offset (fd.offset + P.cellsOf fd.type)), by simp [run_sizeOf ht], .agg (by simp; omega) (fun j u y hj hy => ?_), fun k hk => ?_⟩
    · obtain ⟨h1, h2⟩ := sub j u hj
      rw [Array.getElem?_extract] at hy
      split at hy
      · exact hv _ u y h2 hy
      · cases hy
    · obtain ⟨j, u, hj, hku⟩ := mem_keysL.1 hk
      exact mem_keysL.2 ⟨_, u, (sub j u hj).2, hku⟩

theorem run_indexAt_in {t e : TypeId} {ad : Addr} {len cap : Nat} {k : IntKind} {i : Int} (hu : P.underlying t = some (.slice e)) (ht : okT P e = true) (h0 : 0 ≤ i) (h1 : i < len) :
    (Instr.indexAt t (.slice (some ad) len cap) (.int k i)).run P w = .ok (.pointer (some (ad.add (i.toNat * P.cellsOf e)))) w := by
  simp [Instr.indexAt, asIntOf, run_underlying hu, h0, h1, run_sizeOf ht]

theorem s_iaddr_imm {t e : TypeId} {nl : Bool} {es : List (List AV)} {cs : List AV} {v : Value} {k : IntKind} {i : Int} (hu : P.underlying t = some (.slice e)) (ht : okT P e = true)
    (hx : Rep C ok w (.imm nl (P.cellsOf e) es) v) (hcs : es[i.toNat]? = some cs) (h0 : 0 ≤ i) :
    ∃ y, (Instr.indexAt t v (.int k i)).run P w = .ok y w ∧ Rep C ok w (.ref cs) y := by
  have hlt : i.toNat < es.length := (List.getElem?_eq_some_iff.1 hcs).1
  have h1 := hx.imm_inv
  cases h1 with
  | nils => simp at hlt
  | imm ad vs hn hc hA hsz hcell hrep =>
    obtain ⟨rfl, hok⟩ := hA (by rintro rfl; simp at hlt)
    subst hn
    refine ⟨_, run_indexAt_in hu ht h0 (by omega), .data (.ref (fun j => vs i.toNat j) (by rw [block_add]; exact hok) (fun j u hj => ?_) fun j u hj => hrep _ _ _ _ hcs hj)⟩
    rw [add_add]; exact hcell _ _ _ _ hcs hj

theorem s_iaddr_sl {F : Nat → Bool} {t e : TypeId} {o : Nat} {i0 len : Nat} {ob : Obj} {v : Value} {k : IntKind} {i : Int} (hu : P.underlying t = some (.slice e)) (ht : okT P e = true) (h : SimH B ok0 w0 C S.heap F w)
    (hx : Rep C ok w (.sl o i0 len) v) (hob : S.heap o = some ob) (hsz : ob.sz = P.cellsOf e) (h0 : 0 ≤ i) (h1 : i < len) :
    ∃ y, (Instr.indexAt t v (.int k i)).run P w = .ok y w ∧ Rep C ok w (.ptr o (i0 + i.toNat) 0) y := by
  rcases hx.sl_inv with ⟨L, c, hL, rfl, hn, hc⟩ | ⟨_, rfl, rfl, rfl⟩
  · refine ⟨_, run_indexAt_in hu ht h0 h1, ?_⟩
    have hp := (h.row o ob hob).place
    rw [hL] at hp
    rw [add_mk, ← hsz, ← hp.1, ← Nat.add_mul]
    exact .ptr hL
  · omega

theorem s_slice_imm {nl : Bool} {sz : Nat} {es : List (List AV)} {A : Option Addr} {n c : Nat} {l h m : Nat} (hx : RepI ok w (.imm nl sz es) (.slice A n c)) (h1 : l ≤ h) (h2 : h ≤ es.length) (h3 : h ≤ m) (h4 : m ≤ c) :
    RepI ok w (.imm nl sz ((es.take h).drop l)) (sliced A l h m sz) := by
  cases hx with
  | nils =>
    obtain rfl : m = 0 := by omega
    obtain rfl : h = 0 := by simp at h2; omega
    obtain rfl : l = 0 := by omega
    simpa [sliced] using RepI.nils (ok := ok) (w := w) sz
  | imm ad vs hn hc hA hsz hcell hrep =>
    have sub : ∀ (i : Nat) (cs : List AV), ((es.take h).drop l)[i]? = some cs → es[l + i]? = some cs := fun i cs hi => by
      rw [List.getElem?_drop, List.getElem?_take] at hi; split at hi <;> simp_all
    have hlen : ((es.take h).drop l).length = h - l := by simp; omega
    refine .imm (ad.add (l * sz)) (fun i j => vs (l + i) j) hlen.symm (by rw [hlen]; omega) (fun hne => ?_) (fun cs hcs => ?_) (fun i cs j u hi hj => ?_) (fun i cs j u hi hj => hrep _ cs j u (sub i cs hi) hj)
    · have hlt : l < h := by
        rcases Nat.lt_or_ge l h with g | g
        · exact g
        · exact absurd (List.eq_nil_of_length_eq_zero (by rw [hlen]; omega)) hne
      obtain ⟨rfl, hok⟩ := hA (by rintro rfl; simp at h2; omega)
      exact ⟨by rw [if_neg (by omega)]; rfl, by rw [block_add]; exact hok⟩
    · obtain ⟨i, hi⟩ := List.getElem?_of_mem hcs
      exact hsz cs (List.mem_of_getElem? (sub i cs hi))
    · rw [add_add, ← Nat.add_assoc, ← Nat.add_mul]
      exact hcell _ cs j u (sub i cs hi) hj

theorem run_slice_gen {t e : TypeId} {A : Option Addr} {n c : Nat} {lo hi mx : Option Value} {l h m : Nat} (hu : P.underlying t = some (.slice e)) (ht : okT P e = true)
    (hm : (mx = none ∧ m = c) ∨ ∃ k, mx = some (.int k m)) (hmc : m ≤ c) (hh : (hi = none ∧ mx = none ∧ h = n) ∨ ∃ k, hi = some (.int k h)) (hhm : h ≤ m) (hl : (lo = none ∧ l = 0) ∨ ∃ k, lo = some (.int k l)) (hlh : l ≤ h) :
    (Instr.sliceAt t (.slice A n c) lo hi mx).run P w = .ok (sliced A l h m (P.cellsOf e)) w := by
  have b1 : ∀ (k : IntKind) (i y : Nat) (code : BoundsCode), i ≤ y → (Instr.sliceBound (.int k i) y code).run P w = .ok i w := fun k i y code hi => by
    simp [Instr.sliceBound, asIntOf, hi]
  simp only [Instr.sliceAt, Sem.run_bind, run_underlying hu, Result.andThen_ok, Instr.slice, Instr.sliceBounds]
  rcases hm with ⟨rfl, rfl⟩ | ⟨k1, rfl⟩
  · rcases hh with ⟨rfl, _, rfl⟩ | ⟨k2, rfl⟩
    · rcases hl with ⟨rfl, rfl⟩ | ⟨k3, rfl⟩
      · simp [run_sizeOf ht, sliced]
      · simp [b1 k3 l h _ hlh, run_sizeOf ht, sliced]
    · rcases hl with ⟨rfl, rfl⟩ | ⟨k3, rfl⟩
      · simp [b1 k2 h m _ hhm, run_sizeOf ht, sliced]
      · simp [b1 k2 h m _ hhm, b1 k3 l h _ hlh, run_sizeOf ht, sliced]
  · rcases hh with ⟨_, hc, _⟩ | ⟨k2, rfl⟩
    · cases hc
    · rcases hl with ⟨rfl, rfl⟩ | ⟨k3, rfl⟩
      · simp [b1 k1 m c _ hmc, b1 k2 h m _ hhm, run_sizeOf ht, sliced]
      · simp [b1 k1 m c _ hmc, b1 k2 h m _ hhm, b1 k3 l h _ hlh, run_sizeOf ht, sliced]

/-! ### Deep readings: rows by value -/

theorem mapO_spec {α β : Type} {f : α → Option (β × List Nat)} : ∀ {l : List α} {l' : List β} {ks : List Nat}, mapO f l = some (l', ks) →
    l'.length = l.length ∧ ∀ (i : Nat) (x : α) (y : β), l[i]? = some x → l'[i]? = some y → ∃ ks', f x = some (y, ks') ∧ ∀ k ∈ ks', k ∈ ks
  | [], l', ks, h => by cases h; simp
  | x :: r, l', ks, h => by
    simp only [mapO] at h
    split at h
    · rename_i b ks1 hb
      split at h
      · rename_i bs ks2 hbs
        cases h
        obtain ⟨h1, h2⟩ := mapO_spec hbs
        refine ⟨by simp [h1], fun i y z hy hz => ?_⟩
        cases i with
        | zero => simp at hy hz; subst hy; subst hz; exact ⟨ks1, hb, fun k hk => by simp [hk]⟩
        | succ i =>
          obtain ⟨ks', h3, h4⟩ := h2 i y z (by simpa using hy) (by simpa using hz)
          exact ⟨ks', h3, fun k hk => by simp [h4 k hk]⟩
      · cases h
    · cases h

theorem noKeys {ok : Nat → Prop} {k : Nat} {o : Obj} (h : RowOk C ok w k o) (hr : o.refs = []) {c : List AV} (hc : c ∈ o.es) {j : Nat} {x : AV} (hj : c[j]? = some x) : x.keys = [] :=
  List.eq_nil_iff_forall_not_mem.2 fun k hk => by
    have := h.refs c hc k (mem_keysL.2 ⟨j, x, hj, hk⟩)
    rw [hr] at this
    simp at this

/-- What 'fz' gives is data, once the rows that it read are frozen. -/
theorem fz_rep {F : Nat → Bool} (h : SimH B ok0 w0 C S.heap F w) {ok' : Nat → Prop} (hsub : ∀ b, okb B ok0 C S.heap F w b → ok' b) :
    ∀ (d : Nat) (u : AV) (v : Value) (u' : AV) (ks : List Nat), fz S.heap d u = some (u', ks) → (∀ k ∈ ks, ∀ L, C k = some L → ok' L.block) → Rep C (okb B ok0 C S.heap F w) w u v → RepI ok' w u' v := by
  intro d
  induction d with
  | zero => intro u v u' ks hf; cases u <;> simp [fz] at hf
  | succ d ih =>
    intro u v u' ks hf hks hr
    have down : ∀ {u v}, RepI (okb B ok0 C S.heap F w) w u v → RepI ok' w u v := fun hh => hh.mono hsub fun _ _ => rfl
    cases u with
    | sl o i n =>
      simp only [fz] at hf
      split at hf
      · rename_i ob hob
        rw [Option.ite_none_right_eq_some] at hf
        obtain ⟨hin, hf⟩ := hf
        have hrow := h.row o ob hob
        have sub : ∀ (q : Nat) (c : List AV), ((ob.es.drop i).take n)[q]? = some c → ob.es[i + q]? = some c ∧ q < n := fun q c hq => by
          rw [List.getElem?_take] at hq
          split at hq
          · rw [List.getElem?_drop] at hq; exact ⟨hq, by assumption⟩
          · cases hq
        have hlen : ((ob.es.drop i).take n).length = n := by simp; omega
        rcases hr.sl_inv with ⟨L, c, hL, rfl, hn, hc⟩ | ⟨hC, rfl, rfl, rfl⟩
        · have hp := hrow.place
          rw [hL] at hp
          obtain ⟨p1, p2, cur, p3, p4, p5, p6, p7⟩ := hp
          have mk : ∀ (es : List (List AV)), es.length = n → (∀ c ∈ es, c.length = ob.sz) → ok' L.block →
              (∀ (q : Nat) (c : List AV) (j : Nat) (x : AV), es[q]? = some c → c[j]? = some x → ∃ y, cur[(i + q) * L.sz + j]? = some y ∧ RepI ok' w x y) → RepI ok' w (.imm false ob.sz es) (.slice (some ⟨L.block, i * L.sz, none⟩) n c) := by
            intro es he1 he2 hb he3
            refine .imm ⟨L.block, i * L.sz, none⟩ (fun q j => (cur[(i + q) * L.sz + j]?).getD undef) he1.symm (by omega) (fun _ => ⟨rfl, hb⟩) he2 (fun q c j x hq hj => ?_) (fun q c j x hq hj => ?_)
            · obtain ⟨y, hy, _⟩ := he3 q c j x hq hj
              rw [add_mk, cell_of_row w L.block _ cur L.ty (0, 0) p3, ← p1, ← Nat.add_assoc, ← Nat.add_mul, hy]
              rfl
            · obtain ⟨y, hy, hrr⟩ := he3 q c j x hq hj
              rw [hy]; exact hrr
          split at hf
          · rename_i hrefs
            cases hf
            refine mk _ hlen (fun c hc => ?_) (hks o (by simp) L hL) (fun q c j x hq hj => ?_)
            · obtain ⟨q, hq⟩ := List.getElem?_of_mem hc
              exact hrow.cells c (List.mem_of_getElem? (sub q c hq).1)
            · have hmem := List.mem_of_getElem? (sub q c hq).1
              obtain ⟨y, hy, hrr⟩ := p7 (i + q) c j x (sub q c hq).1 hj
              exact ⟨y, hy, down (hrr.toI (noKeys hrow hrefs hmem hj) (hrow.one c hmem x (List.mem_of_getElem? hj)))⟩
          · split at hf
            · rename_i es ks' hes
              cases hf
              obtain ⟨m1, m2⟩ := mapO_spec hes
              have get : ∀ (q : Nat) (c : List AV), es[q]? = some c → ∃ c0, ob.es[i + q]? = some c0 ∧ c.length = c0.length ∧ ∀ (j : Nat) (x : AV), c[j]? = some x → ∃ x0 kx, c0[j]? = some x0 ∧ fz S.heap d x0 = some (x, kx) ∧ ∀ k ∈ kx, k ∈ ks' := by
                intro q c hq
                have hlt : q < ((ob.es.drop i).take n).length := by rw [← m1]; exact (List.getElem?_eq_some_iff.1 hq).1
                obtain ⟨kc, g1, g2⟩ := m2 q _ c (List.getElem?_eq_getElem hlt) hq
                obtain ⟨g3, g4⟩ := mapO_spec g1
                refine ⟨_, (sub q _ (List.getElem?_eq_getElem hlt)).1, g3, fun j x hj => ?_⟩
                have hlt' : j < (((ob.es.drop i).take n)[q]).length := by rw [← g3]; exact (List.getElem?_eq_some_iff.1 hj).1
                obtain ⟨kx, g5, g6⟩ := g4 j _ x (List.getElem?_eq_getElem hlt') hj
                exact ⟨_, kx, List.getElem?_eq_getElem hlt', g5, fun k hk => g2 k (g6 k hk)⟩
              refine mk es (by rw [m1, hlen]) (fun c hc => ?_) (hks o (by simp) L hL) (fun q c j x hq hj => ?_)
              · obtain ⟨q, hq⟩ := List.getElem?_of_mem hc
                obtain ⟨c0, g1, g2, _⟩ := get q c hq
                rw [g2]; exact hrow.cells c0 (List.mem_of_getElem? g1)
              · obtain ⟨c0, g1, _, g3⟩ := get q c hq
                obtain ⟨x0, kx, g4, g5, g6⟩ := g3 j x hj
                obtain ⟨y, hy, hrr⟩ := p7 (i + q) c0 j x0 g1 g4
                exact ⟨y, hy, ih x0 y x kx g5 (fun k hk => hks k (by simp [g6 k hk])) hrr⟩
            · cases hf
        · have hz : ((ob.es.drop 0).take 0) = [] := by simp
          rw [hz] at hf
          have fin : RepI ok' w (.imm false ob.sz []) (.slice none 0 0) := .imm ⟨0, 0, none⟩ (fun _ _ => undef) rfl (by simp) (by simp) (by simp) (by simp) (by simp)
          split at hf
          · cases hf; exact fin
          · simp only [mapO] at hf; cases hf; exact fin
      · cases hf
    | ptr o i off =>
      simp only [fz] at hf
      split at hf
      · rename_i ob hob
        split at hf
        · rename_i cs hcs
          have hrow := h.row o ob hob
          obtain ⟨L, hL, rfl⟩ := hr.ptr_inv
          have hp := hrow.place
          rw [hL] at hp
          obtain ⟨p1, p2, cur, p3, p4, p5, p6, p7⟩ := hp
          have hmem := List.mem_of_getElem? hcs
          have mk : ∀ (c : List AV), ok' L.block → (∀ (j : Nat) (x : AV), c[j]? = some x → ∃ y, cur[i * L.sz + (off + j)]? = some y ∧ RepI ok' w x y) → RepI ok' w (.ref c) (.pointer (some ⟨L.block, i * L.sz + off, none⟩)) := by
            intro c hb hc
            refine .ref (fun j => (cur[i * L.sz + (off + j)]?).getD undef) hb (fun j x hj => ?_) (fun j x hj => ?_)
            · obtain ⟨y, hy, _⟩ := hc j x hj
              rw [add_mk, cell_of_row w L.block _ cur L.ty (0, 0) p3, Nat.add_assoc, hy]; rfl
            · obtain ⟨y, hy, hrr⟩ := hc j x hj
              rw [hy]; exact hrr
          split at hf
          · rename_i hrefs
            cases hf
            refine mk _ (hks o (by simp) L hL) (fun j x hj => ?_)
            rw [List.getElem?_drop] at hj
            obtain ⟨y, hy, hrr⟩ := p7 i cs (off + j) x hcs hj
            exact ⟨y, hy, down (hrr.toI (noKeys hrow hrefs hmem hj) (hrow.one cs hmem x (List.mem_of_getElem? hj)))⟩
          · split at hf
            · rename_i cs' ks' hcs'
              cases hf
              obtain ⟨m1, m2⟩ := mapO_spec hcs'
              refine mk _ (hks o (by simp) L hL) (fun j x hj => ?_)
              have hlt : j < (cs.drop off).length := by rw [← m1]; exact (List.getElem?_eq_some_iff.1 hj).1
              obtain ⟨kx, g1, g2⟩ := m2 j _ x (List.getElem?_eq_getElem hlt) hj
              have hg : cs[off + j]? = some (cs.drop off)[j] := by rw [← List.getElem?_drop]; exact List.getElem?_eq_getElem hlt
              obtain ⟨y, hy, hrr⟩ := p7 i cs (off + j) _ hcs hg
              exact ⟨y, hy, ih _ y x kx g1 (fun k hk => hks k (by simp [g2 k hk])) hrr⟩
            · cases hf
        · cases hf
      · cases hf
    | agg cs =>
      simp only [fz] at hf
      split at hf
      · rename_i cs' ks' hcs'
        cases hf
        obtain ⟨vs, rfl, hl, hv⟩ := hr.agg_inv
        obtain ⟨m1, m2⟩ := mapO_spec hcs'
        refine .agg (by rw [m1, hl]) (fun j x y hj hy => ?_)
        have hlt : j < cs.length := by rw [← m1]; exact (List.getElem?_eq_some_iff.1 hj).1
        obtain ⟨kx, g1, g2⟩ := m2 j _ x (List.getElem?_eq_getElem hlt) hj
        exact ih _ y x kx g1 (fun k hk => hks k (g2 k hk)) (hv j _ y (List.getElem?_eq_getElem hlt) hy)
      · cases hf
    | tup cs => simp [fz] at hf
    | fn f cs => simp [fz] at hf
    | undef => simp only [fz] at hf; cases hf; cases hr with | data hh => exact down hh
    | int k n => simp only [fz] at hf; cases hf; cases hr with | data hh => exact down hh
    | bool b => simp only [fz] at hf; cases hf; cases hr with | data hh => exact down hh
    | str s => simp only [fz] at hf; cases hf; cases hr with | data hh => exact down hh
    | nilp => simp only [fz] at hf; cases hf; cases hr with | data hh => exact down hh
    | imm nl sz es => simp only [fz] at hf; cases hf; cases hr with | data hh => exact down hh
    | ref cs => simp only [fz] at hf; cases hf; cases hr with | data hh => exact down hh
end
end Go.Ev
