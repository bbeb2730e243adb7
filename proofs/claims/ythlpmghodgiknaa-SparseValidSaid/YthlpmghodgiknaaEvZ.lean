/-
  Append, and calls that are evaluated in place; one step of the evaluation.
-/
import Derived.Test.YthlpmghodgiknaaEvX
import Derived.Maps.AppendAt
namespace Go.Ev
open Go Go.RowKit

theorem aget_aput {α : Type} (dflt : α) (v : α) (t : Nat) : ∀ (l : List (Nat × α)) (x : Nat), aget dflt (aput l t v) x = if t = x then v else aget dflt l x
  | [], x => by simp [aput, aget]
  | (k, u) :: r, x => by
    simp only [aput]
    by_cases e : k = t
    · subst e; simp only [if_true, aget]; split <;> rfl
    · rw [if_neg e]
      simp only [aget, aget_aput dflt v t r x]
      by_cases e1 : k = x
      · subst e1; simp [Ne.symm e]
      · simp [e1]

theorem afind_aput {α : Type} (v : α) (t : Nat) : ∀ (l : List (Nat × α)) (x : Nat), afind (aput l t v) x = if t = x then some v else afind l x
  | [], x => by simp [aput, afind]
  | (k, u) :: r, x => by
    simp only [aput]
    by_cases e : k = t
    · subst e; simp only [if_true, afind]; split <;> rfl
    · rw [if_neg e]
      simp only [afind, afind_aput v t r x]
      by_cases e1 : k = x
      · subst e1; simp [Ne.symm e]
      · simp [e1]

theorem den_putD (s : SL) (d : Option Nat) (v : AV) : aget .undef (putD s.slots d v) = fun t => if d = some t then v else aget .undef s.slots t := by
  funext t
  cases d with
  | none => simp [putD]
  | some x => simp [putD, aget_aput]

theorem den_putUps : ∀ (ups : List (Nat × Obj)) (heap : List (Nat × Obj)), afind (putUps heap ups) = upsH (afind heap) ups
  | [], _ => rfl
  | (k, o) :: r, heap => by
    rw [putUps, den_putUps r, upsH]
    congr 1
    funext x
    rw [afind_aput]
    simp [setH, eq_comm]

theorem den_apply (s : SL) (d : Option Nat) (e : Eff) : (s.apply d e).den = s.den.app d e := by
  simp only [SL.apply, SL.den, St.app, den_putD, den_putUps]
  congr 1
  funext k
  simp

theorem mem_newKeys {k : Nat} : ∀ (ups : List (Nat × Obj)) (heap : List (Nat × Obj)) (own : List Nat), k ∈ newKeys heap own ups → k ∈ own ∨ afind heap k = none
  | [], _, _, h => .inl h
  | (x, o) :: r, heap, own, h => by
    simp only [newKeys] at h
    split at h
    · rename_i hx
      rcases List.mem_cons.1 h with rfl | h
      · exact .inr hx
      · exact mem_newKeys r heap own h
    · exact mem_newKeys r heap own h

/-! ### What is forgotten -/

theorem scrubL_eq (ks : List Nat) : ∀ cs : List AV, AV.scrubL ks cs = cs.map (AV.scrub ks)
  | [] => rfl
  | v :: vs => by simp only [AV.scrubL, List.map_cons, scrubL_eq ks vs]

section
mutual
theorem keys_scrub (ks : List Nat) : ∀ (u : AV) (k : Nat), k ∈ (u.scrub ks).keys → k ∈ u.keys ∧ k ∉ ks
  | .agg cs, k, h => by simp only [AV.scrub, AV.keys] at h ⊢; exact keysL_scrub ks cs k h
  | .tup cs, k, h => by simp only [AV.scrub, AV.keys] at h ⊢; exact keysL_scrub ks cs k h
  | .fn f cs, k, h => by simp only [AV.scrub, AV.keys] at h ⊢; exact keysL_scrub ks cs k h
  | .ptr o i off, k, h => by
    simp only [AV.scrub] at h
    split at h
    · simp [AV.keys] at h
    · rename_i hc; simp only [AV.keys, List.mem_singleton] at h ⊢; subst h; exact ⟨rfl, by simpa using hc⟩
  | .sl o i n, k, h => by
    simp only [AV.scrub] at h
    split at h
    · simp [AV.keys] at h
    · rename_i hc; simp only [AV.keys, List.mem_singleton] at h ⊢; subst h; exact ⟨rfl, by simpa using hc⟩
  | .undef, k, h => by simp [AV.scrub, AV.keys] at h
  | .int _ _, k, h => by simp [AV.scrub, AV.keys] at h
  | .bool _, k, h => by simp [AV.scrub, AV.keys] at h
  | .str _, k, h => by simp [AV.scrub, AV.keys] at h
  | .nilp, k, h => by simp [AV.scrub, AV.keys] at h
  | .imm _ _ _, k, h => by simp [AV.scrub, AV.keys] at h
  | .ref _, k, h => by simp [AV.scrub, AV.keys] at h
theorem keysL_scrub (ks : List Nat) : ∀ (cs : List AV) (k : Nat), k ∈ AV.keysL (AV.scrubL ks cs) → k ∈ AV.keysL cs ∧ k ∉ ks
  | [], k, h => by simp [AV.scrubL, AV.keysL] at h
  | v :: vs, k, h => by
    simp only [AV.scrubL, AV.keysL, List.mem_append] at h ⊢
    rcases h with h | h
    · exact ⟨.inl (keys_scrub ks v k h).1, (keys_scrub ks v k h).2⟩
    · exact ⟨.inr (keysL_scrub ks vs k h).1, (keysL_scrub ks vs k h).2⟩
end
end

theorem RepI.scrub_id {ok : Nat → Prop} {w : World} {ks : List Nat} {u : AV} {v : Value} (h : RepI ok w u v) : u.scrub ks = u := by
  induction h with
  | agg hl hrep ih =>
    rename_i cs vs
    simp only [AV.scrub, scrubL_eq]
    congr 1
    refine List.ext_getElem? fun j => ?_
    rw [List.getElem?_map]
    cases hj : cs[j]? with
    | none => rfl
    | some x =>
      have hlt : j < vs.size := by rw [← hl]; exact (List.getElem?_eq_some_iff.1 hj).1
      rw [Option.map_some, ih j x vs[j] hj (Array.getElem?_eq_getElem hlt)]
  | _ => rfl

theorem Rep.scrub {C C' : Conc} {ok ok' : Nat → Prop} {w w' : World} {ks : List Nat} (hok : ∀ b, ok b → ok' b) (hw : ∀ b, ok b → w'.heap[b]? = w.heap[b]?) {u : AV} {v : Value} (h : Rep C ok w u v) :
    (∀ k ∈ u.keys, k ∉ ks → C' k = C k) → Rep C' ok' w' (u.scrub ks) v := by
  have sub : ∀ {cs : List AV} {vs : Array Value}, (∀ (j : Nat) (u : AV) (v : Value), cs[j]? = some u → vs[j]? = some v → (∀ k ∈ u.keys, k ∉ ks → C' k = C k) → Rep C' ok' w' (u.scrub ks) v) → (∀ k ∈ AV.keysL cs, k ∉ ks → C' k = C k) →
      ∀ (j : Nat) (u : AV) (v : Value), (AV.scrubL ks cs)[j]? = some u → vs[j]? = some v → Rep C' ok' w' u v := by
    intro cs vs ih hC j u v hj hv
    rw [scrubL_eq, List.getElem?_map, Option.map_eq_some_iff] at hj
    obtain ⟨x, hx, rfl⟩ := hj
    exact ih j x v hx hv fun k hk => hC k (mem_keysL.2 ⟨j, x, hx, hk⟩)
  induction h with
  | data h =>
    intro _
    rw [h.scrub_id]
    exact .data (h.mono hok hw)
  | ptr h =>
    intro hC
    simp only [AV.scrub]
    split
    · exact .data (.undef _)
    · rename_i hc; exact .ptr ((hC _ (by simp [AV.keys]) (by simpa using hc)).trans h)
  | sl h hn hc =>
    intro hC
    simp only [AV.scrub]
    split
    · exact .data (.undef _)
    · rename_i hc'; exact .sl ((hC _ (by simp [AV.keys]) (by simpa using hc')).trans h) hn hc
  | nilsl h =>
    intro hC
    simp only [AV.scrub]
    split
    · exact .data (.undef _)
    · rename_i hc'; exact .nilsl ((hC _ (by simp [AV.keys]) (by simpa using hc')).trans h)
  | agg hl _ ih => exact fun hC => .agg (by rw [scrubL_eq]; simpa using hl) (sub ih (by simpa only [AV.keys] using hC))
  | tup hl _ ih => exact fun hC => .tup (by rw [scrubL_eq]; simpa using hl) (sub ih (by simpa only [AV.keys] using hC))
  | fn hl _ ih => exact fun hC => .fn (by rw [scrubL_eq]; simpa using hl) (sub ih (by simpa only [AV.keys] using hC))

theorem aget_scrub (ks : List Nat) : ∀ (l : List (Nat × AV)) (t : Nat), aget .undef (scrubSlots ks l) t = (aget .undef l t).scrub ks
  | [], t => rfl
  | (x, v) :: r, t => by
    simp only [scrubSlots, aget]
    split
    · rfl
    · exact aget_scrub ks r t

theorem isCell_scrub (ks : List Nat) (u : AV) (h : u.isCell = true ∨ u = .undef) : (u.scrub ks).isCell = true ∨ u.scrub ks = .undef := by
  rcases h with h | rfl
  · cases u <;> first | exact .inl rfl | (simp only [AV.scrub]; split <;> first | exact .inr rfl | exact .inl rfl) | simp [AV.isCell] at h
  · exact .inr rfl

def scrubO (ks : List Nat) (o : Obj) : Obj := if o.refs.any ks.contains = true then { o with es := o.es.map (AV.scrubL ks), refs := o.refs.filter fun x => !ks.contains x } else o

theorem afind_scrubHeap (ks : List Nat) : ∀ (l : List (Nat × Obj)) (k : Nat), afind (scrubHeap ks l) k = (afind l k).map (scrubO ks)
  | [], k => rfl
  | (x, o) :: r, k => by
    simp only [scrubHeap, afind]
    split
    · rfl
    · exact afind_scrubHeap ks r k

/-- A row whose cells forget some rows. -/
theorem RowOk.scrub {C C' : Conc} {ok ok' : Nat → Prop} {w w' : World} {ks : List Nat} {k : Nat} {o : Obj} (h : RowOk C ok w k o) (hok : ∀ b, ok b → ok' b) (hw : ∀ b, ok b → w'.heap[b]? = w.heap[b]?)
    (hk : C' k = C k) (hC : ∀ x ∈ o.refs, x ∉ ks → C' x = C x) (hb : ∀ L, C k = some L → w'.heap[L.block]? = w.heap[L.block]?) : RowOk C' ok' w' k (scrubO ks o) := by
  unfold scrubO
  split
  · refine ⟨fun cs hcs => ?_, fun cs hcs u hu => ?_, fun cs hcs x hx => ?_, ?_⟩
    · obtain ⟨c0, hc0, rfl⟩ := List.mem_map.1 hcs
      rw [scrubL_eq, List.length_map]; exact h.cells c0 hc0
    · obtain ⟨c0, hc0, rfl⟩ := List.mem_map.1 hcs
      rw [scrubL_eq] at hu
      obtain ⟨u0, hu0, rfl⟩ := List.mem_map.1 hu
      exact isCell_scrub ks u0 (h.one c0 hc0 u0 hu0)
    · obtain ⟨c0, hc0, rfl⟩ := List.mem_map.1 hcs
      obtain ⟨g1, g2⟩ := keysL_scrub ks c0 x hx
      exact List.mem_filter.2 ⟨h.refs c0 hc0 x g1, by simpa using g2⟩
    · have hp := h.place
      rw [hk]
      cases hL : C k with
      | none => rw [hL] at hp; simp only at hp ⊢; rw [hp]; rfl
      | some L =>
        rw [hL] at hp
        obtain ⟨p1, p2, cur, p3, p4, p5, p6, p7⟩ := hp
        refine ⟨p1, p2, cur, (hb L hL).trans p3, p4, by simpa using p5, p6, fun i cs j u hi hj => ?_⟩
        rw [List.getElem?_map, Option.map_eq_some_iff] at hi
        obtain ⟨c0, hc0, rfl⟩ := hi
        rw [scrubL_eq, List.getElem?_map, Option.map_eq_some_iff] at hj
        obtain ⟨u0, hu0, rfl⟩ := hj
        obtain ⟨v, g1, g2⟩ := p7 i c0 j u0 hc0 hu0
        exact ⟨v, g1, g2.scrub hok hw fun x hx => hC x (h.refs c0 (List.mem_of_getElem? hc0) x (mem_keysL.2 ⟨j, u0, hu0, hx⟩))⟩
  · rename_i hany
    refine h.mono hok hw hk (fun x hx => hC x hx fun hxk => hany ?_) hb
    exact List.any_eq_true.2 ⟨x, hx, by simpa using hxk⟩

theorem scrubO_refs {ks : List Nat} {o : Obj} {x : Nat} (h : x ∈ (scrubO ks o).refs) : x ∈ o.refs ∧ x ∉ ks := by
  unfold scrubO at h
  split at h
  · have := List.mem_filter.1 h; exact ⟨this.1, by simpa using this.2⟩
  · rename_i hany
    exact ⟨h, fun hx => hany (List.any_eq_true.2 ⟨x, h, by simpa using hx⟩)⟩

end Go.Ev
