/-
  Calls: a pure callee, by what it gives; len, max.
-/
import Derived.Test.YthlpmghodgiknaaEvW
namespace Go.Ev
open Go Go.RowKit

theorem rkL_eq (b : Nat) : ∀ cs : List AV, AV.rkL b cs = cs.map (AV.rk b)
  | [] => rfl
  | v :: vs => by simp only [AV.rkL, List.map_cons, rkL_eq b vs]

section
mutual
theorem rk_id (b : Nat) : ∀ u : AV, u.keys = [] → u.rk b = u
  | .agg cs, h => by simp only [AV.rk, rkL_id b cs h]
  | .tup cs, h => by simp only [AV.rk, rkL_id b cs h]
  | .fn f cs, h => by simp only [AV.rk, rkL_id b cs h]
  | .ptr _ _ _, h => by simp [AV.keys] at h
  | .sl _ _ _, h => by simp [AV.keys] at h
  | .undef, _ => rfl
  | .int _ _, _ => rfl
  | .bool _, _ => rfl
  | .str _, _ => rfl
  | .nilp, _ => rfl
  | .imm _ _ _, _ => rfl
  | .ref _, _ => rfl
theorem rkL_id (b : Nat) : ∀ cs : List AV, AV.keysL cs = [] → AV.rkL b cs = cs
  | [], _ => rfl
  | v :: vs, h => by
    simp only [AV.keysL, List.append_eq_nil_iff] at h
    simp only [AV.rkL, rk_id b v h.1, rkL_id b vs h.2]
end

mutual
theorem keys_rk (b : Nat) : ∀ u : AV, (u.rk b).keys = u.keys.map (b + ·)
  | .agg cs => by simp only [AV.rk, AV.keys, keysL_rk b cs]
  | .tup cs => by simp only [AV.rk, AV.keys, keysL_rk b cs]
  | .fn f cs => by simp only [AV.rk, AV.keys, keysL_rk b cs]
  | .ptr _ _ _ => rfl
  | .sl _ _ _ => rfl
  | .undef => rfl
  | .int _ _ => rfl
  | .bool _ => rfl
  | .str _ => rfl
  | .nilp => rfl
  | .imm _ _ _ => rfl
  | .ref _ => rfl
theorem keysL_rk (b : Nat) : ∀ cs : List AV, AV.keysL (AV.rkL b cs) = (AV.keysL cs).map (b + ·)
  | [] => rfl
  | v :: vs => by simp only [AV.rkL, AV.keysL, keys_rk b v, keysL_rk b vs, List.map_append]
end

theorem isCell_rk (b : Nat) (u : AV) : (u.rk b).isCell = u.isCell := by cases u <;> rfl
end

theorem Rep.rk {C C' : Conc} {ok : Nat → Prop} {w : World} {b : Nat} {u : AV} {v : Value} (h : Rep C ok w u v) : (∀ k ∈ u.keys, C' (b + k) = C k) → Rep C' ok w (u.rk b) v := by
  have sub : ∀ {cs : List AV} {vs : Array Value}, (∀ (j : Nat) (u : AV) (v : Value), cs[j]? = some u → vs[j]? = some v → (∀ k ∈ u.keys, C' (b + k) = C k) → Rep C' ok w (u.rk b) v) → (∀ k ∈ AV.keysL cs, C' (b + k) = C k) →
      ∀ (j : Nat) (u : AV) (v : Value), (AV.rkL b cs)[j]? = some u → vs[j]? = some v → Rep C' ok w u v := by
    intro cs vs ih hC j u v hj hv
    rw [rkL_eq, List.getElem?_map, Option.map_eq_some_iff] at hj
    obtain ⟨x, hx, rfl⟩ := hj
    exact ih j x v hx hv fun k hk => hC k (mem_keysL.2 ⟨j, x, hx, hk⟩)
  induction h with
  | data h => intro _; rw [rk_id b _ h.keys]; exact .data h
  | ptr h => exact fun hC => .ptr ((hC _ (by simp [AV.keys])).trans h)
  | sl h hn hc => exact fun hC => .sl ((hC _ (by simp [AV.keys])).trans h) hn hc
  | nilsl h => exact fun hC => .nilsl ((hC _ (by simp [AV.keys])).trans h)
  | agg hl _ ih => exact fun hC => .agg (by rw [rkL_eq]; simpa using hl) (sub ih (by simpa only [AV.keys] using hC))
  | tup hl _ ih => exact fun hC => .tup (by rw [rkL_eq]; simpa using hl) (sub ih (by simpa only [AV.keys] using hC))
  | fn hl _ ih => exact fun hC => .fn (by rw [rkL_eq]; simpa using hl) (sub ih (by simpa only [AV.keys] using hC))

section
variable {B : Nat} {ok0 : Nat → Prop} {w0 : World} {C C1 : Conc} {H : Nat → Option Obj} {F : Nat → Bool} {w w' : World}

def mergeC (b n : Nat) (C C1 : Conc) : Conc := fun k => if b ≤ k ∧ k < b + n then C1 (k - b) else C k
def mergeH (b : Nat) (H : Nat → Option Obj) (objs : List Obj) : Nat → Option Obj := fun k => if b ≤ k ∧ k < b + objs.length then (objs[k - b]?).map (Obj.rk b) else H k

theorem upsH_shift (b : Nat) : ∀ (objs : List Obj) (i : Nat) (H : Nat → Option Obj) (k : Nat), upsH H (shiftObjs b i objs) k = if b + i ≤ k ∧ k < b + i + objs.length then (objs[k - (b + i)]?).map (Obj.rk b) else H k
  | [], i, H, k => by rw [shiftObjs, upsH, if_neg (by simp only [List.length_nil]; omega)]
  | o :: os, i, H, k => by
    rw [shiftObjs, upsH, upsH_shift b os (i + 1)]
    by_cases e : k = b + i
    · subst e
      rw [if_neg (by omega), if_pos ⟨by omega, by simp⟩, setH_self]
      simp
    · by_cases c : b + (i + 1) ≤ k ∧ k < b + (i + 1) + os.length
      · rw [if_pos c, if_pos ⟨by omega, by simp only [List.length_cons]; omega⟩, show k - (b + i) = (k - (b + (i + 1))) + 1 by omega]
        simp
      · rw [if_neg c, if_neg (by simp only [List.length_cons]; omega), setH_ne _ _ e]

theorem freeKeys_spec (b : Nat) : ∀ (objs : List Obj) (i : Nat), freeKeys H (shiftObjs b i objs) = true → ∀ k, b + i ≤ k → k < b + i + objs.length → H k = none
  | [], i, _, k, h1, h2 => by simp at h2; omega
  | o :: os, i, h, k, h1, h2 => by
    simp only [shiftObjs, freeKeys, Bool.and_eq_true, Option.isNone_iff_eq_none] at h
    by_cases e : k = b + i
    · subst e; exact h.1
    · exact freeKeys_spec b os (i + 1) h.2 k (by omega) (by simp only [List.length_cons] at h2; omega)

/-- The rows that a callee made join those of the caller. -/
theorem SimH.merge (h : SimH B ok0 w0 C H F w) {objs : List Obj} {b : Nat} (hfree : ∀ k, b ≤ k → k < b + objs.length → H k = none)
    (h1 : SimH w.heap.size (upto (okb B ok0 C H F w) w) w C1 (heapOf objs) (fun _ => false) w') :
    SimH B ok0 w0 (mergeC b objs.length C C1) (mergeH b H objs) F w' ∧
      (∀ x, okb B ok0 C H F w x → okb B ok0 (mergeC b objs.length C C1) (mergeH b H objs) F w' x) ∧
      (∀ x, okb w.heap.size (upto (okb B ok0 C H F w) w) C1 (heapOf objs) (fun _ => false) w' x → okb B ok0 (mergeC b objs.length C C1) (mergeH b H objs) F w' x) ∧
      (∀ x, okb B ok0 C H F w x → w'.heap[x]? = w.heap[x]?) := by
  have hsize := h1.below.size
  have hlow : ∀ x, x < w.heap.size → w'.heap[x]? = w.heap[x]? := h1.below.block
  have new : ∀ k, b ≤ k ∧ k < b + objs.length → mergeC b objs.length C C1 k = C1 (k - b) ∧ mergeH b H objs k = (objs[k - b]?).map (Obj.rk b) := fun k hk => ⟨by simp [mergeC, hk], by simp [mergeH, hk]⟩
  have old : ∀ k, ¬ (b ≤ k ∧ k < b + objs.length) → mergeC b objs.length C C1 k = C k ∧ mergeH b H objs k = H k := fun k hk => ⟨by simp [mergeC, hk], by simp [mergeH, hk]⟩
  have notnew : ∀ k, H k ≠ none → ¬ (b ≤ k ∧ k < b + objs.length) := fun k hk hc => hk (hfree k hc.1 hc.2)
  have getN : ∀ k o, b ≤ k ∧ k < b + objs.length → mergeH b H objs k = some o → ∃ o1, heapOf objs (k - b) = some o1 ∧ o = o1.rk b := fun k o hk ho => by
    rw [(new k hk).2, Option.map_eq_some_iff] at ho
    obtain ⟨o1, h2, h3⟩ := ho
    exact ⟨o1, h2, h3.symm⟩
  have okA : ∀ x, okb B ok0 C H F w x → okb B ok0 (mergeC b objs.length C C1) (mergeH b H objs) F w' x := by
    intro x hx
    refine ⟨Nat.lt_of_lt_of_le hx.1 hsize, hx.2.1, fun k o L g1 g2 g3 => ?_⟩
    by_cases hk : b ≤ k ∧ k < b + objs.length
    · obtain ⟨o1, h2, _⟩ := getN k o hk g1
      rw [(new k hk).1] at g3
      have := h1.blk _ o1 L h2 g3
      have := hx.1
      omega
    · rw [(old k hk).2] at g1; rw [(old k hk).1] at g3
      exact hx.2.2 k o L g1 g2 g3
  have okB : ∀ x, okb w.heap.size (upto (okb B ok0 C H F w) w) C1 (heapOf objs) (fun _ => false) w' x → okb B ok0 (mergeC b objs.length C C1) (mergeH b H objs) F w' x := by
    intro x hx
    refine ⟨hx.1, ?_, fun k o L g1 g2 g3 => ?_⟩
    · rcases Nat.lt_or_ge x w.heap.size with lt | ge
      · exact (hx.2.1 lt).2.1
      · exact h.up x ge
    by_cases hk : b ≤ k ∧ k < b + objs.length
    · obtain ⟨o1, h2, _⟩ := getN k o hk g1
      rw [(new k hk).1] at g3
      exact hx.2.2 _ o1 L h2 rfl g3
    · rw [(old k hk).2] at g1; rw [(old k hk).1] at g3
      rcases Nat.lt_or_ge x w.heap.size with lt | ge
      · exact (hx.2.1 lt).2.2 k o L g1 g2 g3
      · have := h.lt g1 g3
        omega
  refine ⟨⟨h.below.trans (h1.below.mono h.base), Nat.le_trans h.base hsize, fun k o hk => ?_, fun k o L g1 g2 => ?_, fun k k' o o' L L' g1 g2 g3 g4 g5 => ?_, fun k o x g1 g2 => ?_, fun x hx => h.up x (Nat.le_trans hsize hx), fun k o L g1 g2 => ?_, fun x hx hn => (hlow x (Nat.lt_of_lt_of_le hx h.below.size)).trans (h.keep x hx hn)⟩, okA, okB, fun x hx => hlow x hx.1⟩
  · by_cases hn : b ≤ k ∧ k < b + objs.length
    · obtain ⟨o1, h2, rfl⟩ := getN k o hn hk
      have hr := h1.row _ o1 h2
      have hC : ∀ x ∈ o1.refs, mergeC b objs.length C C1 (b + x) = C1 x := fun x hx => by
        have := h1.wf _ o1 x h2 hx
        have hlt : x < objs.length := by
          rcases Nat.lt_or_ge x objs.length with lt | ge
          · exact lt
          · exact absurd (by simp [heapOf, List.getElem?_eq_none ge]) this
        rw [(new (b + x) ⟨by omega, by omega⟩).1]
        congr 1
        omega
      unfold Obj.rk
      split
      · rename_i hrefs
        refine ⟨hr.cells, hr.one, hr.refs, ?_⟩
        have hp := hr.place
        rw [(new k hn).1]
        cases hL : C1 (k - b) with
        | none => rw [hL] at hp; exact hp
        | some L =>
          rw [hL] at hp
          obtain ⟨p1, p2, cur, p3, p4, p5, p6, p7⟩ := hp
          refine ⟨p1, p2, cur, p3, p4, p5, p6, fun i cs j u hi hj => ?_⟩
          obtain ⟨v, g1, g2⟩ := p7 i cs j u hi hj
          have hk := noKeys hr hrefs (List.mem_of_getElem? hi) hj
          exact ⟨v, g1, g2.mono okB (fun _ _ => rfl) (by rw [hk]; simp)⟩
      · refine ⟨fun cs hcs => ?_, fun cs hcs u hu => ?_, fun cs hcs x hx => ?_, ?_⟩
        · obtain ⟨c0, hc0, rfl⟩ := List.mem_map.1 hcs
          rw [rkL_eq, List.length_map]; exact hr.cells c0 hc0
        · obtain ⟨c0, hc0, rfl⟩ := List.mem_map.1 hcs
          rw [rkL_eq] at hu
          obtain ⟨u0, hu0, rfl⟩ := List.mem_map.1 hu
          rcases hr.one c0 hc0 u0 hu0 with h3 | rfl
          · exact .inl (by rw [isCell_rk]; exact h3)
          · exact .inr rfl
        · obtain ⟨c0, hc0, rfl⟩ := List.mem_map.1 hcs
          rw [keysL_rk] at hx
          obtain ⟨x0, hx0, rfl⟩ := List.mem_map.1 hx
          exact List.mem_map.2 ⟨x0, hr.refs c0 hc0 x0 hx0, rfl⟩
        · have hp := hr.place
          rw [(new k hn).1]
          cases hL : C1 (k - b) with
          | none => rw [hL] at hp; simp only at hp ⊢; rw [hp]; rfl
          | some L =>
            rw [hL] at hp
            obtain ⟨p1, p2, cur, p3, p4, p5, p6, p7⟩ := hp
            refine ⟨p1, p2, cur, p3, p4, by simpa using p5, p6, fun i cs j u hi hj => ?_⟩
            rw [List.getElem?_map, Option.map_eq_some_iff] at hi
            obtain ⟨c0, hc0, rfl⟩ := hi
            rw [rkL_eq, List.getElem?_map, Option.map_eq_some_iff] at hj
            obtain ⟨u0, hu0, rfl⟩ := hj
            obtain ⟨v, g1, g2⟩ := p7 i c0 j u0 hc0 hu0
            refine ⟨v, g1, (g2.rk (C' := mergeC b objs.length C C1) (b := b) fun x hx => hC x (hr.refs c0 (List.mem_of_getElem? hc0) x (mem_keysL.2 ⟨j, u0, hu0, hx⟩))).mono okB (fun _ _ => rfl) (fun _ _ => rfl)⟩
    · rw [(old k hn).2] at hk
      refine (h.row k o hk).mono okA (fun x hx => hlow x hx.1) (old k hn).1 (fun x hx => (old x (notnew x (h.wf k o x hk hx))).1) fun L hL => hlow _ (h.lt hk hL)
  · by_cases hn : b ≤ k ∧ k < b + objs.length
    · obtain ⟨o1, h2, _⟩ := getN k o hn g1
      rw [(new k hn).1] at g2
      exact Nat.le_trans h.base (h1.blk _ o1 L h2 g2)
    · rw [(old k hn).2] at g1; rw [(old k hn).1] at g2; exact h.blk k o L g1 g2
  · by_cases hn : b ≤ k ∧ k < b + objs.length <;> by_cases hn' : b ≤ k' ∧ k' < b + objs.length
    · obtain ⟨o1, h2, _⟩ := getN k o hn g1
      obtain ⟨o2, h3, _⟩ := getN k' o' hn' g2
      rw [(new k hn).1] at g3; rw [(new k' hn').1] at g4
      have := h1.inj _ _ o1 o2 L L' h2 h3 g3 g4 g5
      omega
    · obtain ⟨o1, h2, _⟩ := getN k o hn g1
      rw [(new k hn).1] at g3; rw [(old k' hn').1] at g4; rw [(old k' hn').2] at g2
      have := h1.blk _ o1 L h2 g3
      have := h.lt g2 g4
      omega
    · obtain ⟨o2, h3, _⟩ := getN k' o' hn' g2
      rw [(old k hn).1] at g3; rw [(new k' hn').1] at g4; rw [(old k hn).2] at g1
      have := h1.blk _ o2 L' h3 g4
      have := h.lt g1 g3
      omega
    · rw [(old k hn).1] at g3; rw [(old k' hn').1] at g4; rw [(old k hn).2] at g1; rw [(old k' hn').2] at g2
      exact h.inj k k' o o' L L' g1 g2 g3 g4 g5
  · by_cases hn : b ≤ k ∧ k < b + objs.length
    · obtain ⟨o1, h2, rfl⟩ := getN k o hn g1
      unfold Obj.rk at g2
      split at g2
      · rename_i hr; rw [hr] at g2; simp at g2
      · obtain ⟨x0, hx0, rfl⟩ := List.mem_map.1 g2
        have hd := h1.wf _ o1 x0 h2 hx0
        have hlt : x0 < objs.length := by
          rcases Nat.lt_or_ge x0 objs.length with lt | ge
          · exact lt
          · exact absurd (by simp [heapOf, List.getElem?_eq_none ge]) hd
        rw [(new (b + x0) ⟨by omega, by omega⟩).2]
        simp [hlt]
    · rw [(old k hn).2] at g1
      have := h.wf k o x g1 g2
      rw [(old x (notnew x this)).2]
      exact this
  · by_cases hn : b ≤ k ∧ k < b + objs.length
    · obtain ⟨o1, h2, _⟩ := getN k o hn g1
      rw [(new k hn).1] at g2
      exact h.up _ (h1.blk _ o1 L h2 g2)
    · rw [(old k hn).2] at g1; rw [(old k hn).1] at g2; exact h.okrow k o L g1 g2

end
end Go.Ev
