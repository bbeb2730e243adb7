/-
  From the reading of arguments to abstract values; a law's row.
-/
import Derived.Test.YthlpmghodgiknaaEvH
import Derived.ChangeArms
import Derived.OpenShut
import Derived.Deep.Slices
import Derived.WalkKit
import Derived.ProofKit
import Derived.ChangeOld
import Derived.SizedLaws
namespace Go.Ev
open Go Go.RowKit Go.WideShapes Go.ChangeShapes

/-- The shapes of cells. -/
inductive CT where
  | bool
  | int (k : IntKind)
  | str
  | sl (l : List CT)

inductive Fit : CT → AV → Prop where
  | bool (b : Bool) : Fit .bool (.bool b)
  | int {k : IntKind} {n : Int} (h : (Lit.int k n).wf = true) : Fit (.int k) (.int k n)
  | str {s : ByteArray} (h : s.size ≤ 140737488355328) : Fit .str (.str s)
  | sl {l : List CT} {nl : Bool} {es : List (List AV)} (hl : es.length ≤ 140737488355328) (hn : nl = true → es = []) (hc : ∀ cs ∈ es, cs.length = l.length)
      (h : ∀ cs ∈ es, ∀ (j : Nat) (t : CT) (u : AV), l[j]? = some t → cs[j]? = some u → Fit t u) : Fit (.sl l) (.imm nl l.length es)

/-- The cells of a type. -/
def tys (P : Program) : Nat → TypeId → Option (List CT)
  | 0, _ => none
  | d + 1, t =>
    match P.underlying t with
    | some .bool => if P.cellsOf t = 1 then some [.bool] else none
    | some (.int k) => if P.cellsOf t = 1 then some [.int k] else none
    | some .string => if P.cellsOf t = 1 then some [.str] else none
    | some (.slice e) =>
      match tys P d e with
      | some l => if P.cellsOf t = 1 ∧ P.cellsOf e = l.length ∧ 0 < l.length ∧ 1 ≤ P.bytesOf e then some [.sl l] else none
      | none => none
    | some (.struct fs) =>
      match fs.foldl (fun acc f => match acc, tys P d f.type with | some a, some b => if f.offset = a.length ∧ P.cellsOf f.type = b.length then some (a ++ b) else none | _, _ => none) (some []) with
      | some l => if P.cellsOf t = l.length then some l else none
      | none => none
    | some (.array n e) =>
      match tys P d e with
      | some l => if P.cellsOf t = n * l.length ∧ P.cellsOf e = l.length then some (List.replicate n l).flatten else none
      | none => none
    | _ => none

theorem tys_len {P : Program} : ∀ {d : Nat} {t : TypeId} {l : List CT}, tys P d t = some l → P.cellsOf t = l.length := by
  intro d
  cases d with
  | zero => intro t l h; cases h
  | succ d =>
    intro t l h
    unfold tys at h
    split at h
    · split at h <;> cases h; assumption
    · split at h <;> cases h; assumption
    · split at h <;> cases h; assumption
    · split at h
      · split at h
        · rename_i h1; cases h; exact h1.1
        · cases h
      · cases h
    · split at h
      · split at h
        · cases h; assumption
        · cases h
      · cases h
    · split at h
      · split at h
        · rename_i h1
          cases h
          rw [h1.1]; simp
        · cases h
      · cases h
    · cases h

/-- What a list of cells reads as. -/
def ReadsAs (w : World) (l : List CT) (cs : List Value) : Prop :=
  cs.length = l.length ∧ ∃ us : List AV, us.length = cs.length ∧ (∀ (j : Nat) (u : AV) (v : Value), us[j]? = some u → cs[j]? = some v → RepI (· < w.heap.size) w u v) ∧
    ∀ (j : Nat) (t : CT) (u : AV), l[j]? = some t → us[j]? = some u → Fit t u

theorem readsAs_one {w : World} {t : CT} {v : Value} {u : AV} (h : RepI (· < w.heap.size) w u v) (hf : Fit t u) : ReadsAs w [t] [v] := by
  refine ⟨rfl, [u], rfl, ?_, ?_⟩
  · intro j u' v' h1 h2
    cases j with
    | zero => simp at h1 h2; subst h1; subst h2; exact h
    | succ j => simp at h1
  · intro j t' u' h1 h2
    cases j with
    | zero => simp at h1 h2; subst h1; subst h2; exact hf
    | succ j => simp at h1

theorem readsAs_append {w : World} {l1 l2 : List CT} {c1 c2 : List Value} (h1 : ReadsAs w l1 c1) (h2 : ReadsAs w l2 c2) : ReadsAs w (l1 ++ l2) (c1 ++ c2) := by
  obtain ⟨a1, u1, a2, a3, a4⟩ := h1
  obtain ⟨b1, u2, b2, b3, b4⟩ := h2
  refine ⟨by simp [a1, b1], u1 ++ u2, by simp [a2, b2], ?_, ?_⟩
  · intro j u v hu hv
    rcases Nat.lt_or_ge j u1.length with lt | ge
    · rw [List.getElem?_append_left lt] at hu
      rw [List.getElem?_append_left (by omega)] at hv
      exact a3 j u v hu hv
    · rw [List.getElem?_append_right ge] at hu
      rw [List.getElem?_append_right (by omega), ← a2] at hv
      exact b3 _ u v hu hv
  · intro j t u ht hu
    rcases Nat.lt_or_ge j u1.length with lt | ge
    · rw [List.getElem?_append_left lt] at hu
      rw [List.getElem?_append_left (by omega)] at ht
      exact a4 j t u ht hu
    · rw [List.getElem?_append_right ge] at hu
      rw [List.getElem?_append_right (by omega), show l1.length = u1.length by omega] at ht
      exact b4 _ t u ht hu

theorem readsAs_nil {w : World} : ReadsAs w [] [] := ⟨rfl, [], rfl, by intro j u v h; simp at h, by intro j t u h; simp at h⟩

section
variable {H : Type} {enc : TypeId × Value → H} {P : Program} {w : World} {spare : Nat → Bool} {held : Bool}

theorem cell_lt {a : Addr} {v : Value} (h : w.cell? a = some v) : a.block < w.heap.size := by
  unfold World.cell? at h
  rcases Nat.lt_or_ge a.block w.heap.size with lt | ge
  · exact lt
  · rw [Array.getElem?_eq_none ge] at h; simp at h

theorem fields_read {d : Nat} (ih : ∀ (t : TypeId) (cs : List Value) (l : List CT) (fuel : Nat) (x : DataW H × List MemPlace), tys P d t = some l → (∀ n ∈ x.1.weights P t, n ≤ reachBytes) → DataW.trod enc P w 0 spare held fuel t cs = some x → ReadsAs w l cs) {fuel : Nat} :
    ∀ (fs : List Field) (cs : List Value) (a l : List CT), ReadsAs w a (cs.take a.length) → (∀ f ∈ fs, ∃ x, DataW.trod enc P w 0 spare held fuel f.type ((cs.drop f.offset).take (P.cellsOf f.type)) = some x ∧ ∀ n ∈ x.1.weights P f.type, n ≤ reachBytes) →
      fs.foldl (fun acc f => match acc, tys P d f.type with | some a, some b => if f.offset = a.length ∧ P.cellsOf f.type = b.length then some (a ++ b) else none | _, _ => none) (some a) = some l → ReadsAs w l (cs.take l.length) := by
  intro fs
  induction fs with
  | nil => intro cs a l h _ he; simp at he; subst he; exact h
  | cons f fs ihf =>
    intro cs a l h hf he
    rw [List.foldl_cons] at he
    have none_fold : ∀ fs : List Field, fs.foldl (fun acc f => match acc, tys P d f.type with | some a, some b => if f.offset = a.length ∧ P.cellsOf f.type = b.length then some (a ++ b) else none | _, _ => none) (none : Option (List CT)) = none := by
      intro fs
      induction fs with
      | nil => rfl
      | cons f fs ih => rw [List.foldl_cons]; exact ih
    cases ht : tys P d f.type with
    | none => rw [ht] at he; simp only at he; rw [none_fold] at he; cases he
    | some b =>
      rw [ht] at he
      simp only at he
      by_cases hc : f.offset = a.length ∧ P.cellsOf f.type = b.length
      · rw [if_pos hc] at he
        obtain ⟨x, hx, hwx⟩ := hf f (by simp)
        have hr := ih _ _ _ _ _ ht hwx hx
        rw [hc.1, hc.2] at hr
        refine ihf cs (a ++ b) l ?_ (fun f' hf' => hf f' (by simp [hf'])) he
        have := readsAs_append h hr
        rwa [List.length_append, List.take_add]
      · rw [if_neg hc, none_fold] at he; cases he

theorem array_read {e : TypeId} {l : List CT} (ih : ∀ (cs : List Value) (fuel : Nat) (x : DataW H × List MemPlace), (∀ n ∈ x.1.weights P e, n ≤ reachBytes) → DataW.trod enc P w 0 spare held fuel e cs = some x → ReadsAs w l cs) {fuel : Nat} {cs : List Value} :
    ∀ (n : Nat), (∀ i, i < n → ∃ x, DataW.trod enc P w 0 spare held fuel e ((cs.drop (i * l.length)).take l.length) = some x ∧ ∀ n ∈ x.1.weights P e, n ≤ reachBytes) → ReadsAs w (List.replicate n l).flatten (cs.take (n * l.length)) := by
  intro n
  induction n with
  | zero => intro _; simpa using readsAs_nil
  | succ n ihn =>
    intro h
    have h1 := ihn fun i hi => h i (by omega)
    obtain ⟨x, hx, hwx⟩ := h n (by omega)
    have h2 := readsAs_append h1 (ih _ _ _ hwx hx)
    rw [List.replicate_succ', List.flatten_append, Nat.add_mul, Nat.one_mul, List.take_add]
    simpa using h2

theorem weights_mem_all {H : Type} {P : Program} {e : TypeId} : ∀ {ds : List (DataW H)} {d : DataW H}, d ∈ ds → ∀ n ∈ d.weights P e, n ∈ DataW.weightsAll P e ds
  | d0 :: ds, d, hd, n, hn => by
    simp only [DataW.weightsAll, List.mem_append]
    rcases List.mem_cons.1 hd with rfl | hd
    · exact .inl hn
    · exact .inr (weights_mem_all hd n hn)

/-- A reading gives an abstract value of its type's shape. -/
theorem trod_reads : ∀ (d : Nat) (t : TypeId) (cs : List Value) (l : List CT) (fuel : Nat) (x : DataW H × List MemPlace), tys P d t = some l → (∀ n ∈ x.1.weights P t, n ≤ reachBytes) → DataW.trod enc P w 0 spare held fuel t cs = some x → ReadsAs w l cs := by
  intro d
  induction d with
  | zero => intro t cs l fuel x h; cases h
  | succ d ih =>
    intro t cs l fuel x h hwt hx
    unfold tys at h
    split at h
    · rename_i ht
      split at h <;> cases h
      obtain ⟨b, rfl, _⟩ := DataW.trod_bool ht hx
      exact readsAs_one (.bool b) (.bool b)
    · rename_i k ht
      split at h <;> cases h
      obtain ⟨n, rfl, _, hw⟩ := DataW.trod_int ht hx
      exact readsAs_one (.int k n) (.int hw)
    · rename_i ht
      split at h <;> cases h
      obtain ⟨s, rfl, rfl, hs⟩ := DataW.trod_string ht hx
      have hw := hwt s.data.toList.length (by simp [DataW.weights])
      have hsz : s.size = s.data.toList.length := Array.length_toList.symm
      exact readsAs_one (.str s) (.str (by rw [hsz]; exact Nat.le_trans hw (by decide)))
    · rename_i e ht
      split at h
      · rename_i le hle
        split at h
        · rename_i hc
          cases h
          rcases Go.Deep.open_slice ht hx with ⟨rfl, _⟩ | ⟨a, len, cap, m, n, D, Pl, rfl, _, hlc, hcm, hm, hxe, hi⟩
          · exact readsAs_one (u := .imm true le.length []) (.nils _) (.sl (by simp) (fun _ => rfl) (by simp) (by simp))
          · have hlm : len ≤ m := by rw [hm]; split <;> omega
            subst hxe
            have hwl : len ≤ 140737488355328 := by
              have h1 := hwt ((((List.range len).map D).length + ((List.range (m - len)).map fun j => D (len + j)).length) * P.bytesOf e) (by simp only [DataW.weights, ht]; exact List.mem_cons_self)
              have h2 : len * 1 ≤ (((List.range len).map D).length + ((List.range (m - len)).map fun j => D (len + j)).length) * P.bytesOf e := Nat.mul_le_mul (by simp) hc.2.2.2
              have h3 : reachBytes ≤ 140737488355328 := by decide
              omega
            have hwD : ∀ i, i < len → ∀ n ∈ (D i).weights P e, n ≤ reachBytes := fun i hi n hn => hwt n (by
              simp only [DataW.weights, ht, List.mem_cons, List.mem_append]
              exact .inr (.inl (weights_mem_all (List.mem_map.2 ⟨i, List.mem_range.2 hi, rfl⟩) n hn)))
            have key : ∀ i, i < len → ∃ (us : List AV) (vs : List Value), us.length = le.length ∧ vs.length = le.length ∧ (∀ j, j < le.length → w.cell? (a.add (i * le.length + j)) = vs[j]?) ∧
                (∀ (j : Nat) (u : AV) (v : Value), us[j]? = some u → vs[j]? = some v → RepI (· < w.heap.size) w u v) ∧ (∀ (j : Nat) (t : CT) (u : AV), le[j]? = some t → us[j]? = some u → Fit t u) := by
              intro i hil
              obtain ⟨cs', hc', ht'⟩ := hi i (by omega)
              obtain ⟨_, hcl, hat⟩ := World.cells?_some hc'
              obtain ⟨r1, us, r2, r3, r4⟩ := ih e cs' le n _ hle (hwD i hil) ht'
              refine ⟨us, cs', by omega, by omega, fun j hj => ?_, r3, r4⟩
              rw [← hat j (by omega), add_add, hc.2.1]
            -- choose the elements
            have ch : ∃ (U : Nat → List AV) (V : Nat → List Value), ∀ i, i < len → (U i).length = le.length ∧ (V i).length = le.length ∧ (∀ j, j < le.length → w.cell? (a.add (i * le.length + j)) = (V i)[j]?) ∧
                (∀ (j : Nat) (u : AV) (v : Value), (U i)[j]? = some u → (V i)[j]? = some v → RepI (· < w.heap.size) w u v) ∧ (∀ (j : Nat) (t : CT) (u : AV), le[j]? = some t → (U i)[j]? = some u → Fit t u) := by
              have : ∀ i, ∃ p : List AV × List Value, i < len → p.1.length = le.length ∧ p.2.length = le.length ∧ (∀ j, j < le.length → w.cell? (a.add (i * le.length + j)) = p.2[j]?) ∧
                (∀ (j : Nat) (u : AV) (v : Value), p.1[j]? = some u → p.2[j]? = some v → RepI (· < w.heap.size) w u v) ∧ (∀ (j : Nat) (t : CT) (u : AV), le[j]? = some t → p.1[j]? = some u → Fit t u) := by
                intro i
                by_cases hil : i < len
                · obtain ⟨us, vs, h1⟩ := key i hil
                  exact ⟨(us, vs), fun _ => h1⟩
                · exact ⟨([], []), fun h => absurd h hil⟩
              exact ⟨fun i => (Classical.choose (this i)).1, fun i => (Classical.choose (this i)).2, fun i hi => Classical.choose_spec (this i) hi⟩
            obtain ⟨U, V, hUV⟩ := ch
            have hmem : ∀ cs ∈ (List.range len).map U, ∃ i, i < len ∧ cs = U i := by
              intro cs hcs
              obtain ⟨i, hi1, hi2⟩ := List.mem_map.1 hcs
              exact ⟨i, List.mem_range.1 hi1, hi2.symm⟩
            have hget : ∀ (i : Nat) (cs : List AV), ((List.range len).map U)[i]? = some cs → i < len ∧ cs = U i := by
              intro i cs hcs
              rw [List.getElem?_map, Option.map_eq_some_iff] at hcs
              obtain ⟨k, hk, rfl⟩ := hcs
              rw [List.getElem?_eq_some_iff] at hk
              obtain ⟨h1, h2⟩ := hk
              simp at h1 h2
              exact ⟨h1, by rw [← h2]⟩
            refine readsAs_one (u := .imm false le.length ((List.range len).map U)) (.imm (A := some a) (n := len) (c := cap) a (fun i j => (V i).getD j default) (by simp) (by simpa using hlc) (fun hne => ⟨rfl, ?_⟩) ?_ ?_ ?_) (.sl (by simp; exact hwl) (by simp) ?_ ?_)
            · have hpos : 0 < len := by
                rcases Nat.eq_zero_or_pos len with h0 | h0
                · rw [h0] at hne; simp at hne
                · exact h0
              obtain ⟨_, k2, k3, _, _⟩ := hUV 0 hpos
              have := k3 0 hc.2.2.1
              rw [List.getElem?_eq_getElem (by omega)] at this
              have := cell_lt this
              rwa [block_add] at this
            · intro cs hcs
              obtain ⟨i, hi1, rfl⟩ := hmem cs hcs
              exact (hUV i hi1).1
            · intro i cs j u hcs hu
              obtain ⟨hi1, rfl⟩ := hget i cs hcs
              obtain ⟨k1, k2, k3, _, _⟩ := hUV i hi1
              have hj : j < le.length := by rw [← k1]; exact (List.getElem?_eq_some_iff.1 hu).1
              have hjv : j < (V i).length := by omega
              rw [k3 j hj]; simp [hjv]
            · intro i cs j u hcs hu
              obtain ⟨hi1, rfl⟩ := hget i cs hcs
              obtain ⟨k1, k2, k3, k4, _⟩ := hUV i hi1
              have hj : j < le.length := by rw [← k1]; exact (List.getElem?_eq_some_iff.1 hu).1
              have hjv : j < (V i).length := by omega
              exact k4 j u _ hu (by simp [hjv])
            · intro cs hcs
              obtain ⟨i, hi1, rfl⟩ := hmem cs hcs
              exact (hUV i hi1).1
            · intro cs hcs j t u ht' hu
              obtain ⟨i, hi1, rfl⟩ := hmem cs hcs
              exact (hUV i hi1).2.2.2.2 j t u ht' hu
        · cases h
      · cases h
    · rename_i fs ht
      split at h
      · rename_i l' hl'
        split at h
        · rename_i hc
          cases h
          obtain ⟨xs, n, _, hxe, hlen, hxl, hg⟩ := DataW.trod_struct ht hx
          subst hxe
          rw [← Array.foldl_toList] at hl'
          have := fields_read (enc := enc) (w := w) (spare := spare) (held := held) (fuel := n) (fun t cs l fuel x => ih t cs l fuel x) fs.toList cs [] l (by simpa using readsAs_nil) (fun f hf => ?_) hl'
          · rwa [← hc, ← hlen, List.take_length] at this
          · obtain ⟨i, hi, he⟩ := List.getElem_of_mem hf
            have hif : fs[i]? = some f := by rw [← he]; simp
            have := hg i f hif
            have hxi : i < xs.length := by rw [hxl]; simpa using hi
            rw [List.getElem?_eq_getElem hxi] at this
            refine ⟨_, this, fun n hn => hwt n ?_⟩
            simp only [DataW.weights, ht]
            exact DataW.weights_mem_each (j := i) (t := f.type) (d := (xs[i]).1) (by simp [he]; simpa using ⟨f, by rw [← he]; simp, rfl⟩) (by simp [hxi]) n hn
        · cases h
      · cases h
    · rename_i n e ht
      split at h
      · rename_i le hle
        split at h
        · rename_i hc
          cases h
          obtain ⟨xs, m, _, hxe, hlen, hxl, hg⟩ := DataW.trod_array ht hx
          subst hxe
          have := array_read (enc := enc) (P := P) (w := w) (spare := spare) (held := held) (e := e) (l := le) (fuel := m) (cs := cs) (fun cs fuel x hw hx => ih e cs le fuel x hle hw hx) n (fun i hi => ?_)
          · rwa [← hc.1, ← hlen, List.take_length] at this
          · have := hg i hi
            rw [List.getElem?_eq_getElem (by omega), hc.2] at this
            refine ⟨_, this, fun n hn => hwt n ?_⟩
            simp only [DataW.weights, ht]
            exact weights_mem_all (List.mem_map.2 ⟨_, List.getElem_mem (by omega), rfl⟩) n hn
        · cases h
      · cases h
    · cases h

end

/-! ### Arguments -/

/-- An argument: a struct or an array ('true'), or one cell. -/
def FitA : Bool × List CT → AV → Prop
  | (true, l), u => ∃ us : List AV, u = .agg us ∧ us.length = l.length ∧ ∀ (j : Nat) (t : CT) (x : AV), l[j]? = some t → us[j]? = some x → Fit t x
  | (false, l), u => ∃ t, l = [t] ∧ Fit t u

def FitAll : List (Bool × List CT) → List AV → Prop
  | [], [] => True
  | p :: ps, u :: us => FitA p u ∧ FitAll ps us
  | _, _ => False

def argTy (P : Program) (t : TypeId) : Option (Bool × List CT) :=
  match P.underlying t with
  | some (.struct _) => (tys P 20 t).map fun l => (true, l)
  | some .bool | some (.int _) | some .string | some (.slice _) => (tys P 20 t).map fun l => (false, l)
  | _ => none

def argTys (P : Program) : List TypeId → Option (List (Bool × List CT))
  | [] => some []
  | t :: ts => match argTy P t, argTys P ts with | some p, some ps => some (p :: ps) | _, _ => none

section
variable {H : Type} {enc : TypeId × Value → H} {P : Program} {w : World} {spare : Nat → Bool} {held : Bool}

theorem arg_reads {t : TypeId} {v : Value} {d : DataW H} {ps : List MemPlace} {r : Reach} {b0 : Nat} {p : Bool × List CT} (ha : argTy P t = some p) (hv : Value.okWide P w r b0 t v) (hwt : ∀ n ∈ d.weights P t, n ≤ reachBytes) (h : DataW.Trod enc P w 0 spare held t v d ps) :
    ∃ u, RepI (· < w.heap.size) w u v ∧ FitA p u := by
  obtain ⟨fuel, hf⟩ := h
  have one : ∀ l : List CT, tys P 20 t = some l → p = (false, l) → v.cells.toList = [v] → P.cellsOf t = 1 → ∃ u, RepI (· < w.heap.size) w u v ∧ FitA p u := by
    intro l hl hp hc h1
    rw [hc] at hf
    obtain ⟨g1, us, g2, g3, g4⟩ := trod_reads 20 t [v] l fuel _ hl hwt hf
    match l, us, g1, g2 with
    | [ct], [u], _, _ => exact ⟨u, g3 0 u v rfl rfl, by rw [hp]; exact ⟨ct, rfl, g4 0 ct u rfl rfl⟩⟩
  unfold argTy at ha
  split at ha
  · rename_i fs ht
    rw [Option.map_eq_some_iff] at ha
    obtain ⟨l, hl, rfl⟩ := ha
    obtain ⟨cs, rfl, hsz⟩ := okWide_struct ht hv
    obtain ⟨g1, us, g2, g3, g4⟩ := trod_reads 20 t cs.toList l fuel _ hl hwt hf
    refine ⟨.agg us, .agg (by rw [g2]; simp) (fun j u x hu hx => g3 j u x hu (by simpa using hx)), us, rfl, by omega, g4⟩
  · rename_i ht
    rw [Option.map_eq_some_iff] at ha
    obtain ⟨l, hl, rfl⟩ := ha
    obtain ⟨b, rfl⟩ := okWide_bool ht hv
    exact one l hl rfl rfl (by have := tys_len hl; unfold tys at hl; rw [ht] at hl; simp only at hl; split at hl <;> cases hl; assumption)
  · rename_i k ht
    rw [Option.map_eq_some_iff] at ha
    obtain ⟨l, hl, rfl⟩ := ha
    obtain ⟨n, rfl⟩ := okWide_int ht hv
    exact one l hl rfl rfl (by have := tys_len hl; unfold tys at hl; rw [ht] at hl; simp only at hl; split at hl <;> cases hl; assumption)
  · rename_i ht
    rw [Option.map_eq_some_iff] at ha
    obtain ⟨l, hl, rfl⟩ := ha
    obtain ⟨s, rfl⟩ := okWide_string ht hv
    exact one l hl rfl rfl (by have := tys_len hl; unfold tys at hl; rw [ht] at hl; simp only at hl; split at hl <;> cases hl; assumption)
  · rename_i e ht
    rw [Option.map_eq_some_iff] at ha
    obtain ⟨l, hl, rfl⟩ := ha
    obtain ⟨a, n, c, rfl⟩ := okWide_slice ht hv
    refine one l hl rfl rfl ?_
    unfold tys at hl; rw [ht] at hl; simp only at hl
    split at hl
    · split at hl
      · rename_i hc; exact hc.1
      · cases hl
    · cases hl
  · cases ha

theorem args_read : ∀ (ts : List TypeId) (ps : List (Bool × List CT)) (vs : List Value) (ds : List (DataW H)) (pl : List MemPlace) {r : Reach} {b0 : Nat}, argTys P ts = some ps → (∀ (j : Nat) t v, ts[j]? = some t → vs[j]? = some v → Value.okWide P w r b0 t v) → (∀ n ∈ DataW.weightsEach P ts ds, n ≤ reachBytes) →
    DataW.TrodAll enc P w 0 spare held ts vs ds pl → ∃ us : List AV, us.length = vs.length ∧ (∀ (j : Nat) (u : AV) (v : Value), us[j]? = some u → vs[j]? = some v → RepI (· < w.heap.size) w u v) ∧ FitAll ps us := by
  intro ts
  induction ts with
  | nil =>
    intro ps vs ds pl r b0 ha _ _ h
    cases ha
    match vs, ds, h with
    | [], [], _ => exact ⟨[], rfl, by intro j u v h; simp at h, trivial⟩
  | cons t ts ih =>
    intro ps vs ds pl r b0 ha hv hwt h
    unfold argTys at ha
    split at ha
    · rename_i p ps' hp hps
      cases ha
      match vs, ds, h with
      | v :: vs, d :: ds, ⟨q1, q2, h1, h2, _⟩ =>
        obtain ⟨u, g1, g2⟩ := arg_reads hp (hv 0 t v rfl rfl) (fun n hn => hwt n (by simp only [DataW.weightsEach, List.mem_append]; exact .inl hn)) h1
        obtain ⟨us, k1, k2, k3⟩ := ih ps' vs ds q2 hps (fun j t v ht hv' => hv (j + 1) t v (by simpa using ht) (by simpa using hv')) (fun n hn => hwt n (by simp only [DataW.weightsEach, List.mem_append]; exact .inr hn)) h2
        refine ⟨u :: us, by simp [k1], ?_, ⟨g2, k3⟩⟩
        intro j u' v' hu hv'
        cases j with
        | zero => simp at hu hv'; subst hu; subst hv'; exact g1
        | succ j => exact k2 j u' v' (by simpa using hu) (by simpa using hv')
    · cases ha

theorem trodAll_below (hl : laidOutB P = true) {W W' : World} (hb : Below W.heap.size W W') : ∀ (ts : List TypeId) (vs : List Value) (ds : List (DataW H)) (pl : List MemPlace), (∀ t ∈ ts, P.readableRec t = true ∧ t < P.types.size) →
    DataW.TrodAll enc P W 0 (fun _ => true) true ts vs ds pl → DataW.TrodAll enc P W' 0 (fun b => decide (b < W.heap.size)) true ts vs ds pl := by
  intro ts
  induction ts with
  | nil =>
    intro vs ds pl _ h
    match vs, ds, h with
    | [], [], h => exact h
  | cons t ts ih =>
    intro vs ds pl hr h
    match vs, ds, h with
    | v :: vs, d :: ds, ⟨q1, q2, h1, h2, h3⟩ =>
      have lt : ∀ x ∈ q1, x.block < W.heap.size := by obtain ⟨m, hm⟩ := h1; exact DataW.trod_lt m _ _ _ hm
      exact ⟨q1, q2, Below.trod hl (hr t (by simp)).1 (hr t (by simp)).2 h1 hb lt, ih vs ds q2 (fun t' ht' => hr t' (by simp [ht'])) h2, h3⟩
end

theorem Gives.below {ok0 : Nat → Prop} {w w' : World} {r : PRes} {v : Value} (h : Gives ok0 w r v w') : Below w.heap.size w w' := by
  obtain ⟨C, h1, _⟩ := h
  exact h1.below

/-- A law: it returns true, whatever data it takes. -/
theorem law_contract {H : Type} {enc : TypeId × Value → H} {P : Program} {f : FuncId} {fn : Func} {s : ChangeSpec} {apart fresh handsOn : Bool} {g : List AV → Option PRes} {ps : List (Bool × List CT)} {tb : TypeId}
    (hm : Meets P f g) (hl : laidOutB P = true) (hps : argTys P fn.params.toList = some ps) (hread : fn.params.toList.all (fun t => P.readableRec t && decide (t < P.types.size)) = true)
    (hres : fn.resultTypes = #[tb]) (hb : P.underlying tb = some .bool) (hvars : s.vars = [])
    (hfn : ∀ ds : List (DataW H), ds.length = fn.params.toList.length → (s.fn H (ds ++ [])).results = [.lit (.bool true)] ∧ (s.fn H (ds ++ [])).args = ds ∧ (s.fn H (ds ++ [])).vars = [])
    (hg : ∀ us, FitAll ps us → g us = some { val := .bool true })
    {W : World} {base : Nat} {args : Array Value} {ds gs : List (DataW H)} {before : List MemPlace}
    (hval : ∀ (j : Nat) t v, fn.params[j]? = some t → args[j]? = some v → Value.okWide P W .any base t v)
    (hW : DataW.Whole enc P fn.params.toList s.vars apart W args.toList ds gs before)
    (hsz : (DataW.weightsEach P (fn.params.toList ++ s.plain.varTypes P) (ds ++ gs)).all (· ≤ reachBytes) = true) :
    Calls P f args W fun e W' => ∃ v, e = .returned v ∧ s.post enc P fn apart fresh handsOn false W args v W' := by
  have hW' := hW
  obtain ⟨p, q, hA, hV, rfl, hfz, hnd⟩ := hW
  rw [hvars] at hV
  obtain ⟨rfl, rfl⟩ := trodVars_none hV
  have hlen : ds.length = fn.params.toList.length := by
    have : ∀ (ts : List TypeId) (vs : List Value) (ds : List (DataW H)) (pl : List MemPlace), DataW.TrodAll enc P W 0 (fun _ => true) true ts vs ds pl → ds.length = ts.length := by
      intro ts
      induction ts with
      | nil => intro vs ds pl h; match vs, ds, h with | [], [], _ => rfl
      | cons t ts ih => intro vs ds pl h; match vs, ds, h with | v :: vs, d :: ds, ⟨_, _, _, h2, _⟩ => simp [ih _ _ _ h2]
    exact this _ _ _ _ hA
  have hwe : ∀ n ∈ DataW.weightsEach P fn.params.toList ds, n ≤ reachBytes := by
    have key : ∀ (ts : List TypeId) (ds : List (DataW H)) (us : List TypeId), ds.length = ts.length → ∀ n ∈ DataW.weightsEach P ts ds, n ∈ DataW.weightsEach P (ts ++ us) (ds ++ []) := by
      intro ts
      induction ts with
      | nil => intro ds us h n hn; match ds, h with | [], _ => simp [DataW.weightsEach] at hn
      | cons t ts ih =>
        intro ds us h n hn
        match ds, h with
        | d :: ds, h =>
          simp only [List.cons_append, DataW.weightsEach, List.mem_append] at hn ⊢
          rcases hn with hn | hn
          · exact .inl hn
          · exact .inr (ih ds us (by simpa using h) n hn)
    exact fun n hn => by simpa using List.all_eq_true.1 hsz n (key _ _ _ hlen n hn)
  obtain ⟨us, k1, k2, k3⟩ := args_read fn.params.toList ps args.toList ds p hps (fun j t v ht hv => hval j t v (by simpa using ht) (by simpa using hv)) hwe hA
  obtain ⟨f1, f2, f3⟩ := hfn ds hlen
  refine (hm us _ (hg us k3) W args (· < W.heap.size) (fun _ h => h) (by simpa using k1) (fun j u v hu hv => k2 j u v hu (by simpa using hv))).mono fun e W' he => ?_
  obtain ⟨v, rfl, hG⟩ := he
  have bel := hG.below
  obtain ⟨C, _, hrep, _⟩ := hG
  obtain rfl := hrep.bool_inv
  refine ⟨_, rfl, ds, [], _, [], p, [], hW', ?_, ?_, ?_, bel.frame _, fun h => by cases h⟩
  · rw [f1, hres]; exact trodAll_mk1 (shut_bool hb _)
  · rw [f2]; exact trodAll_below hl bel _ _ _ _ (fun t ht => by have := List.all_eq_true.1 hread t ht; simpa using this) hA
  · rw [f3, hvars]; rfl

end Go.Ev
