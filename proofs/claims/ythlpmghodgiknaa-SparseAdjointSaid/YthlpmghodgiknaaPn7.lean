/- A part of the verified evaluator and of what the functions compute (joined by program). -/
import Derived.Test.YthlpmghodgiknaaPn6
import Derived.Test.YthlpmghodgiknaaPn2
set_option linter.unusedVariables false
set_option linter.unusedSimpArgs false
/-
  The dot product; the sanity check.
-/
namespace Go.Proofs.Ythlpmghodgiknaa.C
open Go Go.Ev

theorem Sz_RF {f : RF} {k : Nat} (h : f.ok k) : Sz k f.q := by
  have q1 := digs_length_dv h.w1
  have q2 := digs_length_dv h.w2
  have := h.b1
  have := h.b2
  exact Sz_divInt (by rw [zl_sg]; omega) (by rw [zl_sg]; omega) (by omega)

/-- What validity says. -/
theorem valE_good (n : Int) : ∀ (l : List (Int × Rat)) (p : Option Int), valE n p l = 0 → (∀ x ∈ l, 0 ≤ x.1 ∧ x.1 < n ∧ x.2 ≠ 0 ∧ ∀ q, p = some q → q < x.1) ∧ l.Pairwise (fun x y => x.1 < y.1)
  | [], p, _ => ⟨by simp, List.Pairwise.nil⟩
  | (i, q) :: r, p, h => by
    by_cases c1 : i < 0 ∨ n ≤ i
    · rw [valE_range c1] at h; cases h
    · by_cases c2 : ∃ j, p = some j ∧ i ≤ j
      · rw [valE_order c1 c2] at h; cases h
      · by_cases c3 : q = 0
        · rw [valE_zero c1 c2 c3] at h; cases h
        · rw [valE_next c1 c2 c3] at h
          obtain ⟨h1, h2⟩ := valE_good n r (some i) h
          have hp : ∀ j, p = some j → j < i := fun j hj => by
            rcases Int.lt_or_le j i with h3 | h3
            · exact h3
            · exact absurd ⟨j, hj, h3⟩ c2
          refine ⟨fun x hx => ?_, List.pairwise_cons.2 ⟨fun x hx => (h1 x hx).2.2.2 i rfl, h2⟩⟩
          rcases List.mem_cons.1 hx with rfl | hx
          · exact ⟨by simp only; omega, by simp only; omega, c3, hp⟩
          · obtain ⟨g1, g2, g3, g4⟩ := h1 x hx
            exact ⟨g1, g2, g3, fun j hj => Int.lt_trans (hp j hj) (g4 i rfl)⟩

/-- The value at an index, 0 where there is none. -/
def atQ (l : List (Int × Rat)) (i : Int) : Rat :=
  match l with
  | [] => 0
  | (j, q) :: r => if j = i then q else atQ r i

theorem atQ_none {l : List (Int × Rat)} {i : Int} (h : ∀ x ∈ l, x.1 ≠ i) : atQ l i = 0 := by
  induction l with
  | nil => rfl
  | cons x l ih =>
    obtain ⟨j, q⟩ := x
    have h1 : j ≠ i := h (j, q) (by simp)
    unfold atQ
    rw [if_neg h1]
    exact ih fun y hy => h y (by simp [hy])

theorem atQ_at {l : List (Int × Rat)} {k : Nat} (hk : k < l.length) (h : ∀ j (hj : j < k), (l[j]'(by omega)).1 ≠ l[k].1) : atQ l l[k].1 = l[k].2 := by
  induction l generalizing k with
  | nil => simp at hk
  | cons x l ih =>
    obtain ⟨j, q⟩ := x
    cases k with
    | zero => simp [atQ]
    | succ k =>
      have h0 := h 0 (by omega)
      simp only [List.getElem_cons_zero, List.getElem_cons_succ] at h0 ⊢
      unfold atQ
      rw [if_neg h0]
      exact ih (by simpa using hk) fun j hj => by simpa using h (j + 1) (by omega)

def dotS (b : List (Int × Rat)) : List (Int × Rat) → Rat → Rat
  | [], s => s
  | x :: r, s => dotS b r (s + x.2 * atQ b x.1)

def errB (n : Int) (a b : List (Int × Rat)) : Int := if valid n a = 0 then valid n b else valid n a

section
variable (G : Pure) (ic : Inl) (n : Nat)

noncomputable def spBoth : List AV → Option PRes := sp3 vOfA vOfA i64Of fun a b n => some (.int .i64 (errB n (nums a) (nums b)))

theorem both_run (hV : G 12 = spValidate) : FSpec (fun args n => pureF G ic n c43F args) spBoth := by
  intro args r h
  obtain ⟨a, b, c, l, m, nn, v, rfl, hx, hy, hz, hv, rfl⟩ := sp3_inv h
  cases hv
  have t1 := sp2_at hV hx hz rfl
  have t2 := sp2_at hV hy hz rfl
  obtain ⟨nl1, rfl, hl1⟩ := vOfA_inv hx
  obtain ⟨nl2, rfl, hl2⟩ := vOfA_inv hy
  obtain ⟨rfl, n0, n1⟩ := i64Of_inv hz
  refine ⟨{ val := .int .i64 (errB nn (nums l) (nums m)) }, ⟨0, ?_⟩, rfl, rfl⟩
  unfold errB
  by_cases h0 : valid nn (nums l) = 0
  · rw [if_pos h0]
    rw [h0] at t1
    simp [pureF, runF, t1, t2, bne]
  · rw [if_neg h0]
    simp [pureF, runF, t1, t2, h0, bne]

/-- The empty fraction. -/
def fNil : AV := .agg [.bool false, .imm false 1 [], .bool false, .imm false 1 []]

open Classical in
noncomputable def spDot : List AV → Option PRes := sp3 vOfA vOfA i64Of fun a b n =>
  if errB n (nums a) (nums b) ≠ 0 then some (.tup [fNil, .int .i64 (errB n (nums a) (nums b))])
  else if ∃ K, (∀ e ∈ a, e.2.ok K) ∧ (∀ e ∈ b, e.2.ok K) ∧ (a.length + 1) * (2 * K + 2) < 2000000 then some (.tup [fV (dotS (nums b) (nums a) 0), .int .i64 0])
  else none

theorem nums_get {l : List Ent} {k : Nat} (h : k < l.length) : (nums l)[k]'(by simpa [nums] using h) = (l[k].1, l[k].2.q) := by simp [nums]

theorem dot_inner (nb : Bool) (b : List Ent) (hb : b.length < 100000000) (X : Int) (e : Ent) (hX : e.1 = X) (v6 v9 v22 v23 v24 : AV) (o6 o9 : Ev.Obj) (own : List Nat) : ∀ d k m, k + d = b.length → d < m →
    ∃ k', k ≤ k' ∧ k' ≤ b.length ∧ (∀ j (hj : j < b.length), k ≤ j → j < k' → b[j].1 < X) ∧ (∀ hk : k' < b.length, ¬ b[k'].1 < X) ∧
    blockE (some c17_e0) 2 (iterK G ic n c17_k0 c17_b0Q m ⟨[(1, .imm nb 5 (vcs b)), (6, v6), (9, v9), (10, .int .i64 k), (12, .ptr 272192 0 0), (22, v22), (23, v23), (24, v24)],
        [(272096, o6), (272144, o9), (272192, { sz := 5, ty := 51, es := [ecells e], refs := [] })], [], own, []⟩) =
      some (.normal, ⟨[(1, .imm nb 5 (vcs b)), (6, v6), (9, v9), (10, .int .i64 k'), (12, .ptr 272192 0 0), (22, v22), (23, v23), (24, v24)],
        [(272096, o6), (272144, o9), (272192, { sz := 5, ty := 51, es := [ecells e], refs := [] })], [], own, []⟩) := by
  intro d
  induction d with
  | zero =>
    intro k m hk hm
    obtain ⟨m, rfl⟩ : ∃ i, m = i + 1 := ⟨m - 1, by omega⟩
    have e : k = b.length := by omega
    subst e
    refine ⟨b.length, by omega, by omega, fun j _ h1 h2 => by omega, fun h => by omega, ?_⟩
    simp [iterK_succ]
  | succ d ih =>
    intro k m hk hm
    obtain ⟨m, rfl⟩ : ∃ i, m = i + 1 := ⟨m - 1, by omega⟩
    have hkb : k < b.length := by omega
    have g := vcs_get b k hkb
    by_cases hlt : b[k].1 < X
    · obtain ⟨k', r1, r2, r3, r4, r5⟩ := ih (k + 1) m (by omega) (by omega)
      refine ⟨k', by omega, r2, fun j hj h1 h2 => ?_, r4, ?_⟩
      · rcases Nat.eq_or_lt_of_le h1 with h3 | h3
        · subst h3; exact hlt
        · exact r3 j hj h3 h2
      · rw [← r5]
        have w5 : IntKind.i64.wrap ((k : Int) + 1) = (k : Int) + 1 := wrap64_id _ (by omega) (by omega)
        simp [iterK_succ, hkb, g, hX, hlt, w5]
    · refine ⟨k, by omega, by omega, fun j _ h1 h2 => by omega, fun _ => hlt, ?_⟩
      simp [iterK_succ, hkb, g, hX, hlt]

theorem dot_outer (hA : G 47 = spAddFrac) (hM : G 46 = spMulFrac) (na nb : Bool) (a b : List Ent) (ha : VecOk 2000000 a) (hb : VecOk 2000000 b) (K : Nat) (hKa : ∀ e ∈ a, e.2.ok K) (hKb : ∀ e ∈ b, e.2.ok K) (hK : (a.length + 1) * (2 * K + 2) < 2000000)
    (hsa : (nums a).Pairwise (fun x y => x.1 < y.1)) (hsb : (nums b).Pairwise (fun x y => x.1 < y.1)) (o6 : Ev.Obj) (ho6 : o6.refs = []) (hn : b.length < n) : ∀ d i k s m, i + d = a.length → k ≤ b.length → (∀ j (hj : j < b.length) i' (hi' : i' < a.length), j < k → i ≤ i' → b[j].1 < a[i'].1) → Sz (1 + i * (2 * K + 2)) s → d < m →
    blockE (some c17_e1) 0 (iterK G ic n c17_k1 c17_b1Q m ⟨[(1, .imm nb 5 (vcs b)), (6, .ptr 272096 0 0), (9, .ptr 272144 0 0), (10, .int .i64 k), (22, .imm na 5 (vcs a)), (23, .int .i64 a.length), (24, .int .i64 i)],
        [(272096, o6), (272144, { sz := 4, ty := 33, es := [(qF s).cells], refs := [] })], [], [272144, 272096], []⟩) =
      some (.normal, ⟨[(6, .ptr 272096 0 0), (9, .ptr 272144 0 0)],
        [(272096, o6), (272144, { sz := 4, ty := 33, es := [(qF (dotS (nums b) (nums (a.drop i)) s)).cells], refs := [] })], [], [272144, 272096], []⟩) := by
  have hlen := ha.len
  have hblen := hb.len
  intro d
  induction d with
  | zero =>
    intro i k s m hi hk hinv hs hm
    obtain ⟨m, rfl⟩ : ∃ i, m = i + 1 := ⟨m - 1, by omega⟩
    have e : i = a.length := by omega
    subst e
    rw [List.drop_length]
    simp [iterK_succ, dotS, ho6]
  | succ d ih =>
    intro i k s m hi hk hinv hs hm
    obtain ⟨m, rfl⟩ : ∃ i, m = i + 1 := ⟨m - 1, by omega⟩
    have hia : i < a.length := by omega
    obtain ⟨e, he⟩ : ∃ e, e = a[i] := ⟨_, rfl⟩
    have hdrop : a.drop i = e :: a.drop (i + 1) := by rw [List.drop_eq_getElem_cons hia, ← he]
    have hme : e ∈ a := by rw [he]; exact List.getElem_mem _
    have g := vcs_get a i hia
    rw [← he] at g
    obtain ⟨k', r1, r2, r3, r4, r5⟩ := dot_inner G ic n nb b hblen e.1 e rfl (.ptr 272096 0 0) (.ptr 272144 0 0) (.imm na 5 (vcs a)) (.int .i64 a.length) (.int .i64 i) o6 { sz := 4, ty := 33, es := [(qF s).cells], refs := [] } [272192, 272144, 272096] (b.length - k) k n (by omega) (by omega)
    simp [c17_e0, c17_k0, qF] at r5
    have below : ∀ j (hj : j < b.length), j < k' → b[j].1 < e.1 := fun j hj h => by
      rcases Nat.lt_or_ge j k with h1 | h1
      · rw [he]; exact hinv j hj i hia h1 (Nat.le_refl _)
      · exact r3 j hj h1 h
    have hinv2 : ∀ j (hj : j < b.length) i' (hi' : i' < a.length), j < k' → i + 1 ≤ i' → b[j].1 < a[i'].1 := fun j hj i' hi' h1 h2 => by
      have h3 := below j hj h1
      have h4 := List.pairwise_iff_getElem.1 hsa i i' (by simpa [nums] using hia) (by simpa [nums] using hi') (by omega)
      rw [nums_get hia, nums_get hi'] at h4
      rw [he] at h3
      exact Int.lt_trans h3 h4
    have hiK : (i + 1) * (2 * K + 2) ≤ (a.length + 1) * (2 * K + 2) := Nat.mul_le_mul_right _ (by omega)
    have hiK2 : (i + 1) * (2 * K + 2) = i * (2 * K + 2) + (2 * K + 2) := by rw [Nat.add_mul, Nat.one_mul]
    rw [hdrop, nums_cons, dotS]
    have hok := hKa e hme
    have hK1 : 1 ≤ K := by have := hok.b1; omega
    have hok2 : e.2.ok 2000000 := (ha.ents e hme).fr
    by_cases hkb : k' < b.length
    · obtain ⟨f, hf⟩ : ∃ f, f = b[k'] := ⟨_, rfl⟩
      have hmf : f ∈ b := by rw [hf]; exact List.getElem_mem _
      have gf := vcs_get b k' hkb
      rw [← hf] at gf
      by_cases heq : f.1 = e.1
      · have hat : atQ (nums b) e.1 = f.2.q := by
          have := atQ_at (l := nums b) (k := k') (by simpa [nums] using hkb) (fun j hj => by
            rw [nums_get (by omega), nums_get hkb, ← hf]
            simp only
            rw [heq]
            exact Int.ne_of_lt (below j (by omega) hj))
          rw [nums_get hkb, ← hf] at this
          simp only at this
          rw [heq] at this
          exact this
        rw [hat]
        have t1 := sp2_at hM hok2.qOf' (hb.ents f hmf).fr.qOf' rfl
        have hp := Sz_mul (Sz_RF hok) (Sz_RF (hKb f hmf)) hK1
        have t2 := sp2_at hA (qOf_fV hs (by omega)) (qOf_fV hp (by omega)) rfl
        have hs2 : Sz (1 + (i + 1) * (2 * K + 2)) (s + e.2.q * f.2.q) := (Sz_add hs hp (by omega)).mono (by omega)
        have e1 := ih (i + 1) k' (s + e.2.q * f.2.q) m (by omega) r2 hinv2 hs2 (by omega)
        obtain ⟨p, hpe⟩ : ∃ p, p = e.2.q * f.2.q := ⟨_, rfl⟩
        rw [← hpe] at t1 t2 e1 ⊢
        obtain ⟨s2, hs2e⟩ : ∃ s2, s2 = s + p := ⟨_, rfl⟩
        rw [← hs2e] at t2 e1 ⊢
        rw [← e1]
        simp only [fV_agg] at t1 t2
        have w5 : IntKind.i64.wrap ((i : Int) + 1) = (i : Int) + 1 := wrap64_id _ (by omega) (by omega)
        clear hpe hs2e
        simp [iterK_succ, hia, g, r5, hkb, gf, heq, t1, t2, w5, ← he, ← hf, qF, ho6]
      · have hat : atQ (nums b) e.1 = 0 := atQ_none fun x hx => by
          obtain ⟨j, hj, rfl⟩ := List.getElem_of_mem hx
          have hj' : j < b.length := by simpa [nums] using hj
          rw [nums_get hj']
          simp only
          rcases Nat.lt_trichotomy j k' with h | h | h
          · exact Int.ne_of_lt (below j hj' h)
          · subst h; rw [← hf]; exact heq
          · have h1 := r4 hkb
            have h2 := List.pairwise_iff_getElem.1 hsb k' j (by simpa [nums] using hkb) hj h
            rw [nums_get hkb, nums_get hj'] at h2
            simp only at h2
            omega
        rw [hat, Rat.mul_zero, Rat.add_zero]
        have e1 := ih (i + 1) k' s m (by omega) r2 hinv2 (hs.mono (by omega)) (by omega)
        rw [← e1]
        have w5 : IntKind.i64.wrap ((i : Int) + 1) = (i : Int) + 1 := wrap64_id _ (by omega) (by omega)
        simp [iterK_succ, hia, g, r5, hkb, gf, heq, w5, ← he, ← hf, qF, ho6]
    · have hat : atQ (nums b) e.1 = 0 := atQ_none fun x hx => by
        obtain ⟨j, hj, rfl⟩ := List.getElem_of_mem hx
        have hj' : j < b.length := by simpa [nums] using hj
        rw [nums_get hj']
        exact Int.ne_of_lt (below j hj' (by omega))
      rw [hat, Rat.mul_zero, Rat.add_zero]
      have e1 := ih (i + 1) k' s m (by omega) r2 hinv2 (hs.mono (by omega)) (by omega)
      rw [← e1]
      have w5 : IntKind.i64.wrap ((i : Int) + 1) = (i : Int) + 1 := wrap64_id _ (by omega) (by omega)
      simp [iterK_succ, hia, g, r5, hkb, w5, ← he, qF, ho6]

theorem valid_ok {n : Int} {l : List (Int × Rat)} (h : valid n l = 0) : 0 ≤ n ∧ n ≤ 4096 ∧ valE n none l = 0 := by
  unfold valid at h
  split at h
  · cases h
  · exact ⟨by omega, by omega, h⟩

theorem errB_zero {n : Int} {a b : List (Int × Rat)} (h : errB n a b = 0) : valid n a = 0 ∧ valid n b = 0 := by
  unfold errB at h
  by_cases h1 : valid n a = 0
  · rw [if_pos h1] at h; exact ⟨h1, h⟩
  · rw [if_neg h1] at h; exact absurd h h1

open Classical in
theorem dotP_run (hB : G 43 = spBoth) (hZ : G 48 = spZero) (hA : G 47 = spAddFrac) (hM : G 46 = spMulFrac) : FSpec (fun args n => pureF G ic n c17F args) spDot := by
  intro args r h
  obtain ⟨a, b, c, l, m, nn, v, rfl, hx, hy, hz, hv, rfl⟩ := sp3_inv h
  have t0 := sp3_at hB hx hy hz rfl
  have tz := sp0_at hZ
  obtain ⟨nl1, rfl, hl1⟩ := vOfA_inv hx
  obtain ⟨nl2, rfl, hl2⟩ := vOfA_inv hy
  obtain ⟨rfl, n0, n1⟩ := i64Of_inv hz
  by_cases h0 : errB nn (nums l) (nums m) ≠ 0
  · rw [if_pos h0] at hv
    cases hv
    refine ⟨{ val := .tup [.agg [.bool false, .imm true 1 [], .bool false, .imm true 1 []], .int .i64 (errB nn (nums l) (nums m))] }, ⟨0, ?_⟩, rfl, by simp [AV.weak, AV.weakL, AV.weakLL, fNil]⟩
    simp [pureF, runF, t0, h0, bne]
  · rw [if_neg h0] at hv
    obtain ⟨⟨K, hKa, hKb, hK⟩, hv⟩ := of_ite hv
    cases hv
    have h00 : errB nn (nums l) (nums m) = 0 := by simpa using h0
    obtain ⟨v1, v2⟩ := errB_zero h00
    obtain ⟨_, _, g1⟩ := valid_ok v1
    obtain ⟨_, _, g2⟩ := valid_ok v2
    obtain ⟨_, s1⟩ := valE_good _ _ _ g1
    obtain ⟨_, s2⟩ := valE_good _ _ _ g2
    rw [h00] at t0
    obtain ⟨N, hN⟩ : ∃ N, N = l.length + m.length + 1 := ⟨_, rfl⟩
    have e := dot_outer G ic N hA hM nl1 nl2 l m hl1 hl2 K hKa hKb hK s1 s2 { sz := 4, ty := 33, es := [[.bool false, .imm true 1 [], .bool false, .imm true 1 []]], refs := [] } rfl (by omega) l.length 0 0 0 N (by omega) (by omega) (by omega) (by simpa using Sz_zero) (by omega)
    rw [List.drop_zero] at e
    obtain ⟨q, hq⟩ : ∃ q, q = dotS (nums m) (nums l) 0 := ⟨_, rfl⟩
    rw [← hq] at e ⊢
    obtain ⟨o, ho⟩ : ∃ o : Rat, o = 0 := ⟨_, rfl⟩
    rw [← ho] at e tz
    clear ho hq
    simp [c17_e1, c17_k1, qF] at e
    simp only [fV_agg] at tz
    refine ⟨{ val := .tup [fV q, .int .i64 0] }, ⟨N, ?_⟩, rfl, by simp [AV.weak, AV.weakL, weakLL_dg, fV]⟩
    simp [pureF, runF, t0, tz, e, fV_agg, bne]

end
end Go.Proofs.Ythlpmghodgiknaa.C

/-
  The sanity check; what light vectors are.
-/
namespace Go.Proofs.Ythlpmghodgiknaa.C
open Go Go.Ev

section
variable (G : Pure) (ic : Inl) (n : Nat)

/-! ### awake -/

def spAwake : List AV → Option PRes := sp0 (.bool true)

theorem qF_int_ok {z : Int} (h0 : -100 ≤ z) (h1 : z ≤ 100) {k : Nat} (hk : 2 ≤ k) : (qF (z : Rat)).ok k := qF_ok (Sz_int (k := 1) (zl_small (by omega)) (by decide)) (by omega)

theorem same_fV {G : Pure} (hS : G 20 = spSameFrac) {q : Rat} (h : Sz 20000000 q) : G 20 [fV q, fV q] = some { val := .bool true } := by
  have hr := rawOf_fV (q := q) (h.mono (by decide))
  have := sp2_at hS hr hr rfl
  simpa using this

theorem awake_run (hW : G 39 = spWhole) (hD : G 17 = spDot) (hS : G 20 = spSameFrac) : FSpec (fun args n => pureF G ic n c11F args) spAwake := by
  intro args r h
  obtain ⟨rfl, rfl⟩ := sp0_inv h
  have t2 := sp1_at hW (i64Of_mk (n := 2) (by decide) (by decide)) rfl
  have t3 := sp1_at hW (i64Of_mk (n := 3) (by decide) (by decide)) rfl
  have t5 := sp1_at hW (i64Of_mk (n := 5) (by decide) (by decide)) rfl
  have t6 := sp1_at hW (i64Of_mk (n := 6) (by decide) (by decide)) rfl
  obtain ⟨q2, h2⟩ : ∃ q : Rat, q = ((2 : Int) : Rat) := ⟨_, rfl⟩
  obtain ⟨q3, h3⟩ : ∃ q : Rat, q = ((3 : Int) : Rat) := ⟨_, rfl⟩
  obtain ⟨q5, h5⟩ : ∃ q : Rat, q = ((5 : Int) : Rat) := ⟨_, rfl⟩
  obtain ⟨q6, h6⟩ : ∃ q : Rat, q = ((6 : Int) : Rat) := ⟨_, rfl⟩
  rw [← h2] at t2
  rw [← h3] at t3
  rw [← h5] at t5
  rw [← h6] at t6
  have o2 : (qF q2).ok 2 := by rw [h2]; exact qF_int_ok (by decide) (by decide) (by decide)
  have o3 : (qF q3).ok 2 := by rw [h3]; exact qF_int_ok (by decide) (by decide) (by decide)
  have o5 : (qF q5).ok 2 := by rw [h5]; exact qF_int_ok (by decide) (by decide) (by decide)
  have va : VecOk 2000000 [((1 : Int), qF q2)] := ⟨by simp, fun e he => by simp at he; subst he; exact ⟨by simp, by simp, o2.mono (by decide)⟩⟩
  have vb : VecOk 2000000 [((0 : Int), qF q5), ((1 : Int), qF q3)] := ⟨by simp, fun e he => by
    simp at he
    rcases he with rfl | rfl
    · exact ⟨by simp, by simp, o5.mono (by decide)⟩
    · exact ⟨by simp, by simp, o3.mono (by decide)⟩⟩
  have td : G 17 [.imm false 5 (vcs [((1 : Int), qF q2)]), .imm false 5 (vcs [((0 : Int), qF q5), ((1 : Int), qF q3)]), .int .i64 2] = some { val := .tup [fV q6, .int .i64 0] } := by
    refine sp3_at hD (vOfA_mk va) (vOfA_mk vb) (i64Of_mk (n := 2) (by decide) (by decide)) ?_
    have e1 : errB 2 (nums [((1 : Int), qF q2)]) (nums [((0 : Int), qF q5), ((1 : Int), qF q3)]) = 0 := by
      simp only [nums, List.map_cons, List.map_nil, qF_q, h2, h3, h5]
      decide
    have e2 : dotS (nums [((0 : Int), qF q5), ((1 : Int), qF q3)]) (nums [((1 : Int), qF q2)]) 0 = q6 := by
      simp only [nums, List.map_cons, List.map_nil, qF_q, h2, h3, h5, h6]
      decide +kernel
    rw [if_neg (by rw [e1]; simp), if_pos ⟨2, fun e he => by simp at he; subst he; exact o2, fun e he => by
      simp at he
      rcases he with rfl | rfl
      · exact o5
      · exact o3, by simp⟩, e2]
  have ts := same_fV hS (q := q6) (by rw [h6]; exact (Sz_int (k := 1) (zl_small (by decide)) (by decide)).mono (by decide))
  clear h2 h3 h5 h6
  refine ⟨{ val := .bool true }, ⟨0, ?_⟩, rfl, rfl⟩
  simp [vcs, qF] at td
  simp only [fV_agg] at t2 t3 t5 t6 td ts
  simp [pureF, runF, t2, t3, t5, t6, td, ts]

/-! ### Light vectors -/

def sumLen (ls : List VV) : Nat := (ls.map fun v => v.2.length).sum

theorem accN_eq : ∀ (ls : List VV) (a : Nat), (∀ v ∈ ls, v.2.length ≤ 140737488355328) → a + ls.length * 140737488355328 < 9223372036854775808 → accN ls a = (a + sumLen ls : Nat)
  | [], a, _, _ => rfl
  | v :: ls, a, h, hb => by
    have h1 := h v (by simp)
    simp only [List.length_cons, Nat.add_mul, Nat.one_mul] at hb
    have w : IntKind.i64.wrap ((a : Int) + v.2.length) = ((a + v.2.length : Nat) : Int) := by rw [wrap64_id _ (by omega) (by omega)]; omega
    have ih := accN_eq ls (a + v.2.length) (fun x hx => h x (by simp [hx])) (by omega)
    have e : accN (v :: ls) a = accN ls (IntKind.i64.wrap ((a : Int) + v.2.length)) := rfl
    rw [e, w, ih]
    simp only [sumLen, List.map_cons, List.sum_cons]
    omega

/-- What light says. -/
structure Lt (ls : List VV) : Prop where
  count : ls.length ≤ 20
  total : sumLen ls ≤ 60
  small : ∀ v ∈ ls, ∀ e ∈ v.2, EntOk 13 e

theorem light_at {G : Pure} (hL : G 10 = spLight3) (nl : Bool) (ls : List VV) (hl : ls.length ≤ 140737488355328) (h : ∀ v ∈ ls, VecWide v.2) :
    ∃ b, G 10 [.imm nl 1 (vvs ls)] = some { val := .bool b } ∧ (b = true → Lt ls) := by
  refine ⟨_, sp1_at hL (vsOfW_mk hl h) rfl, fun hb => ?_⟩
  simp only [Bool.and_eq_true, decide_eq_true_eq, List.all_eq_true] at hb
  obtain ⟨h1, h2, h3⟩ := hb
  refine ⟨h3, ?_, fun v hv e he => ?_⟩
  · have := accN_eq ls 0 (fun v hv => (h v hv).len) (by omega)
    rw [Int.natCast_zero] at this
    rw [this] at h2
    omega
  · have h4 := h1 v hv
    simp only [lightV, List.all_eq_true] at h4
    have h5 := (h v hv).ents e he
    exact ⟨h5.lo, h5.hi, lightF_ok h5.fr (h4 e he)⟩

theorem len_le_sum {ls : List VV} {v : VV} (h : v ∈ ls) : v.2.length ≤ sumLen ls := by
  induction ls with
  | nil => simp at h
  | cons x ls ih =>
    simp only [sumLen, List.map_cons, List.sum_cons] at *
    rcases List.mem_cons.1 h with rfl | h
    · omega
    · have := ih h; omega

theorem Lt.vec {ls : List VV} (h : Lt ls) {v : VV} (hv : v ∈ ls) : VecOk 2000000 v.2 ∧ v.2.length ≤ 60 ∧ ∀ e ∈ v.2, e.2.ok 13 := by
  have h1 := len_le_sum hv
  have h2 := h.total
  refine ⟨⟨by omega, fun e he => ?_⟩, by omega, fun e he => (h.small v hv e he).fr⟩
  have := h.small v hv e he
  exact ⟨this.lo, this.hi, this.fr.mono (by decide)⟩

/-! ### SparseValid -/

end
end Go.Proofs.Ythlpmghodgiknaa.C

/-
  The value at an index; equality of vectors and of lists of fractions.
-/
namespace Go.Proofs.Ythlpmghodgiknaa.C
open Go Go.Ev

theorem vcs_weak : ∀ (l : List Ent), AV.weakLL (vcs l) = vcs (l.map fun e => (e.1, ⟨e.2.s1, false, e.2.d1, e.2.s2, false, e.2.d2⟩))
  | [] => rfl
  | f :: l => by
    have := vcs_weak l
    simp only [vcs, List.map_cons, ecells, AV.weakLL, AV.weakL, AV.weak, weakLL_dg] at this ⊢
    rw [this]

theorem vcs_vF_weak (l : List (Int × Rat)) : AV.weakLL (vcs (vF l)) = vcs (vF l) := by
  rw [vcs_weak, vF, List.map_map]; rfl

theorem rawOf_RF {f : RF} (h : f.ok 2000000) : rawOf (.agg [.bool f.s1, .imm f.l1 1 (dg f.d1), .bool f.s2, .imm f.l2 1 (dg f.d2)]) = some ((f.s1, f.d1), (f.s2, f.d2)) :=
  rawOf_mk h.w1 (by have := h.b1; omega) h.w2 (by have := h.b2; omega)

theorem reduceF_at {G : Pure} (hC : G 28 = spReduce) {f : RF} (h : f.ok 2000000) :
    G 28 [.agg [.bool f.s1, .imm f.l1 1 (dg f.d1), .bool f.s2, .imm f.l2 1 (dg f.d2)]] = some { val := fV f.q } := sp1_at hC (rawOf_RF h) rfl

section
variable (G : Pure) (ic : Inl) (n : Nat)

/-! ### At -/

/-! ### SameVector, SameFracs: of equal ones -/

/-- Lists of fractions. -/
structure FrsOk (k : Nat) (l : List RF) : Prop where
  len : l.length < 100000000
  frs : ∀ f ∈ l, f.ok k

def RFs (a : AV) (l : List RF) : Prop := ∃ nl, a = .imm nl 4 (fcs l) ∧ FrsOk 2000000 l
noncomputable def fsOf : AV → Option (List RF) := dec RFs
theorem fsOf_inv {a : AV} {l : List RF} (h : fsOf a = some l) : RFs a l := dec_inv h
theorem fsOf_mk {nl : Bool} {l : List RF} (h : FrsOk 2000000 l) : fsOf (.imm nl 4 (fcs l)) = some l := dec_mk (R := RFs) (fun m hm => by
  obtain ⟨n2, e, _⟩ := hm
  simp only [AV.imm.injEq, true_and] at e
  exact fcs_inj e.2.symm) ⟨nl, rfl, h⟩

/-! ### small -/

def spSmall3 : List AV → Option PRes := sp1 i64Of fun n => some (.bool (decide (n ≤ 60) || decide (4096 < n)))

theorem small3_run : FSpec (fun args n => pureF G ic n c15F args) spSmall3 := by
  intro args r h
  obtain ⟨a, x, v, rfl, hx, hv, rfl⟩ := sp1_inv h
  cases hv
  obtain ⟨rfl, n0, n1⟩ := i64Of_inv hx
  refine ⟨{ val := .bool (decide (x ≤ 60) || decide (4096 < x)) }, ⟨0, ?_⟩, rfl, rfl⟩
  by_cases c1 : x ≤ 60
  · simp [pureF, runF, c1]
  · simp [pureF, runF, c1]

end
end Go.Proofs.Ythlpmghodgiknaa.C

/-
  Vectors out of lists of fractions.
-/
namespace Go.Proofs.Ythlpmghodgiknaa.C
open Go Go.Ev

@[simp] theorem vF_length (l : List (Int × Rat)) : (vF l).length = l.length := by simp [vF]
theorem vF_append (l m : List (Int × Rat)) : vF (l ++ m) = vF l ++ vF m := by simp [vF]
theorem vcs_append (l m : List Ent) : vcs (l ++ m) = vcs l ++ vcs m := by simp [vcs]

/-- The entries of a list of numbers that are not 0. -/
def gath : Int → List Rat → List (Int × Rat)
  | _, [] => []
  | i, q :: r => if q = 0 then gath (i + 1) r else (i, q) :: gath (i + 1) r

theorem gath_zero {i : Int} {q : Rat} {r : List Rat} (h : q = 0) : gath i (q :: r) = gath (i + 1) r := by conv => { lhs; unfold gath }; rw [if_pos h]
theorem gath_next {i : Int} {q : Rat} {r : List Rat} (h : q ≠ 0) : gath i (q :: r) = (i, q) :: gath (i + 1) r := by conv => { lhs; unfold gath }; rw [if_neg h]

theorem gath_length : ∀ (i : Int) (l : List Rat), (gath i l).length ≤ l.length
  | _, [] => Nat.le_refl _
  | i, q :: r => by
    have := gath_length (i + 1) r
    by_cases h : q = 0
    · rw [gath_zero h]; simp only [List.length_cons]; omega
    · rw [gath_next h]; simp only [List.length_cons]; omega

/-- A list that grows by append. -/
def accSL (t k : Nat) (l : List (Int × Rat)) (reb : List Nat) : SL :=
  match l with
  | [] => ⟨[(t, .imm true 5 [])], [], [], [], reb⟩
  | x :: r => ⟨[(t, .sl k 0 (r.length + 1))], [(k, { sz := 5, ty := 51, es := vcs (vF (x :: r)), refs := [] })], [], [k], reb⟩

theorem accSL_ne {t k : Nat} {l : List (Int × Rat)} {reb : List Nat} (h : l ≠ []) : accSL t k l reb = ⟨[(t, .sl k 0 l.length)], [(k, { sz := 5, ty := 51, es := vcs (vF l), refs := [] })], [], [k], reb⟩ := by
  cases l with
  | nil => exact absurd rfl h
  | cons x r => rfl

section
variable (G : Pure) (ic : Inl) (n : Nat)

noncomputable def spGathered : List AV → Option PRes := sp1 fsOf fun l => if l.length ≤ 4096 then some (.imm false 5 (vcs (vF (gath 0 (l.map RF.q))))) else none

theorem gathered_full (hS : G 40 = spSignFrac) (hC : G 45 = spCanonQ) (nl : Bool) (l : List RF) (hl : FrsOk 2000000 l) (hk : l.length ≤ 4096) : ∀ d i m (A : List (Int × Rat)) (reb : List Nat), i + d = l.length → A.length ≤ i → A ≠ [] → d < m → ∃ reb',
    blockE (some c54_e0) 0 (iterK G ic n c54_k0 c54_b0Q m ⟨[(3, .sl 864352 0 A.length), (6, .imm nl 4 (fcs l)), (7, .int .i64 l.length), (8, .int .i64 i)],
      [(864352, { sz := 5, ty := 51, es := vcs (vF A), refs := [] })], [], [864352], reb⟩) = some (.normal, accSL 3 864352 (A ++ gath i ((l.drop i).map RF.q)) reb') := by
  intro d
  induction d with
  | zero =>
    intro i m A reb hi hA hne hm
    obtain ⟨m, rfl⟩ : ∃ i, m = i + 1 := ⟨m - 1, by omega⟩
    have e : i = l.length := by omega
    subst e
    refine ⟨reb, ?_⟩
    rw [List.drop_length, List.map_nil, show gath (l.length : Int) [] = [] from rfl, List.append_nil, accSL_ne hne]
    simp [iterK_succ]
  | succ d ih =>
    intro i m A reb hi hA hne hm
    obtain ⟨m, rfl⟩ : ∃ i, m = i + 1 := ⟨m - 1, by omega⟩
    have hil : i < l.length := by omega
    obtain ⟨f, he⟩ : ∃ f, f = l[i] := ⟨_, rfl⟩
    have hdrop : l.drop i = f :: l.drop (i + 1) := by rw [List.drop_eq_getElem_cons hil, ← he]
    have hok := hl.frs f (by rw [he]; exact List.getElem_mem _)
    have g := fcs_get l i hil
    rw [← he] at g
    have ts := sp1_at hS hok.qOf' rfl
    have tc := sp1_at hC hok.qOf' rfl
    have w5 : IntKind.i64.wrap ((i : Int) + 1) = (i : Int) + 1 := wrap64_id _ (by omega) (by omega)
    rw [hdrop, List.map_cons]
    obtain ⟨q, hq⟩ : ∃ q, q = f.q := ⟨_, rfl⟩
    rw [← hq] at ts tc ⊢
    simp only [fV_agg] at tc
    by_cases h0 : q = 0
    · obtain ⟨reb', e1⟩ := ih (i + 1) m A reb (by omega) (by omega) hne (by omega)
      refine ⟨reb', ?_⟩
      rw [gath_zero h0]
      rw [Int.natCast_add, Int.natCast_one] at e1
      rw [← e1]
      rw [(num_zero_cmp _).2 h0] at ts
      simp [iterK_succ, hil, g, ts, ← he, w5]
    · obtain ⟨reb', e1⟩ := ih (i + 1) m (A ++ [((i : Int), q)]) (864352 :: reb) (by omega) (by simp; omega) (by simp) (by omega)
      refine ⟨reb', ?_⟩
      rw [gath_next h0]
      rw [Int.natCast_add, Int.natCast_one, List.append_assoc, List.singleton_append] at e1
      rw [← e1, vF_append, vcs_append, List.length_append]
      have hc : ¬ cmpZ q.num 0 = 0 := fun h => h0 ((num_zero_cmp _).1 h)
      obtain ⟨E, hE⟩ : ∃ E, E = vcs (vF A) := ⟨_, rfl⟩
      obtain ⟨a, ha⟩ : ∃ a, a = A.length := ⟨_, rfl⟩
      have hEl : E.length = a := by rw [hE, ha]; simp
      have hb : (a + 1) * 72 ≤ 140737488355328 := by omega
      rw [← hE, ← ha]
      clear e1 hE ha hq
      simp [iterK_succ, hil, g, ts, tc, hc, ← he, w5, hEl, hb, vF, vcs, qF]

theorem gathered_loop (hS : G 40 = spSignFrac) (hC : G 45 = spCanonQ) (nl : Bool) (l : List RF) (hl : FrsOk 2000000 l) (hk : l.length ≤ 4096) : ∀ d i m, i + d = l.length → d < m → ∃ reb',
    blockE (some c54_e0) 0 (iterK G ic n c54_k0 c54_b0Q m ⟨[(3, .imm true 5 []), (6, .imm nl 4 (fcs l)), (7, .int .i64 l.length), (8, .int .i64 i)],
      [], [], [], []⟩) = some (.normal, accSL 3 864352 (gath i ((l.drop i).map RF.q)) reb') := by
  intro d
  induction d with
  | zero =>
    intro i m hi hm
    obtain ⟨m, rfl⟩ : ∃ i, m = i + 1 := ⟨m - 1, by omega⟩
    have e : i = l.length := by omega
    subst e
    refine ⟨[], ?_⟩
    rw [List.drop_length, List.map_nil, show gath (l.length : Int) [] = [] from rfl]
    simp [iterK_succ, accSL]
  | succ d ih =>
    intro i m hi hm
    obtain ⟨m, rfl⟩ : ∃ i, m = i + 1 := ⟨m - 1, by omega⟩
    have hil : i < l.length := by omega
    obtain ⟨f, he⟩ : ∃ f, f = l[i] := ⟨_, rfl⟩
    have hdrop : l.drop i = f :: l.drop (i + 1) := by rw [List.drop_eq_getElem_cons hil, ← he]
    have hok := hl.frs f (by rw [he]; exact List.getElem_mem _)
    have g := fcs_get l i hil
    rw [← he] at g
    have ts := sp1_at hS hok.qOf' rfl
    have tc := sp1_at hC hok.qOf' rfl
    have w5 : IntKind.i64.wrap ((i : Int) + 1) = (i : Int) + 1 := wrap64_id _ (by omega) (by omega)
    rw [hdrop, List.map_cons]
    obtain ⟨q, hq⟩ : ∃ q, q = f.q := ⟨_, rfl⟩
    rw [← hq] at ts tc ⊢
    simp only [fV_agg] at tc
    by_cases h0 : q = 0
    · obtain ⟨reb', e1⟩ := ih (i + 1) m (by omega) (by omega)
      refine ⟨reb', ?_⟩
      rw [gath_zero h0]
      rw [Int.natCast_add, Int.natCast_one] at e1
      rw [← e1]
      rw [(num_zero_cmp _).2 h0] at ts
      simp [iterK_succ, hil, g, ts, ← he, w5]
    · obtain ⟨reb', e1⟩ := gathered_full G ic n hS hC nl l hl hk d (i + 1) m [((i : Int), q)] [] (by omega) (by simp) (by simp) (by omega)
      refine ⟨reb', ?_⟩
      rw [gath_next h0]
      rw [Int.natCast_add, Int.natCast_one, List.singleton_append] at e1
      rw [← e1]
      have hc : ¬ cmpZ q.num 0 = 0 := fun h => h0 ((num_zero_cmp _).1 h)
      clear e1 hq
      simp [iterK_succ, hil, g, ts, tc, hc, ← he, w5, vF, vcs, qF]

theorem gathered_run (hS : G 40 = spSignFrac) (hC : G 45 = spCanonQ) : FSpec (fun args n => pureF G ic n c54F args) spGathered := by
  intro args r h
  obtain ⟨a, l, v, rfl, hx, hv, rfl⟩ := sp1_inv h
  obtain ⟨hk, hv⟩ := of_ite hv
  cases hv
  obtain ⟨nl, rfl, hl⟩ := fsOf_inv hx
  obtain ⟨N, hN⟩ : ∃ N, N = l.length + 1 := ⟨_, rfl⟩
  obtain ⟨reb', e⟩ := gathered_loop G ic N hS hC nl l hl hk l.length 0 N (by omega) (by omega)
  rw [List.drop_zero, Int.natCast_zero] at e
  obtain ⟨out, ho⟩ : ∃ out, out = gath 0 (l.map RF.q) := ⟨_, rfl⟩
  rw [← ho] at e ⊢
  simp [c54_e0, c54_k0] at e
  cases hout : out with
  | nil =>
    rw [hout] at e
    simp only [accSL] at e
    refine ⟨{ val := .imm true 5 [] }, ⟨N, ?_⟩, rfl, by simp [AV.weak, AV.weakL, AV.weakLL, vF, vcs]⟩
    simp [pureF, runF, e]
  | cons x r =>
    rw [accSL_ne (by rw [hout]; simp)] at e
    rw [← hout]
    obtain ⟨E, hE⟩ : ∃ E, E = vcs (vF out) := ⟨_, rfl⟩
    have hEl : E.length = out.length := by rw [hE]; simp
    obtain ⟨a, ha⟩ : ∃ a, a = out.length := ⟨_, rfl⟩
    refine ⟨{ val := .imm false 5 E }, ⟨N, ?_⟩, rfl, by rw [hE]; simp [AV.weak, vcs_vF_weak]⟩
    rw [← hE, ← ha] at e
    rw [← ha] at hEl
    clear hE ha ho hout
    simp [pureF, runF, e, ← hEl]

end
end Go.Proofs.Ythlpmghodgiknaa.C

/-
  Dense rows: zeros, ToDense.
-/
namespace Go.Proofs.Ythlpmghodgiknaa.C
open Go Go.Ev

/-! ### Rows by their entries -/

def nilR : RF := ⟨false, true, [], false, true, []⟩
def rowR (n : Nat) (g : Nat → RF) : List (List AV) := fcs ((List.range n).map g)
@[simp] theorem rowR_length (n : Nat) (g : Nat → RF) : (rowR n g).length = n := by simp [rowR]
def upd (g : Nat → RF) (k : Nat) (f : RF) : Nat → RF := fun j => if j = k then f else g j
theorem rowR_set {n : Nat} (g : Nat → RF) {k : Nat} (f : RF) : (rowR n g).set k f.cells = rowR n (upd g k f) := by
  refine List.ext_getElem (by simp) fun j h1 h2 => ?_
  simp only [List.length_set, rowR_length] at h1
  simp only [rowR, fcs, List.getElem_set, List.getElem_map, List.getElem_range, upd]
  by_cases h : k = j
  · subst h; simp
  · rw [if_neg h, if_neg (fun e => h e.symm)]
theorem drop_four {l : List RF} {R : List (List AV)} (hR : R = fcs l) (k : Nat) (h : k < R.length) : (R[k]).drop 4 = [] := by subst hR; simp
theorem len_four {l : List RF} {R : List (List AV)} (hR : R = fcs l) (k : Nat) (h : k < R.length) : (R[k]).length = 4 := by subst hR; simp
theorem rowR_ext {n : Nat} {g g' : Nat → RF} (h : ∀ j, j < n → g j = g' j) : rowR n g = rowR n g' := by
  unfold rowR
  congr 1
  exact List.map_congr_left fun j hj => h j (List.mem_range.1 hj)
theorem rowR_nil (n : Nat) : List.replicate n [AV.bool false, .imm true 1 [], .bool false, .imm true 1 []] = rowR n fun _ => nilR := by
  refine List.ext_getElem (by simp) fun j h1 h2 => ?_
  simp [rowR, fcs, nilR, dg]
/-- The row of a function of numbers. -/
def rowQ (n : Nat) (F : Nat → Rat) : List RF := (List.range n).map fun j => qF (F j)
@[simp] theorem rowQ_length (n : Nat) (F : Nat → Rat) : (rowQ n F).length = n := by simp [rowQ]
theorem rowR_rowQ (n : Nat) (F : Nat → Rat) : rowR n (fun j => qF (F j)) = fcs (rowQ n F) := rfl

def setF (F : Nat → Rat) (x : Int × Rat) : Nat → Rat := fun j => if (j : Int) = x.1 then x.2 else F j
theorem upd_qF {F : Nat → Rat} {k : Nat} {i : Int} {q : Rat} (h : i = k) : upd (fun j => qF (F j)) k (qF q) = fun j => qF (setF F (i, q) j) := by
  funext j
  unfold upd setF
  by_cases hj : j = k
  · rw [if_pos hj, if_pos (by rw [h, hj])]
  · rw [if_neg hj, if_neg (by rw [h]; omega)]

section
variable (G : Pure) (ic : Inl) (n : Nat)

/-! ### zeros -/

def spZeros : List AV → Option PRes
  | [.int .i64 m] => if 0 ≤ m ∧ m ≤ 4096 then some { val := .sl 0 0 m.toNat, objs := [{ sz := 4, ty := 33, es := fcs (rowQ m.toNat fun _ => 0), refs := [] }] } else none
  | _ => none

theorem zeros_loop (hZ : G 48 = spZero) (N : Nat) (hN : N ≤ 4096) : ∀ d i m, i + d = N → d < m →
    blockE (some c53_e0) 0 (iterK G ic n c53_k0 c53_b0Q m ⟨[(3, .sl 848096 0 N), (8, .int .i64 N), (9, .int .i64 i)],
      [(848096, { sz := 4, ty := 33, es := rowR N (fun j => if j < i then qF 0 else nilR), refs := [] })], [], [848096], []⟩) =
      some (.normal, ⟨[(3, .sl 848096 0 N)], [(848096, { sz := 4, ty := 33, es := fcs (rowQ N fun _ => 0), refs := [] })], [], [848096], []⟩) := by
  intro d
  induction d with
  | zero =>
    intro i m hi hm
    obtain ⟨m, rfl⟩ : ∃ i, m = i + 1 := ⟨m - 1, by omega⟩
    have e : i = N := by omega
    subst e
    have er : rowR i (fun j => if j < i then qF 0 else nilR) = fcs (rowQ i fun _ => 0) := by
      rw [← rowR_rowQ]; exact rowR_ext fun j hj => if_pos hj
    rw [er]
    simp [iterK_succ]
  | succ d ih =>
    intro i m hi hm
    obtain ⟨m, rfl⟩ : ∃ i, m = i + 1 := ⟨m - 1, by omega⟩
    have hiN : i < N := by omega
    have e1 := ih (i + 1) m (by omega) (by omega)
    have tz := sp0_at hZ
    have w5 : IntKind.i64.wrap ((i : Int) + 1) = (i : Int) + 1 := wrap64_id _ (by omega) (by omega)
    obtain ⟨z, hz⟩ : ∃ z : Rat, z = 0 := ⟨_, rfl⟩
    rw [← hz] at tz e1 ⊢
    simp only [fV_agg] at tz
    obtain ⟨R, hR⟩ : ∃ R, R = rowR N (fun j => if j < i then qF z else nilR) := ⟨_, rfl⟩
    have hRl : R.length = N := by rw [hR]; simp
    have hR4 := len_four hR
    have hRd := drop_four hR
    have hset : R.set i (qF z).cells = rowR N (fun j => if j < i + 1 then qF z else nilR) := by
      rw [hR, rowR_set]
      refine rowR_ext fun j hj => ?_
      show (if j = i then _ else if j < i then _ else _) = _
      by_cases h1 : j = i
      · rw [if_pos h1, if_pos (by omega)]
      · rw [if_neg h1]
        by_cases h2 : j < i
        · rw [if_pos h2, if_pos (by omega)]
        · rw [if_neg h2, if_neg (by omega)]
    rw [← hset] at e1
    rw [← e1, ← hR]
    clear e1 hR hset hz
    simp [iterK_succ, hiN, hRl, hR4, hRd, tz, w5, qF]

theorem zeros_run (hZ : G 48 = spZero) : FSpec (fun args n => freshF G ic n c53F args) spZeros := by
  intro args r h
  unfold spZeros at h
  split at h
  case h_2 => cases h
  rename_i m0
  obtain ⟨⟨h0, h1⟩, h2⟩ := of_ite h
  cases h2
  obtain ⟨m, rfl⟩ : ∃ m : Nat, m0 = m := ⟨m0.toNat, by omega⟩
  obtain ⟨N, hN⟩ : ∃ N, N = m + 1 := ⟨_, rfl⟩
  have e := zeros_loop G ic N hZ m (by omega) m 0 N (by omega) (by omega)
  have er : rowR m (fun j => if j < 0 then qF 0 else nilR) = rowR m (fun _ => nilR) := rowR_ext fun j hj => if_neg (by omega)
  rw [er, ← rowR_nil] at e
  simp [c53_e0, c53_k0] at e
  have b1 : (m : Int) * 64 ≤ 140737488355328 := by omega
  refine ⟨_, ⟨N, ?_⟩, rfl, rfl⟩
  simp only [Int.toNat_natCast]
  obtain ⟨R, hR⟩ : ∃ R, R = fcs (rowQ m fun _ => 0) := ⟨_, rfl⟩
  rw [← hR] at e ⊢
  clear hR
  simp [freshF, freshO, runF, b1, e, AV.dn]

theorem zeros_at {G : Pure} (hZ : G 53 = spZeros) {m : Nat} (h : m ≤ 4096) : G 53 [.int .i64 m] = some { val := .sl 0 0 m, objs := [{ sz := 4, ty := 33, es := fcs (rowQ m fun _ => 0), refs := [] }] } := by
  rw [hZ]; simp only [spZeros]; rw [if_pos ⟨by omega, by omega⟩]; simp

/-! ### ToDense -/

end
end Go.Proofs.Ythlpmghodgiknaa.C

/-
  Sums of vectors: the plain law; the program's AddScaled and Scale.
-/
namespace Go.Proofs.Ythlpmghodgiknaa.C
open Go Go.Ev

/-! ### Canonical lists -/

/-- Sorted, with indices in [lo, hi), no value 0. -/
structure Cn (lo hi : Int) (l : List (Int × Rat)) : Prop where
  el : ∀ x ∈ l, lo ≤ x.1 ∧ x.1 < hi ∧ x.2 ≠ 0
  so : l.Pairwise fun x y => x.1 < y.1

theorem Cn.tail {lo hi : Int} {x : Int × Rat} {l : List (Int × Rat)} (h : Cn lo hi (x :: l)) : Cn (x.1 + 1) hi l :=
  ⟨fun y hy => ⟨by have := (List.pairwise_cons.1 h.so).1 y hy; omega, (h.el y (by simp [hy])).2⟩, (List.pairwise_cons.1 h.so).2⟩
theorem Cn.nil (lo hi : Int) : Cn lo hi [] := ⟨by simp, List.Pairwise.nil⟩
theorem Cn.cons {lo hi i : Int} {q : Rat} {l : List (Int × Rat)} (h : Cn (i + 1) hi l) (h1 : lo ≤ i) (h2 : i < hi) (h3 : q ≠ 0) : Cn lo hi ((i, q) :: l) :=
  ⟨fun y hy => by
    rcases List.mem_cons.1 hy with rfl | hy
    · exact ⟨h1, h2, h3⟩
    · have := h.el y hy; exact ⟨by omega, this.2⟩, List.pairwise_cons.2 ⟨fun y hy => by have := (h.el y hy).1; simp only; omega, h.so⟩⟩
theorem Cn.mono {lo lo' hi : Int} {l : List (Int × Rat)} (h : Cn lo hi l) (hl : lo' ≤ lo) : Cn lo' hi l := ⟨fun x hx => ⟨Int.le_trans hl (h.el x hx).1, (h.el x hx).2⟩, h.so⟩
theorem Cn.at_lo {lo hi i : Int} {l : List (Int × Rat)} (h : Cn lo hi l) (hi : i < lo) : atQ l i = 0 := atQ_none fun x hx => by have := (h.el x hx).1; omega
theorem Cn.at_hi {lo hi i : Int} {l : List (Int × Rat)} (h : Cn lo hi l) (hi : hi ≤ i) : atQ l i = 0 := atQ_none fun x hx => by have := (h.el x hx).2.1; omega
theorem atQ_cons (x : Int × Rat) (l : List (Int × Rat)) (i : Int) : atQ (x :: l) i = if x.1 = i then x.2 else atQ l i := rfl

theorem Cn_ext : ∀ (l m : List (Int × Rat)) {lo hi : Int}, Cn lo hi l → Cn lo hi m → (∀ i, atQ l i = atQ m i) → l = m
  | [], [], _, _, _, _, _ => rfl
  | [], y :: m, lo, hi, _, hm, h => by
    have := h y.1
    rw [atQ_cons, if_pos rfl] at this
    exact absurd this.symm (hm.el y (by simp)).2.2
  | x :: l, [], lo, hi, hl, _, h => by
    have := h x.1
    rw [atQ_cons, if_pos rfl] at this
    exact absurd this (hl.el x (by simp)).2.2
  | x :: l, y :: m, lo, hi, hl, hm, h => by
    have hx := hl.el x (by simp)
    have hy := hm.el y (by simp)
    have h1 := h x.1
    have h2 := h y.1
    rw [atQ_cons, if_pos rfl, atQ_cons] at h1
    rw [atQ_cons, atQ_cons (x := y), if_pos rfl] at h2
    have e1 : x.1 = y.1 := by
      rcases Int.lt_trichotomy x.1 y.1 with c | c | c
      · rw [if_neg (by omega), hm.tail.at_lo (by omega)] at h1
        exact absurd h1 hx.2.2
      · exact c
      · rw [if_neg (by omega), hl.tail.at_lo (by omega)] at h2
        exact absurd h2.symm hy.2.2
    rw [if_pos e1.symm] at h1
    have exy : x = y := Prod.ext e1 h1
    subst exy
    rw [Cn_ext l m hl.tail hm.tail fun i => ?_]
    by_cases hi : x.1 = i
    · rw [hl.tail.at_lo (by omega), hm.tail.at_lo (by omega)]
    · have := h i
      rw [atQ_cons, atQ_cons, if_neg hi, if_neg hi] at this
      exact this

theorem gath_cn : ∀ (i : Int) (L : List Rat), Cn i (i + L.length) (gath i L)
  | i, [] => Cn.nil _ _
  | i, q :: r => by
    have h := gath_cn (i + 1) r
    have e : i + 1 + (r.length : Int) = i + ((q :: r).length : Int) := by simp only [List.length_cons]; omega
    rw [e] at h
    by_cases h0 : q = 0
    · rw [gath_zero h0]; exact h.mono (by omega)
    · rw [gath_next h0]; exact h.cons (Int.le_refl _) (by simp only [List.length_cons]; omega) h0

theorem gath_at : ∀ (L : List Rat) (i : Int) (j : Nat), atQ (gath i L) (i + j) = L.getD j 0
  | [], i, j => rfl
  | q :: r, i, 0 => by
    by_cases h0 : q = 0
    · rw [gath_zero h0, (gath_cn (i + 1) r).at_lo (by omega)]; simp [h0]
    · rw [gath_next h0, atQ_cons, if_pos (by simp)]; simp
  | q :: r, i, j + 1 => by
    have h := gath_at r (i + 1) j
    have e : i + 1 + (j : Int) = i + ((j + 1 : Nat) : Int) := by omega
    rw [e] at h
    by_cases h0 : q = 0
    · rw [gath_zero h0, h]; simp
    · rw [gath_next h0, atQ_cons, if_neg (by simp only; omega), h]; simp

/-- The canonical list of a function. -/
def gathF (n : Nat) (F : Nat → Rat) : List (Int × Rat) := gath 0 ((List.range n).map F)
theorem gathF_cn (n : Nat) (F : Nat → Rat) : Cn 0 n (gathF n F) := by
  have := gath_cn 0 ((List.range n).map F)
  rw [List.length_map, List.length_range, Int.zero_add] at this
  exact this
theorem gathF_at {n : Nat} {F : Nat → Rat} {j : Nat} (h : j < n) : atQ (gathF n F) j = F j := by
  have := gath_at ((List.range n).map F) 0 j
  rw [Int.zero_add] at this
  unfold gathF
  rw [this]
  simp [h]
theorem Cn.gathF {n : Nat} {l : List (Int × Rat)} (h : Cn 0 n l) {F : Nat → Rat} (hF : ∀ j : Nat, j < n → atQ l j = F j) : l = gathF n F := by
  refine Cn_ext _ _ h (gathF_cn n F) fun i => ?_
  by_cases h0 : i < 0
  · rw [h.at_lo h0, (gathF_cn n F).at_lo h0]
  · by_cases h1 : (n : Int) ≤ i
    · rw [h.at_hi h1, (gathF_cn n F).at_hi h1]
    · obtain ⟨j, rfl⟩ : ∃ j : Nat, i = j := ⟨i.toNat, by omega⟩
      rw [hF j (by omega), gathF_at (by omega)]

/-! ### Merging -/

def one (i : Int) (q : Rat) : List (Int × Rat) := if q = 0 then [] else [(i, q)]

theorem valid_cn {n : Int} {l : List (Int × Rat)} (h : valid n l = 0) : Cn 0 n l := by
  obtain ⟨_, _, g⟩ := valid_ok h
  obtain ⟨h1, h2⟩ := valE_good _ _ _ g
  exact ⟨fun x hx => ⟨(h1 x hx).1, (h1 x hx).2.1, (h1 x hx).2.2.1⟩, h2⟩

section
variable (G : Pure) (ic : Inl) (n : Nat)

/-! ### The closure -/

end
end Go.Proofs.Ythlpmghodgiknaa.C

/-
  The program's AddScaled and Scale.
-/
namespace Go.Proofs.Ythlpmghodgiknaa.C
open Go Go.Ev

section
variable (G : Pure) (ic : Inl) (n : Nat)

end
end Go.Proofs.Ythlpmghodgiknaa.C

/-
  Scale; the reference's AddScaled and dot product.
-/
namespace Go.Proofs.Ythlpmghodgiknaa.C
open Go Go.Ev

theorem atQ_mem : ∀ (l : List (Int × Rat)) (i : Int), atQ l i = 0 ∨ ∃ x ∈ l, x.2 = atQ l i
  | [], _ => .inl rfl
  | x :: l, i => by
    rw [atQ_cons]
    split
    · exact .inr ⟨x, by simp, rfl⟩
    · rcases atQ_mem l i with h | ⟨y, hy, h⟩
      · exact .inl h
      · exact .inr ⟨y, by simp [hy], h⟩

theorem atQ_sz {l : List Ent} {K : Nat} (h : ∀ e ∈ l, e.2.ok K) (hK : 1 ≤ K) (i : Int) : Sz K (atQ (nums l) i) := by
  rcases atQ_mem (nums l) i with h0 | ⟨x, hx, h0⟩
  · rw [h0]; exact Sz_zero.mono hK
  · rw [← h0]
    obtain ⟨e, he, rfl⟩ := List.mem_map.1 hx
    exact Sz_RF (h e he)

def addF (k : Rat) (F : Nat → Rat) (x : Int × Rat) : Nat → Rat := setF F (x.1, F x.1.toNat + k * x.2)

theorem foldl_addF (k : Rat) : ∀ (l : List (Int × Rat)) (F : Nat → Rat) (j : Nat), (∀ x ∈ l, 0 ≤ x.1) → l.Pairwise (fun x y => x.1 < y.1) → l.foldl (addF k) F j = F j + k * atQ l j
  | [], F, j, _, _ => by simp [atQ, Rat.mul_zero, Rat.add_zero]
  | x :: r, F, j, h0, h => by
    rw [List.pairwise_cons] at h
    have hx := h0 x (by simp)
    rw [List.foldl_cons, foldl_addF k r _ j (fun y hy => h0 y (by simp [hy])) h.2, atQ_cons]
    by_cases hj : x.1 = j
    · rw [if_pos hj, atQ_none fun y hy => by have := h.1 y hy; omega]
      have : addF k F x j = F j + k * x.2 := by unfold addF setF; rw [if_pos hj.symm]; simp [hj]
      rw [this, Rat.mul_zero, Rat.add_zero]
    · rw [if_neg hj]
      have : addF k F x j = F j := by unfold addF setF; rw [if_neg (by simp only; omega)]
      rw [this]

section
variable (G : Pure) (ic : Inl) (n : Nat)

theorem vOfA_nil : vOfA (.imm true 5 []) = some [] := vOfA_mk (nl := true) (l := []) ⟨by simp, by simp⟩

/-! ### The reference's AddScaled -/

theorem rowQ_get {N : Nat} {F : Nat → Rat} {R : List (List AV)} (hR : R = fcs (rowQ N F)) (k : Nat) (h : k < R.length) : R[k] = (qF (F k)).cells := by
  subst hR
  simp [rowQ]

theorem rowQ_ok {N : Nat} {F : Nat → Rat} {K : Nat} (hN : N ≤ 4096) (h : ∀ j, Sz K (F j)) (hK : K < 2000000) : FrsOk 2000000 (rowQ N F) :=
  ⟨by simp; omega, fun f hf => by
    simp only [rowQ, List.mem_map] at hf
    obtain ⟨j, _, rfl⟩ := hf
    exact qF_ok (h j) hK⟩

theorem rowQ_q (N : Nat) (F : Nat → Rat) : (rowQ N F).map RF.q = (List.range N).map F := by
  simp [rowQ, qF_q]

/-! ### The reference's dot product -/

end
end Go.Proofs.Ythlpmghodgiknaa.C

/-
  The laws of the products, of the dense lists, and back.
-/
namespace Go.Proofs.Ythlpmghodgiknaa.C
open Go Go.Ev

theorem dotS_sz {b : List (Int × Rat)} {K : Nat} (hK : 1 ≤ K) (hb : ∀ i, Sz K (atQ b i)) : ∀ (a : List (Int × Rat)) (s : Rat) (c : Nat), (∀ x ∈ a, Sz K x.2) → 1 ≤ c → Sz c s → Sz (c + a.length * (2 * K + 1)) (dotS b a s)
  | [], s, c, _, _, hs => by simpa [dotS] using hs
  | x :: r, s, c, ha, hc, hs => by
    have h1 := Sz_add hs (Sz_mul (ha x (by simp)) (hb x.1) hK) hc
    have h2 := dotS_sz hK hb r _ (c + (K + K) + 1) (fun y hy => ha y (by simp [hy])) (by omega) h1
    rw [dotS]
    refine h2.mono ?_
    simp only [List.length_cons, Nat.add_mul, Nat.one_mul]
    omega

theorem dotV_sz {a b : List Ent} {K : Nat} (hK : 1 ≤ K) (ha : ∀ e ∈ a, e.2.ok K) (hb : ∀ e ∈ b, e.2.ok K) : Sz (1 + a.length * (2 * K + 1)) (dotS (nums b) (nums a) 0) := by
  have := dotS_sz hK (fun i => atQ_sz hb hK i) (nums a) 0 1 (fun x hx => by
    obtain ⟨e, he, rfl⟩ := List.mem_map.1 hx
    exact Sz_RF (ha e he)) (Nat.le_refl _) (by simpa using Sz_zero)
  simpa [nums] using this

theorem gathF_val {n : Nat} {F : Nat → Rat} {x : Int × Rat} (h : x ∈ gathF n F) : ∃ j : Nat, x.1 = j ∧ j < n ∧ x.2 = F j := by
  have hc := gathF_cn n F
  obtain ⟨h1, h2, _⟩ := hc.el x h
  obtain ⟨j, hj⟩ : ∃ j : Nat, x.1 = j := ⟨x.1.toNat, by omega⟩
  refine ⟨j, hj, by omega, ?_⟩
  rw [← gathF_at (F := F) (show j < n by omega), ← hj]
  obtain ⟨k, hk, rfl⟩ := List.getElem_of_mem h
  exact (atQ_at hk fun i hi => by
    have := List.pairwise_iff_getElem.1 hc.so i k (by omega) hk hi
    omega).symm

theorem vF_ok {l : List (Int × Rat)} {K : Nat} (h : ∀ x ∈ l, Sz K x.2) {e : Ent} (he : e ∈ vF l) : e.2.ok (K + 1) := by
  obtain ⟨x, hx, rfl⟩ := List.mem_map.1 he
  exact qF_ok (h x hx) (by omega)

theorem vF_vec {n : Nat} {l : List (Int × Rat)} {K : Nat} (hn : n ≤ 4096) (hc : Cn 0 n l) (hl : l.length ≤ 4096) (h : ∀ x ∈ l, Sz K x.2) (hK : K < 2000000) : VecOk 2000000 (vF l) :=
  ⟨by simp; omega, fun e he => by
    have h1 := vF_ok h he
    obtain ⟨x, hx, rfl⟩ := List.mem_map.1 he
    have := hc.el x hx
    exact ⟨by simp only; omega, by simp only; omega, h1.mono (by omega)⟩⟩

section
variable (G : Pure) (ic : Inl) (n : Nat)

end
end Go.Proofs.Ythlpmghodgiknaa.C

/-
  The laws of the dense lists, of the way back, and of linearity.
-/
namespace Go.Proofs.Ythlpmghodgiknaa.C
open Go Go.Ev

/-! ### Sums -/

def sumQ : Nat → (Nat → Rat) → Rat
  | 0, _ => 0
  | n + 1, f => sumQ n f + f n

theorem sumQ_congr {n : Nat} {f g : Nat → Rat} (h : ∀ j, j < n → f j = g j) : sumQ n f = sumQ n g := by
  induction n with
  | zero => rfl
  | succ n ih => simp only [sumQ]; rw [ih fun j hj => h j (by omega), h n (by omega)]
theorem sumQ_add (n : Nat) (f g : Nat → Rat) : sumQ n (fun j => f j + g j) = sumQ n f + sumQ n g := by
  induction n with
  | zero => simp [sumQ, Rat.add_zero]
  | succ n ih =>
    simp only [sumQ]
    rw [ih, Rat.add_assoc, Rat.add_assoc]
    congr 1
    rw [← Rat.add_assoc, Rat.add_comm (sumQ n g) (f n), Rat.add_assoc]
theorem sumQ_mul (n : Nat) (c : Rat) (f : Nat → Rat) : sumQ n (fun j => c * f j) = c * sumQ n f := by
  induction n with
  | zero => simp [sumQ, Rat.mul_zero]
  | succ n ih => simp only [sumQ]; rw [ih, Rat.mul_add]
theorem sumQ_zero (n : Nat) : sumQ n (fun _ => 0) = 0 := by
  induction n with
  | zero => rfl
  | succ n ih => simp only [sumQ]; rw [ih, Rat.add_zero]
theorem sumQ_delta (n k : Nat) (c : Rat) : sumQ n (fun j => if j = k then c else 0) = if k < n then c else 0 := by
  induction n with
  | zero => simp [sumQ]
  | succ n ih =>
    simp only [sumQ]
    rw [ih]
    by_cases h : k < n
    · rw [if_pos h, if_neg (by omega), if_pos (by omega), Rat.add_zero]
    · rw [if_neg h]
      by_cases h2 : n = k
      · rw [if_pos h2, if_pos (by omega), Rat.zero_add]
      · rw [if_neg h2, if_neg (by omega), Rat.add_zero]

theorem dotS_sum (b : List (Int × Rat)) (n : Nat) : ∀ (l : List (Int × Rat)) (lo : Int) (s : Rat), 0 ≤ lo → Cn lo n l → dotS b l s = s + sumQ n fun j => atQ l j * atQ b j
  | [], _, s, _, _ => by
    rw [sumQ_congr (g := fun _ => 0) (fun j _ => by simp [atQ, Rat.zero_mul]), sumQ_zero, Rat.add_zero]; rfl
  | x :: r, lo, s, h0, h => by
    have hx := h.el x (by simp)
    obtain ⟨k, hk⟩ : ∃ k : Nat, x.1 = k := ⟨x.1.toNat, by omega⟩
    rw [dotS, dotS_sum b n r (x.1 + 1) _ (by omega) h.tail, Rat.add_assoc]
    congr 1
    have e1 : (fun j : Nat => atQ (x :: r) j * atQ b j) = fun j : Nat => (if j = k then x.2 * atQ b x.1 else 0) + atQ r j * atQ b j := by
      funext j
      rw [atQ_cons]
      by_cases hj : j = k
      · rw [if_pos (by omega), if_pos hj, h.tail.at_lo (by omega), Rat.zero_mul, Rat.add_zero, hk, hj]
      · rw [if_neg (by omega), if_neg hj, Rat.zero_add]
    rw [e1, sumQ_add, sumQ_delta, if_pos (by omega)]

theorem cn_valE (n : Int) : ∀ (l : List (Int × Rat)) (p : Option Int) (lo : Int), (∀ j, p = some j → j < lo) → 0 ≤ lo → Cn lo n l → valE n p l = 0
  | [], _, _, _, _, _ => rfl
  | (i, q) :: r, p, lo, hp, h0, h => by
    have hx := h.el (i, q) (by simp)
    simp only at hx
    rw [valE_next (by omega) (by rintro ⟨j, hj, hle⟩; have := hp j hj; omega) hx.2.2]
    exact cn_valE n r (some i) (i + 1) (fun j hj => by cases hj; omega) (by omega) h.tail

theorem cn_valid {n : Int} {l : List (Int × Rat)} (h0 : 0 ≤ n) (h1 : n ≤ 4096) (h : Cn 0 n l) : valid n l = 0 := by
  unfold valid
  rw [if_neg (by omega)]
  exact cn_valE n l none 0 (by simp) (Int.le_refl _) h

section
variable (G : Pure) (ic : Inl) (n : Nat)

/-! ### SparseDense -/

/-! ### SparseBack -/

/-! ### SparseLinear -/

end
end Go.Proofs.Ythlpmghodgiknaa.C

/-
  Rows of rows that grow: the invariant, and one step.
-/
namespace Go.Ev
open Go

theorem aput_new {α : Type} {k : Nat} (v : α) : ∀ {l : List (Nat × α)}, afind l k = none → aput l k v = l ++ [(k, v)]
  | [], _ => rfl
  | (x, u) :: r, h => by
    simp only [afind] at h
    split at h
    · cases h
    · rename_i hx
      simp only [aput, if_neg hx, List.cons_append]
      rw [aput_new v h]

theorem aput_last {α : Type} {k : Nat} (u v : α) : ∀ {l : List (Nat × α)}, afind l k = none → aput (l ++ [(k, u)]) k v = l ++ [(k, v)]
  | [], _ => by simp [aput]
  | (x, y) :: r, h => by
    simp only [afind] at h
    split at h
    · cases h
    · rename_i hx
      simp only [List.cons_append, aput, if_neg hx]
      rw [aput_last u v h]

theorem afind_snoc {α : Type} (k : Nat) (v : α) (x : Nat) : ∀ {l : List (Nat × α)}, afind l k = none → afind (l ++ [(k, v)]) x = if k = x then some v else afind l x
  | [], _ => rfl
  | (y, u) :: r, h => by
    simp only [afind] at h
    split at h
    · cases h
    · rename_i hy
      simp only [List.cons_append, afind]
      by_cases hxy : y = x
      · subst hxy
        rw [if_pos rfl, if_pos rfl, if_neg (fun e => hy e.symm)]
      · rw [if_neg hxy, if_neg hxy]
        exact afind_snoc k v x h

theorem dropOkH_iff {ds : List Nat} : ∀ {l : List (Nat × Obj)}, dropOkH ds l = true ↔ ∀ p ∈ l, ∀ x ∈ p.2.refs, x ∉ ds
  | [] => by simp [dropOkH]
  | (k, o) :: r => by
    simp only [dropOkH, Bool.and_eq_true, List.all_eq_true, Bool.not_eq_true', List.mem_cons, forall_eq_or_imp]
    rw [dropOkH_iff (l := r)]
    simp

theorem mem_aput {α : Type} {k : Nat} {v : α} : ∀ {l : List (Nat × α)} {p : Nat × α}, p ∈ aput l k v → p ∈ l ∨ p = (k, v)
  | [], p, h => by simp [aput] at h; exact .inr h
  | (x, u) :: r, p, h => by
    simp only [aput] at h
    split at h
    · rename_i hx
      rcases List.mem_cons.1 h with rfl | h
      · rw [hx]; exact .inr rfl
      · exact .inl (by simp [h])
    · rcases List.mem_cons.1 h with rfl | h
      · exact .inl (by simp)
      · rcases mem_aput h with h | h
        · exact .inl (by simp [h])
        · exact .inr h

theorem mem_adel {α : Type} {ks : List Nat} : ∀ {l : List (Nat × α)} {p : Nat × α}, p ∈ adel l ks → p ∈ l
  | [], p, h => by simp [adel] at h
  | (x, u) :: r, p, h => by
    simp only [adel] at h
    split at h
    · exact List.mem_cons_of_mem _ (mem_adel h)
    · rcases List.mem_cons.1 h with rfl | h
      · simp
      · exact List.mem_cons_of_mem _ (mem_adel h)

theorem dropOkH_adel {ds ks : List Nat} {l : List (Nat × Obj)} (h : dropOkH ds l = true) : dropOkH ds (adel l ks) = true := dropOkH_iff.2 fun p hp => dropOkH_iff.1 h p (mem_adel hp)
theorem dropOkH_aput {ds : List Nat} {l : List (Nat × Obj)} {k : Nat} {o : Obj} (h : dropOkH ds l = true) (ho : ∀ x ∈ o.refs, x ∉ ds) : dropOkH ds (aput l k o) = true := dropOkH_iff.2 fun p hp => by
  rcases mem_aput hp with hp | rfl
  · exact dropOkH_iff.1 h p hp
  · exact ho
theorem dropOkH_snoc {ds : List Nat} {l : List (Nat × Obj)} {k : Nat} {o : Obj} (h : dropOkH ds l = true) (ho : ∀ x ∈ o.refs, x ∉ ds) : dropOkH ds (l ++ [(k, o)]) = true := dropOkH_iff.2 fun p hp => by
  rcases List.mem_append.1 hp with hp | hp
  · exact dropOkH_iff.1 h p hp
  · simp only [List.mem_singleton] at hp; subst hp; exact ho
theorem dropOkH_scrub {ds ks : List Nat} : ∀ {l : List (Nat × Obj)}, dropOkH ds l = true → dropOkH ds (scrubHeap ks l) = true
  | [], _ => rfl
  | (k, o) :: r, h => by
    have h1 := dropOkH_iff.1 h (k, o) (by simp)
    have h2 : dropOkH ds r = true := dropOkH_iff.2 fun p hp => dropOkH_iff.1 h p (by simp [hp])
    have h3 := dropOkH_scrub (ks := ks) h2
    simp only [scrubHeap]
    refine dropOkH_iff.2 fun p hp => ?_
    rcases List.mem_cons.1 hp with rfl | hp
    · intro x hx
      simp only at hx
      split at hx
      · exact h1 x (List.mem_filter.1 hx).1
      · exact h1 x hx
    · exact dropOkH_iff.1 h3 p hp

theorem le_foldl_max : ∀ (l : List Nat) (a : Nat), a ≤ l.foldl max a ∧ ∀ x ∈ l, x ≤ l.foldl max a
  | [], a => ⟨Nat.le_refl _, by simp⟩
  | y :: l, a => by
    obtain ⟨h1, h2⟩ := le_foldl_max l (max a y)
    refine ⟨by simp only [List.foldl_cons]; omega, fun x hx => ?_⟩
    rcases List.mem_cons.1 hx with rfl | hx
    · simp only [List.foldl_cons]; omega
    · exact h2 x hx

theorem afind_mem {α : Type} {k : Nat} {v : α} : ∀ {l : List (Nat × α)}, afind l k = some v → (k, v) ∈ l
  | [], h => by simp [afind] at h
  | (x, u) :: r, h => by
    simp only [afind] at h
    split at h
    · rename_i hx; cases h; subst hx; simp
    · exact List.mem_cons_of_mem _ (afind_mem h)

theorem freshKey_none (heap : List (Nat × Obj)) (k : Nat) : afind heap (freshKey heap k) = none := by
  unfold freshKey
  split
  · assumption
  · cases h : afind heap ((heap.map fun p => p.1).foldl max 1000000000000 + 1) with
    | none => rfl
    | some o =>
      have := (le_foldl_max (heap.map fun p => p.1) 1000000000000).2 _ (List.mem_map_of_mem (afind_mem h))
      omega

theorem freshKey_snoc {l : List (Nat × Obj)} {b : Nat} (k : Nat) (o o' : Obj) : freshKey (l ++ [(b, o)]) k = freshKey (l ++ [(b, o')]) k := by
  have h1 : ∀ l : List (Nat × Obj), (afind (l ++ [(b, o)]) k).isSome = (afind (l ++ [(b, o')]) k).isSome := fun l => by
    induction l with
    | nil => simp only [List.nil_append, afind]; split <;> rfl
    | cons p l ih =>
      obtain ⟨x, u⟩ := p
      simp only [List.cons_append, afind]
      split
      · rfl
      · exact ih
  have h2 := h1 l
  unfold freshKey
  cases e1 : afind (l ++ [(b, o)]) k with
  | none =>
    cases e2 : afind (l ++ [(b, o')]) k with
    | none => rfl
    | some x => rw [e1, e2] at h2; cases h2
  | some x =>
    cases e2 : afind (l ++ [(b, o')]) k with
    | none => rw [e1, e2] at h2; cases h2
    | some y => simp

end Go.Ev

/-
  Rows of rows that grow: one step; the program's Transpose.
-/
namespace Go.Proofs.Ythlpmghodgiknaa.C
open Go Go.Ev

def cellT (K : Nat → Nat) (L : Nat → List (Int × Rat)) (j : Nat) : AV := if L j = [] then .imm true 5 [] else .sl (K j) 0 (L j).length
def rowT (N : Nat) (K : Nat → Nat) (L : Nat → List (Int × Rat)) : List (List AV) := (List.range N).map fun j => [cellT K L j]
@[simp] theorem rowT_length (N : Nat) (K : Nat → Nat) (L : Nat → List (Int × Rat)) : (rowT N K L).length = N := by simp [rowT]
def addT (c : Int) (L : Nat → List (Int × Rat)) (x : Int × Rat) : Nat → List (Int × Rat) := fun j => if (j : Int) = x.1 then L j ++ [(c, x.2)] else L j
def updK (K : Nat → Nat) (k k' : Nat) : Nat → Nat := fun j => if j = k then k' else K j

structure TI (O B N : Nat) (K : Nat → Nat) (L : Nat → List (Int × Rat)) (rf : List Nat) (H : List (Nat × Ev.Obj)) : Prop where
  hO : afind H O = some { sz := 1, ty := 23, es := rowT N K L, refs := rf }
  hr : ∀ x ∈ rf, ∃ j, j < N ∧ L j ≠ [] ∧ x = K j
  hK : ∀ j, j < N → L j ≠ [] → K j ≠ O ∧ K j ≠ B ∧ afind H (K j) = some { sz := 5, ty := 51, es := vcs (vF (L j)), refs := [] }
  inj : ∀ i j, i < N → j < N → L i ≠ [] → L j ≠ [] → K i = K j → i = j
  hc : ∀ j, j < N → L j ≠ [] → K j ∈ rf
  box : afind H B = none
  clean : dropOkH [B] H = true

variable {O B N : Nat} {K : Nat → Nat} {L : Nat → List (Int × Rat)} {rf : List Nat} {H : List (Nat × Ev.Obj)}

theorem TI.adel (h : TI O B N K L rf H) (hOB : O ≠ B) : TI O B N K L rf (adel H [B]) := by
  have e : ∀ x, x ≠ B → afind (Ev.adel H [B]) x = afind H x := fun x hx => by rw [afind_adel, if_neg (by simpa using hx)]
  refine ⟨by rw [e _ hOB]; exact h.hO, h.hr, fun j hj hl => ?_, h.inj, h.hc, by rw [afind_adel, if_pos (by simp)], dropOkH_adel h.clean⟩
  obtain ⟨h1, h2, h3⟩ := h.hK j hj hl
  exact ⟨h1, h2, by rw [e _ h2]; exact h3⟩

theorem rowT_set {k : Nat} {c : Int} {q : Rat} {E : List (List AV)} {k' : Nat} {K' : Nat → Nat} (hE : E.length = N) (hEj : ∀ j, j < N → j ≠ k → E[j]? = some [cellT K L j]) (hK' : ∀ j, j ≠ k → L j ≠ [] → K' j = K j) (hk' : K' k = k') {m : Nat} (hm : m = (L k ++ [(c, q)]).length) :
    E.set k [.sl k' 0 m] = rowT N K' (addT c L ((k : Int), q)) := by
  refine List.ext_getElem (by simp [hE]) fun j h1 h2 => ?_
  simp only [List.length_set, hE] at h1
  simp only [rowT, List.getElem_set, List.getElem_map, List.getElem_range]
  by_cases hj : k = j
  · subst hj
    rw [if_pos rfl]
    simp [cellT, addT, hk', hm]
  · rw [if_neg hj]
    have e := hEj j h1 (fun e => hj e.symm)
    rw [List.getElem?_eq_getElem (by omega)] at e
    rw [Option.some.inj e]
    have : addT c L ((k : Int), q) j = L j := by unfold addT; rw [if_neg (by simp only; omega)]
    unfold cellT
    rw [this]
    by_cases hl : L j = []
    · rw [if_pos hl, if_pos hl]
    · rw [if_neg hl, if_neg hl, hK' j (fun e => hj e.symm) hl]

theorem addT_self {c : Int} {k : Nat} {q : Rat} : addT c L ((k : Int), q) k = L k ++ [(c, q)] := by unfold addT; rw [if_pos rfl]
theorem addT_ne {c : Int} {k j : Nat} {q : Rat} (h : j ≠ k) : addT c L ((k : Int), q) j = L j := by unfold addT; rw [if_neg (by simp only; omega)]

theorem rowT_get {k : Nat} (h : k < N) : (rowT N K L)[k]? = some [cellT K L k] := by simp [rowT, h]

theorem TI.step_new (h : TI O B N K L rf H) (hOB : O ≠ B) {k : Nat} (hk : k < N) (hl : L k = []) (c : Int) (q : Rat) (b : Ev.Obj) (hb : ∀ x ∈ b.refs, x ≠ B) {k' : Nat} (hk0 : afind (H ++ [(B, b)]) k' = none) :
    TI O B N (updK K k k') (addT c L ((k : Int), q)) (k' :: rf) (Ev.adel (aput (aput (H ++ [(B, b)]) k' { sz := 5, ty := 51, es := vcs (vF [(c, q)]), refs := [] }) O { sz := 1, ty := 23, es := (rowT N K L).set k [.sl k' 0 1], refs := k' :: rf }) [B]) := by
  have hs : ∀ x, afind (H ++ [(B, b)]) x = if B = x then some b else afind H x := fun x => afind_snoc B b x h.box
  have hkO : k' ≠ O := by rintro rfl; rw [hs, if_neg (fun e => hOB e.symm), h.hO] at hk0; cases hk0
  have hkB : k' ≠ B := by rintro rfl; rw [hs, if_pos rfl] at hk0; cases hk0
  have hkK : ∀ j, j < N → L j ≠ [] → k' ≠ K j := fun j hj hlj e => by
    obtain ⟨g1, g2, g3⟩ := h.hK j hj hlj
    rw [e, hs, if_neg (fun e => g2 e.symm), g3] at hk0; cases hk0
  have hself : updK K k k' k = k' := by unfold updK; rw [if_pos rfl]
  have hother : ∀ j, j ≠ k → updK K k k' j = K j := fun j hj => by unfold updK; rw [if_neg hj]
  have hrow : (rowT N K L).set k [.sl k' 0 1] = rowT N (updK K k k') (addT c L ((k : Int), q)) := rowT_set (by simp) (fun j hj _ => rowT_get hj) (fun j hj _ => hother j hj) hself (by simp [hl])
  have nonk : ∀ j, j ≠ k → addT c L ((k : Int), q) j ≠ [] → L j ≠ [] := fun j hj h => by rwa [addT_ne hj] at h
  refine ⟨?_, fun x hx => ?_, fun j hj hlj => ?_, fun i j hi hj hli hlj e => ?_, fun j hj hlj => ?_, by rw [afind_adel, if_pos (by simp)], ?_⟩
  · rw [afind_adel, if_neg (by simpa using hOB), afind_aput, if_pos rfl, hrow]
  · rcases List.mem_cons.1 hx with rfl | hx
    · exact ⟨k, hk, by rw [addT_self]; simp, hself.symm⟩
    · obtain ⟨j, hj, hlj, e⟩ := h.hr x hx
      have hjk : j ≠ k := by rintro rfl; exact hlj hl
      exact ⟨j, hj, by rw [addT_ne hjk]; exact hlj, by rw [hother j hjk]; exact e⟩
  · by_cases hjk : j = k
    · subst hjk
      rw [hself, addT_self, hl]
      refine ⟨hkO, hkB, ?_⟩
      rw [afind_adel, if_neg (by simpa using hkB), afind_aput, if_neg (fun e => hkO e.symm), afind_aput, if_pos rfl]
      rfl
    · have hlj' := nonk j hjk hlj
      obtain ⟨g1, g2, g3⟩ := h.hK j hj hlj'
      rw [hother j hjk, addT_ne hjk]
      refine ⟨g1, g2, ?_⟩
      rw [afind_adel, if_neg (by simpa using g2), afind_aput, if_neg (fun e => g1 e.symm), afind_aput, if_neg (hkK j hj hlj'), hs, if_neg (fun e => g2 e.symm)]
      exact g3
  · by_cases hik : i = k
    · by_cases hjk : j = k
      · rw [hik, hjk]
      · rw [hik, hself, hother j hjk] at e
        exact absurd e (hkK j hj (nonk j hjk hlj))
    · by_cases hjk : j = k
      · rw [hjk, hself, hother i hik] at e
        exact absurd e.symm (hkK i hi (nonk i hik hli))
      · rw [hother i hik, hother j hjk] at e
        exact h.inj i j hi hj (nonk i hik hli) (nonk j hjk hlj) e
  · by_cases hjk : j = k
    · rw [hjk, hself]; simp
    · rw [hother j hjk]
      exact List.mem_cons_of_mem _ (h.hc j hj (nonk j hjk hlj))
  · refine dropOkH_adel (dropOkH_aput (dropOkH_aput (dropOkH_snoc h.clean fun x hx => by simpa using hb x hx) (by simp)) fun x hx => ?_)
    simp only [List.mem_cons] at hx
    rcases hx with rfl | hx
    · simpa using hkB
    · obtain ⟨j, hj, hlj, rfl⟩ := h.hr x hx
      simpa using (h.hK j hj hlj).2.1

/-- The outer row, the names of one row struck. -/
theorem TI.scrub (h : TI O B N K L rf H) {k : Nat} (hk : k < N) (hl : L k ≠ []) : ∃ E rf', scrubO [K k] { sz := 1, ty := 23, es := rowT N K L, refs := rf } = { sz := 1, ty := 23, es := E, refs := rf' } ∧ E.length = N ∧ (∃ u, E[k]? = some [u]) ∧ (∀ j, j < N → j ≠ k → E[j]? = some [cellT K L j]) ∧ (∀ x ∈ rf', x ∈ rf) ∧ ∀ x ∈ rf, x ≠ K k → x ∈ rf' := by
  unfold scrubO
  by_cases hc : (rf.any [K k].contains) = true
  · rw [if_pos hc]
    refine ⟨_, _, rfl, by simp, ⟨_, by simp [rowT, hk]; rfl⟩, fun j hj hjk => ?_, fun x hx => (List.mem_filter.1 hx).1, fun x hx hne => List.mem_filter.2 ⟨hx, by simpa using hne⟩⟩
    simp only [List.getElem?_map, rowT_get hj, Option.map_some, AV.scrubL, Option.some.injEq, List.cons.injEq, and_true]
    unfold cellT
    by_cases hlj : L j = []
    · rw [if_pos hlj]; rfl
    · rw [if_neg hlj]
      have : K j ≠ K k := fun e => hjk (h.inj j k hj hk hlj hl e)
      simp [AV.scrub, this]
  · rw [if_neg hc]
    exact ⟨_, _, rfl, by simp, ⟨_, rowT_get hk⟩, fun j hj _ => rowT_get hj, fun x hx => hx, fun x hx _ => hx⟩

theorem TI.step_old (h : TI O B N K L rf H) (hOB : O ≠ B) {k : Nat} (hk : k < N) (hl : L k ≠ []) (c : Int) (q : Rat) (b : Ev.Obj) (hb : ∀ x ∈ b.refs, x ≠ B) {E : List (List AV)} {rf' : List Nat} (hE : E.length = N) (hEj : ∀ j, j < N → j ≠ k → E[j]? = some [cellT K L j]) (hrf : ∀ x ∈ rf', x ∈ rf) (hrf2 : ∀ x ∈ rf, x ≠ K k → x ∈ rf') :
    TI O B N K (addT c L ((k : Int), q)) (K k :: rf') (Ev.adel (aput (aput (scrubHeap [K k] (H ++ [(B, b)])) (K k) { sz := 5, ty := 51, es := vcs (vF (L k ++ [(c, q)])), refs := [] }) O { sz := 1, ty := 23, es := E.set k [.sl (K k) 0 ((L k).length + 1)], refs := K k :: rf' }) [B]) := by
  have hs : ∀ x, afind (H ++ [(B, b)]) x = if B = x then some b else afind H x := fun x => afind_snoc B b x h.box
  obtain ⟨kO, kB, kf⟩ := h.hK k hk hl
  have hrow : E.set k [.sl (K k) 0 ((L k).length + 1)] = rowT N K (addT c L ((k : Int), q)) := rowT_set hE hEj (fun _ _ _ => rfl) rfl (by simp)
  have nonk : ∀ j, addT c L ((k : Int), q) j ≠ [] → L j ≠ [] := fun j h => by
    by_cases hj : j = k
    · rw [hj]; exact hl
    · rwa [addT_ne hj] at h
  have tok : ∀ j, L j ≠ [] → addT c L ((k : Int), q) j ≠ [] := fun j h => by
    by_cases hj : j = k
    · rw [hj, addT_self]; simp
    · rwa [addT_ne hj]
  refine ⟨?_, fun x hx => ?_, fun j hj hlj => ?_, fun i j hi hj hli hlj e => h.inj i j hi hj (nonk i hli) (nonk j hlj) e, fun j hj hlj => ?_, by rw [afind_adel, if_pos (by simp)], ?_⟩
  · rw [afind_adel, if_neg (by simpa using hOB), afind_aput, if_pos rfl, hrow]
  · rcases List.mem_cons.1 hx with rfl | hx
    · exact ⟨k, hk, tok k hl, rfl⟩
    · obtain ⟨j, hj, hlj, e⟩ := h.hr x (hrf x hx)
      exact ⟨j, hj, tok j hlj, e⟩
  · obtain ⟨g1, g2, g3⟩ := h.hK j hj (nonk j hlj)
    refine ⟨g1, g2, ?_⟩
    rw [afind_adel, if_neg (by simpa using g2), afind_aput, if_neg (fun e => g1 e.symm), afind_aput]
    by_cases hjk : j = k
    · subst hjk
      rw [if_pos rfl, addT_self]
    · rw [if_neg (fun e => hjk (h.inj j k hj hk (nonk j hlj) hl e.symm)), addT_ne hjk, afind_scrubHeap, hs, if_neg (fun e => g2 e.symm), g3]
      simp [scrubO]
  · by_cases hjk : K j = K k
    · rw [hjk]; simp
    · exact List.mem_cons_of_mem _ (hrf2 _ (h.hc j hj (nonk j hlj)) hjk)
  · refine dropOkH_adel (dropOkH_aput (dropOkH_aput (dropOkH_scrub (dropOkH_snoc h.clean fun x hx => by simpa using hb x hx)) (by simp)) fun x hx => ?_)
    simp only [List.mem_cons] at hx
    rcases hx with rfl | hx
    · simpa using kB
    · obtain ⟨j, hj, hlj, rfl⟩ := h.hr x (hrf x hx)
      simpa using (h.hK j hj hlj).2.1

end Go.Proofs.Ythlpmghodgiknaa.C

/-
  The program's Transpose.
-/
namespace Go.Proofs.Ythlpmghodgiknaa.C
open Go Go.Ev

section
variable (G : Pure) (ic : Inl) (n : Nat)

theorem tposeP_inner (hC : G 45 = spCanonQ) (N : Nat) (hN : N ≤ 4096) (c : Int) (nv nls : Bool) (v : List Ent) (ls : List VV) (len idx : Int) (hv : VecOk 2000000 v) (hin : ∀ e ∈ v, 0 ≤ e.1 ∧ e.1 < N) : ∀ d i m (K : Nat → Nat) (L : Nat → List (Int × Rat)) (rf W reb : List Nat) (H : List (Nat × Ev.Obj)), i + d = v.length → d < m → TI 576624 576208 N K L rf H → (∀ j, (L j).length + d < 1000000000) →
    ∃ K' rf' W' reb' H', TI 576624 576208 N K' ((nums (v.drop i)).foldl (addT c) L) rf' H' ∧
    blockE (some c36_e1) 4 (iterK G ic n c36_k1 c36_b1Q m ⟨[(9, .sl 576624 0 N), (10, .int .i64 c), (40, .imm nls 1 (vvs ls)), (41, .int .i64 len), (42, .int .i64 idx), (47, .imm nv 5 (vcs v)), (48, .int .i64 v.length), (49, .int .i64 i)], H, [], W, reb⟩) =
      some (.normal, ⟨[(9, .sl 576624 0 N), (40, .imm nls 1 (vvs ls)), (41, .int .i64 len), (42, .int .i64 idx)], H', [], W', reb'⟩) := by
  have hlen := hv.len
  intro d
  induction d with
  | zero =>
    intro i m K L rf W reb H hi hm hT hLb
    obtain ⟨m, rfl⟩ : ∃ i, m = i + 1 := ⟨m - 1, by omega⟩
    have e : i = v.length := by omega
    subst e
    refine ⟨K, rf, dropKeys [576208] W, reb, adel H [576208], ?_, ?_⟩
    · rw [List.drop_length, nums_nil, List.foldl_nil]
      exact hT.adel (by decide)
    · have hd : dropOkH [576208] (adel H [576208]) = true := dropOkH_adel hT.clean
      have hb := hT.box
      simp [iterK_succ, hd, hb]
  | succ d ih =>
    intro i m K L rf W reb H hi hm hT hLb
    obtain ⟨m, rfl⟩ : ∃ i, m = i + 1 := ⟨m - 1, by omega⟩
    have hil : i < v.length := by omega
    obtain ⟨e, he⟩ : ∃ e, e = v[i] := ⟨_, rfl⟩
    have hdrop : v.drop i = e :: v.drop (i + 1) := by rw [List.drop_eq_getElem_cons hil, ← he]
    have hmem : e ∈ v := by rw [he]; exact List.getElem_mem _
    have hek := hv.ents e hmem
    obtain ⟨hx0, hxN⟩ := hin e hmem
    have g := vcs_get v i hil
    rw [← he] at g
    have tc := sp1_at hC hek.fr.qOf' rfl
    have w5 : IntKind.i64.wrap ((i : Int) + 1) = (i : Int) + 1 := wrap64_id _ (by omega) (by omega)
    obtain ⟨k, hk⟩ : ∃ k : Nat, e.1 = k := ⟨e.1.toNat, by omega⟩
    have hkN : k < N := by omega
    rw [hdrop, nums_cons, List.foldl_cons]
    obtain ⟨q, hq⟩ : ∃ q, q = e.2.q := ⟨_, rfl⟩
    rw [← hq] at tc ⊢
    rw [hk]
    simp only [fV_agg] at tc
    have hb0 := hT.box
    have haB : ∀ x : Ev.Obj, aput H 576208 x = H ++ [(576208, x)] := fun x => aput_new x hb0
    have haB2 : ∀ x y : Ev.Obj, aput (H ++ [(576208, x)]) 576208 y = H ++ [(576208, y)] := fun x y => aput_last x y hb0
    have hfB : ∀ y : Ev.Obj, afind (H ++ [(576208, y)]) 576208 = some y := fun y => by rw [afind_snoc _ _ _ hb0, if_pos rfl]
    obtain ⟨R, hR⟩ : ∃ R, R = rowT N K L := ⟨_, rfl⟩
    have hRl : R.length = N := by rw [hR]; simp
    have hfO : ∀ y : Ev.Obj, afind (H ++ [(576208, y)]) 576624 = some { sz := 1, ty := 23, es := R, refs := rf } := fun y => by rw [afind_snoc _ _ _ hb0, if_neg (by decide), hT.hO, hR]
    have hRk := rowT_get (K := K) (L := L) hkN
    rw [← hR] at hRk
    obtain ⟨bo, hbo⟩ : ∃ bo : Ev.Obj, bo = { sz := 5, ty := 51, es := [ecells e], refs := [] } := ⟨_, rfl⟩
    by_cases hl : L k = []
    · obtain ⟨k', hk'⟩ : ∃ k', k' = freshKey (H ++ [(576208, bo)]) 577072 := ⟨_, rfl⟩
      have hkn : ∀ y : Ev.Obj, freshKey (H ++ [(576208, y)]) 577072 = k' := fun y => by rw [hk']; exact freshKey_snoc _ _ _
      have hk0 : ∀ y : Ev.Obj, afind (H ++ [(576208, y)]) k' = none := fun y => by rw [← hkn y]; exact freshKey_none _ _
      have hkO : k' ≠ 576624 := by rintro rfl; have := hk0 bo; rw [hfO] at this; cases this
      have hkB : k' ≠ 576208 := by rintro rfl; have := hk0 bo; rw [hfB] at this; cases this
      have hTn := hT.step_new (by decide) hkN hl c q bo (by rw [hbo]; simp) (hk0 bo)
      have e1 := ih (i + 1) m _ _ _ (dropKeys [576208] (k' :: 576208 :: W)) reb _ (by omega) (by omega) hTn (fun j => by
        have h1 := hLb j
        by_cases hj : j = k
        · subst hj; rw [addT_self]; simp; omega
        · rw [addT_ne hj]; omega)
      obtain ⟨K1, rf1, W1, reb1, H1, hT1, e1⟩ := e1
      refine ⟨K1, rf1, W1, reb1, H1, hT1, ?_⟩
      rw [← e1]
      have hcell : cellT K L k = .imm true 5 [] := by unfold cellT; rw [if_pos hl]
      rw [hcell] at hRk
      have hRk' : ∀ h : k < R.length, R[k] = [AV.imm true 5 []] := fun h => by
        rw [List.getElem?_eq_getElem h] at hRk
        exact Option.some.inj hRk
      have hdo : dropOkH [576208] (adel (aput (aput (H ++ [(576208, bo)]) k' { sz := 5, ty := 51, es := vcs (vF [(c, q)]), refs := [] }) 576624 { sz := 1, ty := 23, es := (rowT N K L).set k [.sl k' 0 1], refs := k' :: rf }) [576208]) = true := by
        have := hTn.clean
        exact this
      rw [← hR] at hdo ⊢
      rw [hbo] at hdo ⊢
      clear e1 hTn hT1 hk' hbo hq hR ih
      simp [vcs, vF, qF, hk] at hdo
      have hkO' : ¬ 576624 = k' := fun e => hkO e.symm
      simp [iterK_succ, hil, g, tc, ← he, w5, hk, hkN, hRl, hRk', haB, haB2, hfB, hfO, hkn, hk0, hb0, hkO, hkO', hkB, hdo, afind_aput, qF, vcs, vF, -freshKey]
    · obtain ⟨E, rf', hsc, hEl, ⟨u, hEk⟩, hEj, hrf, hrf2⟩ := hT.scrub hkN hl
      have hTn := hT.step_old (by decide) hkN hl c q bo (by rw [hbo]; simp) hEl hEj hrf hrf2
      have hcell : cellT K L k = .sl (K k) 0 (L k).length := by unfold cellT; rw [if_neg hl]
      rw [hcell] at hRk
      obtain ⟨kO, kB, kf⟩ := hT.hK k hkN hl
      have hLk := hLb k
      have e1 := ih (i + 1) m _ _ _ (dropKeys [576208] (576208 :: W)) (K k :: reb) _ (by omega) (by omega) hTn (fun j => by
        have h1 := hLb j
        by_cases hj : j = k
        · subst hj; rw [addT_self]; simp; omega
        · rw [addT_ne hj]; omega)
      obtain ⟨K1, rf1, W1, reb1, H1, hT1, e1⟩ := e1
      refine ⟨K1, rf1, W1, reb1, H1, hT1, ?_⟩
      rw [← e1]
      have hfK : ∀ y : Ev.Obj, afind (H ++ [(576208, y)]) (K k) = some { sz := 5, ty := 51, es := vcs (vF (L k)), refs := [] } := fun y => by rw [afind_snoc _ _ _ hb0, if_neg (fun e => kB e.symm)]; exact kf
      have hsO : ∀ y : Ev.Obj, afind (scrubHeap [K k] (H ++ [(576208, y)])) 576624 = some { sz := 1, ty := 23, es := E, refs := rf' } := fun y => by
        rw [afind_scrubHeap, hfO, Option.map_some, hR, hsc]
      have hsB : ∀ y : Ev.Obj, y.refs = [] → afind (scrubHeap [K k] (H ++ [(576208, y)])) 576208 = some y := fun y hy => by
        rw [afind_scrubHeap, hfB, Option.map_some]; simp [scrubO, hy]
      have hdo := hTn.clean
      rw [vF_append, vcs_append] at hdo ⊢
      obtain ⟨V, hV⟩ : ∃ V, V = vcs (vF (L k)) := ⟨_, rfl⟩
      have hVl : V.length = (L k).length := by rw [hV]; simp
      rw [← hV] at hdo hfK ⊢
      obtain ⟨a, ha⟩ : ∃ a, a = (L k).length := ⟨_, rfl⟩
      rw [← ha] at hdo hVl hRk hLk ⊢
      obtain ⟨κ, hκ⟩ : ∃ κ, κ = K k := ⟨_, rfl⟩
      rw [← hκ] at hdo hfK hsO hsB kO kB hRk ⊢
      have hRk' : ∀ h : k < R.length, R[k] = [AV.sl κ 0 a] := fun h => by
        rw [List.getElem?_eq_getElem h] at hRk
        exact Option.some.inj hRk
      have hEk' : ∀ h : k < E.length, E[k] = [u] := fun h => by
        rw [List.getElem?_eq_getElem h] at hEk
        exact Option.some.inj hEk
      rw [hbo] at hdo ⊢
      have kO' : ¬ 576624 = κ := fun e => kO e.symm
      have kB' : ¬ 576208 = κ := fun e => kB e.symm
      have hby : (a + 1) * 72 ≤ 140737488355328 := by omega
      clear e1 hTn hT1 hbo hq hR ih hsc hEj hrf hrf2 kf hκ ha hV
      simp [vcs, vF, qF, hk] at hdo
      simp [iterK_succ, hil, g, tc, ← he, w5, hk, hkN, hRl, hRk', hEl, hEk', hVl, hby, haB, haB2, hfB, hfO, hfK, hsO, hsB, hb0, kO, kO', kB, kB', hdo, afind_aput, qF, vcs, vF, -freshKey]

end
end Go.Proofs.Ythlpmghodgiknaa.C

/-
  The reference's Transpose: the inner loop.
-/
namespace Go.Proofs.Ythlpmghodgiknaa.C
open Go Go.Ev

section
variable (G : Pure) (ic : Inl) (n : Nat)

theorem tposeR_inner (hC : G 28 = spReduce) (N : Nat) (hN : N ≤ 4096) (cn : Nat) (nls : Bool) (ls : List VV) (hcn : cn < ls.length) (hls : ls.length < 100000000) (v : List Ent) (hve : v = (ls[cn]).2) (hv : VecOk 2000000 v) (hin : ∀ e ∈ v, 0 ≤ e.1 ∧ e.1 < N) : ∀ d i m (K : Nat → Nat) (L : Nat → List (Int × Rat)) (rf W reb : List Nat) (H : List (Nat × Ev.Obj)), i + d = v.length → d < m → TI 592624 592176 N K L rf H → (∀ j, (L j).length + d < 1000000000) →
    ∃ K' rf' W' reb' H', TI 592624 592176 N K' ((nums (v.drop i)).foldl (addT cn) L) rf' H' ∧
    blockE (some c37_e1) 4 (iterK G ic n c37_k1 c37_b1Q m ⟨[(0, .imm nls 1 (vvs ls)), (8, .sl 592624 0 N), (9, .int .i64 cn), (10, .int .i64 i)], H, [], W, reb⟩) =
      some (.normal, ⟨[(0, .imm nls 1 (vvs ls)), (8, .sl 592624 0 N), (9, .int .i64 cn)], H', [], W', reb'⟩) := by
  have hlen := hv.len
  obtain ⟨c, hcc⟩ : ∃ c : Int, c = cn := ⟨_, rfl⟩
  rw [← hcc]
  have hv2 := hve.symm
  have hc0 : (0 : Int) ≤ c := by omega
  have hc1 : c < (ls.length : Int) := by omega
  have hct : c.toNat = cn := by omega
  intro d
  induction d with
  | zero =>
    intro i m K L rf W reb H hi hm hT hLb
    obtain ⟨m, rfl⟩ : ∃ i, m = i + 1 := ⟨m - 1, by omega⟩
    have e : i = v.length := by omega
    subst e
    refine ⟨K, rf, dropKeys [592176] W, reb, adel H [592176], ?_, ?_⟩
    · rw [List.drop_length, nums_nil, List.foldl_nil]
      exact hT.adel (by decide)
    · have hd : dropOkH [592176] (adel H [592176]) = true := dropOkH_adel hT.clean
      have hb := hT.box
      simp [iterK_succ, hv2, hcn, hc0, hc1, hct, hd, hb]
  | succ d ih =>
    intro i m K L rf W reb H hi hm hT hLb
    obtain ⟨m, rfl⟩ : ∃ i, m = i + 1 := ⟨m - 1, by omega⟩
    have hil : i < v.length := by omega
    obtain ⟨e, he⟩ : ∃ e, e = v[i] := ⟨_, rfl⟩
    have hdrop : v.drop i = e :: v.drop (i + 1) := by rw [List.drop_eq_getElem_cons hil, ← he]
    have hmem : e ∈ v := by rw [he]; exact List.getElem_mem _
    have hek := hv.ents e hmem
    obtain ⟨hx0, hxN⟩ := hin e hmem
    have g := vcs_get v i hil
    rw [← he] at g
    have tc := reduceF_at hC hek.fr
    have w5 : IntKind.i64.wrap ((i : Int) + 1) = (i : Int) + 1 := wrap64_id _ (by omega) (by omega)
    obtain ⟨k, hk⟩ : ∃ k : Nat, e.1 = k := ⟨e.1.toNat, by omega⟩
    have hkN : k < N := by omega
    rw [hdrop, nums_cons, List.foldl_cons]
    obtain ⟨q, hq⟩ : ∃ q, q = e.2.q := ⟨_, rfl⟩
    rw [← hq] at tc ⊢
    rw [hk]
    simp only [fV_agg] at tc
    have hb0 := hT.box
    have haB : ∀ x : Ev.Obj, aput H 592176 x = H ++ [(592176, x)] := fun x => aput_new x hb0
    have haB2 : ∀ x y : Ev.Obj, aput (H ++ [(592176, x)]) 592176 y = H ++ [(592176, y)] := fun x y => aput_last x y hb0
    have hfB : ∀ y : Ev.Obj, afind (H ++ [(592176, y)]) 592176 = some y := fun y => by rw [afind_snoc _ _ _ hb0, if_pos rfl]
    obtain ⟨R, hR⟩ : ∃ R, R = rowT N K L := ⟨_, rfl⟩
    have hRl : R.length = N := by rw [hR]; simp
    have hfO : ∀ y : Ev.Obj, afind (H ++ [(592176, y)]) 592624 = some { sz := 1, ty := 23, es := R, refs := rf } := fun y => by rw [afind_snoc _ _ _ hb0, if_neg (by decide), hT.hO, hR]
    have hRk := rowT_get (K := K) (L := L) hkN
    rw [← hR] at hRk
    obtain ⟨bo, hbo⟩ : ∃ bo : Ev.Obj, bo = { sz := 5, ty := 51, es := [ecells e], refs := [] } := ⟨_, rfl⟩
    by_cases hl : L k = []
    · obtain ⟨k', hk'⟩ : ∃ k', k' = freshKey (H ++ [(592176, bo)]) 593216 := ⟨_, rfl⟩
      have hkn : ∀ y : Ev.Obj, freshKey (H ++ [(592176, y)]) 593216 = k' := fun y => by rw [hk']; exact freshKey_snoc _ _ _
      have hk0 : ∀ y : Ev.Obj, afind (H ++ [(592176, y)]) k' = none := fun y => by rw [← hkn y]; exact freshKey_none _ _
      have hkO : k' ≠ 592624 := by rintro rfl; have := hk0 bo; rw [hfO] at this; cases this
      have hkB : k' ≠ 592176 := by rintro rfl; have := hk0 bo; rw [hfB] at this; cases this
      have hTn := hT.step_new (by decide) hkN hl c q bo (by rw [hbo]; simp) (hk0 bo)
      have e1 := ih (i + 1) m _ _ _ (dropKeys [592176] (k' :: 592176 :: W)) reb _ (by omega) (by omega) hTn (fun j => by
        have h1 := hLb j
        by_cases hj : j = k
        · subst hj; rw [addT_self]; simp; omega
        · rw [addT_ne hj]; omega)
      obtain ⟨K1, rf1, W1, reb1, H1, hT1, e1⟩ := e1
      refine ⟨K1, rf1, W1, reb1, H1, hT1, ?_⟩
      rw [← e1]
      have hcell : cellT K L k = .imm true 5 [] := by unfold cellT; rw [if_pos hl]
      rw [hcell] at hRk
      have hRk' : ∀ h : k < R.length, R[k] = [AV.imm true 5 []] := fun h => by
        rw [List.getElem?_eq_getElem h] at hRk
        exact Option.some.inj hRk
      have hdo : dropOkH [592176] (adel (aput (aput (H ++ [(592176, bo)]) k' { sz := 5, ty := 51, es := vcs (vF [(c, q)]), refs := [] }) 592624 { sz := 1, ty := 23, es := (rowT N K L).set k [.sl k' 0 1], refs := k' :: rf }) [592176]) = true := by
        have := hTn.clean
        exact this
      rw [← hR] at hdo ⊢
      rw [hbo] at hdo ⊢
      clear e1 hTn hT1 hk' hbo hq hR ih
      simp [vcs, vF, qF, hk] at hdo
      have hkO' : ¬ 592624 = k' := fun e => hkO e.symm
      simp [iterK_succ, hv2, hcn, hc0, hc1, hct, hil, g, tc, ← he, w5, hk, hkN, hRl, hRk', haB, haB2, hfB, hfO, hkn, hk0, hb0, hkO, hkO', hkB, hdo, afind_aput, qF, vcs, vF, -freshKey]
    · obtain ⟨E, rf', hsc, hEl, ⟨u, hEk⟩, hEj, hrf, hrf2⟩ := hT.scrub hkN hl
      have hTn := hT.step_old (by decide) hkN hl c q bo (by rw [hbo]; simp) hEl hEj hrf hrf2
      have hcell : cellT K L k = .sl (K k) 0 (L k).length := by unfold cellT; rw [if_neg hl]
      rw [hcell] at hRk
      obtain ⟨kO, kB, kf⟩ := hT.hK k hkN hl
      have hLk := hLb k
      have e1 := ih (i + 1) m _ _ _ (dropKeys [592176] (592176 :: W)) (K k :: reb) _ (by omega) (by omega) hTn (fun j => by
        have h1 := hLb j
        by_cases hj : j = k
        · subst hj; rw [addT_self]; simp; omega
        · rw [addT_ne hj]; omega)
      obtain ⟨K1, rf1, W1, reb1, H1, hT1, e1⟩ := e1
      refine ⟨K1, rf1, W1, reb1, H1, hT1, ?_⟩
      rw [← e1]
      have hfK : ∀ y : Ev.Obj, afind (H ++ [(592176, y)]) (K k) = some { sz := 5, ty := 51, es := vcs (vF (L k)), refs := [] } := fun y => by rw [afind_snoc _ _ _ hb0, if_neg (fun e => kB e.symm)]; exact kf
      have hsO : ∀ y : Ev.Obj, afind (scrubHeap [K k] (H ++ [(592176, y)])) 592624 = some { sz := 1, ty := 23, es := E, refs := rf' } := fun y => by
        rw [afind_scrubHeap, hfO, Option.map_some, hR, hsc]
      have hsB : ∀ y : Ev.Obj, y.refs = [] → afind (scrubHeap [K k] (H ++ [(592176, y)])) 592176 = some y := fun y hy => by
        rw [afind_scrubHeap, hfB, Option.map_some]; simp [scrubO, hy]
      have hdo := hTn.clean
      rw [vF_append, vcs_append] at hdo ⊢
      obtain ⟨V, hV⟩ : ∃ V, V = vcs (vF (L k)) := ⟨_, rfl⟩
      have hVl : V.length = (L k).length := by rw [hV]; simp
      rw [← hV] at hdo hfK ⊢
      obtain ⟨a, ha⟩ : ∃ a, a = (L k).length := ⟨_, rfl⟩
      rw [← ha] at hdo hVl hRk hLk ⊢
      obtain ⟨κ, hκ⟩ : ∃ κ, κ = K k := ⟨_, rfl⟩
      rw [← hκ] at hdo hfK hsO hsB kO kB hRk ⊢
      have hRk' : ∀ h : k < R.length, R[k] = [AV.sl κ 0 a] := fun h => by
        rw [List.getElem?_eq_getElem h] at hRk
        exact Option.some.inj hRk
      have hEk' : ∀ h : k < E.length, E[k] = [u] := fun h => by
        rw [List.getElem?_eq_getElem h] at hEk
        exact Option.some.inj hEk
      rw [hbo] at hdo ⊢
      have kO' : ¬ 592624 = κ := fun e => kO e.symm
      have kB' : ¬ 592176 = κ := fun e => kB e.symm
      have hby : (a + 1) * 72 ≤ 140737488355328 := by omega
      clear e1 hTn hT1 hbo hq hR ih hsc hEj hrf hrf2 kf hκ ha hV
      simp [vcs, vF, qF, hk] at hdo
      simp [iterK_succ, hv2, hcn, hc0, hc1, hct, hil, g, tc, ← he, w5, hk, hkN, hRl, hRk', hEl, hEk', hVl, hby, haB, haB2, hfB, hfO, hfK, hsO, hsB, hb0, kO, kO', kB, kB', hdo, afind_aput, qF, vcs, vF, -freshKey]

end
end Go.Proofs.Ythlpmghodgiknaa.C

/-
  Transpose of both sides.
-/
namespace Go.Proofs.Ythlpmghodgiknaa.C
open Go Go.Ev

/-- The first error of the columns. -/
def valsE (n : Int) : List VV → Int
  | [] => 0
  | v :: r => if valid n (nums v.2) = 0 then valsE n r else valid n (nums v.2)
theorem valsE_ok {n : Int} {v : VV} {r : List VV} (h : valid n (nums v.2) = 0) : valsE n (v :: r) = valsE n r := by conv => { lhs; unfold valsE }; rw [if_pos h]
theorem valsE_bad {n : Int} {v : VV} {r : List VV} (h : valid n (nums v.2) ≠ 0) : valsE n (v :: r) = valid n (nums v.2) := by unfold valsE; rw [if_neg h]
theorem valsE_good {n : Int} : ∀ {ls : List VV}, valsE n ls = 0 → ∀ v ∈ ls, valid n (nums v.2) = 0
  | [], _, v, hv => by simp at hv
  | w :: r, h, v, hv => by
    by_cases h0 : valid n (nums w.2) = 0
    · rw [valsE_ok h0] at h
      rcases List.mem_cons.1 hv with rfl | hv
      · exact h0
      · exact valsE_good h v hv
    · rw [valsE_bad h0] at h; exact absurd h h0

def trL : Nat → List VV → (Nat → List (Int × Rat)) → Nat → List (Int × Rat)
  | _, [], L => L
  | j, v :: r, L => trL (j + 1) r ((nums v.2).foldl (addT j) L)
def trF (N : Nat) (ls : List VV) : List VV := (List.range N).map fun j => (false, vF (trL 0 ls (fun _ => []) j))

structure VsOk (k : Nat) (ls : List VV) : Prop where
  len : ls.length < 100000000
  vecs : ∀ v ∈ ls, VecOk k v.2
def RVs (a : AV) (ls : List VV) : Prop := ∃ nl, a = .imm nl 1 (vvs ls) ∧ VsOk 2000000 ls
noncomputable def vsOf : AV → Option (List VV) := dec RVs
theorem vsOf_inv {a : AV} {l : List VV} (h : vsOf a = some l) : RVs a l := dec_inv h
theorem vsOf_mk {nl : Bool} {l : List VV} (h : VsOk 2000000 l) : vsOf (.imm nl 1 (vvs l)) = some l := dec_mk (R := RVs) (fun m hm => by
  obtain ⟨n2, e, _⟩ := hm
  simp only [AV.imm.injEq, true_and] at e
  exact vvs_inj e.2.symm) ⟨nl, rfl, h⟩

def vErrOut (v : Int) (s : SL) : Out := if v = 0 then some (.normal, s) else some (.ret, ⟨[(4, .imm true 1 []), (5, .int .i64 v)], [], [], [], []⟩)
theorem vErrOut_0 (s : SL) : vErrOut 0 s = some (.normal, s) := rfl
theorem vErrOut_ne {v : Int} (h : v ≠ 0) (s : SL) : vErrOut v s = some (.ret, ⟨[(4, .imm true 1 []), (5, .int .i64 v)], [], [], [], []⟩) := by unfold vErrOut; rw [if_neg h]

theorem addT_len (c : Int) (x : Int × Rat) (L : Nat → List (Int × Rat)) (j : Nat) : (addT c L x j).length ≤ (L j).length + 1 := by unfold addT; split <;> simp
theorem foldT_len (c : Int) : ∀ (l : List (Int × Rat)) (L : Nat → List (Int × Rat)) (j : Nat), (l.foldl (addT c) L j).length ≤ (L j).length + l.length
  | [], L, j => by simp
  | x :: l, L, j => by
    have h1 := foldT_len c l (addT c L x) j
    have h2 := addT_len c x L j
    simp only [List.foldl_cons, List.length_cons]
    omega

theorem sumLen_cons (v : VV) (ls : List VV) : sumLen (v :: ls) = v.2.length + sumLen ls := by simp [sumLen]

noncomputable def spTranspose : List AV → Option PRes := sp2 vsOf i64Of fun ls n =>
  if n < 0 ∨ 4096 < n ∨ 4096 < ls.length then some (.tup [.imm false 1 [], .int .i64 5])
  else if valsE n ls ≠ 0 then some (.tup [.imm false 1 [], .int .i64 (valsE n ls)])
  else if sumLen ls < 100000000 then some (.tup [.imm false 1 (vvs (trF n.toNat ls)), .int .i64 0])
  else none

theorem TI.start {O B N : Nat} (hOB : O ≠ B) (K : Nat → Nat) : TI O B N K (fun _ => []) [] [(O, { sz := 1, ty := 23, es := List.replicate N [.imm true 5 []], refs := [] })] := by
  refine ⟨?_, by simp, fun j _ h => absurd rfl h, fun i j _ _ h => absurd rfl h, fun j _ h => absurd rfl h, by simp [afind, hOB], by simp [dropOkH]⟩
  have : List.replicate N [AV.imm true 5 []] = rowT N K fun _ => [] := by
    refine List.ext_getElem (by simp) fun j h1 h2 => ?_
    simp [rowT, cellT]
  rw [this]
  simp [afind]

/-- The rows by value. -/
def cellV (L : Nat → List (Int × Rat)) (j : Nat) : AV := if L j = [] then .imm true 5 [] else .imm false 5 (vcs (vF (L j)))

theorem mapO_rowT {N : Nat} {K : Nat → Nat} {L : Nat → List (Int × Rat)} {H : Nat → Option Ev.Obj} (hK : ∀ j, j < N → L j ≠ [] → H (K j) = some { sz := 5, ty := 51, es := vcs (vF (L j)), refs := [] }) :
    ∀ l : List Nat, (∀ j ∈ l, j < N) → ∃ ks, mapO (mapO (fz H 7)) (l.map fun j => [cellT K L j]) = some (l.map fun j => [cellV L j], ks)
  | [], _ => ⟨[], rfl⟩
  | j :: l, hl => by
    obtain ⟨ks, h1⟩ := mapO_rowT hK l fun i hi => hl i (by simp [hi])
    have hj := hl j (by simp)
    have h2 : ∃ k2, fz H 7 (cellT K L j) = some (cellV L j, k2) := by
      unfold cellT cellV
      by_cases h0 : L j = []
      · rw [if_pos h0, if_pos h0]; exact ⟨_, rfl⟩
      · rw [if_neg h0, if_neg h0]
        refine ⟨[K j], ?_⟩
        simp only [fz, hK j hj h0]
        have : ((vcs (vF (L j))).drop 0).take (L j).length = vcs (vF (L j)) := by
          rw [List.drop_zero]
          exact List.take_of_length_le (by simp)
        rw [this]
        simp
    obtain ⟨k2, h2⟩ := h2
    refine ⟨(k2 ++ []) ++ ks, ?_⟩
    simp only [List.map_cons, mapO, h2, h1]

theorem TI.read {O B N : Nat} {K : Nat → Nat} {L : Nat → List (Int × Rat)} {rf : List Nat} {H : List (Nat × Ev.Obj)} (h : TI O B N K L rf H) : ∃ ks, fz (afind H) 8 (.sl O 0 N) = some (.imm false 1 ((List.range N).map fun j => [cellV L j]), ks) := by
  have hT : ((rowT N K L).drop 0).take N = rowT N K L := by rw [List.drop_zero]; exact List.take_of_length_le (by simp)
  by_cases hrf : rf = []
  · have hall : ∀ j, j < N → L j = [] := fun j hj => by
      by_cases h0 : L j = []
      · exact h0
      · have := h.hc j hj h0
        rw [hrf] at this
        simp at this
    refine ⟨[O], ?_⟩
    have hrow : rowT N K L = (List.range N).map fun j => [cellV L j] := List.map_congr_left fun j hj => by
      unfold cellT cellV
      rw [if_pos (hall j (List.mem_range.1 hj)), if_pos (hall j (List.mem_range.1 hj))]
    simp only [fz, h.hO, hT, hrf]
    simp [hrow]
  · obtain ⟨ks, hm⟩ := mapO_rowT (K := K) (L := L) (H := afind H) (fun j hj hl => (h.hK j hj hl).2.2) (List.range N) (fun j hj => List.mem_range.1 hj)
    refine ⟨O :: ks, ?_⟩
    have hm' : mapO (mapO (fz (afind H) 7)) (rowT N K L) = some ((List.range N).map fun j => [cellV L j], ks) := hm
    simp only [fz, h.hO, hT]
    simp [hrf, hm']

theorem read_weak (N : Nat) (ls : List VV) : AV.weakLL ((List.range N).map fun j => [cellV (trL 0 ls fun _ => []) j]) = vvs (trF N ls) := by
  unfold vvs trF
  rw [List.map_map]
  generalize List.range N = l
  induction l with
  | nil => rfl
  | cons j l ih =>
    simp only [List.map_cons, AV.weakLL, AV.weakL]
    rw [ih]
    congr 2
    simp only [Function.comp, vcell, cellV]
    split
    · rename_i h0; simp [AV.weak, AV.weakLL, h0, vF, vcs]
    · simp [AV.weak, vcs_vF_weak]

section
variable (G : Pure) (ic : Inl) (n : Nat)

theorem valsP_loop (hV : G 12 = spValidate) (nl : Bool) (ls : List VV) (hls : VsOk 2000000 ls) (nn : Int) (h0 : -9223372036854775808 ≤ nn) (h1 : nn < 9223372036854775808) : ∀ d i m, i + d = ls.length → d < m →
    blockE (some c36_e0) 0 (iterK G ic n c36_k0 c36_b0Q m ⟨[(0, .imm nl 1 (vvs ls)), (1, .int .i64 nn), (25, .imm nl 1 (vvs ls)), (26, .int .i64 ls.length), (27, .int .i64 i)], [], [], [], []⟩) =
      vErrOut (valsE nn (ls.drop i)) ⟨[(0, .imm nl 1 (vvs ls)), (1, .int .i64 nn)], [], [], [], []⟩ := by
  have hlen := hls.len
  intro d
  induction d with
  | zero =>
    intro i m hi hm
    obtain ⟨m, rfl⟩ : ∃ i, m = i + 1 := ⟨m - 1, by omega⟩
    have e : i = ls.length := by omega
    subst e
    rw [List.drop_length, show valsE nn [] = 0 from rfl, vErrOut_0]
    simp [iterK_succ]
  | succ d ih =>
    intro i m hi hm
    obtain ⟨m, rfl⟩ : ∃ i, m = i + 1 := ⟨m - 1, by omega⟩
    have hil : i < ls.length := by omega
    obtain ⟨v, he⟩ : ∃ v, v = ls[i] := ⟨_, rfl⟩
    have hdrop : ls.drop i = v :: ls.drop (i + 1) := by rw [List.drop_eq_getElem_cons hil, ← he]
    have hv := hls.vecs v (by rw [he]; exact List.getElem_mem _)
    have t := sp2_at hV (vOfA_mk (nl := v.1) hv) (i64Of_mk h0 h1) rfl
    have he2 := he.symm
    have w5 : IntKind.i64.wrap ((i : Int) + 1) = (i : Int) + 1 := wrap64_id _ (by omega) (by omega)
    rw [hdrop]
    by_cases hz : valid nn (nums v.2) = 0
    · rw [valsE_ok hz, ← ih (i + 1) m (by omega) (by omega)]
      rw [hz] at t
      simp [iterK_succ, hil, he2, t, w5]
    · rw [valsE_bad hz, vErrOut_ne hz]
      obtain ⟨x, hx⟩ : ∃ x, x = valid nn (nums v.2) := ⟨_, rfl⟩
      rw [← hx] at t hz ⊢
      simp [iterK_succ, hil, he2, t, hz]

theorem tposeP_outer (hC : G 45 = spCanonQ) (N : Nat) (hN : N ≤ 4096) (nl : Bool) (ls : List VV) (hls : VsOk 2000000 ls) (hin : ∀ v ∈ ls, ∀ e ∈ v.2, 0 ≤ e.1 ∧ e.1 < N) (hn : ∀ v ∈ ls, v.2.length < n) : ∀ d j m (K : Nat → Nat) (L : Nat → List (Int × Rat)) (rf W reb : List Nat) (H : List (Nat × Ev.Obj)), j + d = ls.length → d < m →
    TI 576624 576208 N K L rf H → (∀ i, (L i).length + sumLen (ls.drop j) < 1000000000) →
    ∃ K' rf' W' reb' H', TI 576624 576208 N K' (trL j (ls.drop j) L) rf' H' ∧
    blockE (some c36_e2) 2 (iterK G ic n c36_k2 c36_b2Q m ⟨[(9, .sl 576624 0 N), (40, .imm nl 1 (vvs ls)), (41, .int .i64 ls.length), (42, .int .i64 j)], H, [], W, reb⟩) =
      some (.normal, ⟨[(9, .sl 576624 0 N)], H', [], W', reb'⟩) := by
  have hlen := hls.len
  intro d
  induction d with
  | zero =>
    intro j m K L rf W reb H hj hm hT hLb
    obtain ⟨m, rfl⟩ : ∃ i, m = i + 1 := ⟨m - 1, by omega⟩
    have e : j = ls.length := by omega
    subst e
    refine ⟨K, rf, dropKeys [576208] W, reb, adel H [576208], ?_, ?_⟩
    · rw [List.drop_length, trL]
      exact hT.adel (by decide)
    · have hd : dropOkH [576208] (adel H [576208]) = true := dropOkH_adel hT.clean
      have hb := hT.box
      simp [iterK_succ, hd, hb]
  | succ d ih =>
    intro j m K L rf W reb H hj hm hT hLb
    obtain ⟨m, rfl⟩ : ∃ i, m = i + 1 := ⟨m - 1, by omega⟩
    have hjl : j < ls.length := by omega
    obtain ⟨v, he⟩ : ∃ v, v = ls[j] := ⟨_, rfl⟩
    have hdrop : ls.drop j = v :: ls.drop (j + 1) := by rw [List.drop_eq_getElem_cons hjl, ← he]
    have hmem : v ∈ ls := by rw [he]; exact List.getElem_mem _
    have he2 := he.symm
    have w5 : IntKind.i64.wrap ((j : Int) + 1) = (j : Int) + 1 := wrap64_id _ (by omega) (by omega)
    rw [hdrop, trL]
    rw [hdrop, sumLen_cons] at hLb
    obtain ⟨K1, rf1, W1, reb1, H1, hT1, e1⟩ := tposeP_inner G ic n hC N hN (j : Int) v.1 nl v.2 ls (ls.length : Int) (j : Int) (hls.vecs v hmem) (hin v hmem) v.2.length 0 n K L rf (dropKeys [576208] W) reb (adel H [576208]) (by omega) (hn v hmem) (hT.adel (by decide)) (fun i => by have := hLb i; omega)
    rw [List.drop_zero] at hT1
    obtain ⟨K2, rf2, W2, reb2, H2, hT2, e2⟩ := ih (j + 1) m K1 _ rf1 (dropKeys [576208] W1) reb1 (adel H1 [576208]) (by omega) (by omega) (hT1.adel (by decide)) (fun i => by
      have h1 := hLb i
      have h2 := foldT_len (j : Int) (nums v.2) L i
      have h3 : (nums v.2).length = v.2.length := by simp [nums]
      omega)
    refine ⟨K2, rf2, W2, reb2, H2, hT2, ?_⟩
    rw [← e2]
    have hd : dropOkH [576208] (adel H [576208]) = true := dropOkH_adel hT.clean
    have hb := hT.box
    have hd1 : dropOkH [576208] (adel H1 [576208]) = true := dropOkH_adel hT1.clean
    have hb1 := hT1.box
    simp [c36_e1, c36_k1] at e1
    clear e2 hT2 hT1 ih
    simp [iterK_succ, hjl, he2, w5, hd, hb, hd1, hb1, e1]

theorem transposeP_run (hV : G 12 = spValidate) (hC : G 45 = spCanonQ) : FSpec (fun args n => pureF G ic n c36F args) spTranspose := by
  intro args r h
  obtain ⟨a, b, ls, nn, v, rfl, hx, hy, hv, rfl⟩ := sp2_inv h
  obtain ⟨nl, rfl, hls⟩ := vsOf_inv hx
  obtain ⟨rfl, n0, n1⟩ := i64Of_inv hy
  have hlen := hls.len
  by_cases h0 : nn < 0 ∨ 4096 < nn ∨ 4096 < ls.length
  · rw [if_pos h0] at hv
    cases hv
    refine ⟨{ val := .tup [.imm true 1 [], .int .i64 5] }, ⟨0, ?_⟩, rfl, by simp [AV.weak, AV.weakL, AV.weakLL]⟩
    by_cases c1 : nn < 0
    · simp [pureF, runF, c1]
    · by_cases c2 : 4096 < nn
      · simp [pureF, runF, c1, c2]
      · have c3 : (4096 : Int) < ls.length := by omega
        simp [pureF, runF, c1, c2, c3]
  · rw [if_neg h0] at hv
    have c1 : ¬ nn < 0 := by omega
    have c2 : ¬ 4096 < nn := by omega
    have c3 : ¬ (4096 : Int) < ls.length := by omega
    obtain ⟨M, hM⟩ : ∃ M, M = ls.length + sumLen ls + 1 := ⟨_, rfl⟩
    have e := valsP_loop G ic M hV nl ls hls nn n0 n1 ls.length 0 M (by omega) (by omega)
    rw [List.drop_zero] at e
    simp [c36_e0, c36_k0] at e
    by_cases hz : valsE nn ls ≠ 0
    · rw [if_pos hz] at hv
      cases hv
      obtain ⟨x, hxx⟩ : ∃ x, x = valsE nn ls := ⟨_, rfl⟩
      rw [← hxx] at e hz ⊢
      rw [vErrOut_ne hz] at e
      refine ⟨{ val := .tup [.imm true 1 [], .int .i64 x] }, ⟨M, ?_⟩, rfl, by simp [AV.weak, AV.weakL, AV.weakLL]⟩
      simp [pureF, runF, c1, c2, c3, e]
    · rw [if_neg hz] at hv
      obtain ⟨hsum, hv⟩ := of_ite hv
      cases hv
      have hz0 : valsE nn ls = 0 := by simpa using hz
      rw [hz0, vErrOut_0] at e
      obtain ⟨N, rfl⟩ : ∃ N : Nat, nn = N := ⟨nn.toNat, by omega⟩
      have hin : ∀ v ∈ ls, ∀ e ∈ v.2, 0 ≤ e.1 ∧ e.1 < N := fun v hv e he => by
        have := (valid_cn (valsE_good hz0 v hv)).el (e.1, e.2.q) (List.mem_map_of_mem he)
        exact ⟨this.1, this.2.1⟩
      obtain ⟨K', rf', W', reb', H', hT', e2⟩ := tposeP_outer G ic M hC N (by omega) nl ls hls hin (fun v hv => by have := len_le_sum hv; omega) ls.length 0 M (fun _ => 0) (fun _ => []) [] [576624] [] [(576624, { sz := 1, ty := 23, es := List.replicate N [.imm true 5 []], refs := [] })] (by omega) (by omega) (TI.start (by decide) _) (fun i => by simp; omega)
      rw [List.drop_zero] at hT'
      obtain ⟨ks, hrd⟩ := (hT'.adel (by decide)).read
      simp [c36_e2, c36_k2] at e2
      have hd : dropOkH [576208] (adel H' [576208]) = true := dropOkH_adel hT'.clean
      have hb := hT'.box
      obtain ⟨R, hR⟩ : ∃ R, R = (List.range N).map fun j => [cellV (trL 0 ls fun _ => []) j] := ⟨_, rfl⟩
      rw [← hR] at hrd
      have b1 : (N : Int) * 24 ≤ 140737488355328 := by omega
      refine ⟨{ val := .tup [.imm false 1 R, .int .i64 0] }, ⟨M, ?_⟩, rfl, by rw [hR]; simp only [AV.weak, AV.weakL, read_weak, Int.toNat_natCast]⟩
      have hf0 : fz (afind (adel H' [576208])) 8 (.int .i64 0) = some (.int .i64 0, []) := rfl
      clear hR hT' hz hz0 hsum
      have hrun : runF G ic M c36F [.imm nl 1 (vvs ls), .int .i64 N] [] [] = some ([.sl 576624 0 N, .int .i64 0], ⟨[(4, .sl 576624 0 N), (5, .int .i64 0)], adel H' [576208], [], dropKeys [576208] W', reb'⟩) := by
        simp [runF, c1, c2, c3, e, e2, b1, hd, hb]
      have hfz : ∃ k2, fzL (afind (adel H' [576208])) [.sl 576624 0 N, .int .i64 0] = some ([.imm false 1 R, .int .i64 0], k2) := by
        refine ⟨ks ++ ([] ++ []), ?_⟩
        unfold fzL
        simp only [mapO, hrd, hf0]
      obtain ⟨k2, hfz⟩ := hfz
      show dataO (runF G ic M c36F [.imm nl 1 (vvs ls), .int .i64 N] [] []) = _
      rw [hrun]
      have hfz' : fzL (SL.den ⟨[(4, .sl 576624 0 N), (5, .int .i64 0)], adel H' [576208], [], dropKeys [576208] W', reb'⟩).heap [.sl 576624 0 N, .int .i64 0] = some ([.imm false 1 R, .int .i64 0], k2) := hfz
      unfold dataO
      simp only [hfz']
      rfl

end
end Go.Proofs.Ythlpmghodgiknaa.C

/-
  The reference's Transpose; equality of lists of vectors.
-/
namespace Go.Proofs.Ythlpmghodgiknaa.C
open Go Go.Ev

section
variable (G : Pure) (ic : Inl) (n : Nat)

theorem valsR_loop (hV : G 13 = spValidate) (nl : Bool) (ls : List VV) (hls : VsOk 2000000 ls) (nn : Int) (h0 : -9223372036854775808 ≤ nn) (h1 : nn < 9223372036854775808) : ∀ d i m, i + d = ls.length → d < m →
    blockE (some c37_e0) 0 (iterK G ic n c37_k0 c37_b0Q m ⟨[(0, .imm nl 1 (vvs ls)), (1, .int .i64 nn), (6, .int .i64 i)], [], [], [], []⟩) =
      vErrOut (valsE nn (ls.drop i)) ⟨[(0, .imm nl 1 (vvs ls)), (1, .int .i64 nn)], [], [], [], []⟩ := by
  have hlen := hls.len
  intro d
  induction d with
  | zero =>
    intro i m hi hm
    obtain ⟨m, rfl⟩ : ∃ i, m = i + 1 := ⟨m - 1, by omega⟩
    have e : i = ls.length := by omega
    subst e
    rw [List.drop_length, show valsE nn [] = 0 from rfl, vErrOut_0]
    simp [iterK_succ]
  | succ d ih =>
    intro i m hi hm
    obtain ⟨m, rfl⟩ : ∃ i, m = i + 1 := ⟨m - 1, by omega⟩
    have hil : i < ls.length := by omega
    obtain ⟨v, he⟩ : ∃ v, v = ls[i] := ⟨_, rfl⟩
    have hdrop : ls.drop i = v :: ls.drop (i + 1) := by rw [List.drop_eq_getElem_cons hil, ← he]
    have hv := hls.vecs v (by rw [he]; exact List.getElem_mem _)
    have t := sp2_at hV (vOfA_mk (nl := v.1) hv) (i64Of_mk h0 h1) rfl
    have he2 := he.symm
    have w5 : IntKind.i64.wrap ((i : Int) + 1) = (i : Int) + 1 := wrap64_id _ (by omega) (by omega)
    rw [hdrop]
    by_cases hz : valid nn (nums v.2) = 0
    · rw [valsE_ok hz, ← ih (i + 1) m (by omega) (by omega)]
      rw [hz] at t
      simp [iterK_succ, hil, he2, t, w5]
    · rw [valsE_bad hz, vErrOut_ne hz]
      obtain ⟨x, hx⟩ : ∃ x, x = valid nn (nums v.2) := ⟨_, rfl⟩
      rw [← hx] at t hz ⊢
      simp [iterK_succ, hil, he2, t, hz]

theorem tposeR_outer (hC : G 28 = spReduce) (N : Nat) (hN : N ≤ 4096) (nl : Bool) (ls : List VV) (hls : VsOk 2000000 ls) (hin : ∀ v ∈ ls, ∀ e ∈ v.2, 0 ≤ e.1 ∧ e.1 < N) (hn : ∀ v ∈ ls, v.2.length < n) : ∀ d j m (K : Nat → Nat) (L : Nat → List (Int × Rat)) (rf W reb : List Nat) (H : List (Nat × Ev.Obj)), j + d = ls.length → d < m →
    TI 592624 592176 N K L rf H → (∀ i, (L i).length + sumLen (ls.drop j) < 1000000000) →
    ∃ K' rf' W' reb' H', TI 592624 592176 N K' (trL j (ls.drop j) L) rf' H' ∧
    blockE (some c37_e2) 2 (iterK G ic n c37_k2 c37_b2Q m ⟨[(0, .imm nl 1 (vvs ls)), (8, .sl 592624 0 N), (9, .int .i64 j)], H, [], W, reb⟩) =
      some (.normal, ⟨[(8, .sl 592624 0 N)], H', [], W', reb'⟩) := by
  have hlen := hls.len
  intro d
  induction d with
  | zero =>
    intro j m K L rf W reb H hj hm hT hLb
    obtain ⟨m, rfl⟩ : ∃ i, m = i + 1 := ⟨m - 1, by omega⟩
    have e : j = ls.length := by omega
    subst e
    refine ⟨K, rf, dropKeys [592176] W, reb, adel H [592176], ?_, ?_⟩
    · rw [List.drop_length, trL]
      exact hT.adel (by decide)
    · have hd : dropOkH [592176] (adel H [592176]) = true := dropOkH_adel hT.clean
      have hb := hT.box
      simp [iterK_succ, hd, hb]
  | succ d ih =>
    intro j m K L rf W reb H hj hm hT hLb
    obtain ⟨m, rfl⟩ : ∃ i, m = i + 1 := ⟨m - 1, by omega⟩
    have hjl : j < ls.length := by omega
    obtain ⟨v, he⟩ : ∃ v, v = ls[j] := ⟨_, rfl⟩
    have hdrop : ls.drop j = v :: ls.drop (j + 1) := by rw [List.drop_eq_getElem_cons hjl, ← he]
    have hmem : v ∈ ls := by rw [he]; exact List.getElem_mem _
    have he2 := he.symm
    have w5 : IntKind.i64.wrap ((j : Int) + 1) = (j : Int) + 1 := wrap64_id _ (by omega) (by omega)
    rw [hdrop, trL]
    rw [hdrop, sumLen_cons] at hLb
    obtain ⟨K1, rf1, W1, reb1, H1, hT1, e1⟩ := tposeR_inner G ic n hC N hN j nl ls hjl hls.len v.2 (by rw [he]) (hls.vecs v hmem) (hin v hmem) v.2.length 0 n K L rf (dropKeys [592176] W) reb (adel H [592176]) (by omega) (hn v hmem) (hT.adel (by decide)) (fun i => by have := hLb i; omega)
    rw [List.drop_zero] at hT1
    obtain ⟨K2, rf2, W2, reb2, H2, hT2, e2⟩ := ih (j + 1) m K1 _ rf1 (dropKeys [592176] W1) reb1 (adel H1 [592176]) (by omega) (by omega) (hT1.adel (by decide)) (fun i => by
      have h1 := hLb i
      have h2 := foldT_len (j : Int) (nums v.2) L i
      have h3 : (nums v.2).length = v.2.length := by simp [nums]
      omega)
    refine ⟨K2, rf2, W2, reb2, H2, hT2, ?_⟩
    rw [← e2]
    have hd : dropOkH [592176] (adel H [592176]) = true := dropOkH_adel hT.clean
    have hb := hT.box
    have hd1 : dropOkH [592176] (adel H1 [592176]) = true := dropOkH_adel hT1.clean
    have hb1 := hT1.box
    simp [c37_e1, c37_k1] at e1
    clear e2 hT2 hT1 ih
    simp [iterK_succ, hjl, he2, w5, hd, hb, hd1, hb1, e1]

theorem transposeR_run (hV : G 13 = spValidate) (hC : G 28 = spReduce) : FSpec (fun args n => pureF G ic n c37F args) spTranspose := by
  intro args r h
  obtain ⟨a, b, ls, nn, v, rfl, hx, hy, hv, rfl⟩ := sp2_inv h
  obtain ⟨nl, rfl, hls⟩ := vsOf_inv hx
  obtain ⟨rfl, n0, n1⟩ := i64Of_inv hy
  have hlen := hls.len
  by_cases h0 : nn < 0 ∨ 4096 < nn ∨ 4096 < ls.length
  · rw [if_pos h0] at hv
    cases hv
    refine ⟨{ val := .tup [.imm true 1 [], .int .i64 5] }, ⟨0, ?_⟩, rfl, by simp [AV.weak, AV.weakL, AV.weakLL]⟩
    by_cases c1 : nn < 0
    · simp [pureF, runF, c1]
    · by_cases c2 : 4096 < nn
      · simp [pureF, runF, c1, c2]
      · have c3 : (4096 : Int) < ls.length := by omega
        simp [pureF, runF, c1, c2, c3]
  · rw [if_neg h0] at hv
    have c1 : ¬ nn < 0 := by omega
    have c2 : ¬ 4096 < nn := by omega
    have c3 : ¬ (4096 : Int) < ls.length := by omega
    obtain ⟨M, hM⟩ : ∃ M, M = ls.length + sumLen ls + 1 := ⟨_, rfl⟩
    have e := valsR_loop G ic M hV nl ls hls nn n0 n1 ls.length 0 M (by omega) (by omega)
    rw [List.drop_zero] at e
    simp [c37_e0, c37_k0] at e
    by_cases hz : valsE nn ls ≠ 0
    · rw [if_pos hz] at hv
      cases hv
      obtain ⟨x, hxx⟩ : ∃ x, x = valsE nn ls := ⟨_, rfl⟩
      rw [← hxx] at e hz ⊢
      rw [vErrOut_ne hz] at e
      refine ⟨{ val := .tup [.imm true 1 [], .int .i64 x] }, ⟨M, ?_⟩, rfl, by simp [AV.weak, AV.weakL, AV.weakLL]⟩
      simp [pureF, runF, c1, c2, c3, e]
    · rw [if_neg hz] at hv
      obtain ⟨hsum, hv⟩ := of_ite hv
      cases hv
      have hz0 : valsE nn ls = 0 := by simpa using hz
      rw [hz0, vErrOut_0] at e
      obtain ⟨N, rfl⟩ : ∃ N : Nat, nn = N := ⟨nn.toNat, by omega⟩
      have hin : ∀ v ∈ ls, ∀ e ∈ v.2, 0 ≤ e.1 ∧ e.1 < N := fun v hv e he => by
        have := (valid_cn (valsE_good hz0 v hv)).el (e.1, e.2.q) (List.mem_map_of_mem he)
        exact ⟨this.1, this.2.1⟩
      obtain ⟨K', rf', W', reb', H', hT', e2⟩ := tposeR_outer G ic M hC N (by omega) nl ls hls hin (fun v hv => by have := len_le_sum hv; omega) ls.length 0 M (fun _ => 0) (fun _ => []) [] [592624] [] [(592624, { sz := 1, ty := 23, es := List.replicate N [.imm true 5 []], refs := [] })] (by omega) (by omega) (TI.start (by decide) _) (fun i => by simp; omega)
      rw [List.drop_zero] at hT'
      obtain ⟨ks, hrd⟩ := (hT'.adel (by decide)).read
      simp [c37_e2, c37_k2] at e2
      have hd : dropOkH [592176] (adel H' [592176]) = true := dropOkH_adel hT'.clean
      have hb := hT'.box
      obtain ⟨R, hR⟩ : ∃ R, R = (List.range N).map fun j => [cellV (trL 0 ls fun _ => []) j] := ⟨_, rfl⟩
      rw [← hR] at hrd
      have b1 : (N : Int) * 24 ≤ 140737488355328 := by omega
      refine ⟨{ val := .tup [.imm false 1 R, .int .i64 0] }, ⟨M, ?_⟩, rfl, by rw [hR]; simp only [AV.weak, AV.weakL, read_weak, Int.toNat_natCast]⟩
      have hf0 : fz (afind (adel H' [592176])) 8 (.int .i64 0) = some (.int .i64 0, []) := rfl
      clear hR hT' hz hz0 hsum
      have hrun : runF G ic M c37F [.imm nl 1 (vvs ls), .int .i64 N] [] [] = some ([.sl 592624 0 N, .int .i64 0], ⟨[(4, .sl 592624 0 N), (5, .int .i64 0)], adel H' [592176], [], dropKeys [592176] W', reb'⟩) := by
        simp [runF, c1, c2, c3, e, e2, b1, hd, hb]
      have hfz : ∃ k2, fzL (afind (adel H' [592176])) [.sl 592624 0 N, .int .i64 0] = some ([.imm false 1 R, .int .i64 0], k2) := by
        refine ⟨ks ++ ([] ++ []), ?_⟩
        unfold fzL
        simp only [mapO, hrd, hf0]
      obtain ⟨k2, hfz⟩ := hfz
      show dataO (runF G ic M c37F [.imm nl 1 (vvs ls), .int .i64 N] [] []) = _
      rw [hrun]
      have hfz' : fzL (SL.den ⟨[(4, .sl 592624 0 N), (5, .int .i64 0)], adel H' [592176], [], dropKeys [592176] W', reb'⟩).heap [.sl 592624 0 N, .int .i64 0] = some ([.imm false 1 R, .int .i64 0], k2) := hfz
      unfold dataO
      simp only [hfz']
      rfl


end
end Go.Proofs.Ythlpmghodgiknaa.C

/-
  The program's Multiply.
-/
namespace Go.Proofs.Ythlpmghodgiknaa.C
open Go Go.Ev

def colN (ls : List VV) (i : Int) : List (Int × Rat) := nums (ls.getD i.toNat (false, [])).2
def mulF (ls : List VV) (F : Nat → Rat) (e : Int × Rat) : Nat → Rat := fun j => F j + e.2 * atQ (colN ls e.1) j
def mulE (n : Int) (ls : List VV) (x : List (Int × Rat)) : Int := if valid n [] ≠ 0 then valid n [] else if valsE n ls ≠ 0 then valsE n ls else valid ls.length x

open Classical in
noncomputable def spMultiply : List AV → Option PRes := sp3 vsOf vOfA i64Of fun ls x n =>
  if mulE n ls (nums x) ≠ 0 then some (.tup [.imm false 5 [], .int .i64 (mulE n ls (nums x))])
  else if ∃ K, 1 ≤ K ∧ (∀ v ∈ ls, ∀ e ∈ v.2, e.2.ok K) ∧ (∀ e ∈ x, e.2.ok K) ∧ 4 * ((x.length + 1) * (2 * K + 2)) + 4 < 2000000 then some (.tup [.imm false 5 (vcs (vF (gathF n.toNat ((nums x).foldl (mulF ls) fun _ => 0)))), .int .i64 0])
  else none

section
variable (G : Pure) (ic : Inl) (n : Nat)

theorem mulP_inner (hA : G 47 = spAddFrac) (hM : G 46 = spMulFrac) (N : Nat) (hN : N ≤ 4096) (nv nl nx : Bool) (v x : List Ent) (ls : List VV) (idx : Int) (xe : Ent) (K C : Nat) (hK1 : 1 ≤ K) (hC1 : 1 ≤ C) (hxe : xe.2.ok K) (hvK : ∀ e ∈ v, e.2.ok K) (hCK : C + (2 * K + 2) < 2000000) (hlen : v.length < 100000000) (hxl : x.length < 100000000)
    (hin : ∀ e ∈ v, 0 ≤ e.1 ∧ e.1 < N) (hsv : (nums v).Pairwise fun x y => x.1 < y.1) : ∀ d i m (F : Nat → Rat), i + d = v.length → d < m → (∀ e ∈ v.drop i, Sz C (F e.1.toNat)) →
    blockE (some c34_e1) 4 (iterK G ic n c34_k1 c34_b1Q m ⟨[(0, .imm nl 1 (vvs ls)), (13, .sl 544704 0 N), (15, .ptr 544240 0 0), (45, .imm nx 5 (vcs x)), (46, .int .i64 x.length), (47, .int .i64 idx), (55, .imm nv 5 (vcs v)), (56, .int .i64 v.length), (57, .int .i64 i)],
      [(544704, { sz := 4, ty := 33, es := fcs (rowQ N F), refs := [] }), (544240, { sz := 5, ty := 51, es := [ecells xe], refs := [] })], [], [544240, 544704], []⟩) =
      some (.normal, ⟨[(0, .imm nl 1 (vvs ls)), (13, .sl 544704 0 N), (45, .imm nx 5 (vcs x)), (46, .int .i64 x.length), (47, .int .i64 idx)], [(544704, { sz := 4, ty := 33, es := fcs (rowQ N ((nums (v.drop i)).foldl (addF xe.2.q) F)), refs := [] }), (544240, { sz := 5, ty := 51, es := [ecells xe], refs := [] })], [], [544240, 544704], []⟩) := by
  intro d
  induction d with
  | zero =>
    intro i m F hi hm hF
    obtain ⟨m, rfl⟩ : ∃ i, m = i + 1 := ⟨m - 1, by omega⟩
    have e : i = v.length := by omega
    subst e
    rw [List.drop_length, nums_nil, List.foldl_nil]
    simp [iterK_succ]
  | succ d ih =>
    intro i m F hi hm hF
    obtain ⟨m, rfl⟩ : ∃ i, m = i + 1 := ⟨m - 1, by omega⟩
    have hib : i < v.length := by omega
    obtain ⟨e, he⟩ : ∃ e, e = v[i] := ⟨_, rfl⟩
    have hdrop : v.drop i = e :: v.drop (i + 1) := by rw [List.drop_eq_getElem_cons hib, ← he]
    have hmem : e ∈ v := by rw [he]; exact List.getElem_mem _
    have hek := hvK e hmem
    obtain ⟨hx0, hxN⟩ := hin e hmem
    have g := vcs_get v i hib
    rw [← he] at g
    have w5 : IntKind.i64.wrap ((i : Int) + 1) = (i : Int) + 1 := wrap64_id _ (by omega) (by omega)
    have hp := Sz_mul (Sz_RF hxe) (Sz_RF hek) hK1
    have tm := sp2_at hM ((hxe.mono (by omega) : xe.2.ok 2000000)).qOf' ((hek.mono (by omega) : e.2.ok 2000000)).qOf' rfl
    have hF1 : Sz C (F e.1.toNat) := hF e (by rw [hdrop]; simp)
    have ta := sp2_at hA (qOf_fV hF1 (by omega)) (qOf_fV hp (by omega)) rfl
    have hsd : (nums (v.drop i)).Pairwise fun x y => x.1 < y.1 := by
      have : nums (v.drop i) = (nums v).drop i := by simp [nums]
      rw [this]; exact List.Pairwise.sublist (List.drop_sublist _ _) hsv
    rw [hdrop, nums_cons, List.pairwise_cons] at hsd
    rw [hdrop, nums_cons, List.foldl_cons]
    have hadd : addF xe.2.q F (e.1, e.2.q) = setF F (e.1, F e.1.toNat + xe.2.q * e.2.q) := rfl
    have e1 := ih (i + 1) m (addF xe.2.q F (e.1, e.2.q)) (by omega) (by omega) (fun x hx => by
      have h1 := hsd.1 (x.1, x.2.q) (List.mem_map_of_mem hx)
      have h2 := hF x (by rw [hdrop]; simp [hx])
      have : addF xe.2.q F (e.1, e.2.q) x.1.toNat = F x.1.toNat := by
        rw [hadd]; unfold setF; rw [if_neg (by simp only at h1 ⊢; omega)]
      rw [this]; exact h2)
    obtain ⟨k, hk⟩ : ∃ k : Nat, e.1 = k := ⟨e.1.toNat, by omega⟩
    have hkN : k < N := by omega
    have hkt : e.1.toNat = k := by omega
    rw [hkt] at hF1 ta hadd
    obtain ⟨R, hR⟩ : ∃ R, R = fcs (rowQ N F) := ⟨_, rfl⟩
    have hRl : R.length = N := by rw [hR]; simp
    have hRk := rowQ_get hR k
    obtain ⟨p, hpe⟩ : ∃ p, p = xe.2.q * e.2.q := ⟨_, rfl⟩
    rw [← hpe] at tm ta hadd
    obtain ⟨z, hz⟩ : ∃ z, z = F k := ⟨_, rfl⟩
    rw [← hz] at ta hRk hadd
    obtain ⟨q, hq⟩ : ∃ q, q = z + p := ⟨_, rfl⟩
    rw [← hq] at ta hadd
    have hset : R.set k (qF q).cells = fcs (rowQ N (addF xe.2.q F (e.1, e.2.q))) := by
      rw [hR, ← rowR_rowQ, rowR_set, upd_qF hk, hadd, rowR_rowQ]
    rw [← hset] at e1
    rw [← e1, ← hR]
    simp only [fV_agg] at tm ta
    clear e1 hR hset hq hz hpe hadd hsd ih hF hF1 hp
    simp [qF] at hRk
    simp [iterK_succ, hib, g, ta, tm, ← he, w5, hk, hkN, hRl, hRk, qF]

theorem mulP_outer (hA : G 47 = spAddFrac) (hM : G 46 = spMulFrac) (N : Nat) (hN : N ≤ 4096) (nl nx : Bool) (x : List Ent) (ls : List VV) (hls : VsOk 2000000 ls) (K : Nat) (hK1 : 1 ≤ K) (hxK : ∀ e ∈ x, e.2.ok K) (hlK : ∀ v ∈ ls, ∀ e ∈ v.2, e.2.ok K) (hKK : (x.length + 1) * (2 * K + 2) < 2000000)
    (hxl : x.length < 100000000) (hxi : ∀ e ∈ x, 0 ≤ e.1 ∧ e.1 < ls.length) (hcn : ∀ v ∈ ls, Cn 0 N (nums v.2)) (hn : ∀ v ∈ ls, v.2.length < n) : ∀ d i m (F : Nat → Rat), i + d = x.length → d < m → (∀ j, Sz (1 + i * (2 * K + 2)) (F j)) →
    blockE (some c34_e2) 2 (iterK G ic n c34_k2 c34_b2Q m ⟨[(0, .imm nl 1 (vvs ls)), (13, .sl 544704 0 N), (45, .imm nx 5 (vcs x)), (46, .int .i64 x.length), (47, .int .i64 i)],
      [(544704, { sz := 4, ty := 33, es := fcs (rowQ N F), refs := [] })], [], [544704], []⟩) =
      some (.normal, ⟨[(13, .sl 544704 0 N)], [(544704, { sz := 4, ty := 33, es := fcs (rowQ N ((nums (x.drop i)).foldl (mulF ls) F)), refs := [] })], [], [544704], []⟩) := by
  have hlen := hls.len
  intro d
  induction d with
  | zero =>
    intro i m F hi hm hF
    obtain ⟨m, rfl⟩ : ∃ i, m = i + 1 := ⟨m - 1, by omega⟩
    have e : i = x.length := by omega
    subst e
    rw [List.drop_length, nums_nil, List.foldl_nil]
    simp [iterK_succ]
  | succ d ih =>
    intro i m F hi hm hF
    obtain ⟨m, rfl⟩ : ∃ i, m = i + 1 := ⟨m - 1, by omega⟩
    have hib : i < x.length := by omega
    obtain ⟨e, he⟩ : ∃ e, e = x[i] := ⟨_, rfl⟩
    have hdrop : x.drop i = e :: x.drop (i + 1) := by rw [List.drop_eq_getElem_cons hib, ← he]
    have hmem : e ∈ x := by rw [he]; exact List.getElem_mem _
    have g := vcs_get x i hib
    rw [← he] at g
    have w5 : IntKind.i64.wrap ((i : Int) + 1) = (i : Int) + 1 := wrap64_id _ (by omega) (by omega)
    obtain ⟨hx0, hx1⟩ := hxi e hmem
    obtain ⟨k, hk⟩ : ∃ k : Nat, e.1 = k := ⟨e.1.toNat, by omega⟩
    have hkl : k < ls.length := by omega
    obtain ⟨v, hv⟩ : ∃ v, v = ls[k] := ⟨_, rfl⟩
    have hvm : v ∈ ls := by rw [hv]; exact List.getElem_mem _
    have hcol : colN ls e.1 = nums v.2 := by unfold colN; rw [show e.1.toNat = k by omega]; simp [hkl, hv]
    have cv := hcn v hvm
    have hiK : (i + 1) * (2 * K + 2) ≤ (x.length + 1) * (2 * K + 2) := Nat.mul_le_mul_right _ (by omega)
    have hiK2 : (i + 1) * (2 * K + 2) = i * (2 * K + 2) + (2 * K + 2) := by rw [Nat.add_mul, Nat.one_mul]
    have hiK3 : (i + 1) * (2 * K + 2) < (x.length + 1) * (2 * K + 2) := Nat.mul_lt_mul_of_pos_right (by omega) (by omega)
    have e1 := mulP_inner G ic n hA hM N hN v.1 nl nx v.2 x ls (i : Int) e K (1 + i * (2 * K + 2)) hK1 (by omega) (hxK e hmem) (hlK v hvm) (by omega) (hls.vecs v hvm).len hxl (fun y hy => by
      have := cv.el (y.1, y.2.q) (List.mem_map_of_mem hy)
      exact ⟨this.1, this.2.1⟩) cv.so v.2.length 0 n F (by omega) (hn v hvm) (fun y _ => hF _)
    rw [List.drop_zero] at e1
    have hfold : (nums v.2).foldl (addF e.2.q) F = mulF ls F (e.1, e.2.q) := by
      funext j
      rw [foldl_addF e.2.q (nums v.2) F j (fun y hy => (cv.el y hy).1) cv.so]
      unfold mulF
      rw [hcol]
    rw [hfold] at e1
    rw [hdrop, nums_cons, List.foldl_cons]
    have e2 := ih (i + 1) m (mulF ls F (e.1, e.2.q)) (by omega) (by omega) (fun j => by
      unfold mulF
      simp only
      rw [hcol]
      exact (Sz_add (hF j) (Sz_mul (Sz_RF (hxK e hmem)) (atQ_sz (hlK v hvm) hK1 j) hK1) (by omega)).mono (by omega))
    rw [← e2]
    obtain ⟨R, hR⟩ : ∃ R, R = fcs (rowQ N F) := ⟨_, rfl⟩
    obtain ⟨R2, hR2⟩ : ∃ R, R = fcs (rowQ N (mulF ls F (e.1, e.2.q))) := ⟨_, rfl⟩
    rw [← hR, ← hR2] at e1
    rw [← hR, ← hR2]
    have hv2 := hv.symm
    simp [c34_e1, c34_k1, hk] at e1
    clear e2 ih hfold hF hR hR2 hcol
    simp [iterK_succ, hib, g, ← he, w5, hk, hkl, hv2, e1]

def mErrOut (v : Int) (s : SL) : Out := if v = 0 then some (.normal, s) else some (.ret, ⟨[(6, .imm true 5 []), (7, .int .i64 v)], [], [], [], []⟩)
theorem mErrOut_0 (s : SL) : mErrOut 0 s = some (.normal, s) := rfl
theorem mErrOut_ne {v : Int} (h : v ≠ 0) (s : SL) : mErrOut v s = some (.ret, ⟨[(6, .imm true 5 []), (7, .int .i64 v)], [], [], [], []⟩) := by unfold mErrOut; rw [if_neg h]

theorem mvalsP_loop (hV : G 12 = spValidate) (nl : Bool) (ls : List VV) (hls : VsOk 2000000 ls) (ux : AV) (hux : ux.keys = []) (nn : Int) (h0 : -9223372036854775808 ≤ nn) (h1 : nn < 9223372036854775808) : ∀ d i m, i + d = ls.length → d < m →
    blockE (some c34_e0) 0 (iterK G ic n c34_k0 c34_b0Q m ⟨[(0, .imm nl 1 (vvs ls)), (1, ux), (2, .int .i64 nn), (23, .imm nl 1 (vvs ls)), (24, .int .i64 ls.length), (25, .int .i64 i)], [], [], [], []⟩) =
      mErrOut (valsE nn (ls.drop i)) ⟨[(0, .imm nl 1 (vvs ls)), (1, ux), (2, .int .i64 nn)], [], [], [], []⟩ := by
  have hlen := hls.len
  intro d
  induction d with
  | zero =>
    intro i m hi hm
    obtain ⟨m, rfl⟩ : ∃ i, m = i + 1 := ⟨m - 1, by omega⟩
    have e : i = ls.length := by omega
    subst e
    rw [List.drop_length, show valsE nn [] = 0 from rfl, mErrOut_0]
    simp [iterK_succ]
  | succ d ih =>
    intro i m hi hm
    obtain ⟨m, rfl⟩ : ∃ i, m = i + 1 := ⟨m - 1, by omega⟩
    have hil : i < ls.length := by omega
    obtain ⟨v, he⟩ : ∃ v, v = ls[i] := ⟨_, rfl⟩
    have hdrop : ls.drop i = v :: ls.drop (i + 1) := by rw [List.drop_eq_getElem_cons hil, ← he]
    have hv := hls.vecs v (by rw [he]; exact List.getElem_mem _)
    have t := sp2_at hV (vOfA_mk (nl := v.1) hv) (i64Of_mk h0 h1) rfl
    have he2 := he.symm
    have w5 : IntKind.i64.wrap ((i : Int) + 1) = (i : Int) + 1 := wrap64_id _ (by omega) (by omega)
    rw [hdrop]
    by_cases hz : valid nn (nums v.2) = 0
    · rw [valsE_ok hz, ← ih (i + 1) m (by omega) (by omega)]
      rw [hz] at t
      simp [iterK_succ, hil, he2, t, w5]
    · rw [valsE_bad hz, mErrOut_ne hz]
      obtain ⟨x, hx⟩ : ∃ x, x = valid nn (nums v.2) := ⟨_, rfl⟩
      rw [← hx] at t hz ⊢
      simp [iterK_succ, hil, he2, t, hz]

theorem mulFold_sz {ls : List VV} {K : Nat} (hK1 : 1 ≤ K) (hl : ∀ v ∈ ls, ∀ e ∈ v.2, e.2.ok K) : ∀ (x : List Ent) (F : Nat → Rat) (C : Nat), 1 ≤ C → (∀ e ∈ x, e.2.ok K) → (∀ j, Sz C (F j)) → ∀ j, Sz (C + x.length * (2 * K + 1)) ((nums x).foldl (mulF ls) F j)
  | [], F, C, _, _, h, j => by simpa using h j
  | e :: x, F, C, hC, hx, h, j => by
    have hcol : ∀ j, Sz K (atQ (colN ls e.1) j) := fun j => by
      unfold colN
      by_cases hk : e.1.toNat < ls.length
      · have : ls.getD e.1.toNat (false, []) = ls[e.1.toNat] := by simp [hk]
        rw [this]
        exact atQ_sz (hl _ (List.getElem_mem _)) hK1 j
      · have : ls.getD e.1.toNat (false, []) = (false, []) := by simp [hk]
        rw [this]
        exact Sz_zero.mono hK1
    have h1 := mulFold_sz hK1 hl x (mulF ls F (e.1, e.2.q)) (C + (K + K) + 1) (by omega) (fun y hy => hx y (by simp [hy])) (fun j => by
      unfold mulF
      exact Sz_add (h j) (Sz_mul (Sz_RF (hx e (by simp))) (hcol j) hK1) hC) j
    rw [nums_cons, List.foldl_cons]
    refine h1.mono ?_
    simp only [List.length_cons, Nat.add_mul, Nat.one_mul]
    omega

open Classical in
theorem multiplyP_run (hV : G 12 = spValidate) (hZ : G 53 = spZeros) (hG : G 54 = spGathered) (hA : G 47 = spAddFrac) (hM : G 46 = spMulFrac) : FSpec (fun args n => pureF G ic n c34F args) spMultiply := by
  intro args r h
  obtain ⟨ua, ub, un, ls, x, nn, v, rfl, hx, hy, hz, hv, rfl⟩ := sp3_inv h
  have t0 := sp2_at hV vOfA_nil hz rfl
  rw [nums_nil] at t0
  obtain ⟨nl, rfl, hls⟩ := vsOf_inv hx
  obtain ⟨nx, rfl, hlx⟩ := vOfA_inv hy
  obtain ⟨rfl, n0, n1⟩ := i64Of_inv hz
  have hlen := hls.len
  have tx := sp2_at hV hy (i64Of_mk (n := (ls.length : Int)) (by omega) (by omega)) rfl
  by_cases h0 : valid nn [] ≠ 0
  · have hE : mulE nn ls (nums x) = valid nn [] := by unfold mulE; rw [if_pos h0]
    rw [hE, if_pos h0] at hv
    cases hv
    obtain ⟨e, he⟩ : ∃ e, e = valid nn [] := ⟨_, rfl⟩
    rw [← he] at t0 h0 ⊢
    refine ⟨{ val := .tup [.imm true 5 [], .int .i64 e] }, ⟨0, ?_⟩, rfl, by simp [AV.weak, AV.weakL, AV.weakLL]⟩
    simp [pureF, runF, t0, h0, bne]
  · have h00 : valid nn [] = 0 := by simpa using h0
    obtain ⟨g0, g1, _⟩ := valid_ok h00
    rw [h00] at t0
    obtain ⟨M, hM0⟩ : ∃ M, M = ls.length + x.length + sumLen ls + 1 := ⟨_, rfl⟩
    have e := mvalsP_loop G ic M hV nl ls hls (.imm nx 5 (vcs x)) rfl nn n0 n1 ls.length 0 M (by omega) (by omega)
    rw [List.drop_zero] at e
    simp [c34_e0, c34_k0] at e
    by_cases hq : valsE nn ls ≠ 0
    · have hE : mulE nn ls (nums x) = valsE nn ls := by unfold mulE; rw [if_neg h0, if_pos hq]
      rw [hE, if_pos hq] at hv
      cases hv
      obtain ⟨w, hw⟩ : ∃ w, w = valsE nn ls := ⟨_, rfl⟩
      rw [← hw] at e hq ⊢
      rw [mErrOut_ne hq] at e
      refine ⟨{ val := .tup [.imm true 5 [], .int .i64 w] }, ⟨M, ?_⟩, rfl, by simp [AV.weak, AV.weakL, AV.weakLL]⟩
      simp [pureF, runF, t0, e, bne]
    · have hq0 : valsE nn ls = 0 := by simpa using hq
      rw [hq0, mErrOut_0] at e
      have hE : mulE nn ls (nums x) = valid ls.length (nums x) := by unfold mulE; rw [if_neg h0, if_neg hq]
      rw [hE] at hv
      by_cases hp : valid ls.length (nums x) ≠ 0
      · rw [if_pos hp] at hv
        cases hv
        obtain ⟨w, hw⟩ : ∃ w, w = valid ls.length (nums x) := ⟨_, rfl⟩
        rw [← hw] at tx hp ⊢
        refine ⟨{ val := .tup [.imm true 5 [], .int .i64 w] }, ⟨M, ?_⟩, rfl, by simp [AV.weak, AV.weakL, AV.weakLL]⟩
        simp [pureF, runF, t0, e, tx, hp, bne]
      · have hp0 : valid ls.length (nums x) = 0 := by simpa using hp
        rw [if_neg hp] at hv
        obtain ⟨⟨K, hK1, hlK, hxK, hKK⟩, hv⟩ := of_ite hv
        cases hv
        rw [hp0] at tx
        obtain ⟨N, rfl⟩ : ∃ N : Nat, nn = N := ⟨nn.toNat, by omega⟩
        have cx := valid_cn hp0
        have e2 := mulP_outer G ic M hA hM N (by omega) nl nx x ls hls K hK1 hxK hlK (by omega) hlx.len (fun y hy => by
          have := cx.el (y.1, y.2.q) (List.mem_map_of_mem hy)
          exact ⟨this.1, this.2.1⟩) (fun v hv => valid_cn (valsE_good hq0 v hv)) (fun v hv => by have := len_le_sum hv; omega) x.length 0 M (fun _ => 0) (by omega) (by omega) (fun j => by simpa using Sz_zero)
        rw [List.drop_zero] at e2
        simp [c34_e2, c34_k2] at e2
        have tz := zeros_at hZ (m := N) (by omega)
        have hsz := mulFold_sz hK1 hlK x (fun _ => 0) 1 (Nat.le_refl _) hxK (fun j => by simpa using Sz_zero)
        have hle : x.length * (2 * K + 1) ≤ (x.length + 1) * (2 * K + 2) := Nat.mul_le_mul (by omega) (by omega)
        have tg := sp1_at hG (fsOf_mk (nl := false) (rowQ_ok (N := N) (by omega) hsz (by omega))) (by rw [rowQ_length, if_pos (by omega), rowQ_q])
        rw [show gath 0 ((List.range N).map ((nums x).foldl (mulF ls) fun _ => 0)) = gathF N ((nums x).foldl (mulF ls) fun _ => 0) from rfl] at tg
        rw [Int.toNat_natCast]
        obtain ⟨out, ho⟩ : ∃ out, out = gathF N ((nums x).foldl (mulF ls) fun _ => 0) := ⟨_, rfl⟩
        rw [← ho] at tg ⊢
        obtain ⟨Z, hZ0⟩ : ∃ Z, Z = fcs (rowQ N fun _ => 0) := ⟨_, rfl⟩
        obtain ⟨R, hR⟩ : ∃ R, R = fcs (rowQ N ((nums x).foldl (mulF ls) fun _ => 0)) := ⟨_, rfl⟩
        have hRl : R.length = N := by rw [hR]; simp
        have hRT : R.take N = R := by rw [← hRl, List.take_length]
        rw [← hZ0] at tz e2
        rw [← hR] at tg e2
        refine ⟨{ val := .tup [.imm false 5 (vcs (vF out)), .int .i64 0] }, ⟨M, ?_⟩, rfl, by simp [AV.weak, AV.weakL, vcs_vF_weak]⟩
        clear ho hZ0 hR hsz
        simp [pureF, runF, t0, e, tx, tz, e2, tg, hRl, hRT, bne]

end
end Go.Proofs.Ythlpmghodgiknaa.C

/-
  The reference's Multiply.
-/
namespace Go.Proofs.Ythlpmghodgiknaa.C
open Go Go.Ev

theorem gathF_sz {n : Nat} {F : Nat → Rat} {C : Nat} (h : ∀ j, Sz C (F j)) : ∀ x ∈ gathF n F, Sz C x.2 := fun x hx => by
  obtain ⟨j, _, _, e⟩ := gathF_val hx
  rw [e]; exact h j
theorem gathF_len (n : Nat) (F : Nat → Rat) : (gathF n F).length ≤ n := by
  have := gath_length 0 ((List.range n).map F)
  simpa [gathF] using this
theorem gathF_vec {n : Nat} {F : Nat → Rat} {C : Nat} (hn : n ≤ 4096) (h : ∀ j, Sz C (F j)) (hC : C < 2000000) : VecOk 2000000 (vF (gathF n F)) := by
  have := gathF_len n F
  exact vF_vec hn (gathF_cn n F) (by omega) (gathF_sz h) hC

section
variable (G : Pure) (ic : Inl) (n : Nat)

end
end Go.Proofs.Ythlpmghodgiknaa.C

/-
  The law of matrices.
-/
namespace Go.Proofs.Ythlpmghodgiknaa.C
open Go Go.Ev

theorem foldT_mem (c : Int) : ∀ (l : List (Int × Rat)) (L : Nat → List (Int × Rat)) (i : Nat) (x : Int × Rat), x ∈ l.foldl (addT c) L i → x ∈ L i ∨ ∃ y ∈ l, x = (c, y.2)
  | [], _, _, _, h => .inl h
  | y :: l, L, i, x, h => by
    rw [List.foldl_cons] at h
    rcases foldT_mem c l _ i x h with h | ⟨z, hz, e⟩
    · unfold addT at h
      split at h
      · rcases List.mem_append.1 h with h | h
        · exact .inl h
        · simp only [List.mem_singleton] at h
          exact .inr ⟨y, by simp, h⟩
      · exact .inl h
    · exact .inr ⟨z, by simp [hz], e⟩

theorem trL_mem : ∀ (ls : List VV) (j : Nat) (L : Nat → List (Int × Rat)) (i : Nat) (x : Int × Rat), x ∈ trL j ls L i → x ∈ L i ∨ ∃ v ∈ ls, ∃ e ∈ v.2, ∃ k : Nat, k < j + ls.length ∧ x = ((k : Int), e.2.q)
  | [], _, _, _, _, h => .inl h
  | v :: r, j, L, i, x, h => by
    rw [trL] at h
    rcases trL_mem r (j + 1) _ i x h with h | ⟨w, hw, e, he, k, hk, hx⟩
    · rcases foldT_mem j _ L i x h with h | ⟨y, hy, hx⟩
      · exact .inl h
      · obtain ⟨e, he, rfl⟩ := List.mem_map.1 hy
        exact .inr ⟨v, by simp, e, he, j, by simp, hx⟩
    · exact .inr ⟨w, by simp [hw], e, he, k, by simp; omega, hx⟩

theorem trL_len : ∀ (ls : List VV) (j : Nat) (L : Nat → List (Int × Rat)) (i : Nat), (trL j ls L i).length ≤ (L i).length + sumLen ls
  | [], _, _, _ => by simp [trL]
  | v :: r, j, L, i => by
    have h1 := trL_len r (j + 1) ((nums v.2).foldl (addT j) L) i
    have h2 := foldT_len (j : Int) (nums v.2) L i
    have h3 : (nums v.2).length = v.2.length := by simp [nums]
    rw [trL, sumLen_cons]
    omega

theorem trF_ok {ls : List VV} {N K : Nat} (hN : N ≤ 4096) (hl : ls.length < 100000000) (hs : sumLen ls < 100000000) (hK : K < 2000000) (h : ∀ v ∈ ls, ∀ e ∈ v.2, e.2.ok K) : VsOk 2000000 (trF N ls) := by
  refine ⟨by simp [trF]; omega, fun v hv => ?_⟩
  simp only [trF, List.mem_map] at hv
  obtain ⟨j, _, rfl⟩ := hv
  have hlen := trL_len ls 0 (fun _ => []) j
  simp only [List.length_nil] at hlen
  refine ⟨by simp; omega, fun e he => ?_⟩
  obtain ⟨x, hx, rfl⟩ := List.mem_map.1 he
  rcases trL_mem ls 0 _ j x hx with h0 | ⟨w2, hw2, e2, he2, k, hk, rfl⟩
  · simp at h0
  · exact ⟨by simp only; omega, by simp only; omega, qF_ok (Sz_RF (h w2 hw2 e2 he2)) hK⟩

theorem Lt.vs {ls : List VV} (h : Lt ls) : VsOk 2000000 ls ∧ sumLen ls ≤ 60 ∧ ∀ v ∈ ls, ∀ e ∈ v.2, e.2.ok 13 :=
  ⟨⟨by have := h.count; omega, fun v hv => (h.vec hv).1⟩, h.total, fun v hv e he => (h.small v hv e he).fr⟩

section
variable (G : Pure) (ic : Inl) (n : Nat)

end
end Go.Proofs.Ythlpmghodgiknaa.C

/-
  The adjoint: transposed twice, and the two products.
-/
namespace Go.Proofs.Ythlpmghodgiknaa.C
open Go Go.Ev

theorem foldT_at (c : Int) {N : Int} : ∀ (l : List (Int × Rat)) (lo : Int) (L : Nat → List (Int × Rat)) (j : Nat), Cn lo N l → 0 ≤ lo → l.foldl (addT c) L j = L j ++ (if atQ l j = 0 then [] else [(c, atQ l j)])
  | [], _, _, _, _, _ => by simp [atQ]
  | x :: l, lo, L, j, h, h0 => by
    have hx := h.el x (by simp)
    rw [List.foldl_cons, foldT_at c l (x.1 + 1) _ j h.tail (by omega), atQ_cons]
    unfold addT
    by_cases hj : (j : Int) = x.1
    · rw [if_pos hj, if_pos hj.symm, h.tail.at_lo (by omega), if_pos rfl, if_neg hx.2.2, List.append_nil]
    · rw [if_neg hj, if_neg (Ne.symm hj)]

theorem atQ_snoc_ne {c i : Int} {q : Rat} (h : c ≠ i) : ∀ l : List (Int × Rat), atQ (l ++ [(c, q)]) i = atQ l i
  | [] => by show (if c = i then q else 0) = 0; rw [if_neg h]
  | x :: l => by rw [List.cons_append, atQ_cons, atQ_cons, atQ_snoc_ne h l]
theorem atQ_snoc {c : Int} {q : Rat} : ∀ l : List (Int × Rat), (∀ x ∈ l, x.1 ≠ c) → atQ (l ++ [(c, q)]) c = q
  | [], _ => by show (if c = c then q else 0) = q; rw [if_pos rfl]
  | x :: l, h => by rw [List.cons_append, atQ_cons, if_neg (h x (by simp)), atQ_snoc l fun y hy => h y (by simp [hy])]

theorem cn_snoc {m : Int} {l : List (Int × Rat)} {q : Rat} (h : Cn 0 m l) (hm : 0 ≤ m) (hq : q ≠ 0) : Cn 0 (m + 1) (l ++ [(m, q)]) := by
  refine ⟨fun x hx => ?_, List.pairwise_append.2 ⟨h.so, by simp, fun x hx y hy => ?_⟩⟩
  · rcases List.mem_append.1 hx with hx | hx
    · have := h.el x hx; exact ⟨this.1, by omega, this.2.2⟩
    · simp only [List.mem_singleton] at hx; subst hx; exact ⟨hm, by simp only; omega, hq⟩
  · simp only [List.mem_singleton] at hy; subst hy; exact (h.el x hx).2.1

/-- The entries of row j. -/
theorem trL_cn {N : Int} : ∀ (ls : List VV) (m : Nat) (L : Nat → List (Int × Rat)) (j : Nat), (∀ v ∈ ls, Cn 0 N (nums v.2)) → Cn 0 m (L j) →
    Cn 0 (m + ls.length : Nat) (trL m ls L j) ∧ ∀ k : Nat, atQ (trL m ls L j) k = if k < m then atQ (L j) k else atQ (colN ls ((k - m : Nat) : Int)) j
  | [], m, L, j, _, h => by
    refine ⟨by simpa [trL] using h, fun k => ?_⟩
    rw [trL]
    split
    · rfl
    · rw [h.at_hi (by omega)]; simp [colN, atQ]
  | v :: r, m, L, j, hv, h => by
    have h1 := hv v (by simp)
    have e1 := foldT_at (m : Int) (nums v.2) 0 L j h1 (Int.le_refl _)
    have hne : ∀ x ∈ L j, x.1 ≠ (m : Int) := fun x hx => by have := h.el x hx; omega
    have c1 : Cn 0 (m + 1 : Nat) ((nums v.2).foldl (addT m) L j) := by
      rw [e1]
      by_cases h0 : atQ (nums v.2) j = 0
      · rw [if_pos h0, List.append_nil]
        exact ⟨fun x hx => by have := h.el x hx; exact ⟨this.1, by omega, this.2.2⟩, h.so⟩
      · rw [if_neg h0]
        exact cn_snoc h (by omega) h0
    obtain ⟨i1, i2⟩ := trL_cn r (m + 1) _ j (fun w hw => hv w (by simp [hw])) c1
    rw [trL]
    refine ⟨by rw [show m + (v :: r).length = m + 1 + r.length by simp; omega]; exact i1, fun k => ?_⟩
    rw [i2 k, e1]
    by_cases hk : k < m
    · rw [if_pos (by omega), if_pos hk]
      by_cases h0 : atQ (nums v.2) j = 0
      · rw [if_pos h0, List.append_nil]
      · rw [if_neg h0, atQ_snoc_ne (by omega)]
    · rw [if_neg hk]
      by_cases hkm : k = m
      · subst hkm
        rw [if_pos (by omega), Nat.sub_self]
        have e2 : colN (v :: r) ((0 : Nat) : Int) = nums v.2 := by simp [colN]
        rw [e2]
        by_cases h0 : atQ (nums v.2) j = 0
        · rw [if_pos h0, List.append_nil, h.at_hi (Int.le_refl _), h0]
        · rw [if_neg h0, atQ_snoc _ hne]
      · rw [if_neg (by omega)]
        obtain ⟨d, hd⟩ : ∃ d, k - m = d + 1 := ⟨k - m - 1, by omega⟩
        rw [hd, show k - (m + 1) = d by omega]
        have e3 : colN (v :: r) ((d + 1 : Nat) : Int) = colN r ((d : Nat) : Int) := by
          unfold colN
          simp only [Int.toNat_natCast]
          rfl
        rw [e3]

theorem colN_nat (ls : List VV) (k : Nat) (h : k < ls.length) : colN ls (k : Int) = nums (ls[k]).2 := by simp [colN, h]

theorem trF_length (N : Nat) (ls : List VV) : (trF N ls).length = N := by simp [trF]
theorem colN_trF {N : Nat} {ls : List VV} {j : Nat} (hj : j < N) : colN (trF N ls) (j : Int) = trL 0 ls (fun _ => []) j := by
  rw [colN_nat _ _ (by rw [trF_length]; exact hj)]
  simp [trF, nums_vF]

theorem row_cn {N : Int} {ls : List VV} (hv : ∀ v ∈ ls, Cn 0 N (nums v.2)) (j : Nat) : Cn 0 (ls.length : Nat) (trL 0 ls (fun _ => []) j) ∧ ∀ k : Nat, atQ (trL 0 ls (fun _ => []) j) k = atQ (colN ls (k : Int)) j := by
  obtain ⟨h1, h2⟩ := trL_cn ls 0 (fun _ => []) j hv (Cn.nil 0 _)
  rw [Nat.zero_add] at h1
  exact ⟨h1, fun k => by rw [h2 k, if_neg (by omega)]; rfl⟩

theorem cn_trF {N : Nat} {ls : List VV} (hv : ∀ v ∈ ls, Cn 0 N (nums v.2)) : ∀ w ∈ trF N ls, Cn 0 (ls.length : Nat) (nums w.2) := fun w hw => by
  simp only [trF, List.mem_map] at hw
  obtain ⟨j, _, rfl⟩ := hw
  simp only [nums_vF]
  exact (row_cn hv j).1

/-- Transposed twice: the columns in canonical form. -/
theorem trF_trF {N : Nat} {ls : List VV} (hv : ∀ v ∈ ls, Cn 0 N (nums v.2)) : trF ls.length (trF N ls) = ls.map fun v => (false, vF (nums v.2)) := by
  refine List.ext_getElem (by simp [trF]) fun k h1 h2 => ?_
  have hk : k < ls.length := by simpa using h2
  obtain ⟨c1, c2⟩ := row_cn (cn_trF hv) k
  rw [trF_length] at c1
  have cv := hv ls[k] (List.getElem_mem _)
  have e : trL 0 (trF N ls) (fun _ => []) k = nums ls[k].2 := by
    rw [Cn.gathF c1 (F := fun j => atQ (nums ls[k].2) j) fun j hj => ?_]
    · exact (Cn.gathF cv fun j _ => rfl).symm
    · rw [c2 j, colN_trF hj, (row_cn hv j).2 k, colN_nat _ _ hk]
  simp only [trF, List.getElem_map, List.getElem_range]
  show (false, vF (trL 0 (trF N ls) (fun _ => []) k)) = _
  rw [e]

theorem valsE_zero {n : Int} : ∀ {ls : List VV}, (∀ v ∈ ls, valid n (nums v.2) = 0) → valsE n ls = 0
  | [], _ => rfl
  | v :: r, h => by rw [valsE_ok (h v (by simp)), valsE_zero fun w hw => h w (by simp [hw])]

/-! ### The two products -/

theorem mulFold_sum (ls : List VV) (K : Nat) : ∀ (l : List (Int × Rat)) (lo : Int) (F : Nat → Rat) (j : Nat), 0 ≤ lo → Cn lo K l → l.foldl (mulF ls) F j = F j + sumQ K fun k => atQ l k * atQ (colN ls (k : Int)) j
  | [], _, F, j, _, _ => by
    rw [sumQ_congr (g := fun _ => 0) (fun j _ => by simp [atQ, Rat.zero_mul]), sumQ_zero, Rat.add_zero]; rfl
  | x :: r, lo, F, j, h0, h => by
    have hx := h.el x (by simp)
    obtain ⟨k, hk⟩ : ∃ k : Nat, x.1 = k := ⟨x.1.toNat, by omega⟩
    rw [List.foldl_cons, mulFold_sum ls K r (x.1 + 1) _ j (by omega) h.tail]
    unfold mulF
    rw [Rat.add_assoc]
    congr 1
    have e1 : (fun i : Nat => atQ (x :: r) i * atQ (colN ls (i : Int)) j) = fun i : Nat => (if i = k then x.2 * atQ (colN ls x.1) j else 0) + atQ r i * atQ (colN ls (i : Int)) j := by
      funext i
      rw [atQ_cons]
      by_cases hj : i = k
      · rw [if_pos (by omega), if_pos hj, h.tail.at_lo (by omega), Rat.zero_mul, Rat.add_zero, hk, hj]
      · rw [if_neg (by omega), if_neg hj, Rat.zero_add]
    rw [e1, sumQ_add, sumQ_delta, if_pos (by omega)]

theorem sumQ_swap (m : Nat) (f : Nat → Nat → Rat) : ∀ n, sumQ n (fun i => sumQ m fun j => f i j) = sumQ m fun j => sumQ n fun i => f i j
  | 0 => by simp only [sumQ]; rw [sumQ_zero]
  | n + 1 => by
    simp only [sumQ]
    rw [sumQ_swap m f n, ← sumQ_add]

theorem adjoint_eq {N : Nat} {ls : List VV} (hv : ∀ v ∈ ls, Cn 0 N (nums v.2)) {x y : List (Int × Rat)} (hx : Cn 0 (ls.length : Nat) x) (hy : Cn 0 N y) :
    dotS (gathF N (x.foldl (mulF ls) fun _ => 0)) y 0 = dotS x (gathF ls.length (y.foldl (mulF (trF N ls)) fun _ => 0)) 0 := by
  rw [dotS_sum _ N _ 0 0 (Int.le_refl _) hy, dotS_sum _ ls.length _ 0 0 (Int.le_refl _) (gathF_cn _ _), Rat.zero_add, Rat.zero_add]
  have e1 : sumQ N (fun j => atQ y j * atQ (gathF N (x.foldl (mulF ls) fun _ => 0)) j) = sumQ N fun j => sumQ ls.length fun k => atQ y j * (atQ x k * atQ (colN ls (k : Int)) j) := sumQ_congr fun j hj => by
    rw [gathF_at hj, mulFold_sum ls ls.length x 0 _ j (Int.le_refl _) hx, Rat.zero_add, sumQ_mul]
  have e2 : sumQ ls.length (fun k => atQ (gathF ls.length (y.foldl (mulF (trF N ls)) fun _ => 0)) k * atQ x k) = sumQ ls.length fun k => sumQ N fun j => atQ y j * (atQ x k * atQ (colN ls (k : Int)) j) := sumQ_congr fun k hk => by
    rw [gathF_at hk, mulFold_sum (trF N ls) N y 0 _ k (Int.le_refl _) hy, Rat.zero_add, Rat.mul_comm, ← sumQ_mul]
    refine sumQ_congr fun j hj => ?_
    rw [colN_trF hj, (row_cn hv j).2 k, ← Rat.mul_assoc, ← Rat.mul_assoc, Rat.mul_comm (atQ x k)]
  rw [e1, e2, sumQ_swap]

section
variable (G : Pure) (ic : Inl) (n : Nat)

theorem adj_inner (hS : G 20 = spSameFrac) (hC : G 28 = spReduce) (nl : Bool) (ls : List VV) (hls : ls.length < 100000000) (bs : List VV) (hbs : bs.length = ls.length) (u1 u2 u3 u15 u17 : AV) (i : Nat) (hil : i < ls.length) (v : List Ent) (hv : ls[i].2 = v) (hok : VecOk 2000000 v) (K : Nat) (hK : K < 2000000) (hlK : ∀ e ∈ v, e.2.ok K)
    (hbi : ∀ h : i < bs.length, bs[i].2 = vF (nums v)) : ∀ d k m, k + d = v.length → d < m →
    blockE (some c9_e0) 2 (iterK G ic n c9_k0 c9_b0Q m ⟨[(0, .imm nl 1 (vvs ls)), (1, u1), (2, u2), (3, u3), (13, .imm false 1 (vvs bs)), (15, u15), (17, u17), (19, .int .i64 i), (20, .int .i64 k)], [], [], [], []⟩) =
      some (.normal, ⟨[(0, .imm nl 1 (vvs ls)), (1, u1), (2, u2), (3, u3), (13, .imm false 1 (vvs bs)), (15, u15), (17, u17), (19, .int .i64 i)], [], [], [], []⟩) := by
  have hlen := hok.len
  obtain ⟨W, hW⟩ : ∃ W, W = vF (nums v) := ⟨_, rfl⟩
  have hWl : W.length = v.length := by rw [hW]; simp [nums]
  have hib : i < bs.length := by omega
  have hbi2 := hbi hib
  rw [← hW] at hbi2
  intro d
  induction d with
  | zero =>
    intro k m hk hm
    obtain ⟨m, rfl⟩ : ∃ i, m = i + 1 := ⟨m - 1, by omega⟩
    have e : k = v.length := by omega
    subst e
    simp [iterK_succ, hib, hbi2, hWl]
  | succ d ih =>
    intro k m hk hm
    obtain ⟨m, rfl⟩ : ∃ i, m = i + 1 := ⟨m - 1, by omega⟩
    have hkl : k < v.length := by omega
    obtain ⟨e, he⟩ : ∃ e, e = v[k] := ⟨_, rfl⟩
    have hmem : e ∈ v := by rw [he]; exact List.getElem_mem _
    have hek := hok.ents e hmem
    have hkW : k < W.length := by omega
    have g1 : (vcs v)[k]? = some (ecells e) := by rw [vcs_get _ k hkl, ← he]
    have g2 : (vcs W)[k]? = some (ecells (e.1, qF e.2.q)) := by
      rw [vcs_get _ k hkW]
      congr 2
      simp [hW, vF, nums, ← he]
    have e1 := ih (k + 1) m (by omega) (by omega)
    have tc := reduceF_at hC hek.fr
    have ts := same_fV hS (q := e.2.q) ((Sz_RF (hlK e hmem)).mono (by omega))
    have w5 : IntKind.i64.wrap ((k : Int) + 1) = (k : Int) + 1 := wrap64_id _ (by omega) (by omega)
    obtain ⟨q, hq⟩ : ∃ q, q = e.2.q := ⟨_, rfl⟩
    rw [← hq] at tc ts g2
    simp only [fV_agg] at tc ts
    rw [← e1]
    have g3 : ∀ h : k < (vcs W).length, (vcs W)[k] = ecells (e.1, qF q) := fun h => by
      have := g2
      rw [List.getElem?_eq_getElem h] at this
      exact Option.some.inj this
    have g4 : ∀ h : k < (vcs v).length, (vcs v)[k] = ecells e := fun h => by
      have := g1
      rw [List.getElem?_eq_getElem h] at this
      exact Option.some.inj this
    obtain ⟨V, hV⟩ : ∃ V, V = vcs v := ⟨_, rfl⟩
    obtain ⟨X, hX⟩ : ∃ X, X = vcs W := ⟨_, rfl⟩
    have hVl : V.length = v.length := by rw [hV]; simp
    have hXl : X.length = v.length := by rw [hX]; simp [hWl]
    rw [← hV] at g4
    rw [← hX] at g3
    have hv2 : vcs ls[i].2 = V := by rw [hv, hV]
    have hb2 : vcs bs[i].2 = X := by rw [hbi2, hX]
    clear e1 hq hW g2 g1 ih hV hX
    simp [qF] at g3
    simp only [ecells] at g4
    simp [iterK_succ, hil, hib, hv2, hb2, hVl, hXl, hkl, g3, g4, tc, ts, w5]

theorem adj_outer (hS : G 20 = spSameFrac) (hC : G 28 = spReduce) (nl : Bool) (ls : List VV) (hls : VsOk 2000000 ls) (bs : List VV) (hbs : bs.length = ls.length) (u1 u2 u3 u15 u17 : AV) (K : Nat) (hK : K < 2000000) (hlK : ∀ v ∈ ls, ∀ e ∈ v.2, e.2.ok K)
    (hn : ∀ v ∈ ls, v.2.length < n) (hbi : ∀ i (h : i < bs.length) (h' : i < ls.length), bs[i].2 = vF (nums ls[i].2)) : ∀ d i m, i + d = ls.length → d < m →
    blockE (some c9_e1) 0 (iterK G ic n c9_k1 c9_b1Q m ⟨[(0, .imm nl 1 (vvs ls)), (1, u1), (2, u2), (3, u3), (13, .imm false 1 (vvs bs)), (15, u15), (17, u17), (19, .int .i64 i)], [], [], [], []⟩) =
      some (.normal, ⟨[(0, .imm nl 1 (vvs ls)), (1, u1), (2, u2), (3, u3), (15, u15), (17, u17)], [], [], [], []⟩) := by
  have hlen := hls.len
  intro d
  induction d with
  | zero =>
    intro i m hi hm
    obtain ⟨m, rfl⟩ : ∃ i, m = i + 1 := ⟨m - 1, by omega⟩
    have e : i = ls.length := by omega
    subst e
    simp [iterK_succ]
  | succ d ih =>
    intro i m hi hm
    obtain ⟨m, rfl⟩ : ∃ i, m = i + 1 := ⟨m - 1, by omega⟩
    have hil : i < ls.length := by omega
    have hib : i < bs.length := by omega
    have hmem : ls[i] ∈ ls := List.getElem_mem _
    have hbi2 := hbi i hib hil
    obtain ⟨v, hv⟩ : ∃ v, v = ls[i].2 := ⟨_, rfl⟩
    have e2 := adj_inner G ic n hS hC nl ls hlen bs hbs u1 u2 u3 u15 u17 i hil v hv.symm (by rw [hv]; exact hls.vecs _ hmem) K hK (by rw [hv]; exact hlK _ hmem) (fun _ => by rw [hv]; exact hbi2) v.length 0 n (by omega) (by rw [hv]; exact hn _ hmem)
    have e1 := ih (i + 1) m (by omega) (by omega)
    have w5 : IntKind.i64.wrap ((i : Int) + 1) = (i : Int) + 1 := wrap64_id _ (by omega) (by omega)
    rw [← hv] at hbi2
    obtain ⟨W, hW⟩ : ∃ W, W = vF (nums v) := ⟨_, rfl⟩
    have hWl : W.length = v.length := by rw [hW]; simp [nums]
    rw [← hW] at hbi2
    have hv' := hv.symm
    simp [c9_e0, c9_k0] at e2
    rw [← e1]
    clear e1 ih hW hv
    simp [iterK_succ, hil, hib, hbi2, hv', hWl, w5, e2]

theorem sumLen_le {B : Nat} : ∀ (ls : List VV), (∀ v ∈ ls, v.2.length ≤ B) → sumLen ls ≤ ls.length * B
  | [], _ => by simp [sumLen]
  | v :: r, h => by
    have h1 := sumLen_le r fun w hw => h w (by simp [hw])
    have h2 := h v (by simp)
    rw [sumLen_cons, List.length_cons, Nat.add_mul, Nat.one_mul]
    omega

theorem Cn.len {m : Nat} {l : List (Int × Rat)} (h : Cn 0 m l) : l.length ≤ m := by
  rw [Cn.gathF h (fun j _ => rfl)]
  exact gathF_len _ _

set_option maxRecDepth 20000 in
theorem sparseAdjoint_run (hL : G 10 = spLight3) (hm : G 15 = spSmall3) (hw : G 11 = spAwake) (hV : G 13 = spValidate)
    (hS : G 20 = spSameFrac) (hC : G 28 = spReduce) (hD : G 17 = spDot) (hM : G 34 = spMultiply) (hT1 : G 36 = spTranspose) (hT2 : G 37 = spTranspose) :
    ∀ us, FitAll [(false, [.sl [ctV]]), (false, [ctV]), (false, [ctV]), (false, [.int .i64])] us → ∃ n, pureF G ic n c9F us = some { val := .bool true } := by
  classical
  intro us hus
  match us, hus with
  | [u1, u2, u3, u4], ⟨⟨t1, e1, f1⟩, ⟨t2, e2, f2⟩, ⟨t3, e3, f3⟩, ⟨t4, e4, f4⟩, _⟩ =>
    cases e1
    cases e2
    cases e3
    cases e4
    obtain ⟨nl, ls, rfl, hll, hwl⟩ := fit_vecs f1
    obtain ⟨nx, x, rfl, hwx⟩ := fit_vec f2
    obtain ⟨ny, y, rfl, hwy⟩ := fit_vec f3
    obtain ⟨nn, rfl, hn⟩ := fit_int f4
    have hn' := wf_i64 hn
    have ta := sp0_at hw
    obtain ⟨b1, tl, hb1⟩ := light_at hL nl ls hll hwl
    obtain ⟨b2, tx, hb2⟩ := light_at hL false [(nx, x), (ny, y)] (by simp) (fun v hv => by
      simp at hv
      rcases hv with rfl | rfl
      · exact hwx
      · exact hwy)
    obtain ⟨U, hU⟩ : ∃ U, U = vvs ls := ⟨_, rfl⟩
    have hUl : U.length = ls.length := by rw [hU]; simp
    rw [← hU] at tl
    simp only [vvs, List.map_cons, List.map_nil, vcell] at tx
    have ts := sp1_at hm (i64Of_mk hn'.1 hn'.2) rfl
    obtain ⟨b3, hb3⟩ : ∃ b3, b3 = (decide (nn ≤ 60) || decide (4096 < nn)) := ⟨_, rfl⟩
    rw [← hb3] at ts
    rw [← hU]
    cases b1 with
    | false => exact ⟨0, by simp [pureF, runF, tl, ta]⟩
    | true =>
    cases b2 with
    | false => exact ⟨0, by simp [pureF, runF, tl, tx, ta]⟩
    | true =>
    cases b3 with
    | false => exact ⟨0, by simp [pureF, runF, tl, tx, ts, ta]⟩
    | true =>
      obtain ⟨gx, lx, kx⟩ := (hb2 rfl).vec (v := (nx, x)) (by simp)
      obtain ⟨gy, ly, ky⟩ := (hb2 rfl).vec (v := (ny, y)) (by simp)
      obtain ⟨gl, sl, kl⟩ := (hb1 rfl).vs
      have cl := (hb1 rfl).count
      simp only at lx ly
      have xl := vsOf_mk (nl := nl) gl
      rw [← hU] at xl
      have xx := vOfA_mk (nl := nx) gx
      have xy := vOfA_mk (nl := ny) gy
      have xn := i64Of_mk hn'.1 hn'.2
      have xk := i64Of_mk (n := (ls.length : Int)) (by omega) (by omega)
      have tvx := sp2_at hV xx xk rfl
      have tvy := sp2_at hV xy xn rfl
      by_cases vx : valid ls.length (nums x) = 0
      case neg =>
        obtain ⟨v, hv⟩ : ∃ v, v = valid ls.length (nums x) := ⟨_, rfl⟩
        rw [← hv] at tvx vx
        exact ⟨0, by simp [pureF, runF, tl, tx, ts, ta, hUl, tvx, vx]⟩
      rw [vx] at tvx
      by_cases vy : valid nn (nums y) = 0
      case neg =>
        obtain ⟨v, hv⟩ : ∃ v, v = valid nn (nums y) := ⟨_, rfl⟩
        rw [← hv] at tvy vy
        exact ⟨0, by simp [pureF, runF, tl, tx, ts, ta, hUl, tvx, tvy, vy]⟩
      rw [vy] at tvy
      obtain ⟨g0, g1, _⟩ := valid_ok vy
      have n60 : nn ≤ 60 := by
        have hb3' := hb3.symm
        simp only [Bool.or_eq_true, decide_eq_true_eq] at hb3'
        omega
      obtain ⟨N, rfl⟩ : ∃ N : Nat, nn = N := ⟨nn.toNat, by omega⟩
      have h0 : ¬ ((N : Int) < 0 ∨ 4096 < (N : Int) ∨ 4096 < ls.length) := by omega
      by_cases hq : valsE N ls ≠ 0
      · have r1 := sp2_at hT1 xl xn (by rw [if_neg h0, if_pos hq])
        have r2 := sp2_at hT2 xl xn (by rw [if_neg h0, if_pos hq])
        obtain ⟨v, hv⟩ : ∃ v, v = valsE N ls := ⟨_, rfl⟩
        rw [← hv] at r1 r2 hq
        clear hU hb3
        exact ⟨0, by simp [pureF, runF, tl, tx, ts, ta, hUl, tvx, tvy, r1, r2, hq]⟩
      have hq0 : valsE N ls = 0 := by simpa using hq
      have hcn : ∀ v ∈ ls, Cn 0 N (nums v.2) := fun v hv => valid_cn (valsE_good hq0 v hv)
      have r1 := sp2_at hT1 xl xn (by rw [if_neg h0, if_neg hq, if_pos (by omega)])
      have r2 := sp2_at hT2 xl xn (by rw [if_neg h0, if_neg hq, if_pos (by omega)])
      rw [Int.toNat_natCast] at r1 r2
      -- the transposed matrix
      have cT := cn_trF hcn
      have lT := trF_length N ls
      have gT := trF_ok (N := N) (K := 13) (by omega) (by omega) (by omega) (by decide) kl
      have kT : ∀ v ∈ trF N ls, ∀ e ∈ v.2, e.2.ok 14 := fun v hv e he => by
        simp only [trF, List.mem_map] at hv
        obtain ⟨j, _, rfl⟩ := hv
        obtain ⟨z, hz, rfl⟩ := List.mem_map.1 he
        rcases trL_mem ls 0 _ j z hz with h0 | ⟨w2, hw2, e2, he2, k, hk, rfl⟩
        · simp at h0
        · exact qF_ok (Sz_RF (kl w2 hw2 e2 he2)) (by decide)
      have sT : sumLen (trF N ls) < 100000000 := by
        have h1 := sumLen_le (B := 20) (trF N ls) fun w hw => by
          have := (cT w hw).len
          simp only [nums, List.length_map] at this
          omega
        rw [lT] at h1
        omega
      have vT : valsE ls.length (trF N ls) = 0 := valsE_zero fun w hw => cn_valid (by omega) (by omega) (cT w hw)
      have hTT := trF_trF hcn
      obtain ⟨bs, hbsE⟩ : ∃ bs, bs = ls.map fun v => (false, vF (nums v.2)) := ⟨_, rfl⟩
      rw [← hbsE] at hTT
      have hbl : bs.length = ls.length := by rw [hbsE]; simp
      have hbi : ∀ i (h : i < bs.length) (h' : i < ls.length), bs[i].2 = vF (nums ls[i].2) := fun i h h' => by simp [hbsE]
      have hadj := adjoint_eq hcn (x := nums x) (y := nums y) (valid_cn vx) (valid_cn vy)
      have szP := mulFold_sz (by decide) kl x (fun _ => 0) 1 (Nat.le_refl _) kx (fun j => by simpa using Sz_zero)
      have szQ := mulFold_sz (by decide) kT y (fun _ => 0) 1 (Nat.le_refl _) (fun e he => (ky e he).mono (by decide)) (fun j => by simpa using Sz_zero)
      have hP1 : 1 + x.length * (2 * 13 + 1) ≤ 1800 := by omega
      have hQ1 : 1 + y.length * (2 * 14 + 1) ≤ 1800 := by omega
      have valid0 : ∀ m : Nat, m ≤ 4096 → valid m [] = 0 := fun m hm => cn_valid (by omega) (by omega) (Cn.nil 0 _)
      have eP : mulE N ls (nums x) = 0 := by unfold mulE; rw [if_neg (by rw [valid0 N (by omega)]; simp), if_neg hq, vx]
      have eQ : mulE ls.length (trF N ls) (nums y) = 0 := by unfold mulE; rw [if_neg (by rw [valid0 _ (by omega)]; simp), if_neg (by rw [vT]; simp), lT, vy]
      obtain ⟨T, hTe⟩ : ∃ T, T = trF N ls := ⟨_, rfl⟩
      rw [← hTe] at r1 r2 gT kT sT vT hTT hadj szQ eQ lT cT
      have xT := vsOf_mk (nl := false) gT
      have r3 := sp2_at hT1 xT xk (by rw [if_neg (by omega), if_neg (by rw [vT]; simp), if_pos sT])
      rw [Int.toNat_natCast, hTT] at r3
      have m1 := sp3_at hM xl xx xn (by rw [if_neg (by rw [eP]; simp), if_pos ⟨13, by decide, kl, kx, by show 4 * ((x.length + 1) * (2 * 13 + 2)) + 4 < 2000000; omega⟩])
      have m2 := sp3_at hM xT xy xk (by rw [if_neg (by rw [eQ]; simp), if_pos ⟨14, by decide, kT, fun e he => (ky e he).mono (by decide), by show 4 * ((y.length + 1) * (2 * 14 + 2)) + 4 < 2000000; omega⟩])
      rw [Int.toNat_natCast] at m1 m2
      have pv := gathF_vec (n := N) (by omega) szP (by omega)
      have qv := gathF_vec (n := ls.length) (by omega) szQ (by omega)
      have pz := gathF_sz (n := N) fun j => (szP j).mono hP1
      have qz := gathF_sz (n := ls.length) fun j => (szQ j).mono hQ1
      have pc := gathF_cn N ((nums x).foldl (mulF ls) fun _ => 0)
      have qc := gathF_cn ls.length ((nums y).foldl (mulF T) fun _ => 0)
      have ql := gathF_len ls.length ((nums y).foldl (mulF T) fun _ => 0)
      obtain ⟨P, hPe⟩ : ∃ P, P = gathF N ((nums x).foldl (mulF ls) fun _ => 0) := ⟨_, rfl⟩
      obtain ⟨Q, hQe⟩ : ∃ Q, Q = gathF ls.length ((nums y).foldl (mulF T) fun _ => 0) := ⟨_, rfl⟩
      rw [← hPe] at m1 pv pz pc hadj
      rw [← hQe] at m2 qv qz qc ql hadj
      have kP : ∀ e ∈ vF P, e.2.ok 1801 := fun e he => vF_ok pz he
      have kQ : ∀ e ∈ vF Q, e.2.ok 1801 := fun e he => vF_ok qz he
      have lQ : (vF Q).length ≤ 20 := by simp; omega
      have xP := vOfA_mk (nl := false) pv
      have xQ := vOfA_mk (nl := false) qv
      have m18 : ∀ {l : List Ent}, (∀ e ∈ l, e.2.ok 13) → ∀ e ∈ l, e.2.ok 1801 := fun h e he => (h e he).mono (by decide)
      have ed1 : errB N (nums y) (nums (vF P)) = 0 := by unfold errB; rw [nums_vF, if_pos vy, cn_valid (by omega) (by omega) pc]
      have ed2 : errB ls.length (nums (vF Q)) (nums x) = 0 := by unfold errB; rw [nums_vF, if_pos (cn_valid (by omega) (by omega) qc), vx]
      have d1 := sp3_at hD xy xP xn (by rw [if_neg (by rw [ed1]; simp), if_pos ⟨1801, m18 ky, kP, by show (y.length + 1) * (2 * 1801 + 2) < 2000000; omega⟩])
      have d2 := sp3_at hD xQ xx xk (by rw [if_neg (by rw [ed2]; simp), if_pos ⟨1801, kQ, m18 kx, by show ((vF Q).length + 1) * (2 * 1801 + 2) < 2000000; omega⟩])
      have zd := dotV_sz (by decide) (m18 ky) kP
      have hzd : 1 + y.length * (2 * 1801 + 1) ≤ 1000000 := by omega
      replace zd := zd.mono hzd
      rw [nums_vF] at d1 d2 zd
      rw [← hadj] at d2
      obtain ⟨D, hDe⟩ : ∃ D, D = dotS P (nums y) 0 := ⟨_, rfl⟩
      rw [← hDe] at d1 d2 zd
      have se := same_fV hS (q := D) (zd.mono (by decide))
      simp only [fV_agg] at d1 d2 se
      obtain ⟨M, hMe⟩ : ∃ M, M = ls.length + sumLen ls + 1 := ⟨_, rfl⟩
      obtain ⟨Tv, hTv⟩ : ∃ Tv, Tv = vvs T := ⟨_, rfl⟩
      obtain ⟨Bv, hBv⟩ : ∃ Bv, Bv = vvs bs := ⟨_, rfl⟩
      obtain ⟨Pv, hPv⟩ : ∃ Pv, Pv = vcs (vF P) := ⟨_, rfl⟩
      obtain ⟨Qv, hQv⟩ : ∃ Qv, Qv = vcs (vF Q) := ⟨_, rfl⟩
      have hBl : Bv.length = ls.length := by rw [hBv]; simp [hbl]
      have e := adj_outer G ic M hS hC nl ls gl bs hbl (.imm nx 5 (vcs x)) (.imm ny 5 (vcs y)) (.int .i64 N) (.imm false 5 Pv) (.imm false 5 Qv) 13 (by decide) kl (fun v hv => by have := len_le_sum hv; omega) hbi ls.length 0 M (by omega) (by omega)
      rw [← hTv] at r1 r2 r3 m2
      rw [← hBv] at r3 e
      rw [← hPv] at m1 d1
      rw [← hQv] at m2 d2
      rw [← hU] at e
      simp [c9_e1, c9_k1] at e
      refine ⟨M, ?_⟩
      clear hU hb3 hTe hPe hQe hDe hMe hTv hBv hPv hQv hadj hTT hbsE
      simp [pureF, runF, tl, tx, ts, ta, hUl, hBl, tvx, tvy, r1, r2, r3, m1, m2, e, d1, d2, se]

end
end Go.Proofs.Ythlpmghodgiknaa.C
