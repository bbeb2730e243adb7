/-
  The dot product; the sanity check.
-/
import Derived.Test.YthlpmghodgiknaaSqC
namespace Go.Proofs.Ythlpmghodgiknaa.C
open Go Go.Ev

theorem Sz_RF {f : RF} {k : Nat} (h : f.ok k) : Sz k f.q := by
  have q1 := digs_length_dv h.w1
  have q2 := digs_length_dv h.w2
  have := h.b1
  have := h.b2
  exact Sz_divInt (by rw [zl_sg]; omega) (by rw [zl_sg]; omega) (by omega)

/-- What validity says. -/
theorem valE_good (n : Int) : ∀ (l : List (Int × Rat)) (p : Option Int), valE n p l = 0 → (∀ x ∈ l, 0 ≤ x.1 ∧ x.1 < n ∧ x.2 ≠ 0 ∧ ∀ q, p = some q → q < x.1) ∧ l.Pairwise (fun x y => x.1 < y.1)
  | [], p, _ => ⟨by simp, List.Pairwise.nil⟩
  | (i, q) :: r, p, h => by
    by_cases c1 : i < 0 ∨ n ≤ i
    · rw [valE_range c1] at h; cases h
    · by_cases c2 : ∃ j, p = some j ∧ i ≤ j
      · rw [valE_order c1 c2] at h; cases h
      · by_cases c3 : q = 0
        · rw [valE_zero c1 c2 c3] at h; cases h
        · rw [valE_next c1 c2 c3] at h
          obtain ⟨h1, h2⟩ := valE_good n r (some i) h
          have hp : ∀ j, p = some j → j < i := fun j hj => by
            rcases Int.lt_or_le j i with h3 | h3
            · exact h3
            · exact absurd ⟨j, hj, h3⟩ c2
          refine ⟨fun x hx => ?_, List.pairwise_cons.2 ⟨fun x hx => (h1 x hx).2.2.2 i rfl, h2⟩⟩
          rcases List.mem_cons.1 hx with rfl | hx
          · exact ⟨by simp only; omega, by simp only; omega, c3, hp⟩
          · obtain ⟨g1, g2, g3, g4⟩ := h1 x hx
            exact ⟨g1, g2, g3, fun j hj => Int.lt_trans (hp j hj) (g4 i rfl)⟩

/-- The value at an index, 0 where there is none. -/
def atQ (l : List (Int × Rat)) (i : Int) : Rat :=
  match l with
  | [] => 0
  | (j, q) :: r => if j = i then q else atQ r i

theorem atQ_none {l : List (Int × Rat)} {i : Int} (h : ∀ x ∈ l, x.1 ≠ i) : atQ l i = 0 := by
  induction l with
  | nil => rfl
  | cons x l ih =>
    obtain ⟨j, q⟩ := x
    have h1 : j ≠ i := h (j, q) (by simp)
    unfold atQ
    rw [if_neg h1]
    exact ih fun y hy => h y (by simp [hy])

theorem atQ_at {l : List (Int × Rat)} {k : Nat} (hk : k < l.length) (h : ∀ j (hj : j < k), (l[j]'(by omega)).1 ≠ l[k].1) : atQ l l[k].1 = l[k].2 := by
  induction l generalizing k with
  | nil => simp at hk
  | cons x l ih =>
    obtain ⟨j, q⟩ := x
    cases k with
    | zero => simp [atQ]
    | succ k =>
      have h0 := h 0 (by omega)
      simp only [List.getElem_cons_zero, List.getElem_cons_succ] at h0 ⊢
      unfold atQ
      rw [if_neg h0]
      exact ih (by simpa using hk) fun j hj => by simpa using h (j + 1) (by omega)

def dotS (b : List (Int × Rat)) : List (Int × Rat) → Rat → Rat
  | [], s => s
  | x :: r, s => dotS b r (s + x.2 * atQ b x.1)

def errB (n : Int) (a b : List (Int × Rat)) : Int := if valid n a = 0 then valid n b else valid n a

section
variable (G : Pure) (ic : Inl) (n : Nat)

noncomputable def spBoth : List AV → Option PRes := sp3 vOfA vOfA i64Of fun a b n => some (.int .i64 (errB n (nums a) (nums b)))

theorem both_run (hV : G 12 = spValidate) : FSpec (fun args n => pureF G ic n c43F args) spBoth := by
  intro args r h
  obtain ⟨a, b, c, l, m, nn, v, rfl, hx, hy, hz, hv, rfl⟩ := sp3_inv h
  cases hv
  have t1 := sp2_at hV hx hz rfl
  have t2 := sp2_at hV hy hz rfl
  obtain ⟨nl1, rfl, hl1⟩ := vOfA_inv hx
  obtain ⟨nl2, rfl, hl2⟩ := vOfA_inv hy
  obtain ⟨rfl, n0, n1⟩ := i64Of_inv hz
  refine ⟨{ val := .int .i64 (errB nn (nums l) (nums m)) }, ⟨0, ?_⟩, rfl, rfl⟩
  unfold errB
  by_cases h0 : valid nn (nums l) = 0
  · rw [if_pos h0]
    rw [h0] at t1
    simp [pureF, runF, t1, t2, bne]
  · rw [if_neg h0]
    simp [pureF, runF, t1, t2, h0, bne]

/-- The empty fraction. -/
def fNil : AV := .agg [.bool false, .imm false 1 [], .bool false, .imm false 1 []]

open Classical in
noncomputable def spDot : List AV → Option PRes := sp3 vOfA vOfA i64Of fun a b n =>
  if errB n (nums a) (nums b) ≠ 0 then some (.tup [fNil, .int .i64 (errB n (nums a) (nums b))])
  else if ∃ K, (∀ e ∈ a, e.2.ok K) ∧ (∀ e ∈ b, e.2.ok K) ∧ (a.length + 1) * (2 * K + 2) < 2000000 then some (.tup [fV (dotS (nums b) (nums a) 0), .int .i64 0])
  else none

theorem nums_get {l : List Ent} {k : Nat} (h : k < l.length) : (nums l)[k]'(by simpa [nums] using h) = (l[k].1, l[k].2.q) := by simp [nums]

theorem dot_inner (nb : Bool) (b : List Ent) (hb : b.length < 100000000) (X : Int) (e : Ent) (hX : e.1 = X) (v6 v9 v22 v23 v24 : AV) (o6 o9 : Ev.Obj) (own : List Nat) : ∀ d k m, k + d = b.length → d < m →
    ∃ k', k ≤ k' ∧ k' ≤ b.length ∧ (∀ j (hj : j < b.length), k ≤ j → j < k' → b[j].1 < X) ∧ (∀ hk : k' < b.length, ¬ b[k'].1 < X) ∧
    blockE (some c17_e0) 2 (iterK G ic n c17_k0 c17_b0Q m ⟨[(1, .imm nb 5 (vcs b)), (6, v6), (9, v9), (10, .int .i64 k), (12, .ptr 272192 0 0), (22, v22), (23, v23), (24, v24)],
        [(272096, o6), (272144, o9), (272192, { sz := 5, ty := 51, es := [ecells e], refs := [] })], [], own, []⟩) =
      some (.normal, ⟨[(1, .imm nb 5 (vcs b)), (6, v6), (9, v9), (10, .int .i64 k'), (12, .ptr 272192 0 0), (22, v22), (23, v23), (24, v24)],
        [(272096, o6), (272144, o9), (272192, { sz := 5, ty := 51, es := [ecells e], refs := [] })], [], own, []⟩) := by
  intro d
  induction d with
  | zero =>
    intro k m hk hm
    obtain ⟨m, rfl⟩ : ∃ i, m = i + 1 := ⟨m - 1, by omega⟩
    have e : k = b.length := by omega
    subst e
    refine ⟨b.length, by omega, by omega, fun j _ h1 h2 => by omega, fun h => by omega, ?_⟩
    simp [iterK_succ]
  | succ d ih =>
    intro k m hk hm
    obtain ⟨m, rfl⟩ : ∃ i, m = i + 1 := ⟨m - 1, by omega⟩
    have hkb : k < b.length := by omega
    have g := vcs_get b k hkb
    by_cases hlt : b[k].1 < X
    · obtain ⟨k', r1, r2, r3, r4, r5⟩ := ih (k + 1) m (by omega) (by omega)
      refine ⟨k', by omega, r2, fun j hj h1 h2 => ?_, r4, ?_⟩
      · rcases Nat.eq_or_lt_of_le h1 with h3 | h3
        · subst h3; exact hlt
        · exact r3 j hj h3 h2
      · rw [← r5]
        have w5 : IntKind.i64.wrap ((k : Int) + 1) = (k : Int) + 1 := wrap64_id _ (by omega) (by omega)
        simp [iterK_succ, hkb, g, hX, hlt, w5]
    · refine ⟨k, by omega, by omega, fun j _ h1 h2 => by omega, fun _ => hlt, ?_⟩
      simp [iterK_succ, hkb, g, hX, hlt]

theorem dot_outer (hA : G 47 = spAddFrac) (hM : G 46 = spMulFrac) (na nb : Bool) (a b : List Ent) (ha : VecOk 2000000 a) (hb : VecOk 2000000 b) (K : Nat) (hKa : ∀ e ∈ a, e.2.ok K) (hKb : ∀ e ∈ b, e.2.ok K) (hK : (a.length + 1) * (2 * K + 2) < 2000000)
    (hsa : (nums a).Pairwise (fun x y => x.1 < y.1)) (hsb : (nums b).Pairwise (fun x y => x.1 < y.1)) (o6 : Ev.Obj) (ho6 : o6.refs = []) (hn : b.length < n) : ∀ d i k s m, i + d = a.length → k ≤ b.length → (∀ j (hj : j < b.length) i' (hi' : i' < a.length), j < k → i ≤ i' → b[j].1 < a[i'].1) → Sz (1 + i * (2 * K + 2)) s → d < m →
    blockE (some c17_e1) 0 (iterK G ic n c17_k1 c17_b1Q m ⟨[(1, .imm nb 5 (vcs b)), (6, .ptr 272096 0 0), (9, .ptr 272144 0 0), (10, .int .i64 k), (22, .imm na 5 (vcs a)), (23, .int .i64 a.length), (24, .int .i64 i)],
        [(272096, o6), (272144, { sz := 4, ty := 33, es := [(qF s).cells], refs := [] })], [], [272144, 272096], []⟩) =
      some (.normal, ⟨[(6, .ptr 272096 0 0), (9, .ptr 272144 0 0)],
        [(272096, o6), (272144, { sz := 4, ty := 33, es := [(qF (dotS (nums b) (nums (a.drop i)) s)).cells], refs := [] })], [], [272144, 272096], []⟩) := by
  have hlen := ha.len
  have hblen := hb.len
  intro d
  induction d with
  | zero =>
    intro i k s m hi hk hinv hs hm
    obtain ⟨m, rfl⟩ : ∃ i, m = i + 1 := ⟨m - 1, by omega⟩
    have e : i = a.length := by omega
    subst e
    rw [List.drop_length]
    simp [iterK_succ, dotS, ho6]
  | succ d ih =>
    intro i k s m hi hk hinv hs hm
    obtain ⟨m, rfl⟩ : ∃ i, m = i + 1 := ⟨m - 1, by omega⟩
    have hia : i < a.length := by omega
    obtain ⟨e, he⟩ : ∃ e, e = a[i] := ⟨_, rfl⟩
    have hdrop : a.drop i = e :: a.drop (i + 1) := by rw [List.drop_eq_getElem_cons hia, ← he]
    have hme : e ∈ a := by rw [he]; exact List.getElem_mem _
    have g := vcs_get a i hia
    rw [← he] at g
    obtain ⟨k', r1, r2, r3, r4, r5⟩ := dot_inner G ic n nb b hblen e.1 e rfl (.ptr 272096 0 0) (.ptr 272144 0 0) (.imm na 5 (vcs a)) (.int .i64 a.length) (.int .i64 i) o6 { sz := 4, ty := 33, es := [(qF s).cells], refs := [] } [272192, 272144, 272096] (b.length - k) k n (by omega) (by omega)
    simp [c17_e0, c17_k0, qF] at r5
    have below : ∀ j (hj : j < b.length), j < k' → b[j].1 < e.1 := fun j hj h => by
      rcases Nat.lt_or_ge j k with h1 | h1
      · rw [he]; exact hinv j hj i hia h1 (Nat.le_refl _)
      · exact r3 j hj h1 h
    have hinv2 : ∀ j (hj : j < b.length) i' (hi' : i' < a.length), j < k' → i + 1 ≤ i' → b[j].1 < a[i'].1 := fun j hj i' hi' h1 h2 => by
      have h3 := below j hj h1
      have h4 := List.pairwise_iff_getElem.1 hsa i i' (by simpa [nums] using hia) (by simpa [nums] using hi') (by omega)
      rw [nums_get hia, nums_get hi'] at h4
      rw [he] at h3
      exact Int.lt_trans h3 h4
    have hiK : (i + 1) * (2 * K + 2) ≤ (a.length + 1) * (2 * K + 2) := Nat.mul_le_mul_right _ (by omega)
    have hiK2 : (i + 1) * (2 * K + 2) = i * (2 * K + 2) + (2 * K + 2) := by rw [Nat.add_mul, Nat.one_mul]
    rw [hdrop, nums_cons, dotS]
    have hok := hKa e hme
    have hK1 : 1 ≤ K := by have := hok.b1; omega
    have hok2 : e.2.ok 2000000 := (ha.ents e hme).fr
    by_cases hkb : k' < b.length
    · obtain ⟨f, hf⟩ : ∃ f, f = b[k'] := ⟨_, rfl⟩
      have hmf : f ∈ b := by rw [hf]; exact List.getElem_mem _
      have gf := vcs_get b k' hkb
      rw [← hf] at gf
      by_cases heq : f.1 = e.1
      · have hat : atQ (nums b) e.1 = f.2.q := by
          have := atQ_at (l := nums b) (k := k') (by simpa [nums] using hkb) (fun j hj => by
            rw [nums_get (by omega), nums_get hkb, ← hf]
            simp only
            rw [heq]
            exact Int.ne_of_lt (below j (by omega) hj))
          rw [nums_get hkb, ← hf] at this
          simp only at this
          rw [heq] at this
          exact this
        rw [hat]
        have t1 := sp2_at hM hok2.qOf' (hb.ents f hmf).fr.qOf' rfl
        have hp := Sz_mul (Sz_RF hok) (Sz_RF (hKb f hmf)) hK1
        have t2 := sp2_at hA (qOf_fV hs (by omega)) (qOf_fV hp (by omega)) rfl
        have hs2 : Sz (1 + (i + 1) * (2 * K + 2)) (s + e.2.q * f.2.q) := (Sz_add hs hp (by omega)).mono (by omega)
        have e1 := ih (i + 1) k' (s + e.2.q * f.2.q) m (by omega) r2 hinv2 hs2 (by omega)
        obtain ⟨p, hpe⟩ : ∃ p, p = e.2.q * f.2.q := ⟨_, rfl⟩
        rw [← hpe] at t1 t2 e1 ⊢
        obtain ⟨s2, hs2e⟩ : ∃ s2, s2 = s + p := ⟨_, rfl⟩
        rw [← hs2e] at t2 e1 ⊢
        rw [← e1]
        simp only [fV_agg] at t1 t2
        have w5 : IntKind.i64.wrap ((i : Int) + 1) = (i : Int) + 1 := wrap64_id _ (by omega) (by omega)
        clear hpe hs2e
        simp [iterK_succ, hia, g, r5, hkb, gf, heq, t1, t2, w5, ← he, ← hf, qF, ho6]
      · have hat : atQ (nums b) e.1 = 0 := atQ_none fun x hx => by
          obtain ⟨j, hj, rfl⟩ := List.getElem_of_mem hx
          have hj' : j < b.length := by simpa [nums] using hj
          rw [nums_get hj']
          simp only
          rcases Nat.lt_trichotomy j k' with h | h | h
          · exact Int.ne_of_lt (below j hj' h)
          · subst h; rw [← hf]; exact heq
          · have h1 := r4 hkb
            have h2 := List.pairwise_iff_getElem.1 hsb k' j (by simpa [nums] using hkb) hj h
            rw [nums_get hkb, nums_get hj'] at h2
            simp only at h2
            omega
        rw [hat, Rat.mul_zero, Rat.add_zero]
        have e1 := ih (i + 1) k' s m (by omega) r2 hinv2 (hs.mono (by omega)) (by omega)
        rw [← e1]
        have w5 : IntKind.i64.wrap ((i : Int) + 1) = (i : Int) + 1 := wrap64_id _ (by omega) (by omega)
        simp [iterK_succ, hia, g, r5, hkb, gf, heq, w5, ← he, ← hf, qF, ho6]
    · have hat : atQ (nums b) e.1 = 0 := atQ_none fun x hx => by
        obtain ⟨j, hj, rfl⟩ := List.getElem_of_mem hx
        have hj' : j < b.length := by simpa [nums] using hj
        rw [nums_get hj']
        exact Int.ne_of_lt (below j hj' (by omega))
      rw [hat, Rat.mul_zero, Rat.add_zero]
      have e1 := ih (i + 1) k' s m (by omega) r2 hinv2 (hs.mono (by omega)) (by omega)
      rw [← e1]
      have w5 : IntKind.i64.wrap ((i : Int) + 1) = (i : Int) + 1 := wrap64_id _ (by omega) (by omega)
      simp [iterK_succ, hia, g, r5, hkb, w5, ← he, qF, ho6]

theorem valid_ok {n : Int} {l : List (Int × Rat)} (h : valid n l = 0) : 0 ≤ n ∧ n ≤ 4096 ∧ valE n none l = 0 := by
  unfold valid at h
  split at h
  · cases h
  · exact ⟨by omega, by omega, h⟩

theorem errB_zero {n : Int} {a b : List (Int × Rat)} (h : errB n a b = 0) : valid n a = 0 ∧ valid n b = 0 := by
  unfold errB at h
  by_cases h1 : valid n a = 0
  · rw [if_pos h1] at h; exact ⟨h1, h⟩
  · rw [if_neg h1] at h; exact absurd h h1

open Classical in
theorem dotP_run (hB : G 43 = spBoth) (hZ : G 48 = spZero) (hA : G 47 = spAddFrac) (hM : G 46 = spMulFrac) : FSpec (fun args n => pureF G ic n c17F args) spDot := by
  intro args r h
  obtain ⟨a, b, c, l, m, nn, v, rfl, hx, hy, hz, hv, rfl⟩ := sp3_inv h
  have t0 := sp3_at hB hx hy hz rfl
  have tz := sp0_at hZ
  obtain ⟨nl1, rfl, hl1⟩ := vOfA_inv hx
  obtain ⟨nl2, rfl, hl2⟩ := vOfA_inv hy
  obtain ⟨rfl, n0, n1⟩ := i64Of_inv hz
  by_cases h0 : errB nn (nums l) (nums m) ≠ 0
  · rw [if_pos h0] at hv
    cases hv
    refine ⟨{ val := .tup [.agg [.bool false, .imm true 1 [], .bool false, .imm true 1 []], .int .i64 (errB nn (nums l) (nums m))] }, ⟨0, ?_⟩, rfl, by simp [AV.weak, AV.weakL, AV.weakLL, fNil]⟩
    simp [pureF, runF, t0, h0, bne]
  · rw [if_neg h0] at hv
    obtain ⟨⟨K, hKa, hKb, hK⟩, hv⟩ := of_ite hv
    cases hv
    have h00 : errB nn (nums l) (nums m) = 0 := by simpa using h0
    obtain ⟨v1, v2⟩ := errB_zero h00
    obtain ⟨_, _, g1⟩ := valid_ok v1
    obtain ⟨_, _, g2⟩ := valid_ok v2
    obtain ⟨_, s1⟩ := valE_good _ _ _ g1
    obtain ⟨_, s2⟩ := valE_good _ _ _ g2
    rw [h00] at t0
    obtain ⟨N, hN⟩ : ∃ N, N = l.length + m.length + 1 := ⟨_, rfl⟩
    have e := dot_outer G ic N hA hM nl1 nl2 l m hl1 hl2 K hKa hKb hK s1 s2 { sz := 4, ty := 33, es := [[.bool false, .imm true 1 [], .bool false, .imm true 1 []]], refs := [] } rfl (by omega) l.length 0 0 0 N (by omega) (by omega) (by omega) (by simpa using Sz_zero) (by omega)
    rw [List.drop_zero] at e
    obtain ⟨q, hq⟩ : ∃ q, q = dotS (nums m) (nums l) 0 := ⟨_, rfl⟩
    rw [← hq] at e ⊢
    obtain ⟨o, ho⟩ : ∃ o : Rat, o = 0 := ⟨_, rfl⟩
    rw [← ho] at e tz
    clear ho hq
    simp [c17_e1, c17_k1, qF] at e
    simp only [fV_agg] at tz
    refine ⟨{ val := .tup [fV q, .int .i64 0] }, ⟨N, ?_⟩, rfl, by simp [AV.weak, AV.weakL, weakLL_dg, fV]⟩
    simp [pureF, runF, t0, tz, e, fV_agg, bne]

end
end Go.Proofs.Ythlpmghodgiknaa.C
