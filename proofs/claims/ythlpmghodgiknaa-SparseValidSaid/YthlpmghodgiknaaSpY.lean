/-
  The program's integers: division of digits.
-/
import Derived.Test.YthlpmghodgiknaaSpX
namespace Go.Proofs.Ythlpmghodgiknaa.C
open Go Go.Ev

section
variable (G : Pure) (ic : Inl) (n : Nat)

/-! ### LeadingZeros32 -/

def spLZ : List AV → Option PRes := sp1 u32Of fun x => some (.int .i64 (32 - (bl x : Int)))

theorem lz_run (hL : G 105 = spLen32) : FSpec (fun args n => pureF G ic n c98F args) spLZ := by
  intro args r h
  obtain ⟨a, x, v, rfl, hx, hv, rfl⟩ := sp1_inv h
  cases hv
  have t : G 105 [a] = some { val := .int .i64 (bl x : Nat) } := by rw [hL]; simp [spLen32, hx]
  obtain ⟨rfl, hb⟩ := u32Of_inv hx
  have hbl := bl_digit (d := x) (by simpa [W32] using hb)
  have w : IntKind.i64.wrap (32 - (bl x : Int)) = 32 - (bl x : Int) := wrap64_id _ (by omega) (by omega)
  refine ⟨{ val := .int .i64 (32 - (bl x : Int)) }, ⟨0, ?_⟩, rfl, rfl⟩
  simp [pureF, runF, t, w]

/-! ### divide -/

theorem digitP_at {G : Pure} (hD : G 101 = spDigitP) {h n1 t T S : Nat} {lv : Bool} {vs : List Nat} (hh : h < 4294967296) (hn1 : n1 < 4294967296) (ht : t < 4294967296) (hw : Wf vs) (hl : vs.length < 100000000) (h2 : 2 ≤ vs.length)
    (hT : dgt vs (vs.length - 1) = T) (hS : dgt vs (vs.length - 2) = S) (hT2 : 2147483648 ≤ T) (hhT : h ≤ T) :
    G 101 [.int .u32 h, .int .u32 n1, .int .u32 t, .imm lv 1 (dg vs)] = some { val := .int .u64 (estD T S h n1 t : Nat) } := by
  subst hT
  subst hS
  have e1 := u32Of_mk hh
  have e2 := u32Of_mk hn1
  have e3 := u32Of_mk ht
  have e4 := digOf_dg (nl := lv) hw hl
  obtain ⟨a1, ha1⟩ : ∃ a1, a1 = AV.int .u32 (h : Int) := ⟨_, rfl⟩
  obtain ⟨a2, ha2⟩ : ∃ a2, a2 = AV.int .u32 (n1 : Int) := ⟨_, rfl⟩
  obtain ⟨a3, ha3⟩ : ∃ a3, a3 = AV.int .u32 (t : Int) := ⟨_, rfl⟩
  obtain ⟨a4, ha4⟩ : ∃ a4, a4 = AV.imm lv 1 (dg vs) := ⟨_, rfl⟩
  rw [← ha1] at e1 ⊢
  rw [← ha2] at e2 ⊢
  rw [← ha3] at e3 ⊢
  rw [← ha4] at e4 ⊢
  rw [hD]
  clear ha1 ha2 ha3 ha4
  simp only [spDigitP, e1, e2, e3, e4]
  rw [if_pos ⟨h2, hT2, hhT⟩]

theorem reduceP_at {G : Pure} (hR : G 100 = spReduceP) {U v : List Nat} {lv : Bool} {a q N q' : Nat} (hU : Wf U) (hv : Wf v) (lU : U.length < 100000000) (lvv : v.length < 100000000) (hat : a + v.length < U.length) (hq : q < 4294967296)
    (hN : dv ((U.drop a).take (v.length + 1)) = N) (hc : (q * dv v ≤ N ∧ q' = q) ∨ (1 ≤ q ∧ (q - 1) * dv v ≤ N ∧ N < q * dv v ∧ q' = q - 1)) :
    G 100 [.imm false 1 (dg U), .imm lv 1 (dg v), .int .i64 a, .int .u64 q] =
      some { val := .int .u32 q', objs := [{ sz := 1, ty := 88, es := dg (U.take a ++ dpad (v.length + 1) (N - q' * dv v) ++ U.drop (a + (v.length + 1))), refs := [] }] } := by
  rw [hR]
  simp only [spReduceP, digOf_dg hU lU, digOf_dg hv lvv, Int.toNat_natCast, hN]
  rw [if_pos ⟨by omega, hat, by omega, by omega, by
    rcases hc with hc | hc
    · exact .inl hc.1
    · exact .inr ⟨hc.1, hc.2.1⟩⟩]
  rcases hc with ⟨h1, rfl⟩ | ⟨h1, h2, h3, rfl⟩
  · rw [if_pos h1]
  · rw [if_neg (by omega)]

theorem divide_loop (hD : G 101 = spDigitP) (hR : G 100 = spReduceP) (v1 v8 : AV) (vs ve : List Nat) (mm V L nq A0 : Nat) (own : List Nat) (hvs : Wf vs) (hm : vs.length = mm + 2) (hml : mm < 50000000) (hve : ve.take (mm + 2) = vs) (hvel : mm + 2 ≤ ve.length) (hV : dv vs = V) (hT : 2147483648 ≤ dgt vs (mm + 1)) (hL : L < 100000000) (hnq : nq + (mm + 2) = L) :
    ∀ k m U Q F, 1472672 ∉ F → 1472880 ∉ F → Wf U → U.length = L → Wf Q → Q.length = nq → k ≤ nq → dv (U.drop k) < V → (∀ j, j < k → dgt Q j = 0) → dv U + V * dv Q = A0 → k < m →
    ∃ (U' Q' F' : List Nat), 1472672 ∉ F' ∧ 1472880 ∉ F' ∧ Wf U' ∧ U'.length = L ∧ Wf Q' ∧ Q'.length = nq ∧ dv U' < V ∧ dv U' + V * dv Q' = A0 ∧
      blockE (some c92_e0) 0 (iterK G ic n c92_k0 c92_b0Q m ⟨[(1, v1), (8, v8), (9, .sl 1472672 0 L), (10, .sl 1472720 0 (mm + 2)), (11, .sl 1472880 0 nq), (12, .int .i64 ((k : Int) - 1))],
        [(1472672, { sz := 1, ty := 88, es := dg U, refs := [] }), (1472720, { sz := 1, ty := 88, es := dg ve, refs := [] }), (1472880, { sz := 1, ty := 88, es := dg Q, refs := [] })], F, own, []⟩) =
        some (.normal, ⟨[(1, v1), (8, v8), (9, .sl 1472672 0 L), (11, .sl 1472880 0 nq)],
          [(1472672, { sz := 1, ty := 88, es := dg U', refs := [] }), (1472720, { sz := 1, ty := 88, es := dg ve, refs := [] }), (1472880, { sz := 1, ty := 88, es := dg Q', refs := [] })], F', own, []⟩) := by
  intro k
  induction k with
  | zero =>
    intro m U Q F f1 f2 hU hUl hQ hQl hk hinv hz hsum hm'
    obtain ⟨m, rfl⟩ : ∃ i, m = i + 1 := ⟨m - 1, by omega⟩
    refine ⟨U, Q, F, f1, f2, hU, hUl, hQ, hQl, by simpa using hinv, hsum, ?_⟩
    simp [iterK_succ]
  | succ k ih =>
    intro m U Q F f1 f2 hU hUl hQ hQl hk hinv hz hsum hm'
    obtain ⟨m, rfl⟩ : ∃ i, m = i + 1 := ⟨m - 1, by omega⟩
    have hkU : k + (mm + 2) < U.length := by omega
    obtain ⟨N, q', p1, p2, p3, p4, p5, p6, p7, p8⟩ := long_step hU hvs hm hV hT hkU hinv (show k < Q.length by omega) (hz k (by omega))
    obtain ⟨h, hhe⟩ : ∃ h, h = dgt U (k + (mm + 2)) := ⟨_, rfl⟩
    obtain ⟨n1, hn1e⟩ : ∃ n1, n1 = dgt U (k + (mm + 1)) := ⟨_, rfl⟩
    obtain ⟨t, hte⟩ : ∃ t, t = dgt U (k + mm) := ⟨_, rfl⟩
    have bh := dgt_lt hU (k + (mm + 2))
    have bn := dgt_lt hU (k + (mm + 1))
    have bt := dgt_lt hU (k + mm)
    rw [← hhe] at bh p1 p3
    rw [← hn1e] at bn p3
    rw [← hte] at bt p3
    have td := digitP_at hD (lv := false) bh bn bt hvs (by omega) (by omega) (show dgt vs (vs.length - 1) = dgt vs (mm + 1) by congr 1; omega) (show dgt vs (vs.length - 2) = dgt vs mm by congr 1; omega) hT p1
    have hq4 := estD_lt (dgt vs (mm + 1)) (dgt vs mm) h n1 t
    obtain ⟨q, hq⟩ : ∃ q, q = estD (dgt vs (mm + 1)) (dgt vs mm) h n1 t := ⟨_, rfl⟩
    rw [← hq] at td hq4 p3
    have tr := reduceP_at hR (lv := false) (N := N) (q' := q') hU hvs (by omega) (by omega) (show k + vs.length < U.length by omega) hq4 (by rw [hm]; exact p2) (by rw [hV]; exact p3)
    rw [hm, hV] at tr
    obtain ⟨U2, hU2⟩ : ∃ U2, U2 = U.take k ++ dpad (mm + 2 + 1) (N - q' * V) ++ U.drop (k + (mm + 2 + 1)) := ⟨_, rfl⟩
    rw [← hU2] at tr p5 p6 p7 p8
    obtain ⟨U', Q', F', r1, r2, r3, r4, r5, r6, r7, r8, r9⟩ := ih m U2 (Q.set k q') (1472720 :: 1472720 :: F) (by simp [f1]) (by simp [f2]) p5 (by omega) (wf_set hQ p4) (by simpa using hQl) (by omega) p7 (fun j hj => by rw [dgt_set_ne (by omega)]; exact hz j (by omega)) (by rw [p8]; exact hsum) (by omega)
    refine ⟨U', Q', F', r1, r2, r3, r4, r5, r6, r7, r8, ?_⟩
    rw [← r9]
    have e1 : ((k + 1 : Nat) : Int) - 1 = k := by omega
    rw [e1]
    have gh := dg_get U (k + (mm + 2)) hkU
    have gn := dg_get U (k + (mm + 1)) (by omega)
    have gt := dg_get U (k + mm) (by omega)
    rw [← dgt_get, ← hhe] at gh
    rw [← dgt_get, ← hn1e] at gn
    rw [← dgt_get, ← hte] at gt
    have w1 : IntKind.i64.wrap ((k : Int) + (mm + 2)) = (k : Int) + (mm + 2) := wrap64_id _ (by omega) (by omega)
    have w2 : IntKind.i64.wrap ((k : Int) + (mm + 2) - 1) = (k : Int) + (mm + 2) - 1 := wrap64_id _ (by omega) (by omega)
    have w3 : IntKind.i64.wrap ((k : Int) + (mm + 2) - 2) = (k : Int) + (mm + 2) - 2 := wrap64_id _ (by omega) (by omega)
    have w4 : IntKind.i64.wrap ((k : Int) - 1) = (k : Int) - 1 := wrap64_id _ (by omega) (by omega)
    have x1 : ((k : Int) + (mm + 2)).toNat = k + (mm + 2) := by omega
    have x2 : ((k : Int) + (mm + 2) - 1).toNat = k + (mm + 1) := by omega
    have x3 : ((k : Int) + (mm + 2) - 2).toNat = k + mm := by omega
    have y1 : (0 : Int) ≤ (k : Int) + (mm + 2) := by omega
    have y2 : (0 : Int) ≤ (k : Int) + (mm + 2) - 1 := by omega
    have y3 : (0 : Int) ≤ (k : Int) + (mm + 2) - 2 := by omega
    have z1 : (k : Int) + (mm + 2) < L := by omega
    have z2 : (k : Int) + (mm + 2) - 1 < L := by omega
    have z3 : (k : Int) + (mm + 2) - 2 < L := by omega
    have y2' : (1 : Int) ≤ (k : Int) + (mm + 2) := by omega
    have y3' : (2 : Int) ≤ (k : Int) + (mm + 2) := by omega
    have hne : dg U ≠ [] := fun h => by have := congrArg List.length h; simp at this; rw [this] at hUl; simp at hUl; omega
    have hne2 : U ≠ [] := fun h => by rw [h] at hUl; simp at hUl; omega
    have hvt : (dg ve).take (mm + 2) = dg vs := by rw [dg_take, hve]
    have gk : k < nq := by omega
    have hqs : (dg Q).set k [.int .u32 q'] = dg (Q.set k q') := dg_set Q k q'
    have gq : k < Q.length := by omega
    simp [iterK_succ, w1, w2, w3, w4, x1, x2, x3, y1, y2, y3, y2', y3', z1, z2, z3, gh, gn, gt, hvel, hvt, td, hUl, hne, hne2, f1, f2, tr, gk, hqs, gq]

end
end Go.Proofs.Ythlpmghodgiknaa.C
