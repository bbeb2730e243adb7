/-
  The program's integers: the estimated digit, and the subtraction of its multiple.
-/
import Derived.Test.YthlpmghodgiknaaSpU
namespace Go.Proofs.Ythlpmghodgiknaa.C
open Go Go.Ev

section
variable (G : Pure) (ic : Inl) (n : Nat)

/-! ### digit -/

theorem digit_loop (T S h n1 t : Nat) (hT : 2147483648 ≤ T) (hTW : T < 4294967296) (hS : S < 4294967296) (hh : h ≤ T) (hn1 : n1 < 4294967296) (ht : t < 4294967296) : ∀ j q r m, Est 4294967296 T S h n1 t q r → r < 4294967296 → q ≤ 4294967297 → 4294967296 ≤ r + j * T → j < m →
    blockE (some c101_e0) 0 (iterK G ic n c101_k0 c101_b0Q m ⟨[(2, .int .u32 t), (9, .int .u64 T), (10, .int .u64 S), (12, .int .u64 q), (13, .int .u64 r)], [], [], [], []⟩) =
      some (.normal, ⟨[(12, .int .u64 (min (((h * 4294967296 + n1) * 4294967296 + t) / (T * 4294967296 + S)) (4294967296 - 1) : Nat))], [], [], [], []⟩) := by
  intro j
  induction j with
  | zero => intro q r m _ hr _ hj; omega
  | succ j ih =>
    intro q r m hE hr hq hj hm
    obtain ⟨m, rfl⟩ : ∃ i, m = i + 1 := ⟨m - 1, by omega⟩
    obtain ⟨A, hA⟩ : ∃ A, A = min (((h * 4294967296 + n1) * 4294967296 + t) / (T * 4294967296 + S)) (4294967296 - 1) := ⟨_, rfl⟩
    rw [← hA]
    simp only [← hA] at ih
    have hend : ∀ q r, Est 4294967296 T S h n1 t q r → q < 4294967296 → q * S ≤ r * 4294967296 + t → q = A := fun q r e h1 h2 => by
      rcases est_end (by omega) e h1 h2 with h3 | h3
      · rw [hA]; exact h3
      · omega
    obtain ⟨R, hR⟩ : ∃ R, R = r * 4294967296 := ⟨_, rfl⟩
    have hRb : R ≤ 4294967295 * 4294967296 := by rw [hR]; exact Nat.mul_le_mul_right _ (by omega)
    have w1 : IntKind.u64.wrap ((r : Int) * 4294967296) = (R : Int) := w64_nat (by rw [hR]; simp) (by omega)
    have w2 : IntKind.u64.wrap (t : Int) = (t : Int) := wrapu64_id _ (by omega) (by omega)
    have w3 := w64_or (a := t) (b := R) (i := 32) (z := r) (by simpa using ht) (by rw [hR, Nat.mul_comm]) (by omega)
    simp only [Int.natCast_add] at w3
    -- the next state
    have next : (4294967296 ≤ q ∨ r * 4294967296 + t < q * S) → blockE (some c101_e0) 0 (iterO G ic n c101_k0 c101_b0Q m
        (blockE none 1 (evalC G ic n (.seq (.reg [] c101_r5aQ []) (.seq (.reg [] c101_r6aQ []) (.seq (.reg [] c101_r7aQ []) (.cond (.t 59) (.exit 0) .skip)))) ⟨[(2, .int .u32 t), (9, .int .u64 T), (10, .int .u64 S), (12, .int .u64 q), (13, .int .u64 r)], [], [], [], []⟩))) =
        some (.normal, ⟨[(12, .int .u64 A)], [], [], [], []⟩) := by
      intro hc
      obtain ⟨e2, hq1⟩ := est_step (by omega) hE hc
      have f1 : IntKind.u64.wrap ((q : Int) - 1) = ((q - 1 : Nat) : Int) := w64_nat (by omega) (by omega)
      have f2 : IntKind.u64.wrap ((r : Int) + T) = ((r + T : Nat) : Int) := w64_nat (by omega) (by omega)
      obtain ⟨q', hq'⟩ : ∃ q', q' = q - 1 := ⟨_, rfl⟩
      obtain ⟨r', hr'⟩ : ∃ r', r' = r + T := ⟨_, rfl⟩
      rw [← hq'] at f1
      rw [← hr'] at f2
      rw [← hq', ← hr'] at e2
      by_cases hb : 4294967296 ≤ r'
      · have hqW : q' < 4294967296 := by
          rcases Nat.lt_or_ge q 4294967297 with lt | ge
          · omega
          · exfalso
            have h1 := hE.sum
            have h2 : 4294967297 * T ≤ q * T := Nat.mul_le_mul_right _ ge
            have h3 : h * 4294967296 ≤ T * 4294967296 := Nat.mul_le_mul_right _ hh
            omega
        have hA2 := hend q' r' e2 hqW (by
          have h1 : q' * S ≤ 4294967295 * 4294967295 := Nat.mul_le_mul (by omega) (by omega)
          omega)
        have hb2 : (4294967296 : Int) ≤ r' := by omega
        rw [← hA2]
        clear hA2 hend ih hA hE e2 hc hj
        simp [f1, f2]
        intro hlt
        omega
      · have hb2 : ¬ (4294967296 : Int) ≤ r' := by omega
        rw [Nat.add_mul, Nat.one_mul] at hj
        have e := ih q' r' m e2 (by omega) (by omega) (by omega) (by omega)
        rw [← e]
        simp [f1, f2]
        intro hlt
        omega
    by_cases hq2 : 4294967296 ≤ q
    · have e := next (.inl hq2)
      rw [← e]
      have hq3 : (4294967296 : Int) ≤ q := by omega
      simp [iterK_succ, hq3]
    · obtain ⟨M, hM⟩ : ∃ M, M = q * S := ⟨_, rfl⟩
      have hMb : M ≤ 4294967295 * 4294967295 := by rw [hM]; exact Nat.mul_le_mul (by omega) (by omega)
      have w4 : IntKind.u64.wrap ((q : Int) * S) = (M : Int) := w64_nat (by rw [hM]; simp) (by omega)
      have hq3 : ¬ (4294967296 : Int) ≤ q := by omega
      by_cases hc : r * 4294967296 + t < q * S
      · have e := next (.inr hc)
        rw [← e]
        have hc2 : (R : Int) + t < M := by omega
        simp [iterK_succ, hq3, w1, w2, w3, w4, hc2]
      · have hA2 := hend q r hE (by omega) (by omega)
        have hc2 : ¬ (R : Int) + t < M := by omega
        rw [← hA2]
        clear hA2 hA hend ih next
        simp [iterK_succ, hq3, w1, w2, w3, w4, hc2]

def spDigitP : List AV → Option PRes
  | [a, b, c, v] => match u32Of a, u32Of b, u32Of c, digOf v with
    | some h, some n1, some t, some vs =>
      if 2 ≤ vs.length ∧ 2147483648 ≤ dgt vs (vs.length - 1) ∧ h ≤ dgt vs (vs.length - 1) then
        some { val := .int .u64 (estD (dgt vs (vs.length - 1)) (dgt vs (vs.length - 2)) h n1 t : Nat) }
      else none
    | _, _, _, _ => none
  | _ => none

theorem digitP_run : FSpec (fun args n => pureF G ic n c101F args) spDigitP := by
  intro args r h
  unfold spDigitP at h
  split at h
  case h_2 => cases h
  rename_i a b c v
  split at h
  case h_2 => cases h
  rename_i hh n1 t vs ua ub uc hv
  obtain ⟨⟨hl2, hT, hhT⟩, h1⟩ := of_ite h
  cases h1
  obtain ⟨rfl, ba⟩ := u32Of_inv ua
  obtain ⟨rfl, bb⟩ := u32Of_inv ub
  obtain ⟨rfl, bc⟩ := u32Of_inv uc
  obtain ⟨nl, rfl, hw, hl⟩ := digOf_inv hv
  have hTW := dgt_lt hw (vs.length - 1)
  have hSW := dgt_lt hw (vs.length - 2)
  have gT := dg_get vs (vs.length - 1) (by omega)
  have gS := dg_get vs (vs.length - 2) (by omega)
  rw [← dgt_get] at gT gS
  obtain ⟨T, hTe⟩ : ∃ T, T = dgt vs (vs.length - 1) := ⟨_, rfl⟩
  obtain ⟨S, hSe⟩ : ∃ S, S = dgt vs (vs.length - 2) := ⟨_, rfl⟩
  rw [← hTe] at hT hhT hTW gT ⊢
  rw [← hSe] at hSW gS ⊢
  simp only [W32] at hTW hSW
  have hEst : estD T S hh n1 t = min (((hh * 4294967296 + n1) * 4294967296 + t) / (T * 4294967296 + S)) (4294967296 - 1) := rfl
  rw [hEst]
  obtain ⟨nn, hnn⟩ : ∃ nn, nn = hh * 4294967296 + n1 := ⟨_, rfl⟩
  have hE := est_start (W := 4294967296) (T := T) (S := S) (h := hh) (n := n1) (t := t) (by omega) bc
  have hr0 := Nat.mod_lt nn (show 0 < T by omega)
  obtain ⟨q, hq⟩ : ∃ q, q = nn / T := ⟨_, rfl⟩
  obtain ⟨r0, hr0e⟩ : ∃ r0, r0 = nn % T := ⟨_, rfl⟩
  rw [← hr0e] at hr0
  rw [← hnn, ← hq, ← hr0e] at hE
  have hqb : q ≤ 4294967297 := by
    have h1 := hE.sum
    rcases Nat.lt_or_ge q 4294967298 with lt | ge
    · omega
    · exfalso
      have h2 : 4294967298 * T ≤ q * T := Nat.mul_le_mul_right _ ge
      have h3 : hh * 4294967296 ≤ T * 4294967296 := Nat.mul_le_mul_right _ hhT
      omega
  obtain ⟨N, hN⟩ : ∃ N, N = 4 := ⟨_, rfl⟩
  have e := digit_loop G ic N T S hh n1 t hT hTW hSW hhT bb bc 2 q r0 N hE (by omega) hqb (by omega) (by omega)
  rw [← hnn] at e ⊢
  obtain ⟨A, hA⟩ : ∃ A, A = min ((nn * 4294967296 + t) / (T * 4294967296 + S)) (4294967296 - 1) := ⟨_, rfl⟩
  rw [← hA] at e ⊢
  simp [c101_e0, c101_k0] at e
  refine ⟨{ val := .int .u64 A }, ⟨N, ?_⟩, rfl, rfl⟩
  obtain ⟨H, hH⟩ : ∃ H, H = hh * 4294967296 := ⟨_, rfl⟩
  have hHb : H ≤ 4294967295 * 4294967296 := by rw [hH]; exact Nat.mul_le_mul_right _ (by omega)
  have w1 : IntKind.i64.wrap ((vs.length : Int) - 1) = (vs.length : Int) - 1 := wrap64_id _ (by omega) (by omega)
  have w2 : IntKind.i64.wrap ((vs.length : Int) - 2) = (vs.length : Int) - 2 := wrap64_id _ (by omega) (by omega)
  have t1 : ((vs.length : Int) - 1).toNat = vs.length - 1 := by omega
  have t2 : ((vs.length : Int) - 2).toNat = vs.length - 2 := by omega
  have p1 : (1 : Int) ≤ vs.length := by omega
  have p2 : (2 : Int) ≤ vs.length := by omega
  have p3 : (0 : Int) ≤ (vs.length : Int) - 1 := by omega
  have p4 : (0 : Int) ≤ (vs.length : Int) - 2 := by omega
  have w3 : IntKind.u64.wrap (T : Int) = (T : Int) := wrapu64_id _ (by omega) (by omega)
  have w4 : IntKind.u64.wrap (S : Int) = (S : Int) := wrapu64_id _ (by omega) (by omega)
  have w5 : IntKind.u64.wrap (hh : Int) = (hh : Int) := wrapu64_id _ (by omega) (by omega)
  have w6 : IntKind.u64.wrap (n1 : Int) = (n1 : Int) := wrapu64_id _ (by omega) (by omega)
  have w7 : IntKind.u64.wrap ((hh : Int) * 4294967296) = (H : Int) := w64_nat (by rw [hH]; simp) (by omega)
  have w8 := w64_or (a := n1) (b := H) (i := 32) (z := hh) (by simpa using bb) (by rw [hH, Nat.mul_comm]) (by omega)
  rw [hH, ← hnn, ← hH] at w8
  have hT0 : ¬ T = 0 := by omega
  have td : ((nn : Nat) : Int).tdiv T = (q : Int) := by rw [Int.tdiv_eq_ediv_of_nonneg (by omega), hq, Int.natCast_ediv]
  have tm : ((nn : Nat) : Int).tmod T = (r0 : Int) := by rw [Int.tmod_eq_emod_of_nonneg (by omega), hr0e, Int.natCast_emod]
  have w9 : IntKind.u64.wrap (q : Int) = (q : Int) := wrapu64_id _ (by omega) (by omega)
  have td2 : ((nn : Nat) : Int) / T = (q : Int) := by rw [hq, Int.natCast_ediv]
  simp [pureF, runF, w1, w2, t1, t2, p1, p2, p3, p4, gT, gS, w3, w4, w5, w6, w7, w8, hT0, td, tm, td2, w9, e, -dg_getElem]

end
end Go.Proofs.Ythlpmghodgiknaa.C
