/-
  The reference's integers: equality; fractions.
-/
import Derived.Test.YthlpmghodgiknaaSpJ
namespace Go.Proofs.Ythlpmghodgiknaa.C
open Go Go.Ev

section
variable (G : Pure) (ic : Inl) (n : Nat)

/-! ### SameInt -/

theorem sameInt_loop (s1 s2 l1 l2 : Bool) (a b : List Nat) (hl : a.length = b.length) (hb : a.length < 30000000) (reb : List Nat) : ∀ d i m, i + d = a.length → a.take i = b.take i → d < m →
    blockE (some c51_e0) 0 (iterK G ic n c51_k0 c51_b0Q m ⟨[(2, .ptr 816032 0 0), (3, .ptr 816048 0 0), (5, .int .i64 i)],
        [(816032, { sz := 2, ty := 31, es := [[.bool s1, .imm l1 1 (dg a)]], refs := [] }), (816048, { sz := 2, ty := 31, es := [[.bool s2, .imm l2 1 (dg b)]], refs := [] })], [], [816048, 816032], reb⟩) =
      if a = b then some (.normal, ⟨[], [(816032, { sz := 2, ty := 31, es := [[.bool s1, .imm l1 1 (dg a)]], refs := [] }), (816048, { sz := 2, ty := 31, es := [[.bool s2, .imm l2 1 (dg b)]], refs := [] })], [], [816048, 816032], reb⟩)
      else some (.ret, ⟨[(4, .bool false)], [], [], [], reb⟩) := by
  intro d
  induction d with
  | zero =>
    intro i m hi ht hm
    obtain ⟨m, rfl⟩ : ∃ i, m = i + 1 := ⟨m - 1, by omega⟩
    have e : a = b := by rw [List.take_of_length_le (by omega), List.take_of_length_le (by omega)] at ht; exact ht
    simp [iterK_succ, e, show i = b.length by omega]
  | succ d ih =>
    intro i m hi ht hm
    obtain ⟨m, rfl⟩ : ∃ i, m = i + 1 := ⟨m - 1, by omega⟩
    have hia : i < a.length := by omega
    have hib : i < b.length := by omega
    have ga := dg_get a i hia
    have gb := dg_get b i hib
    by_cases he : a[i] = b[i]
    · have := ih (i + 1) m (by omega) (by rw [List.take_succ_eq_append_getElem hia, List.take_succ_eq_append_getElem hib, ht, he]) (by omega)
      rw [← this]
      have w : IntKind.i64.wrap ((i : Int) + 1) = (i : Int) + 1 := wrap64_id _ (by omega) (by omega)
      simp [iterK_succ, hia, hib, ga, gb, he, w, bne]
    · have hne : a ≠ b := fun h => he (by subst h; rfl)
      rw [if_neg hne]
      have he2 : ¬ ((a[i] : Int) = b[i]) := by omega
      simp [iterK_succ, hia, hib, ga, gb, bne, he2]

def spSameInt : List AV → Option PRes := sp2 intOf intOf fun x y => some (.bool (decide (x = y)))

theorem sameInt_run : FSpec (fun args n => pureF G ic n c51F args) spSameInt := by
  intro args r h
  obtain ⟨a, b, ⟨s1, d1⟩, ⟨s2, d2⟩, v, rfl, hx, hy, hv, rfl⟩ := sp2_inv h
  cases hv
  obtain ⟨l1, rfl, w1, k1⟩ := intOf_inv hx
  obtain ⟨l2, rfl, w2, k2⟩ := intOf_inv hy
  obtain ⟨N, hN⟩ : ∃ N, N = d1.length + 1 := ⟨_, rfl⟩
  refine ⟨{ val := .bool (decide ((s1, d1) = (s2, d2))) }, ⟨N, ?_⟩, rfl, rfl⟩
  by_cases hs : s1 = s2
  · subst hs
    by_cases hl : d1.length = d2.length
    · have e := sameInt_loop G ic N s1 s1 l1 l2 d1 d2 hl k1 [] d1.length 0 N (by omega) rfl (by omega)
      simp [c51_e0, c51_k0] at e
      by_cases hd : d1 = d2
      · rw [if_pos hd] at e
        subst hd
        simp [pureF, runF, e, bne]
      · rw [if_neg hd] at e
        simp [pureF, runF, hl, e, bne, hd]
    · have hd : d1 ≠ d2 := fun h => hl (by rw [h])
      have hl2 : ¬ ((d1.length : Int) = d2.length) := by omega
      simp [pureF, runF, hl2, bne, hd]
  · simp [pureF, runF, hs, bne]

end
end Go.Proofs.Ythlpmghodgiknaa.C
