/-
  Light vectors; the dot product; the sanity check.
-/
import Derived.Test.YthlpmghodgiknaaSqB
namespace Go.Proofs.Ythlpmghodgiknaa.C
open Go Go.Ev

section
variable (G : Pure) (ic : Inl) (n : Nat)

/-! ### Light -/

/-- How a loop ends that may answer false. -/
def okOut (b : Bool) (s : SL) : Out := if b = true then some (.normal, s) else some (.ret, ⟨[(2, .bool false)], [], [], [], []⟩)
theorem okOut_true (s : SL) : okOut true s = some (.normal, s) := rfl
theorem okOut_false (s : SL) : okOut false s = some (.ret, ⟨[(2, .bool false)], [], [], [], []⟩) := rfl

def spLight1 : List AV → Option PRes
  | [.imm nl 2 [[.bool s1, .imm l1 1 e1], [.bool s2, .imm l2 1 e2]]] => if e1.length ≤ 140737488355328 ∧ e2.length ≤ 140737488355328 then some { val := .bool (decide (e1.length + e2.length ≤ 60)) } else none
  | _ => none

theorem light1_loop (nl s1 s2 l1 l2 : Bool) (e1 e2 : List (List AV)) (h1 : e1.length ≤ 140737488355328) (h2 : e2.length ≤ 140737488355328) (m : Nat) (hm : 3 ≤ m) :
    blockE (some c42_e0) 0 (iterK G ic n c42_k0 c42_b0Q m ⟨[(0, .imm nl 2 [[.bool s1, .imm l1 1 e1], [.bool s2, .imm l2 1 e2]]), (3, .int .i64 0), (4, .int .i64 0)], [], [], [], []⟩) =
      some (.normal, ⟨[(3, .int .i64 ((e1.length : Int) + e2.length))], [], [], [], []⟩) := by
  obtain ⟨m, rfl⟩ : ∃ i, m = i + 1 := ⟨m - 1, by omega⟩
  obtain ⟨m, rfl⟩ : ∃ i, m = i + 1 := ⟨m - 1, by omega⟩
  obtain ⟨m, rfl⟩ : ∃ i, m = i + 1 := ⟨m - 1, by omega⟩
  have w1 : IntKind.i64.wrap (e1.length : Int) = (e1.length : Int) := wrap64_id _ (by omega) (by omega)
  have w2 : IntKind.i64.wrap ((e1.length : Int) + e2.length) = (e1.length : Int) + e2.length := wrap64_id _ (by omega) (by omega)
  have w3 : IntKind.i64.wrap (1 : Int) = 1 := wrap64_id _ (by omega) (by omega)
  have w4 : IntKind.i64.wrap (2 : Int) = 2 := wrap64_id _ (by omega) (by omega)
  simp [iterK_succ, w1, w2, w3, w4]

theorem light1_run : FSpec (fun args n => pureF G ic n c42F args) spLight1 := by
  intro args r h
  unfold spLight1 at h
  split at h
  case h_2 => cases h
  rename_i nl s1 l1 e1 s2 l2 e2
  obtain ⟨⟨h1, h2⟩, h3⟩ := of_ite h
  cases h3
  obtain ⟨N, hN⟩ : ∃ N, N = 3 := ⟨_, rfl⟩
  have e := light1_loop G ic N nl s1 s2 l1 l2 e1 e2 h1 h2 N (by omega)
  simp [c42_e0, c42_k0] at e
  refine ⟨{ val := .bool (decide (e1.length + e2.length ≤ 60)) }, ⟨N, ?_⟩, rfl, rfl⟩
  have hd : decide ((e1.length : Int) + e2.length ≤ 60) = decide (e1.length + e2.length ≤ 60) := by
    congr 1; simp only [eq_iff_iff]; omega
  simp [pureF, runF, e, hd]

noncomputable def spLight2 : List AV → Option PRes := sp1 fsOfW fun l => some (.bool (l.all lightF && decide (l.length < 20)))

theorem light2_loop (hL : G 42 = spLight1) (nl : Bool) (l : List RF) (hl : l.length ≤ 140737488355328) (hf : ∀ f ∈ l, f.wide) : ∀ d i m, i + d = l.length → d < m →
    blockE (some c14_e0) 0 (iterK G ic n c14_k0 c14_b0Q m ⟨[(0, .imm nl 4 (fcs l)), (3, .int .i64 i)], [], [], [], []⟩) =
      okOut ((l.drop i).all lightF) ⟨[(0, .imm nl 4 (fcs l))], [], [], [], []⟩ := by
  intro d
  induction d with
  | zero =>
    intro i m hi hm
    obtain ⟨m, rfl⟩ : ∃ i, m = i + 1 := ⟨m - 1, by omega⟩
    have e : i = l.length := by omega
    subst e
    rw [List.drop_length, List.all_nil, okOut_true]
    simp [iterK_succ]
  | succ d ih =>
    intro i m hi hm
    obtain ⟨m, rfl⟩ : ∃ i, m = i + 1 := ⟨m - 1, by omega⟩
    have hil : i < l.length := by omega
    obtain ⟨f, he⟩ : ∃ f, f = l[i] := ⟨_, rfl⟩
    have hdrop : l.drop i = f :: l.drop (i + 1) := by rw [List.drop_eq_getElem_cons hil, ← he]
    have hw := hf f (by rw [he]; exact List.getElem_mem _)
    have g := fcs_get l i hil
    rw [← he] at g
    have e1 := ih (i + 1) m (by omega) (by omega)
    have t : G 42 [.imm false 2 [[.bool f.s1, .imm f.l1 1 (dg f.d1)], [.bool f.s2, .imm f.l2 1 (dg f.d2)]]] = some { val := .bool (decide (f.d1.length + f.d2.length ≤ 60)) } := by
      rw [hL]; simp only [spLight1, dg_length]; rw [if_pos ⟨hw.b1, hw.b2⟩]
    have w5 : IntKind.i64.wrap ((i : Int) + 1) = (i : Int) + 1 := wrap64_id _ (by omega) (by omega)
    rw [hdrop, List.all_cons]
    by_cases c1 : f.d1.length + f.d2.length ≤ 60
    · by_cases c2 : f.d1.length ≤ 12
      · by_cases c3 : f.d2.length ≤ 12
        · have hlf : lightF f = true := by simp [lightF, c1, c2, c3]
          rw [hlf, Bool.true_and, ← e1]
          have c2' : ¬ (12 : Int) < f.d1.length := by omega
          have c3' : ¬ (12 : Int) < f.d2.length := by omega
          simp [iterK_succ, hil, g, t, c1, c2', c3', w5, ← he]
        · have hlf : lightF f = false := by simp [lightF, c3]
          rw [hlf, Bool.false_and, okOut_false]
          have c2' : ¬ (12 : Int) < f.d1.length := by omega
          have c3' : (12 : Int) < f.d2.length := by omega
          simp [iterK_succ, hil, g, t, c1, c2', c3', ← he]
      · have hlf : lightF f = false := by simp [lightF, c2]
        rw [hlf, Bool.false_and, okOut_false]
        have c2' : (12 : Int) < f.d1.length := by omega
        simp [iterK_succ, hil, g, t, c1, c2', ← he]
    · have hlf : lightF f = false := by simp [lightF, c1]
      rw [hlf, Bool.false_and, okOut_false]
      simp [iterK_succ, hil, g, t, c1, ← he]

theorem light2_run (hL : G 42 = spLight1) : FSpec (fun args n => pureF G ic n c14F args) spLight2 := by
  intro args r h
  obtain ⟨a, l, v, rfl, hx, hv, rfl⟩ := sp1_inv h
  cases hv
  obtain ⟨nl, rfl, hl, hf⟩ := fsOfW_inv hx
  obtain ⟨N, hN⟩ : ∃ N, N = l.length + 1 := ⟨_, rfl⟩
  have e := light2_loop G ic N hL nl l hl hf l.length 0 N (by omega) (by omega)
  simp [c14_e0, c14_k0, -List.all_eq_true] at e
  refine ⟨{ val := .bool (l.all lightF && decide (l.length < 20)) }, ⟨N, ?_⟩, rfl, rfl⟩
  have hd : decide ((l.length : Int) < 20) = decide (l.length < 20) := by congr 1; simp only [eq_iff_iff]; omega
  cases hb : l.all lightF with
  | true =>
    rw [hb, okOut_true] at e
    simp [pureF, runF, e, hd]
  | false =>
    rw [hb, okOut_false] at e
    simp [pureF, runF, e]

/-! ### Light of vectors -/

def accN (ls : List VV) (n : Int) : Int := ls.foldl (fun n v => IntKind.i64.wrap (n + v.2.length)) n
def lightV (v : VV) : Bool := v.2.all fun e => lightF e.2

noncomputable def spLight3 : List AV → Option PRes := sp1 vsOfW fun ls => some (.bool (ls.all lightV && (decide (accN ls 0 ≤ 60) && decide (ls.length ≤ 20))))

theorem light3_inner (hL : G 14 = spLight2) (nl : Bool) (ls : List VV) (i : Nat) (hi : i < ls.length) (hls : ls.length ≤ 140737488355328) (hv : VecWide (ls[i]).2) (v3 : AV) : ∀ d k m, k + d = (ls[i]).2.length → d < m →
    blockE (some c10_e0) 2 (iterK G ic n c10_k0 c10_b0Q m ⟨[(0, .imm nl 1 (vvs ls)), (3, v3), (4, .int .i64 i), (5, .int .i64 k)], [], [], [], []⟩) =
      okOut (((ls[i]).2.drop k).all fun e => lightF e.2) ⟨[(0, .imm nl 1 (vvs ls)), (3, v3), (4, .int .i64 i)], [], [], [], []⟩ := by
  obtain ⟨V, hV⟩ : ∃ V, V = ls[i] := ⟨_, rfl⟩
  rw [← hV] at hv ⊢
  obtain ⟨b, l⟩ := V
  simp only at hv
  have gV := vvs_get ls i hi
  rw [← hV] at gV
  simp only [vcell] at gV
  have hl := hv.len
  intro d
  induction d with
  | zero =>
    intro k m hk hm
    obtain ⟨m, rfl⟩ : ∃ i, m = i + 1 := ⟨m - 1, by omega⟩
    have e : k = l.length := by simpa using hk
    subst e
    rw [List.drop_length, List.all_nil, okOut_true]
    simp [iterK_succ, gV, hi, ← hV]
  | succ d ih =>
    intro k m hk hm
    obtain ⟨m, rfl⟩ : ∃ i, m = i + 1 := ⟨m - 1, by omega⟩
    simp only at hk ih ⊢
    have hkl : k < l.length := by omega
    obtain ⟨e, he⟩ : ∃ e, e = l[k] := ⟨_, rfl⟩
    have hdrop : l.drop k = e :: l.drop (k + 1) := by rw [List.drop_eq_getElem_cons hkl, ← he]
    have hew := hv.ents e (by rw [he]; exact List.getElem_mem _)
    have g := vcs_get l k hkl
    rw [← he] at g
    have e1 := ih (k + 1) m (by omega) (by omega)
    have t : G 14 [.imm false 4 [[.bool e.2.s1, .imm e.2.l1 1 (dg e.2.d1), .bool e.2.s2, .imm e.2.l2 1 (dg e.2.d2)]]] = some { val := .bool (lightF e.2) } := by
      have := sp1_at hL (fsOfW_mk (nl := false) (l := [e.2]) (by simp) (by simpa using hew.fr)) rfl
      simpa [fcs] using this
    have w5 : IntKind.i64.wrap ((k : Int) + 1) = (k : Int) + 1 := wrap64_id _ (by omega) (by omega)
    rw [hdrop, List.all_cons]
    cases hlf : lightF e.2 with
    | true =>
      rw [hlf] at t
      rw [Bool.true_and, ← e1]
      simp [iterK_succ, gV, hi, ← hV, hkl, g, t, w5, ← he]
    | false =>
      rw [hlf] at t
      rw [Bool.false_and, okOut_false]
      simp [iterK_succ, gV, hi, ← hV, hkl, g, t, ← he]

theorem light3_outer (hL : G 14 = spLight2) (nl : Bool) (ls : List VV) (hls : ls.length ≤ 140737488355328) (hv : ∀ v ∈ ls, VecWide v.2) (hn : ∀ v ∈ ls, v.2.length < n) : ∀ d i a m, i + d = ls.length → d < m →
    blockE (some c10_e1) 0 (iterK G ic n c10_k1 c10_b1Q m ⟨[(0, .imm nl 1 (vvs ls)), (3, .int .i64 a), (4, .int .i64 i)], [], [], [], []⟩) =
      okOut ((ls.drop i).all lightV) ⟨[(0, .imm nl 1 (vvs ls)), (3, .int .i64 (accN (ls.drop i) a))], [], [], [], []⟩ := by
  intro d
  induction d with
  | zero =>
    intro i a m hi hm
    obtain ⟨m, rfl⟩ : ∃ i, m = i + 1 := ⟨m - 1, by omega⟩
    have e : i = ls.length := by omega
    subst e
    rw [List.drop_length, List.all_nil, okOut_true]
    simp [iterK_succ, accN]
  | succ d ih =>
    intro i a m hi hm
    obtain ⟨m, rfl⟩ : ∃ i, m = i + 1 := ⟨m - 1, by omega⟩
    have hil : i < ls.length := by omega
    have hmem : ls[i] ∈ ls := List.getElem_mem _
    have hin := light3_inner G ic n hL nl ls i hil hls (hv _ hmem) (.int .i64 (IntKind.i64.wrap (a + (ls[i]).2.length))) (ls[i]).2.length 0 n (by omega) (hn _ hmem)
    rw [List.drop_zero] at hin
    obtain ⟨V, hV⟩ : ∃ V, V = ls[i] := ⟨_, rfl⟩
    have hdrop : ls.drop i = V :: ls.drop (i + 1) := by rw [List.drop_eq_getElem_cons hil, ← hV]
    have gV := vvs_get ls i hil
    rw [← hV] at gV hin
    have e1 := ih (i + 1) (IntKind.i64.wrap (a + V.2.length)) m (by omega) (by omega)
    obtain ⟨b, l⟩ := V
    simp only [vcell] at gV
    have w5 : IntKind.i64.wrap ((i : Int) + 1) = (i : Int) + 1 := wrap64_id _ (by omega) (by omega)
    rw [hdrop, List.all_cons]
    have hacc : accN ((b, l) :: ls.drop (i + 1)) a = accN (ls.drop (i + 1)) (IntKind.i64.wrap (a + l.length)) := rfl
    rw [hacc]
    simp only at hin e1
    simp [c10_e0, c10_k0, -List.all_eq_true] at hin
    have hlv : lightV (b, l) = l.all fun e => lightF e.2 := rfl
    rw [hlv]
    cases hb : l.all fun e => lightF e.2 with
    | true =>
      rw [hb, okOut_true] at hin
      rw [Bool.true_and, ← e1]
      simp [iterK_succ, hil, gV, ← hV, hin, w5]
    | false =>
      rw [hb, okOut_false] at hin
      rw [Bool.false_and, okOut_false]
      simp [iterK_succ, hil, gV, ← hV, hin]

theorem exists_bound (ls : List VV) : ∃ N, ∀ v ∈ ls, v.2.length < N := by
  induction ls with
  | nil => exact ⟨0, by simp⟩
  | cons v ls ih =>
    obtain ⟨N, hN⟩ := ih
    refine ⟨N + v.2.length + 1, fun x hx => ?_⟩
    rcases List.mem_cons.1 hx with rfl | hx
    · omega
    · have := hN x hx; omega

theorem light3_run (hL : G 14 = spLight2) : FSpec (fun args n => pureF G ic n c10F args) spLight3 := by
  intro args r h
  obtain ⟨a, ls, v, rfl, hx, hv, rfl⟩ := sp1_inv h
  cases hv
  obtain ⟨nl, rfl, hl, hf⟩ := vsOfW_inv hx
  obtain ⟨N0, hN0⟩ := exists_bound ls
  obtain ⟨N, hN⟩ : ∃ N, N = N0 + ls.length + 1 := ⟨_, rfl⟩
  have e := light3_outer G ic N hL nl ls hl hf (fun v hv => by have := hN0 v hv; omega) ls.length 0 0 N (by omega) (by omega)
  simp [c10_e1, c10_k1, -List.all_eq_true] at e
  refine ⟨{ val := .bool (ls.all lightV && (decide (accN ls 0 ≤ 60) && decide (ls.length ≤ 20))) }, ⟨N, ?_⟩, rfl, rfl⟩
  have hd : decide ((ls.length : Int) ≤ 20) = decide (ls.length ≤ 20) := by congr 1; simp only [eq_iff_iff]; omega
  cases hb : ls.all lightV with
  | true =>
    rw [hb, okOut_true] at e
    by_cases h60 : accN ls 0 ≤ 60
    · simp [pureF, runF, e, hd, h60]
    · simp [pureF, runF, e, h60]
  | false =>
    rw [hb, okOut_false] at e
    simp [pureF, runF, e]

end
end Go.Proofs.Ythlpmghodgiknaa.C
