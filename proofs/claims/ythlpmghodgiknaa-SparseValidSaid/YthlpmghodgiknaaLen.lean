/-
  bits.Len32, walked in the library's own text (after the shelf's template), as a callee of the evaluator.
-/
import Derived.Test.YthlpmghodgiknaaProg
import Derived.Test.YthlpmghodgiknaaEvF
import Derived.Test.YthlpmghodgiknaaNum2
import Derived.Lib.Strings
import Derived.Lib.Slices
import Derived.Lib.Small
import Derived.Lib.Walk
import Derived.Lib.BitFns
namespace Go.Proofs.Ythlpmghodgiknaa.C
open Go Go.RowKit

set_option maxHeartbeats 4000000 in
set_option maxRecDepth 100000 in
theorem bits_Len32 (x : Int) (w : World) (h0 : 0 ≤ x) (h1 : x ≤ 4294967295) :
    Calls Try.prog 105 #[.int .u32 x] w fun e w' => e = .returned (.int .i64 (Lib.bitLen x.toNat)) ∧ w' = w := by
  go_enter Try.func105, Try.ntmps105
  go_wp2
  all_goals (go_ret; refine ⟨congrArg Ending.returned (congrArg (Value.int IntKind.i64) ?_), rfl⟩)
  all_goals first
    | (rw [Lib.len8_of (x / 65536 / 256 % 256) (by omega) (by omega)]
       have e : (x / 65536 / 256 % 256).toNat = x.toNat / 16777216 := by omega
       have l := Lib.bitLen_le8' (x / 65536 / 256 % 256) (by omega) (by omega)
       have s := Lib.bitLen_shift24 x.toNat (by omega) (by omega)
       rw [e] at l ⊢
       omega)
    | (rw [Lib.len8_of (x / 65536 % 256) (by omega) (by omega)]
       have e : (x / 65536 % 256).toNat = x.toNat / 65536 := by omega
       have l := Lib.bitLen_le8' (x / 65536 % 256) (by omega) (by omega)
       have s := Lib.bitLen_shift16 x.toNat (by omega) (by omega)
       rw [e] at l ⊢
       omega)
    | (rw [Lib.len8_of (x / 256 % 256) (by omega) (by omega)]
       have e : (x / 256 % 256).toNat = x.toNat / 256 := by omega
       have l := Lib.bitLen_le8' (x / 256 % 256) (by omega) (by omega)
       have s := Lib.bitLen_shift8 x.toNat (by omega) (by omega)
       rw [e] at l ⊢
       omega)
    | (rw [Lib.len8_of (x % 256) (by omega) (by omega)]
       have e : (x % 256).toNat = x.toNat := by omega
       have l := Lib.bitLen_le8' (x % 256) (by omega) (by omega)
       rw [e] at l ⊢
       omega)

theorem bitLen_bl (x : Nat) (h : x < 2 ^ 64) : Lib.bitLen x = Ev.bl x := by
  induction x using Nat.strongRecOn with
  | _ x ih =>
    by_cases h0 : x = 0
    · subst h0; rw [Ev.bl_zero]; decide
    · rw [Lib.bitLen_half x h0 h, Ev.bl_pos h0, ih (x / 2) (by omega) (by omega), Nat.add_comm]

open Go.Ev

def u32Of : AV → Option Nat
  | .int .u32 n => if 0 ≤ n ∧ n < 4294967296 then some n.toNat else none
  | _ => none

def spLen32 : List AV → Option PRes
  | [a] => match u32Of a with | some x => some { val := .int .i64 (bl x : Nat) } | none => none
  | _ => none

theorem len32_meets : Meets Try.prog 105 spLen32 := by
  intro args r h w vs ok0 hok hl hrep
  unfold spLen32 at h
  split at h
  case h_2 => cases h
  rename_i a
  split at h
  case h_2 => cases h
  rename_i x hx
  cases h
  unfold u32Of at hx
  split at hx
  case h_2 => cases hx
  rename_i n
  by_cases hc : 0 ≤ n ∧ n < 4294967296
  case neg => rw [if_neg hc] at hx; cases hx
  rw [if_pos hc] at hx
  cases hx
  obtain ⟨v, rfl⟩ : ∃ v, vs = #[v] := by
    obtain ⟨l⟩ := vs
    match l, hl with
    | [v], _ => exact ⟨v, rfl⟩
  have hv := hrep 0 (.int .u32 n) v rfl rfl
  cases hv
  refine (bits_Len32 n w hc.1 (by omega)).mono ?_
  rintro e w' ⟨rfl, rfl⟩
  refine ⟨_, rfl, fun _ => none, simH_start ok0 _, ?_, by simp [AV.keys]⟩
  rw [bitLen_bl _ (by omega)]
  exact .data (.int _ _)

end Go.Proofs.Ythlpmghodgiknaa.C
