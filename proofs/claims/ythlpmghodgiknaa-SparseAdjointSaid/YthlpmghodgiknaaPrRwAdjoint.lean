/- SparseAdjoint returns true for every input; each argument reads afterwards as it read before. Conditions: none. The proof evaluates the translated code by a verified evaluator. -/
import Derived.Test.YthlpmghodgiknaaPn3
import Derived.Test.YthlpmghodgiknaaPn5
import Derived.Test.YthlpmghodgiknaaPn6
import Derived.Test.YthlpmghodgiknaaPn7
import Derived.KernelRfl
import Derived.Test.YthlpmghodgiknaaRows
import Derived.WalkKit
import Derived.ProofKit
import Derived.OpenShut
import Derived.ChangeOld
import Derived.SizedLaws
set_option linter.unusedVariables false
set_option linter.unusedSimpArgs false
/- The callees, one by one: each gives what its specification says (printed by program). -/
namespace Go.Proofs.Ythlpmghodgiknaa.C
open Go Go.Ev

theorem mixed : Try.prog.follows .mixedOrders = true := by kernel_rfl
noncomputable def G0 : Pure := fun _ _ => none
theorem good0 : GoodG Try.prog ks G0 := good_none (by kernel_rfl)
noncomputable def G1 : Pure := addG G0 42 spLight1
theorem good1 : GoodG Try.prog ks G1 := good0.add (.inl ⟨by kernel_rfl, pure_spec mixed good0 noInl_sound c42_ok (light1_run G0 noInl )⟩)
noncomputable def G2 : Pure := addG G1 14 spLight2
theorem good2 : GoodG Try.prog ks G2 := good1.add (.inl ⟨by kernel_rfl, pure_spec mixed good1 noInl_sound c14_ok (light2_run G1 noInl rfl)⟩)
noncomputable def G3 : Pure := addG G2 10 spLight3
theorem good3 : GoodG Try.prog ks G3 := good2.add (.inl ⟨by kernel_rfl, pure_spec mixed good2 noInl_sound c10_ok (light3_run G2 noInl rfl)⟩)
noncomputable def G4 : Pure := addG G3 15 spSmall3
theorem good4 : GoodG Try.prog ks G4 := good3.add (.inl ⟨by kernel_rfl, pure_spec mixed good3 noInl_sound c15_ok (small3_run G3 noInl )⟩)
noncomputable def G5 : Pure := addG G4 74 spTrim
theorem good5 : GoodG Try.prog ks G5 := good4.add (.inl ⟨by kernel_rfl, pure_spec mixed good4 noInl_sound c74_ok (trim_run G4 noInl )⟩)
noncomputable def G6 : Pure := addG G5 70 spMake
theorem good6 : GoodG Try.prog ks G6 := good5.add (.inl ⟨by kernel_rfl, pure_spec mixed good5 noInl_sound c70_ok (make_run G5 noInl rfl)⟩)
noncomputable def G7 : Pure := addG G6 61 spFromInt64
theorem good7 : GoodG Try.prog ks G7 := good6.add (.inl ⟨by kernel_rfl, pure_spec mixed good6 noInl_sound c61_ok (fromInt64_run G6 noInl rfl)⟩)
noncomputable def G8 : Pure := addG G7 56 spOne
theorem good8 : GoodG Try.prog ks G8 := good7.add (.inl ⟨by kernel_rfl, pure_spec mixed good7 noInl_sound c56_ok (one_run G7 noInl rfl)⟩)
noncomputable def G9 : Pure := addG G8 55 spCanon
theorem good9 : GoodG Try.prog ks G9 := good8.add (.inl ⟨by kernel_rfl, pure_spec mixed good8 noInl_sound c55_ok (canon_run G8 noInl rfl)⟩)
noncomputable def G10 : Pure := addG G9 57 spNegate
theorem good10 : GoodG Try.prog ks G10 := good9.add (.inl ⟨by kernel_rfl, pure_spec mixed good9 noInl_sound c57_ok (negate_run G9 noInl rfl)⟩)
noncomputable def G11 : Pure := addG G10 88 spBitLen
theorem good11 : GoodG Try.prog ks G11 := good10.add (.inl ⟨by kernel_rfl, pure_spec mixed good10 noInl_sound c88_ok (bitLen_run G10 noInl rfl)⟩)
noncomputable def G12 : Pure := addG G11 89 spShift
theorem good12 : GoodG Try.prog ks G12 := good11.add (.inl ⟨by kernel_rfl, pure_spec mixed good11 noInl_sound c89_ok (shift_run G11 noInl rfl)⟩)
noncomputable def G13 : Pure := addG G12 72 spCompareDigits
theorem good13 : GoodG Try.prog ks G13 := good12.add (.inl ⟨by kernel_rfl, pure_spec mixed good12 noInl_sound c72_ok (compareDigits_run G12 noInl rfl)⟩)
noncomputable def G14 : Pure := addG G13 87 spDigit
theorem good14 : GoodG Try.prog ks G14 := good13.add (.inl ⟨by kernel_rfl, pure_spec mixed good13 noInl_sound c87_ok (digit_run G13 noInl )⟩)
noncomputable def G15 : Pure := addG G14 73 spSubDigits
theorem good15 : GoodG Try.prog ks G15 := good14.add (.inl ⟨by kernel_rfl, pure_spec mixed good14 noInl_sound c73_ok (subDigits_run G14 noInl rfl rfl)⟩)
noncomputable def G16 : Pure := addG G15 90 spHalf
theorem good16 : GoodG Try.prog ks G16 := good15.add (.inl ⟨by kernel_rfl, pure_spec mixed good15 noInl_sound c90_ok (half_run G15 noInl rfl rfl)⟩)
noncomputable def G17 : Pure := addG G16 76 spDivDigits
theorem good17 : GoodG Try.prog ks G17 := good16.add (.inl ⟨by kernel_rfl, pure_spec mixed good16 noInl_sound c76_ok (divDigits_run G16 noInl rfl rfl rfl rfl rfl rfl)⟩)
noncomputable def G18 : Pure := addG G17 58 spGCD
theorem good18 : GoodG Try.prog ks G18 := good17.add (.inl ⟨by kernel_rfl, pure_spec mixed good17 noInl_sound c58_ok (gcd_run G17 noInl rfl rfl rfl)⟩)
noncomputable def G19 : Pure := addG G18 71 spAddDigits
theorem good19 : GoodG Try.prog ks G19 := good18.add (.inl ⟨by kernel_rfl, pure_spec mixed good18 noInl_sound c71_ok (addDigits_run G18 noInl rfl rfl)⟩)
noncomputable def G20 : Pure := addG G19 49 spAdd
theorem good20 : GoodG Try.prog ks G20 := good19.add (.inl ⟨by kernel_rfl, pure_spec mixed good19 noInl_sound c49_ok (addZ_run G19 noInl rfl rfl rfl rfl rfl)⟩)
noncomputable def G21 : Pure := addG G20 77 spSub
theorem good21 : GoodG Try.prog ks G21 := good20.add (.inl ⟨by kernel_rfl, pure_spec mixed good20 noInl_sound c77_ok (subZ_run G20 noInl rfl rfl)⟩)
noncomputable def G22 : Pure := addG G21 59 spDivMod
theorem good22 : GoodG Try.prog ks G22 := good21.add (.inl ⟨by kernel_rfl, pure_spec mixed good21 noInl_sound c59_ok (divmod_run G21 noInl rfl rfl rfl rfl rfl rfl)⟩)
noncomputable def G23 : Pure := addG G22 28 spReduce
theorem good23 : GoodG Try.prog ks G23 := good22.add (.inl ⟨by kernel_rfl, pure_spec mixed good22 noInl_sound c28_ok (reduce_run G22 noInl rfl rfl rfl rfl rfl)⟩)
noncomputable def G24 : Pure := addG G23 60 spFromInt
theorem good24 : GoodG Try.prog ks G24 := good23.add (.inl ⟨by kernel_rfl, pure_spec mixed good23 noInl_sound c60_ok (fromInt_run G23 noInl rfl rfl)⟩)
noncomputable def G25 : Pure := addG G24 39 spWhole
theorem good25 : GoodG Try.prog ks G25 := good24.add (.inl ⟨by kernel_rfl, pure_spec mixed good24 noInl_sound c39_ok (whole_run G24 noInl rfl rfl)⟩)
noncomputable def G26 : Pure := addG G25 80 spMagnitude
theorem good26 : GoodG Try.prog ks G26 := good25.add (.inl ⟨by kernel_rfl, pure_spec mixed good25 noInl_sound c80_ok (magnitude_run G25 noInl )⟩)
noncomputable def G27 : Pure := addG G26 63 spSign
theorem good27 : GoodG Try.prog ks G27 := good26.add (.inl ⟨by kernel_rfl, pure_spec mixed good26 noInl_sound c63_ok (signP_run G26 noInl rfl)⟩)
noncomputable def G28 : Pure := addG G27 84 spMake
theorem good28 : GoodG Try.prog ks G28 := good27.add (.inl ⟨by kernel_rfl, pure_spec mixed good27 noInl_sound c84_ok (canonical_run G27 noInl )⟩)
noncomputable def G29 : Pure := addG G28 69 spFromInt64
theorem good29 : GoodG Try.prog ks G29 := good28.add (.inl ⟨by kernel_rfl, pure_spec mixed good28 noInl_sound c69_ok (fromInt64P_run G28 noInl rfl)⟩)
noncomputable def G30 : Pure := addG G29 78 spOne
theorem good30 : GoodG Try.prog ks G30 := good29.add (.inl ⟨by kernel_rfl, pure_spec mixed good29 noInl_sound c78_ok (oneP_run G29 noInl rfl)⟩)
noncomputable def G31 : Pure := addG G30 91 spClone
theorem good31 : GoodG Try.prog ks G31 := good30.add (.inl ⟨by kernel_rfl, fresh_spec mixed good30 noInl_sound c91_ok (clone_run G30 noInl )⟩)
noncomputable def G32 : Pure := addG G31 79 spNegate
theorem good32 : GoodG Try.prog ks G32 := good31.add (.inl ⟨by kernel_rfl, pure_spec mixed good31 noInl_sound c79_ok (negateP_run G31 noInl rfl rfl rfl)⟩)
noncomputable def G33 : Pure := addG G32 62 spParts
theorem good33 : GoodG Try.prog ks G33 := good32.add (.inl ⟨by kernel_rfl, pure_spec mixed good32 noInl_sound c62_ok (parts_run G32 noInl rfl rfl rfl)⟩)
noncomputable def G34 : Pure := addG G33 40 spSignFrac
theorem good34 : GoodG Try.prog ks G34 := good33.add (.inl ⟨by kernel_rfl, pure_spec mixed good33 noInl_sound c40_ok (signQ_run G33 noInl rfl rfl)⟩)
noncomputable def G35 : Pure := addG G34 12 spValidate
theorem good35 : GoodG Try.prog ks G35 := good34.add (.inl ⟨by kernel_rfl, pure_spec mixed good34 noInl_sound c12_ok (validateP_run G34 noInl rfl)⟩)
noncomputable def G36 : Pure := addG G35 43 spBoth
theorem good36 : GoodG Try.prog ks G36 := good35.add (.inl ⟨by kernel_rfl, pure_spec mixed good35 noInl_sound c43_ok (both_run G35 noInl rfl)⟩)
noncomputable def G37 : Pure := addG G36 95 spCompareP
theorem good37 : GoodG Try.prog ks G37 := good36.add (.inl ⟨by kernel_rfl, pure_spec mixed good36 noInl_sound c95_ok (compareP_run G36 noInl )⟩)
noncomputable def G38 : Pure := addG G37 97 spShrunk
theorem good38 : GoodG Try.prog ks G38 := good37.add (.inr ⟨by kernel_rfl, 0, 88, by kernel_rfl, updF_meets mixed good37 noInl_sound c97_ok spShrunk (shrunk_run G37 noInl )⟩)
noncomputable def G39 : Pure := addG G38 105 spLen32
theorem good39 : GoodG Try.prog ks G39 := good38.add (.inl ⟨by kernel_rfl, len32_meets⟩)
noncomputable def G40 : Pure := addG G39 98 spLZ
theorem good40 : GoodG Try.prog ks G40 := good39.add (.inl ⟨by kernel_rfl, pure_spec mixed good39 noInl_sound c98_ok (lz_run G39 noInl rfl)⟩)
noncomputable def G41 : Pure := addG G40 99 spShifted
theorem good41 : GoodG Try.prog ks G41 := good40.add (.inl ⟨by kernel_rfl, fresh_spec mixed good40 noInl_sound c99_ok (shifted_run G40 noInl )⟩)
noncomputable def G42 : Pure := addG G41 101 spDigitP
theorem good42 : GoodG Try.prog ks G42 := good41.add (.inl ⟨by kernel_rfl, pure_spec mixed good41 noInl_sound c101_ok (digitP_run G41 noInl )⟩)
noncomputable def G43 : Pure := addG G42 104 spSub32
theorem good43 : GoodG Try.prog ks G43 := good42.add (.inl ⟨by kernel_rfl, pure_spec mixed good42 noInl_sound c104_ok (sub32_run G42 noInl )⟩)
noncomputable def G44 : Pure := addG G43 103 spAdd32
theorem good44 : GoodG Try.prog ks G44 := good43.add (.inl ⟨by kernel_rfl, pure_spec mixed good43 noInl_sound c103_ok (add32_run G43 noInl )⟩)
noncomputable def G45 : Pure := addG G44 100 spReduceP
theorem good45 : GoodG Try.prog ks G45 := good44.add (.inr ⟨by kernel_rfl, 0, 88, by kernel_rfl, updF_meets mixed good44 noInl_sound c100_ok spReduceP (reduceP_run G44 noInl rfl rfl)⟩)
noncomputable def G46 : Pure := addG G45 102 spUnshifted
theorem good46 : GoodG Try.prog ks G46 := good45.add (.inr ⟨by kernel_rfl, 0, 88, by kernel_rfl, updF_meets mixed good45 noInl_sound c102_ok spUnshifted (unshifted_run G45 noInl )⟩)
noncomputable def G47 : Pure := addG G46 92 spDivide
theorem good47 : GoodG Try.prog ks G47 := good46.add (.inl ⟨by kernel_rfl, pure_spec mixed good46 noInl_sound c92_ok (divide_run G46 noInl rfl rfl rfl rfl rfl rfl rfl rfl)⟩)
noncomputable def G48 : Pure := addG G47 82 spGCDS
theorem good48 : GoodG Try.prog ks G48 := good47.add (.inl ⟨by kernel_rfl, pure_spec mixed good47 noInl_sound c82_ok (gcdP_run G47 noInl rfl rfl rfl rfl)⟩)
noncomputable def G49 : Pure := addG G48 94 spPlus
theorem good49 : GoodG Try.prog ks G49 := good48.add (.inl ⟨by kernel_rfl, pure_spec mixed good48 noInl_sound c94_ok (plus_run G48 noInl rfl)⟩)
noncomputable def G50 : Pure := addG G49 96 spMinus
theorem good50 : GoodG Try.prog ks G50 := good49.add (.inl ⟨by kernel_rfl, pure_spec mixed good49 noInl_sound c96_ok (minus_run G49 noInl rfl)⟩)
noncomputable def G51 : Pure := addG G50 86 spSum
theorem good51 : GoodG Try.prog ks G51 := good50.add (.inl ⟨by kernel_rfl, pure_spec mixed good50 noInl_sound c86_ok (sumP_run G50 noInl rfl rfl rfl rfl rfl)⟩)
noncomputable def G52 : Pure := addG G51 93 spSub
theorem good52 : GoodG Try.prog ks G52 := good51.add (.inl ⟨by kernel_rfl, pure_spec mixed good51 noInl_sound c93_ok (subP_run G51 noInl rfl)⟩)
noncomputable def G53 : Pure := addG G52 67 spAdd
theorem good53 : GoodG Try.prog ks G53 := good52.add (.inl ⟨by kernel_rfl, pure_spec mixed good52 noInl_sound c67_ok (addP_run G52 noInl rfl)⟩)
noncomputable def G54 : Pure := addG G53 83 spDivMod
theorem good54 : GoodG Try.prog ks G54 := good53.add (.inl ⟨by kernel_rfl, pure_spec mixed good53 noInl_sound c83_ok (divmodP_run G53 noInl rfl rfl rfl rfl rfl rfl rfl)⟩)
noncomputable def G55 : Pure := addG G54 65 spReduced
theorem good55 : GoodG Try.prog ks G55 := good54.add (.inl ⟨by kernel_rfl, pure_spec mixed good54 noInl_sound c65_ok (reducedP_run G54 noInl rfl rfl rfl rfl rfl)⟩)
noncomputable def G56 : Pure := addG G55 68 spFromIntS
theorem good56 : GoodG Try.prog ks G56 := good55.add (.inl ⟨by kernel_rfl, pure_spec mixed good55 noInl_sound c68_ok (fromIntP_run G55 noInl rfl rfl)⟩)
noncomputable def G57 : Pure := addG G56 48 spZero
theorem good57 : GoodG Try.prog ks G57 := good56.add (.inl ⟨by kernel_rfl, pure_spec mixed good56 noInl_sound c48_ok (zero_run G56 noInl rfl rfl)⟩)
noncomputable def G58 : Pure := addG G57 85 spTimes
theorem good58 : GoodG Try.prog ks G58 := good57.add (.inl ⟨by kernel_rfl, pure_spec mixed good57 noInl_sound c85_ok (times_run G57 noInl )⟩)
noncomputable def G59 : Pure := addG G58 66 spMul
theorem good59 : GoodG Try.prog ks G59 := good58.add (.inl ⟨by kernel_rfl, pure_spec mixed good58 noInl_sound c66_ok (mulP_run G58 noInl rfl rfl rfl)⟩)
noncomputable def G60 : Pure := addG G59 47 spAddFrac
theorem good60 : GoodG Try.prog ks G60 := good59.add (.inl ⟨by kernel_rfl, pure_spec mixed good59 noInl_sound c47_ok (addQ_run G59 noInl rfl rfl rfl rfl)⟩)
noncomputable def G61 : Pure := addG G60 46 spMulFrac
theorem good61 : GoodG Try.prog ks G61 := good60.add (.inl ⟨by kernel_rfl, pure_spec mixed good60 noInl_sound c46_ok (mulQ_run G60 noInl rfl rfl rfl)⟩)
noncomputable def G62 : Pure := addG G61 17 spDot
theorem good62 : GoodG Try.prog ks G62 := good61.add (.inl ⟨by kernel_rfl, pure_spec mixed good61 noInl_sound c17_ok (dotP_run G61 noInl rfl rfl rfl rfl)⟩)
noncomputable def G63 : Pure := addG G62 51 spSameInt
theorem good63 : GoodG Try.prog ks G63 := good62.add (.inl ⟨by kernel_rfl, pure_spec mixed good62 noInl_sound c51_ok (sameInt_run G62 noInl )⟩)
noncomputable def G64 : Pure := addG G63 20 spSameFrac
theorem good64 : GoodG Try.prog ks G64 := good63.add (.inl ⟨by kernel_rfl, pure_spec mixed good63 noInl_sound c20_ok (sameFrac_run G63 noInl rfl)⟩)
noncomputable def G65 : Pure := addG G64 11 spAwake
theorem good65 : GoodG Try.prog ks G65 := good64.add (.inl ⟨by kernel_rfl, pure_spec mixed good64 noInl_sound c11_ok (awake_run G64 noInl rfl rfl rfl)⟩)
noncomputable def G66 : Pure := addG G65 81 spCompare
theorem good66 : GoodG Try.prog ks G66 := good65.add (.inl ⟨by kernel_rfl, pure_spec mixed good65 noInl_sound c81_ok (compareZ_run G65 noInl rfl rfl)⟩)
noncomputable def G67 : Pure := addG G66 64 spSign
theorem good67 : GoodG Try.prog ks G67 := good66.add (.inl ⟨by kernel_rfl, pure_spec mixed good66 noInl_sound c64_ok (sign_run G66 noInl rfl)⟩)
noncomputable def G68 : Pure := addG G67 41 spSignFrac
theorem good68 : GoodG Try.prog ks G68 := good67.add (.inl ⟨by kernel_rfl, pure_spec mixed good67 noInl_sound c41_ok (signFrac_run G67 noInl rfl rfl)⟩)
noncomputable def G69 : Pure := addG G68 13 spValidate
theorem good69 : GoodG Try.prog ks G69 := good68.add (.inl ⟨by kernel_rfl, pure_spec mixed good68 noInl_sound c13_ok (validateR_run G68 noInl rfl)⟩)
noncomputable def G70 : Pure := addG G69 53 spZeros
theorem good70 : GoodG Try.prog ks G70 := good69.add (.inl ⟨by kernel_rfl, fresh_spec mixed good69 noInl_sound c53_ok (zeros_run G69 noInl rfl)⟩)
noncomputable def G71 : Pure := addG G70 45 spCanonQ
theorem good71 : GoodG Try.prog ks G71 := good70.add (.inl ⟨by kernel_rfl, pure_spec mixed good70 noInl_sound c45_ok (canonQ_run G70 noInl rfl rfl)⟩)
noncomputable def G72 : Pure := addG G71 54 spGathered
theorem good72 : GoodG Try.prog ks G72 := good71.add (.inl ⟨by kernel_rfl, pure_spec mixed good71 noInl_sound c54_ok (gathered_run G71 noInl rfl rfl)⟩)
noncomputable def G73 : Pure := addG G72 34 spMultiply
theorem good73 : GoodG Try.prog ks G73 := good72.add (.inl ⟨by kernel_rfl, pure_spec mixed good72 noInl_sound c34_ok (multiplyP_run G72 noInl rfl rfl rfl rfl rfl)⟩)
noncomputable def G74 : Pure := addG G73 36 spTranspose
theorem good74 : GoodG Try.prog ks G74 := good73.add (.inl ⟨by kernel_rfl, pure_spec mixed good73 noInl_sound c36_ok (transposeP_run G73 noInl rfl rfl)⟩)
noncomputable def G75 : Pure := addG G74 37 spTranspose
theorem good75 : GoodG Try.prog ks G75 := good74.add (.inl ⟨by kernel_rfl, pure_spec mixed good74 noInl_sound c37_ok (transposeR_run G74 noInl rfl rfl)⟩)
open Classical in
noncomputable def sparseAdjoint_run_sp : List AV → Option PRes := fun us => if FitAll [(false, [.sl [ctV]]), (false, [ctV]), (false, [ctV]), (false, [.int .i64])] us then some { val := .bool true } else none
open Classical in
theorem sparseAdjoint_run_meets : Meets Try.prog 9 sparseAdjoint_run_sp := pureF_meets mixed good75 noInl_sound c9_ok sparseAdjoint_run_sp (fun args r h => by
  unfold sparseAdjoint_run_sp at h
  obtain ⟨h1, h2⟩ := of_ite h
  cases h2
  exact sparseAdjoint_run G75 noInl rfl rfl rfl rfl rfl rfl rfl rfl rfl rfl args h1)
theorem sparseAdjoint_run_true (us : List AV) (h : FitAll [(false, [.sl [ctV]]), (false, [ctV]), (false, [ctV]), (false, [.int .i64])] us) : sparseAdjoint_run_sp us = some { val := .bool true } := by unfold sparseAdjoint_run_sp; rw [if_pos h]
end Go.Proofs.Ythlpmghodgiknaa.C

/- SparseAdjoint returns true for every input; each argument reads afterwards as it read before. Conditions: none. The proof evaluates the translated code by a verified evaluator. -/
namespace Go.Proofs.Ythlpmghodgiknaa
open Go Go.Ev Go.ChangeShapes Go.WideShapes Go.ChangeAt Go.RowKit

theorem sparseAdjoint_own : ownKnob Try.prog.godebug = none := by kernel_rfl
theorem sparseAdjoint_laid : laidOutB Try.prog = true := by kernel_rfl

set_option maxRecDepth 100000 in
theorem sparseAdjoint_lifted (os : Os) (started : os.Started) (H : Type) (enc : TypeId × Value → H) :
    ReturnsInHanded {} Try.checked os 9 .any (Rows.sparseAdjointSpec.pre6 enc Try.prog Try.f9 Rows.sparseAdjointRow.domain false) (Rows.sparseAdjointSpec.post enc Try.prog Try.f9 false true false false) := by
  refine returnsInHanded_of_change_sized (C := Try.checked) sparseAdjoint_own started (by kernel_rfl) Try.func9
    (ChangeSpec.witness6 (enc := enc) (C := Try.checked) false ⟨#[], #[.slice none 0 0, .slice none 0 0, .slice none 0 0, .int .i64 0], []⟩ 8 (by kernel_rfl) (by kernel_rfl) (by kernel_rfl) (by kernel_rfl)) ?_
  intro W base args ds gs before hval hW _ hsz _
  exact law_contract (P := Try.prog) C.sparseAdjoint_run_meets sparseAdjoint_laid (ps := [(false, [.sl [ctV]]), (false, [ctV]), (false, [ctV]), (false, [.int .i64])]) (by kernel_rfl) (by kernel_rfl) (tb := 4) (by kernel_rfl) (by kernel_rfl) rfl (fun ds hds => by
    match ds, hds with
    | [d1, d2, d3, d4], _ => exact ⟨rfl, rfl, rfl⟩) C.sparseAdjoint_run_true hval hW hsz

theorem sparseAdjoint_over : Rows.sparseAdjointRow.holds Try.pinned (OpenSpec.ofChange Rows.sparseAdjointSpec) :=
  OpenClaim.holds_of_wide 9 Try.f9 rfl rfl rfl rfl rfl rfl rfl ⟨rfl, rfl, rfl, rfl, rfl⟩ rfl rfl rfl rfl rfl (by kernel_rfl) Try.func9 (by kernel_rfl)
    (of_decide_eq_true (by kernel_rfl)) (by unfold Func.isWrapper; first | (rw [if_pos (by decide +kernel)]; kernel_rfl) | (rw [if_neg (by decide +kernel)]; exact ⟨rfl, rfl⟩))
    (fun os started H enc _ => sparseAdjoint_lifted os started H enc)

/-- The statement. -/
theorem sparseAdjoint_holds : Rows.SparseAdjointSaid := sparseAdjoint_over
#print axioms sparseAdjoint_holds
end Go.Proofs.Ythlpmghodgiknaa
