/- The callees, one by one: each gives what its specification says (printed by program). -/
import Derived.Test.YthlpmghodgiknaaLen
import Derived.Test.YthlpmghodgiknaaSpI
import Derived.Test.YthlpmghodgiknaaSpJ
import Derived.Test.YthlpmghodgiknaaSpK
import Derived.Test.YthlpmghodgiknaaSpL
import Derived.Test.YthlpmghodgiknaaSpP
import Derived.Test.YthlpmghodgiknaaSpQ
import Derived.Test.YthlpmghodgiknaaSpR
import Derived.Test.YthlpmghodgiknaaSpS
import Derived.Test.YthlpmghodgiknaaSpT
import Derived.Test.YthlpmghodgiknaaSpU
import Derived.Test.YthlpmghodgiknaaSpW
import Derived.Test.YthlpmghodgiknaaSpX
import Derived.Test.YthlpmghodgiknaaSpY
import Derived.Test.YthlpmghodgiknaaSpZ
import Derived.Test.YthlpmghodgiknaaSqA
import Derived.Test.YthlpmghodgiknaaSqB
import Derived.Test.YthlpmghodgiknaaSqC
import Derived.Test.YthlpmghodgiknaaSqD
import Derived.Test.YthlpmghodgiknaaSqE
import Derived.KernelRfl
namespace Go.Proofs.Ythlpmghodgiknaa.C
open Go Go.Ev

theorem mixed : Try.prog.follows .mixedOrders = true := by kernel_rfl
noncomputable def G0 : Pure := fun _ _ => none
theorem good0 : GoodG Try.prog ks G0 := good_none (by kernel_rfl)
noncomputable def G1 : Pure := addG G0 42 spLight1
theorem at1_42 : G1 42 = spLight1 := addG_self _ _ _
theorem good1 : GoodG Try.prog ks G1 := good0.add (.inl ⟨by kernel_rfl, pure_spec mixed good0 noInl_sound c42_ok (light1_run G0 noInl )⟩)
noncomputable def G2 : Pure := addG G1 14 spLight2
theorem at2_14 : G2 14 = spLight2 := addG_self _ _ _
theorem good2 : GoodG Try.prog ks G2 := good1.add (.inl ⟨by kernel_rfl, pure_spec mixed good1 noInl_sound c14_ok (light2_run G1 noInl (at1_42))⟩)
noncomputable def G3 : Pure := addG G2 10 spLight3
theorem at3_10 : G3 10 = spLight3 := addG_self _ _ _
theorem good3 : GoodG Try.prog ks G3 := good2.add (.inl ⟨by kernel_rfl, pure_spec mixed good2 noInl_sound c10_ok (light3_run G2 noInl (at2_14))⟩)
noncomputable def G4 : Pure := addG G3 74 spTrim
theorem at4_10 : G4 10 = spLight3 := (addG_ne _ _ (by decide)).trans at3_10
theorem at4_74 : G4 74 = spTrim := addG_self _ _ _
theorem good4 : GoodG Try.prog ks G4 := good3.add (.inl ⟨by kernel_rfl, pure_spec mixed good3 noInl_sound c74_ok (trim_run G3 noInl )⟩)
noncomputable def G5 : Pure := addG G4 70 spMake
theorem at5_10 : G5 10 = spLight3 := (addG_ne _ _ (by decide)).trans at4_10
theorem at5_74 : G5 74 = spTrim := (addG_ne _ _ (by decide)).trans at4_74
theorem at5_70 : G5 70 = spMake := addG_self _ _ _
theorem good5 : GoodG Try.prog ks G5 := good4.add (.inl ⟨by kernel_rfl, pure_spec mixed good4 noInl_sound c70_ok (make_run G4 noInl (at4_74))⟩)
noncomputable def G6 : Pure := addG G5 61 spFromInt64
theorem at6_10 : G6 10 = spLight3 := (addG_ne _ _ (by decide)).trans at5_10
theorem at6_74 : G6 74 = spTrim := (addG_ne _ _ (by decide)).trans at5_74
theorem at6_70 : G6 70 = spMake := (addG_ne _ _ (by decide)).trans at5_70
theorem at6_61 : G6 61 = spFromInt64 := addG_self _ _ _
theorem good6 : GoodG Try.prog ks G6 := good5.add (.inl ⟨by kernel_rfl, pure_spec mixed good5 noInl_sound c61_ok (fromInt64_run G5 noInl (at5_70))⟩)
noncomputable def G7 : Pure := addG G6 56 spOne
theorem at7_10 : G7 10 = spLight3 := (addG_ne _ _ (by decide)).trans at6_10
theorem at7_74 : G7 74 = spTrim := (addG_ne _ _ (by decide)).trans at6_74
theorem at7_70 : G7 70 = spMake := (addG_ne _ _ (by decide)).trans at6_70
theorem at7_61 : G7 61 = spFromInt64 := (addG_ne _ _ (by decide)).trans at6_61
theorem at7_56 : G7 56 = spOne := addG_self _ _ _
theorem good7 : GoodG Try.prog ks G7 := good6.add (.inl ⟨by kernel_rfl, pure_spec mixed good6 noInl_sound c56_ok (one_run G6 noInl (at6_61))⟩)
noncomputable def G8 : Pure := addG G7 55 spCanon
theorem at8_10 : G8 10 = spLight3 := (addG_ne _ _ (by decide)).trans at7_10
theorem at8_74 : G8 74 = spTrim := (addG_ne _ _ (by decide)).trans at7_74
theorem at8_70 : G8 70 = spMake := (addG_ne _ _ (by decide)).trans at7_70
theorem at8_61 : G8 61 = spFromInt64 := (addG_ne _ _ (by decide)).trans at7_61
theorem at8_56 : G8 56 = spOne := (addG_ne _ _ (by decide)).trans at7_56
theorem at8_55 : G8 55 = spCanon := addG_self _ _ _
theorem good8 : GoodG Try.prog ks G8 := good7.add (.inl ⟨by kernel_rfl, pure_spec mixed good7 noInl_sound c55_ok (canon_run G7 noInl (at7_70))⟩)
noncomputable def G9 : Pure := addG G8 57 spNegate
theorem at9_10 : G9 10 = spLight3 := (addG_ne _ _ (by decide)).trans at8_10
theorem at9_74 : G9 74 = spTrim := (addG_ne _ _ (by decide)).trans at8_74
theorem at9_70 : G9 70 = spMake := (addG_ne _ _ (by decide)).trans at8_70
theorem at9_61 : G9 61 = spFromInt64 := (addG_ne _ _ (by decide)).trans at8_61
theorem at9_56 : G9 56 = spOne := (addG_ne _ _ (by decide)).trans at8_56
theorem at9_55 : G9 55 = spCanon := (addG_ne _ _ (by decide)).trans at8_55
theorem at9_57 : G9 57 = spNegate := addG_self _ _ _
theorem good9 : GoodG Try.prog ks G9 := good8.add (.inl ⟨by kernel_rfl, pure_spec mixed good8 noInl_sound c57_ok (negate_run G8 noInl (at8_70))⟩)
noncomputable def G10 : Pure := addG G9 88 spBitLen
theorem at10_10 : G10 10 = spLight3 := (addG_ne _ _ (by decide)).trans at9_10
theorem at10_74 : G10 74 = spTrim := (addG_ne _ _ (by decide)).trans at9_74
theorem at10_70 : G10 70 = spMake := (addG_ne _ _ (by decide)).trans at9_70
theorem at10_61 : G10 61 = spFromInt64 := (addG_ne _ _ (by decide)).trans at9_61
theorem at10_56 : G10 56 = spOne := (addG_ne _ _ (by decide)).trans at9_56
theorem at10_55 : G10 55 = spCanon := (addG_ne _ _ (by decide)).trans at9_55
theorem at10_57 : G10 57 = spNegate := (addG_ne _ _ (by decide)).trans at9_57
theorem at10_88 : G10 88 = spBitLen := addG_self _ _ _
theorem good10 : GoodG Try.prog ks G10 := good9.add (.inl ⟨by kernel_rfl, pure_spec mixed good9 noInl_sound c88_ok (bitLen_run G9 noInl (at9_74))⟩)
noncomputable def G11 : Pure := addG G10 89 spShift
theorem at11_10 : G11 10 = spLight3 := (addG_ne _ _ (by decide)).trans at10_10
theorem at11_74 : G11 74 = spTrim := (addG_ne _ _ (by decide)).trans at10_74
theorem at11_70 : G11 70 = spMake := (addG_ne _ _ (by decide)).trans at10_70
theorem at11_61 : G11 61 = spFromInt64 := (addG_ne _ _ (by decide)).trans at10_61
theorem at11_56 : G11 56 = spOne := (addG_ne _ _ (by decide)).trans at10_56
theorem at11_55 : G11 55 = spCanon := (addG_ne _ _ (by decide)).trans at10_55
theorem at11_57 : G11 57 = spNegate := (addG_ne _ _ (by decide)).trans at10_57
theorem at11_88 : G11 88 = spBitLen := (addG_ne _ _ (by decide)).trans at10_88
theorem at11_89 : G11 89 = spShift := addG_self _ _ _
theorem good11 : GoodG Try.prog ks G11 := good10.add (.inl ⟨by kernel_rfl, pure_spec mixed good10 noInl_sound c89_ok (shift_run G10 noInl (at10_74))⟩)
noncomputable def G12 : Pure := addG G11 72 spCompareDigits
theorem at12_10 : G12 10 = spLight3 := (addG_ne _ _ (by decide)).trans at11_10
theorem at12_74 : G12 74 = spTrim := (addG_ne _ _ (by decide)).trans at11_74
theorem at12_70 : G12 70 = spMake := (addG_ne _ _ (by decide)).trans at11_70
theorem at12_61 : G12 61 = spFromInt64 := (addG_ne _ _ (by decide)).trans at11_61
theorem at12_56 : G12 56 = spOne := (addG_ne _ _ (by decide)).trans at11_56
theorem at12_55 : G12 55 = spCanon := (addG_ne _ _ (by decide)).trans at11_55
theorem at12_57 : G12 57 = spNegate := (addG_ne _ _ (by decide)).trans at11_57
theorem at12_88 : G12 88 = spBitLen := (addG_ne _ _ (by decide)).trans at11_88
theorem at12_89 : G12 89 = spShift := (addG_ne _ _ (by decide)).trans at11_89
theorem at12_72 : G12 72 = spCompareDigits := addG_self _ _ _
theorem good12 : GoodG Try.prog ks G12 := good11.add (.inl ⟨by kernel_rfl, pure_spec mixed good11 noInl_sound c72_ok (compareDigits_run G11 noInl (at11_74))⟩)
noncomputable def G13 : Pure := addG G12 87 spDigit
theorem at13_10 : G13 10 = spLight3 := (addG_ne _ _ (by decide)).trans at12_10
theorem at13_74 : G13 74 = spTrim := (addG_ne _ _ (by decide)).trans at12_74
theorem at13_70 : G13 70 = spMake := (addG_ne _ _ (by decide)).trans at12_70
theorem at13_61 : G13 61 = spFromInt64 := (addG_ne _ _ (by decide)).trans at12_61
theorem at13_56 : G13 56 = spOne := (addG_ne _ _ (by decide)).trans at12_56
theorem at13_55 : G13 55 = spCanon := (addG_ne _ _ (by decide)).trans at12_55
theorem at13_57 : G13 57 = spNegate := (addG_ne _ _ (by decide)).trans at12_57
theorem at13_88 : G13 88 = spBitLen := (addG_ne _ _ (by decide)).trans at12_88
theorem at13_89 : G13 89 = spShift := (addG_ne _ _ (by decide)).trans at12_89
theorem at13_72 : G13 72 = spCompareDigits := (addG_ne _ _ (by decide)).trans at12_72
theorem at13_87 : G13 87 = spDigit := addG_self _ _ _
theorem good13 : GoodG Try.prog ks G13 := good12.add (.inl ⟨by kernel_rfl, pure_spec mixed good12 noInl_sound c87_ok (digit_run G12 noInl )⟩)
noncomputable def G14 : Pure := addG G13 73 spSubDigits
theorem at14_10 : G14 10 = spLight3 := (addG_ne _ _ (by decide)).trans at13_10
theorem at14_74 : G14 74 = spTrim := (addG_ne _ _ (by decide)).trans at13_74
theorem at14_70 : G14 70 = spMake := (addG_ne _ _ (by decide)).trans at13_70
theorem at14_61 : G14 61 = spFromInt64 := (addG_ne _ _ (by decide)).trans at13_61
theorem at14_56 : G14 56 = spOne := (addG_ne _ _ (by decide)).trans at13_56
theorem at14_55 : G14 55 = spCanon := (addG_ne _ _ (by decide)).trans at13_55
theorem at14_57 : G14 57 = spNegate := (addG_ne _ _ (by decide)).trans at13_57
theorem at14_88 : G14 88 = spBitLen := (addG_ne _ _ (by decide)).trans at13_88
theorem at14_89 : G14 89 = spShift := (addG_ne _ _ (by decide)).trans at13_89
theorem at14_72 : G14 72 = spCompareDigits := (addG_ne _ _ (by decide)).trans at13_72
theorem at14_87 : G14 87 = spDigit := (addG_ne _ _ (by decide)).trans at13_87
theorem at14_73 : G14 73 = spSubDigits := addG_self _ _ _
theorem good14 : GoodG Try.prog ks G14 := good13.add (.inl ⟨by kernel_rfl, pure_spec mixed good13 noInl_sound c73_ok (subDigits_run G13 noInl (at13_74) (at13_87))⟩)
noncomputable def G15 : Pure := addG G14 90 spHalf
theorem at15_10 : G15 10 = spLight3 := (addG_ne _ _ (by decide)).trans at14_10
theorem at15_74 : G15 74 = spTrim := (addG_ne _ _ (by decide)).trans at14_74
theorem at15_70 : G15 70 = spMake := (addG_ne _ _ (by decide)).trans at14_70
theorem at15_61 : G15 61 = spFromInt64 := (addG_ne _ _ (by decide)).trans at14_61
theorem at15_56 : G15 56 = spOne := (addG_ne _ _ (by decide)).trans at14_56
theorem at15_55 : G15 55 = spCanon := (addG_ne _ _ (by decide)).trans at14_55
theorem at15_57 : G15 57 = spNegate := (addG_ne _ _ (by decide)).trans at14_57
theorem at15_88 : G15 88 = spBitLen := (addG_ne _ _ (by decide)).trans at14_88
theorem at15_89 : G15 89 = spShift := (addG_ne _ _ (by decide)).trans at14_89
theorem at15_72 : G15 72 = spCompareDigits := (addG_ne _ _ (by decide)).trans at14_72
theorem at15_87 : G15 87 = spDigit := (addG_ne _ _ (by decide)).trans at14_87
theorem at15_73 : G15 73 = spSubDigits := (addG_ne _ _ (by decide)).trans at14_73
theorem at15_90 : G15 90 = spHalf := addG_self _ _ _
theorem good15 : GoodG Try.prog ks G15 := good14.add (.inl ⟨by kernel_rfl, pure_spec mixed good14 noInl_sound c90_ok (half_run G14 noInl (at14_74) (at14_87))⟩)
noncomputable def G16 : Pure := addG G15 76 spDivDigits
theorem at16_10 : G16 10 = spLight3 := (addG_ne _ _ (by decide)).trans at15_10
theorem at16_74 : G16 74 = spTrim := (addG_ne _ _ (by decide)).trans at15_74
theorem at16_70 : G16 70 = spMake := (addG_ne _ _ (by decide)).trans at15_70
theorem at16_61 : G16 61 = spFromInt64 := (addG_ne _ _ (by decide)).trans at15_61
theorem at16_56 : G16 56 = spOne := (addG_ne _ _ (by decide)).trans at15_56
theorem at16_55 : G16 55 = spCanon := (addG_ne _ _ (by decide)).trans at15_55
theorem at16_57 : G16 57 = spNegate := (addG_ne _ _ (by decide)).trans at15_57
theorem at16_72 : G16 72 = spCompareDigits := (addG_ne _ _ (by decide)).trans at15_72
theorem at16_87 : G16 87 = spDigit := (addG_ne _ _ (by decide)).trans at15_87
theorem at16_73 : G16 73 = spSubDigits := (addG_ne _ _ (by decide)).trans at15_73
theorem at16_76 : G16 76 = spDivDigits := addG_self _ _ _
theorem good16 : GoodG Try.prog ks G16 := good15.add (.inl ⟨by kernel_rfl, pure_spec mixed good15 noInl_sound c76_ok (divDigits_run G15 noInl (at15_74) (at15_88) (at15_89) (at15_72) (at15_73) (at15_90))⟩)
noncomputable def G17 : Pure := addG G16 58 spGCD
theorem at17_10 : G17 10 = spLight3 := (addG_ne _ _ (by decide)).trans at16_10
theorem at17_74 : G17 74 = spTrim := (addG_ne _ _ (by decide)).trans at16_74
theorem at17_70 : G17 70 = spMake := (addG_ne _ _ (by decide)).trans at16_70
theorem at17_61 : G17 61 = spFromInt64 := (addG_ne _ _ (by decide)).trans at16_61
theorem at17_56 : G17 56 = spOne := (addG_ne _ _ (by decide)).trans at16_56
theorem at17_55 : G17 55 = spCanon := (addG_ne _ _ (by decide)).trans at16_55
theorem at17_57 : G17 57 = spNegate := (addG_ne _ _ (by decide)).trans at16_57
theorem at17_72 : G17 72 = spCompareDigits := (addG_ne _ _ (by decide)).trans at16_72
theorem at17_87 : G17 87 = spDigit := (addG_ne _ _ (by decide)).trans at16_87
theorem at17_73 : G17 73 = spSubDigits := (addG_ne _ _ (by decide)).trans at16_73
theorem at17_76 : G17 76 = spDivDigits := (addG_ne _ _ (by decide)).trans at16_76
theorem at17_58 : G17 58 = spGCD := addG_self _ _ _
theorem good17 : GoodG Try.prog ks G17 := good16.add (.inl ⟨by kernel_rfl, pure_spec mixed good16 noInl_sound c58_ok (gcd_run G16 noInl (at16_74) (at16_76) (at16_70))⟩)
noncomputable def G18 : Pure := addG G17 71 spAddDigits
theorem at18_10 : G18 10 = spLight3 := (addG_ne _ _ (by decide)).trans at17_10
theorem at18_74 : G18 74 = spTrim := (addG_ne _ _ (by decide)).trans at17_74
theorem at18_70 : G18 70 = spMake := (addG_ne _ _ (by decide)).trans at17_70
theorem at18_61 : G18 61 = spFromInt64 := (addG_ne _ _ (by decide)).trans at17_61
theorem at18_56 : G18 56 = spOne := (addG_ne _ _ (by decide)).trans at17_56
theorem at18_55 : G18 55 = spCanon := (addG_ne _ _ (by decide)).trans at17_55
theorem at18_57 : G18 57 = spNegate := (addG_ne _ _ (by decide)).trans at17_57
theorem at18_72 : G18 72 = spCompareDigits := (addG_ne _ _ (by decide)).trans at17_72
theorem at18_73 : G18 73 = spSubDigits := (addG_ne _ _ (by decide)).trans at17_73
theorem at18_76 : G18 76 = spDivDigits := (addG_ne _ _ (by decide)).trans at17_76
theorem at18_58 : G18 58 = spGCD := (addG_ne _ _ (by decide)).trans at17_58
theorem at18_71 : G18 71 = spAddDigits := addG_self _ _ _
theorem good18 : GoodG Try.prog ks G18 := good17.add (.inl ⟨by kernel_rfl, pure_spec mixed good17 noInl_sound c71_ok (addDigits_run G17 noInl (at17_74) (at17_87))⟩)
noncomputable def G19 : Pure := addG G18 49 spAdd
theorem at19_10 : G19 10 = spLight3 := (addG_ne _ _ (by decide)).trans at18_10
theorem at19_70 : G19 70 = spMake := (addG_ne _ _ (by decide)).trans at18_70
theorem at19_61 : G19 61 = spFromInt64 := (addG_ne _ _ (by decide)).trans at18_61
theorem at19_56 : G19 56 = spOne := (addG_ne _ _ (by decide)).trans at18_56
theorem at19_55 : G19 55 = spCanon := (addG_ne _ _ (by decide)).trans at18_55
theorem at19_57 : G19 57 = spNegate := (addG_ne _ _ (by decide)).trans at18_57
theorem at19_72 : G19 72 = spCompareDigits := (addG_ne _ _ (by decide)).trans at18_72
theorem at19_76 : G19 76 = spDivDigits := (addG_ne _ _ (by decide)).trans at18_76
theorem at19_58 : G19 58 = spGCD := (addG_ne _ _ (by decide)).trans at18_58
theorem at19_49 : G19 49 = spAdd := addG_self _ _ _
theorem good19 : GoodG Try.prog ks G19 := good18.add (.inl ⟨by kernel_rfl, pure_spec mixed good18 noInl_sound c49_ok (addZ_run G18 noInl (at18_70) (at18_71) (at18_72) (at18_74) (at18_73))⟩)
noncomputable def G20 : Pure := addG G19 77 spSub
theorem at20_10 : G20 10 = spLight3 := (addG_ne _ _ (by decide)).trans at19_10
theorem at20_70 : G20 70 = spMake := (addG_ne _ _ (by decide)).trans at19_70
theorem at20_61 : G20 61 = spFromInt64 := (addG_ne _ _ (by decide)).trans at19_61
theorem at20_56 : G20 56 = spOne := (addG_ne _ _ (by decide)).trans at19_56
theorem at20_55 : G20 55 = spCanon := (addG_ne _ _ (by decide)).trans at19_55
theorem at20_57 : G20 57 = spNegate := (addG_ne _ _ (by decide)).trans at19_57
theorem at20_72 : G20 72 = spCompareDigits := (addG_ne _ _ (by decide)).trans at19_72
theorem at20_76 : G20 76 = spDivDigits := (addG_ne _ _ (by decide)).trans at19_76
theorem at20_58 : G20 58 = spGCD := (addG_ne _ _ (by decide)).trans at19_58
theorem at20_49 : G20 49 = spAdd := (addG_ne _ _ (by decide)).trans at19_49
theorem at20_77 : G20 77 = spSub := addG_self _ _ _
theorem good20 : GoodG Try.prog ks G20 := good19.add (.inl ⟨by kernel_rfl, pure_spec mixed good19 noInl_sound c77_ok (subZ_run G19 noInl (at19_57) (at19_49))⟩)
noncomputable def G21 : Pure := addG G20 59 spDivMod
theorem at21_10 : G21 10 = spLight3 := (addG_ne _ _ (by decide)).trans at20_10
theorem at21_61 : G21 61 = spFromInt64 := (addG_ne _ _ (by decide)).trans at20_61
theorem at21_56 : G21 56 = spOne := (addG_ne _ _ (by decide)).trans at20_56
theorem at21_55 : G21 55 = spCanon := (addG_ne _ _ (by decide)).trans at20_55
theorem at21_57 : G21 57 = spNegate := (addG_ne _ _ (by decide)).trans at20_57
theorem at21_72 : G21 72 = spCompareDigits := (addG_ne _ _ (by decide)).trans at20_72
theorem at21_58 : G21 58 = spGCD := (addG_ne _ _ (by decide)).trans at20_58
theorem at21_59 : G21 59 = spDivMod := addG_self _ _ _
theorem good21 : GoodG Try.prog ks G21 := good20.add (.inl ⟨by kernel_rfl, pure_spec mixed good20 noInl_sound c59_ok (divmod_run G20 noInl (at20_55) (at20_76) (at20_70) (at20_61) (at20_77) (at20_49))⟩)
noncomputable def G22 : Pure := addG G21 28 spReduce
theorem at22_10 : G22 10 = spLight3 := (addG_ne _ _ (by decide)).trans at21_10
theorem at22_61 : G22 61 = spFromInt64 := (addG_ne _ _ (by decide)).trans at21_61
theorem at22_56 : G22 56 = spOne := (addG_ne _ _ (by decide)).trans at21_56
theorem at22_55 : G22 55 = spCanon := (addG_ne _ _ (by decide)).trans at21_55
theorem at22_72 : G22 72 = spCompareDigits := (addG_ne _ _ (by decide)).trans at21_72
theorem at22_28 : G22 28 = spReduce := addG_self _ _ _
theorem good22 : GoodG Try.prog ks G22 := good21.add (.inl ⟨by kernel_rfl, pure_spec mixed good21 noInl_sound c28_ok (reduce_run G21 noInl (at21_55) (at21_57) (at21_56) (at21_58) (at21_59))⟩)
noncomputable def G23 : Pure := addG G22 60 spFromInt
theorem at23_10 : G23 10 = spLight3 := (addG_ne _ _ (by decide)).trans at22_10
theorem at23_61 : G23 61 = spFromInt64 := (addG_ne _ _ (by decide)).trans at22_61
theorem at23_55 : G23 55 = spCanon := (addG_ne _ _ (by decide)).trans at22_55
theorem at23_72 : G23 72 = spCompareDigits := (addG_ne _ _ (by decide)).trans at22_72
theorem at23_28 : G23 28 = spReduce := (addG_ne _ _ (by decide)).trans at22_28
theorem at23_60 : G23 60 = spFromInt := addG_self _ _ _
theorem good23 : GoodG Try.prog ks G23 := good22.add (.inl ⟨by kernel_rfl, pure_spec mixed good22 noInl_sound c60_ok (fromInt_run G22 noInl (at22_56) (at22_28))⟩)
noncomputable def G24 : Pure := addG G23 39 spWhole
theorem at24_10 : G24 10 = spLight3 := (addG_ne _ _ (by decide)).trans at23_10
theorem at24_55 : G24 55 = spCanon := (addG_ne _ _ (by decide)).trans at23_55
theorem at24_72 : G24 72 = spCompareDigits := (addG_ne _ _ (by decide)).trans at23_72
theorem at24_28 : G24 28 = spReduce := (addG_ne _ _ (by decide)).trans at23_28
theorem at24_39 : G24 39 = spWhole := addG_self _ _ _
theorem good24 : GoodG Try.prog ks G24 := good23.add (.inl ⟨by kernel_rfl, pure_spec mixed good23 noInl_sound c39_ok (whole_run G23 noInl (at23_61) (at23_60))⟩)
noncomputable def G25 : Pure := addG G24 80 spMagnitude
theorem at25_10 : G25 10 = spLight3 := (addG_ne _ _ (by decide)).trans at24_10
theorem at25_55 : G25 55 = spCanon := (addG_ne _ _ (by decide)).trans at24_55
theorem at25_72 : G25 72 = spCompareDigits := (addG_ne _ _ (by decide)).trans at24_72
theorem at25_28 : G25 28 = spReduce := (addG_ne _ _ (by decide)).trans at24_28
theorem at25_39 : G25 39 = spWhole := (addG_ne _ _ (by decide)).trans at24_39
theorem at25_80 : G25 80 = spMagnitude := addG_self _ _ _
theorem good25 : GoodG Try.prog ks G25 := good24.add (.inl ⟨by kernel_rfl, pure_spec mixed good24 noInl_sound c80_ok (magnitude_run G24 noInl )⟩)
noncomputable def G26 : Pure := addG G25 63 spSign
theorem at26_10 : G26 10 = spLight3 := (addG_ne _ _ (by decide)).trans at25_10
theorem at26_55 : G26 55 = spCanon := (addG_ne _ _ (by decide)).trans at25_55
theorem at26_72 : G26 72 = spCompareDigits := (addG_ne _ _ (by decide)).trans at25_72
theorem at26_28 : G26 28 = spReduce := (addG_ne _ _ (by decide)).trans at25_28
theorem at26_39 : G26 39 = spWhole := (addG_ne _ _ (by decide)).trans at25_39
theorem at26_80 : G26 80 = spMagnitude := (addG_ne _ _ (by decide)).trans at25_80
theorem at26_63 : G26 63 = spSign := addG_self _ _ _
theorem good26 : GoodG Try.prog ks G26 := good25.add (.inl ⟨by kernel_rfl, pure_spec mixed good25 noInl_sound c63_ok (signP_run G25 noInl (at25_80))⟩)
noncomputable def G27 : Pure := addG G26 84 spMake
theorem at27_10 : G27 10 = spLight3 := (addG_ne _ _ (by decide)).trans at26_10
theorem at27_55 : G27 55 = spCanon := (addG_ne _ _ (by decide)).trans at26_55
theorem at27_72 : G27 72 = spCompareDigits := (addG_ne _ _ (by decide)).trans at26_72
theorem at27_28 : G27 28 = spReduce := (addG_ne _ _ (by decide)).trans at26_28
theorem at27_39 : G27 39 = spWhole := (addG_ne _ _ (by decide)).trans at26_39
theorem at27_80 : G27 80 = spMagnitude := (addG_ne _ _ (by decide)).trans at26_80
theorem at27_63 : G27 63 = spSign := (addG_ne _ _ (by decide)).trans at26_63
theorem at27_84 : G27 84 = spMake := addG_self _ _ _
theorem good27 : GoodG Try.prog ks G27 := good26.add (.inl ⟨by kernel_rfl, pure_spec mixed good26 noInl_sound c84_ok (canonical_run G26 noInl )⟩)
noncomputable def G28 : Pure := addG G27 69 spFromInt64
theorem at28_10 : G28 10 = spLight3 := (addG_ne _ _ (by decide)).trans at27_10
theorem at28_55 : G28 55 = spCanon := (addG_ne _ _ (by decide)).trans at27_55
theorem at28_72 : G28 72 = spCompareDigits := (addG_ne _ _ (by decide)).trans at27_72
theorem at28_28 : G28 28 = spReduce := (addG_ne _ _ (by decide)).trans at27_28
theorem at28_39 : G28 39 = spWhole := (addG_ne _ _ (by decide)).trans at27_39
theorem at28_80 : G28 80 = spMagnitude := (addG_ne _ _ (by decide)).trans at27_80
theorem at28_63 : G28 63 = spSign := (addG_ne _ _ (by decide)).trans at27_63
theorem at28_84 : G28 84 = spMake := (addG_ne _ _ (by decide)).trans at27_84
theorem at28_69 : G28 69 = spFromInt64 := addG_self _ _ _
theorem good28 : GoodG Try.prog ks G28 := good27.add (.inl ⟨by kernel_rfl, pure_spec mixed good27 noInl_sound c69_ok (fromInt64P_run G27 noInl (at27_84))⟩)
noncomputable def G29 : Pure := addG G28 78 spOne
theorem at29_10 : G29 10 = spLight3 := (addG_ne _ _ (by decide)).trans at28_10
theorem at29_55 : G29 55 = spCanon := (addG_ne _ _ (by decide)).trans at28_55
theorem at29_72 : G29 72 = spCompareDigits := (addG_ne _ _ (by decide)).trans at28_72
theorem at29_28 : G29 28 = spReduce := (addG_ne _ _ (by decide)).trans at28_28
theorem at29_39 : G29 39 = spWhole := (addG_ne _ _ (by decide)).trans at28_39
theorem at29_80 : G29 80 = spMagnitude := (addG_ne _ _ (by decide)).trans at28_80
theorem at29_63 : G29 63 = spSign := (addG_ne _ _ (by decide)).trans at28_63
theorem at29_84 : G29 84 = spMake := (addG_ne _ _ (by decide)).trans at28_84
theorem at29_69 : G29 69 = spFromInt64 := (addG_ne _ _ (by decide)).trans at28_69
theorem at29_78 : G29 78 = spOne := addG_self _ _ _
theorem good29 : GoodG Try.prog ks G29 := good28.add (.inl ⟨by kernel_rfl, pure_spec mixed good28 noInl_sound c78_ok (oneP_run G28 noInl (at28_69))⟩)
noncomputable def G30 : Pure := addG G29 91 spClone
theorem at30_10 : G30 10 = spLight3 := (addG_ne _ _ (by decide)).trans at29_10
theorem at30_55 : G30 55 = spCanon := (addG_ne _ _ (by decide)).trans at29_55
theorem at30_72 : G30 72 = spCompareDigits := (addG_ne _ _ (by decide)).trans at29_72
theorem at30_28 : G30 28 = spReduce := (addG_ne _ _ (by decide)).trans at29_28
theorem at30_39 : G30 39 = spWhole := (addG_ne _ _ (by decide)).trans at29_39
theorem at30_80 : G30 80 = spMagnitude := (addG_ne _ _ (by decide)).trans at29_80
theorem at30_63 : G30 63 = spSign := (addG_ne _ _ (by decide)).trans at29_63
theorem at30_84 : G30 84 = spMake := (addG_ne _ _ (by decide)).trans at29_84
theorem at30_69 : G30 69 = spFromInt64 := (addG_ne _ _ (by decide)).trans at29_69
theorem at30_78 : G30 78 = spOne := (addG_ne _ _ (by decide)).trans at29_78
theorem at30_91 : G30 91 = spClone := addG_self _ _ _
theorem good30 : GoodG Try.prog ks G30 := good29.add (.inl ⟨by kernel_rfl, fresh_spec mixed good29 noInl_sound c91_ok (clone_run G29 noInl )⟩)
noncomputable def G31 : Pure := addG G30 79 spNegate
theorem at31_10 : G31 10 = spLight3 := (addG_ne _ _ (by decide)).trans at30_10
theorem at31_55 : G31 55 = spCanon := (addG_ne _ _ (by decide)).trans at30_55
theorem at31_72 : G31 72 = spCompareDigits := (addG_ne _ _ (by decide)).trans at30_72
theorem at31_28 : G31 28 = spReduce := (addG_ne _ _ (by decide)).trans at30_28
theorem at31_39 : G31 39 = spWhole := (addG_ne _ _ (by decide)).trans at30_39
theorem at31_80 : G31 80 = spMagnitude := (addG_ne _ _ (by decide)).trans at30_80
theorem at31_63 : G31 63 = spSign := (addG_ne _ _ (by decide)).trans at30_63
theorem at31_84 : G31 84 = spMake := (addG_ne _ _ (by decide)).trans at30_84
theorem at31_69 : G31 69 = spFromInt64 := (addG_ne _ _ (by decide)).trans at30_69
theorem at31_78 : G31 78 = spOne := (addG_ne _ _ (by decide)).trans at30_78
theorem at31_91 : G31 91 = spClone := (addG_ne _ _ (by decide)).trans at30_91
theorem at31_79 : G31 79 = spNegate := addG_self _ _ _
theorem good31 : GoodG Try.prog ks G31 := good30.add (.inl ⟨by kernel_rfl, pure_spec mixed good30 noInl_sound c79_ok (negateP_run G30 noInl (at30_80) (at30_91) (at30_84))⟩)
noncomputable def G32 : Pure := addG G31 62 spParts
theorem at32_10 : G32 10 = spLight3 := (addG_ne _ _ (by decide)).trans at31_10
theorem at32_55 : G32 55 = spCanon := (addG_ne _ _ (by decide)).trans at31_55
theorem at32_72 : G32 72 = spCompareDigits := (addG_ne _ _ (by decide)).trans at31_72
theorem at32_28 : G32 28 = spReduce := (addG_ne _ _ (by decide)).trans at31_28
theorem at32_39 : G32 39 = spWhole := (addG_ne _ _ (by decide)).trans at31_39
theorem at32_80 : G32 80 = spMagnitude := (addG_ne _ _ (by decide)).trans at31_80
theorem at32_63 : G32 63 = spSign := (addG_ne _ _ (by decide)).trans at31_63
theorem at32_84 : G32 84 = spMake := (addG_ne _ _ (by decide)).trans at31_84
theorem at32_69 : G32 69 = spFromInt64 := (addG_ne _ _ (by decide)).trans at31_69
theorem at32_78 : G32 78 = spOne := (addG_ne _ _ (by decide)).trans at31_78
theorem at32_91 : G32 91 = spClone := (addG_ne _ _ (by decide)).trans at31_91
theorem at32_79 : G32 79 = spNegate := (addG_ne _ _ (by decide)).trans at31_79
theorem at32_62 : G32 62 = spParts := addG_self _ _ _
theorem good32 : GoodG Try.prog ks G32 := good31.add (.inl ⟨by kernel_rfl, pure_spec mixed good31 noInl_sound c62_ok (parts_run G31 noInl (at31_63) (at31_78) (at31_79))⟩)
noncomputable def G33 : Pure := addG G32 40 spSignFrac
theorem at33_10 : G33 10 = spLight3 := (addG_ne _ _ (by decide)).trans at32_10
theorem at33_55 : G33 55 = spCanon := (addG_ne _ _ (by decide)).trans at32_55
theorem at33_72 : G33 72 = spCompareDigits := (addG_ne _ _ (by decide)).trans at32_72
theorem at33_28 : G33 28 = spReduce := (addG_ne _ _ (by decide)).trans at32_28
theorem at33_39 : G33 39 = spWhole := (addG_ne _ _ (by decide)).trans at32_39
theorem at33_80 : G33 80 = spMagnitude := (addG_ne _ _ (by decide)).trans at32_80
theorem at33_63 : G33 63 = spSign := (addG_ne _ _ (by decide)).trans at32_63
theorem at33_84 : G33 84 = spMake := (addG_ne _ _ (by decide)).trans at32_84
theorem at33_69 : G33 69 = spFromInt64 := (addG_ne _ _ (by decide)).trans at32_69
theorem at33_78 : G33 78 = spOne := (addG_ne _ _ (by decide)).trans at32_78
theorem at33_91 : G33 91 = spClone := (addG_ne _ _ (by decide)).trans at32_91
theorem at33_79 : G33 79 = spNegate := (addG_ne _ _ (by decide)).trans at32_79
theorem at33_62 : G33 62 = spParts := (addG_ne _ _ (by decide)).trans at32_62
theorem at33_40 : G33 40 = spSignFrac := addG_self _ _ _
theorem good33 : GoodG Try.prog ks G33 := good32.add (.inl ⟨by kernel_rfl, pure_spec mixed good32 noInl_sound c40_ok (signQ_run G32 noInl (at32_62) (at32_63))⟩)
noncomputable def G34 : Pure := addG G33 12 spValidate
theorem at34_10 : G34 10 = spLight3 := (addG_ne _ _ (by decide)).trans at33_10
theorem at34_55 : G34 55 = spCanon := (addG_ne _ _ (by decide)).trans at33_55
theorem at34_72 : G34 72 = spCompareDigits := (addG_ne _ _ (by decide)).trans at33_72
theorem at34_28 : G34 28 = spReduce := (addG_ne _ _ (by decide)).trans at33_28
theorem at34_39 : G34 39 = spWhole := (addG_ne _ _ (by decide)).trans at33_39
theorem at34_80 : G34 80 = spMagnitude := (addG_ne _ _ (by decide)).trans at33_80
theorem at34_63 : G34 63 = spSign := (addG_ne _ _ (by decide)).trans at33_63
theorem at34_84 : G34 84 = spMake := (addG_ne _ _ (by decide)).trans at33_84
theorem at34_69 : G34 69 = spFromInt64 := (addG_ne _ _ (by decide)).trans at33_69
theorem at34_78 : G34 78 = spOne := (addG_ne _ _ (by decide)).trans at33_78
theorem at34_91 : G34 91 = spClone := (addG_ne _ _ (by decide)).trans at33_91
theorem at34_79 : G34 79 = spNegate := (addG_ne _ _ (by decide)).trans at33_79
theorem at34_62 : G34 62 = spParts := (addG_ne _ _ (by decide)).trans at33_62
theorem at34_12 : G34 12 = spValidate := addG_self _ _ _
theorem good34 : GoodG Try.prog ks G34 := good33.add (.inl ⟨by kernel_rfl, pure_spec mixed good33 noInl_sound c12_ok (validateP_run G33 noInl (at33_40))⟩)
noncomputable def G35 : Pure := addG G34 43 spBoth
theorem at35_10 : G35 10 = spLight3 := (addG_ne _ _ (by decide)).trans at34_10
theorem at35_55 : G35 55 = spCanon := (addG_ne _ _ (by decide)).trans at34_55
theorem at35_72 : G35 72 = spCompareDigits := (addG_ne _ _ (by decide)).trans at34_72
theorem at35_28 : G35 28 = spReduce := (addG_ne _ _ (by decide)).trans at34_28
theorem at35_39 : G35 39 = spWhole := (addG_ne _ _ (by decide)).trans at34_39
theorem at35_80 : G35 80 = spMagnitude := (addG_ne _ _ (by decide)).trans at34_80
theorem at35_63 : G35 63 = spSign := (addG_ne _ _ (by decide)).trans at34_63
theorem at35_84 : G35 84 = spMake := (addG_ne _ _ (by decide)).trans at34_84
theorem at35_69 : G35 69 = spFromInt64 := (addG_ne _ _ (by decide)).trans at34_69
theorem at35_78 : G35 78 = spOne := (addG_ne _ _ (by decide)).trans at34_78
theorem at35_91 : G35 91 = spClone := (addG_ne _ _ (by decide)).trans at34_91
theorem at35_79 : G35 79 = spNegate := (addG_ne _ _ (by decide)).trans at34_79
theorem at35_62 : G35 62 = spParts := (addG_ne _ _ (by decide)).trans at34_62
theorem at35_12 : G35 12 = spValidate := (addG_ne _ _ (by decide)).trans at34_12
theorem at35_43 : G35 43 = spBoth := addG_self _ _ _
theorem good35 : GoodG Try.prog ks G35 := good34.add (.inl ⟨by kernel_rfl, pure_spec mixed good34 noInl_sound c43_ok (both_run G34 noInl (at34_12))⟩)
noncomputable def G36 : Pure := addG G35 95 spCompareP
theorem at36_10 : G36 10 = spLight3 := (addG_ne _ _ (by decide)).trans at35_10
theorem at36_55 : G36 55 = spCanon := (addG_ne _ _ (by decide)).trans at35_55
theorem at36_72 : G36 72 = spCompareDigits := (addG_ne _ _ (by decide)).trans at35_72
theorem at36_28 : G36 28 = spReduce := (addG_ne _ _ (by decide)).trans at35_28
theorem at36_39 : G36 39 = spWhole := (addG_ne _ _ (by decide)).trans at35_39
theorem at36_80 : G36 80 = spMagnitude := (addG_ne _ _ (by decide)).trans at35_80
theorem at36_63 : G36 63 = spSign := (addG_ne _ _ (by decide)).trans at35_63
theorem at36_84 : G36 84 = spMake := (addG_ne _ _ (by decide)).trans at35_84
theorem at36_69 : G36 69 = spFromInt64 := (addG_ne _ _ (by decide)).trans at35_69
theorem at36_78 : G36 78 = spOne := (addG_ne _ _ (by decide)).trans at35_78
theorem at36_91 : G36 91 = spClone := (addG_ne _ _ (by decide)).trans at35_91
theorem at36_79 : G36 79 = spNegate := (addG_ne _ _ (by decide)).trans at35_79
theorem at36_62 : G36 62 = spParts := (addG_ne _ _ (by decide)).trans at35_62
theorem at36_12 : G36 12 = spValidate := (addG_ne _ _ (by decide)).trans at35_12
theorem at36_43 : G36 43 = spBoth := (addG_ne _ _ (by decide)).trans at35_43
theorem at36_95 : G36 95 = spCompareP := addG_self _ _ _
theorem good36 : GoodG Try.prog ks G36 := good35.add (.inl ⟨by kernel_rfl, pure_spec mixed good35 noInl_sound c95_ok (compareP_run G35 noInl )⟩)
noncomputable def G37 : Pure := addG G36 97 spShrunk
theorem at37_10 : G37 10 = spLight3 := (addG_ne _ _ (by decide)).trans at36_10
theorem at37_55 : G37 55 = spCanon := (addG_ne _ _ (by decide)).trans at36_55
theorem at37_72 : G37 72 = spCompareDigits := (addG_ne _ _ (by decide)).trans at36_72
theorem at37_28 : G37 28 = spReduce := (addG_ne _ _ (by decide)).trans at36_28
theorem at37_39 : G37 39 = spWhole := (addG_ne _ _ (by decide)).trans at36_39
theorem at37_80 : G37 80 = spMagnitude := (addG_ne _ _ (by decide)).trans at36_80
theorem at37_63 : G37 63 = spSign := (addG_ne _ _ (by decide)).trans at36_63
theorem at37_84 : G37 84 = spMake := (addG_ne _ _ (by decide)).trans at36_84
theorem at37_69 : G37 69 = spFromInt64 := (addG_ne _ _ (by decide)).trans at36_69
theorem at37_78 : G37 78 = spOne := (addG_ne _ _ (by decide)).trans at36_78
theorem at37_91 : G37 91 = spClone := (addG_ne _ _ (by decide)).trans at36_91
theorem at37_79 : G37 79 = spNegate := (addG_ne _ _ (by decide)).trans at36_79
theorem at37_62 : G37 62 = spParts := (addG_ne _ _ (by decide)).trans at36_62
theorem at37_12 : G37 12 = spValidate := (addG_ne _ _ (by decide)).trans at36_12
theorem at37_43 : G37 43 = spBoth := (addG_ne _ _ (by decide)).trans at36_43
theorem at37_95 : G37 95 = spCompareP := (addG_ne _ _ (by decide)).trans at36_95
theorem at37_97 : G37 97 = spShrunk := addG_self _ _ _
theorem good37 : GoodG Try.prog ks G37 := good36.add (.inr ⟨by kernel_rfl, 0, 88, by kernel_rfl, updF_meets mixed good36 noInl_sound c97_ok spShrunk (shrunk_run G36 noInl )⟩)
noncomputable def G38 : Pure := addG G37 105 spLen32
theorem at38_10 : G38 10 = spLight3 := (addG_ne _ _ (by decide)).trans at37_10
theorem at38_55 : G38 55 = spCanon := (addG_ne _ _ (by decide)).trans at37_55
theorem at38_72 : G38 72 = spCompareDigits := (addG_ne _ _ (by decide)).trans at37_72
theorem at38_28 : G38 28 = spReduce := (addG_ne _ _ (by decide)).trans at37_28
theorem at38_39 : G38 39 = spWhole := (addG_ne _ _ (by decide)).trans at37_39
theorem at38_80 : G38 80 = spMagnitude := (addG_ne _ _ (by decide)).trans at37_80
theorem at38_63 : G38 63 = spSign := (addG_ne _ _ (by decide)).trans at37_63
theorem at38_84 : G38 84 = spMake := (addG_ne _ _ (by decide)).trans at37_84
theorem at38_69 : G38 69 = spFromInt64 := (addG_ne _ _ (by decide)).trans at37_69
theorem at38_78 : G38 78 = spOne := (addG_ne _ _ (by decide)).trans at37_78
theorem at38_91 : G38 91 = spClone := (addG_ne _ _ (by decide)).trans at37_91
theorem at38_79 : G38 79 = spNegate := (addG_ne _ _ (by decide)).trans at37_79
theorem at38_62 : G38 62 = spParts := (addG_ne _ _ (by decide)).trans at37_62
theorem at38_12 : G38 12 = spValidate := (addG_ne _ _ (by decide)).trans at37_12
theorem at38_43 : G38 43 = spBoth := (addG_ne _ _ (by decide)).trans at37_43
theorem at38_95 : G38 95 = spCompareP := (addG_ne _ _ (by decide)).trans at37_95
theorem at38_97 : G38 97 = spShrunk := (addG_ne _ _ (by decide)).trans at37_97
theorem at38_105 : G38 105 = spLen32 := addG_self _ _ _
theorem good38 : GoodG Try.prog ks G38 := good37.add (.inl ⟨by kernel_rfl, len32_meets⟩)
noncomputable def G39 : Pure := addG G38 98 spLZ
theorem at39_10 : G39 10 = spLight3 := (addG_ne _ _ (by decide)).trans at38_10
theorem at39_55 : G39 55 = spCanon := (addG_ne _ _ (by decide)).trans at38_55
theorem at39_72 : G39 72 = spCompareDigits := (addG_ne _ _ (by decide)).trans at38_72
theorem at39_28 : G39 28 = spReduce := (addG_ne _ _ (by decide)).trans at38_28
theorem at39_39 : G39 39 = spWhole := (addG_ne _ _ (by decide)).trans at38_39
theorem at39_80 : G39 80 = spMagnitude := (addG_ne _ _ (by decide)).trans at38_80
theorem at39_63 : G39 63 = spSign := (addG_ne _ _ (by decide)).trans at38_63
theorem at39_84 : G39 84 = spMake := (addG_ne _ _ (by decide)).trans at38_84
theorem at39_69 : G39 69 = spFromInt64 := (addG_ne _ _ (by decide)).trans at38_69
theorem at39_78 : G39 78 = spOne := (addG_ne _ _ (by decide)).trans at38_78
theorem at39_91 : G39 91 = spClone := (addG_ne _ _ (by decide)).trans at38_91
theorem at39_79 : G39 79 = spNegate := (addG_ne _ _ (by decide)).trans at38_79
theorem at39_62 : G39 62 = spParts := (addG_ne _ _ (by decide)).trans at38_62
theorem at39_12 : G39 12 = spValidate := (addG_ne _ _ (by decide)).trans at38_12
theorem at39_43 : G39 43 = spBoth := (addG_ne _ _ (by decide)).trans at38_43
theorem at39_95 : G39 95 = spCompareP := (addG_ne _ _ (by decide)).trans at38_95
theorem at39_97 : G39 97 = spShrunk := (addG_ne _ _ (by decide)).trans at38_97
theorem at39_98 : G39 98 = spLZ := addG_self _ _ _
theorem good39 : GoodG Try.prog ks G39 := good38.add (.inl ⟨by kernel_rfl, pure_spec mixed good38 noInl_sound c98_ok (lz_run G38 noInl (at38_105))⟩)
noncomputable def G40 : Pure := addG G39 99 spShifted
theorem at40_10 : G40 10 = spLight3 := (addG_ne _ _ (by decide)).trans at39_10
theorem at40_55 : G40 55 = spCanon := (addG_ne _ _ (by decide)).trans at39_55
theorem at40_72 : G40 72 = spCompareDigits := (addG_ne _ _ (by decide)).trans at39_72
theorem at40_28 : G40 28 = spReduce := (addG_ne _ _ (by decide)).trans at39_28
theorem at40_39 : G40 39 = spWhole := (addG_ne _ _ (by decide)).trans at39_39
theorem at40_80 : G40 80 = spMagnitude := (addG_ne _ _ (by decide)).trans at39_80
theorem at40_63 : G40 63 = spSign := (addG_ne _ _ (by decide)).trans at39_63
theorem at40_84 : G40 84 = spMake := (addG_ne _ _ (by decide)).trans at39_84
theorem at40_69 : G40 69 = spFromInt64 := (addG_ne _ _ (by decide)).trans at39_69
theorem at40_78 : G40 78 = spOne := (addG_ne _ _ (by decide)).trans at39_78
theorem at40_91 : G40 91 = spClone := (addG_ne _ _ (by decide)).trans at39_91
theorem at40_79 : G40 79 = spNegate := (addG_ne _ _ (by decide)).trans at39_79
theorem at40_62 : G40 62 = spParts := (addG_ne _ _ (by decide)).trans at39_62
theorem at40_12 : G40 12 = spValidate := (addG_ne _ _ (by decide)).trans at39_12
theorem at40_43 : G40 43 = spBoth := (addG_ne _ _ (by decide)).trans at39_43
theorem at40_95 : G40 95 = spCompareP := (addG_ne _ _ (by decide)).trans at39_95
theorem at40_97 : G40 97 = spShrunk := (addG_ne _ _ (by decide)).trans at39_97
theorem at40_98 : G40 98 = spLZ := (addG_ne _ _ (by decide)).trans at39_98
theorem at40_99 : G40 99 = spShifted := addG_self _ _ _
theorem good40 : GoodG Try.prog ks G40 := good39.add (.inl ⟨by kernel_rfl, fresh_spec mixed good39 noInl_sound c99_ok (shifted_run G39 noInl )⟩)
noncomputable def G41 : Pure := addG G40 101 spDigitP
theorem at41_10 : G41 10 = spLight3 := (addG_ne _ _ (by decide)).trans at40_10
theorem at41_55 : G41 55 = spCanon := (addG_ne _ _ (by decide)).trans at40_55
theorem at41_72 : G41 72 = spCompareDigits := (addG_ne _ _ (by decide)).trans at40_72
theorem at41_28 : G41 28 = spReduce := (addG_ne _ _ (by decide)).trans at40_28
theorem at41_39 : G41 39 = spWhole := (addG_ne _ _ (by decide)).trans at40_39
theorem at41_80 : G41 80 = spMagnitude := (addG_ne _ _ (by decide)).trans at40_80
theorem at41_63 : G41 63 = spSign := (addG_ne _ _ (by decide)).trans at40_63
theorem at41_84 : G41 84 = spMake := (addG_ne _ _ (by decide)).trans at40_84
theorem at41_69 : G41 69 = spFromInt64 := (addG_ne _ _ (by decide)).trans at40_69
theorem at41_78 : G41 78 = spOne := (addG_ne _ _ (by decide)).trans at40_78
theorem at41_91 : G41 91 = spClone := (addG_ne _ _ (by decide)).trans at40_91
theorem at41_79 : G41 79 = spNegate := (addG_ne _ _ (by decide)).trans at40_79
theorem at41_62 : G41 62 = spParts := (addG_ne _ _ (by decide)).trans at40_62
theorem at41_12 : G41 12 = spValidate := (addG_ne _ _ (by decide)).trans at40_12
theorem at41_43 : G41 43 = spBoth := (addG_ne _ _ (by decide)).trans at40_43
theorem at41_95 : G41 95 = spCompareP := (addG_ne _ _ (by decide)).trans at40_95
theorem at41_97 : G41 97 = spShrunk := (addG_ne _ _ (by decide)).trans at40_97
theorem at41_98 : G41 98 = spLZ := (addG_ne _ _ (by decide)).trans at40_98
theorem at41_99 : G41 99 = spShifted := (addG_ne _ _ (by decide)).trans at40_99
theorem at41_101 : G41 101 = spDigitP := addG_self _ _ _
theorem good41 : GoodG Try.prog ks G41 := good40.add (.inl ⟨by kernel_rfl, pure_spec mixed good40 noInl_sound c101_ok (digitP_run G40 noInl )⟩)
noncomputable def G42 : Pure := addG G41 104 spSub32
theorem at42_10 : G42 10 = spLight3 := (addG_ne _ _ (by decide)).trans at41_10
theorem at42_55 : G42 55 = spCanon := (addG_ne _ _ (by decide)).trans at41_55
theorem at42_72 : G42 72 = spCompareDigits := (addG_ne _ _ (by decide)).trans at41_72
theorem at42_28 : G42 28 = spReduce := (addG_ne _ _ (by decide)).trans at41_28
theorem at42_39 : G42 39 = spWhole := (addG_ne _ _ (by decide)).trans at41_39
theorem at42_80 : G42 80 = spMagnitude := (addG_ne _ _ (by decide)).trans at41_80
theorem at42_63 : G42 63 = spSign := (addG_ne _ _ (by decide)).trans at41_63
theorem at42_84 : G42 84 = spMake := (addG_ne _ _ (by decide)).trans at41_84
theorem at42_69 : G42 69 = spFromInt64 := (addG_ne _ _ (by decide)).trans at41_69
theorem at42_78 : G42 78 = spOne := (addG_ne _ _ (by decide)).trans at41_78
theorem at42_91 : G42 91 = spClone := (addG_ne _ _ (by decide)).trans at41_91
theorem at42_79 : G42 79 = spNegate := (addG_ne _ _ (by decide)).trans at41_79
theorem at42_62 : G42 62 = spParts := (addG_ne _ _ (by decide)).trans at41_62
theorem at42_12 : G42 12 = spValidate := (addG_ne _ _ (by decide)).trans at41_12
theorem at42_43 : G42 43 = spBoth := (addG_ne _ _ (by decide)).trans at41_43
theorem at42_95 : G42 95 = spCompareP := (addG_ne _ _ (by decide)).trans at41_95
theorem at42_97 : G42 97 = spShrunk := (addG_ne _ _ (by decide)).trans at41_97
theorem at42_98 : G42 98 = spLZ := (addG_ne _ _ (by decide)).trans at41_98
theorem at42_99 : G42 99 = spShifted := (addG_ne _ _ (by decide)).trans at41_99
theorem at42_101 : G42 101 = spDigitP := (addG_ne _ _ (by decide)).trans at41_101
theorem at42_104 : G42 104 = spSub32 := addG_self _ _ _
theorem good42 : GoodG Try.prog ks G42 := good41.add (.inl ⟨by kernel_rfl, pure_spec mixed good41 noInl_sound c104_ok (sub32_run G41 noInl )⟩)
noncomputable def G43 : Pure := addG G42 103 spAdd32
theorem at43_10 : G43 10 = spLight3 := (addG_ne _ _ (by decide)).trans at42_10
theorem at43_55 : G43 55 = spCanon := (addG_ne _ _ (by decide)).trans at42_55
theorem at43_72 : G43 72 = spCompareDigits := (addG_ne _ _ (by decide)).trans at42_72
theorem at43_28 : G43 28 = spReduce := (addG_ne _ _ (by decide)).trans at42_28
theorem at43_39 : G43 39 = spWhole := (addG_ne _ _ (by decide)).trans at42_39
theorem at43_80 : G43 80 = spMagnitude := (addG_ne _ _ (by decide)).trans at42_80
theorem at43_63 : G43 63 = spSign := (addG_ne _ _ (by decide)).trans at42_63
theorem at43_84 : G43 84 = spMake := (addG_ne _ _ (by decide)).trans at42_84
theorem at43_69 : G43 69 = spFromInt64 := (addG_ne _ _ (by decide)).trans at42_69
theorem at43_78 : G43 78 = spOne := (addG_ne _ _ (by decide)).trans at42_78
theorem at43_91 : G43 91 = spClone := (addG_ne _ _ (by decide)).trans at42_91
theorem at43_79 : G43 79 = spNegate := (addG_ne _ _ (by decide)).trans at42_79
theorem at43_62 : G43 62 = spParts := (addG_ne _ _ (by decide)).trans at42_62
theorem at43_12 : G43 12 = spValidate := (addG_ne _ _ (by decide)).trans at42_12
theorem at43_43 : G43 43 = spBoth := (addG_ne _ _ (by decide)).trans at42_43
theorem at43_95 : G43 95 = spCompareP := (addG_ne _ _ (by decide)).trans at42_95
theorem at43_97 : G43 97 = spShrunk := (addG_ne _ _ (by decide)).trans at42_97
theorem at43_98 : G43 98 = spLZ := (addG_ne _ _ (by decide)).trans at42_98
theorem at43_99 : G43 99 = spShifted := (addG_ne _ _ (by decide)).trans at42_99
theorem at43_101 : G43 101 = spDigitP := (addG_ne _ _ (by decide)).trans at42_101
theorem at43_104 : G43 104 = spSub32 := (addG_ne _ _ (by decide)).trans at42_104
theorem at43_103 : G43 103 = spAdd32 := addG_self _ _ _
theorem good43 : GoodG Try.prog ks G43 := good42.add (.inl ⟨by kernel_rfl, pure_spec mixed good42 noInl_sound c103_ok (add32_run G42 noInl )⟩)
noncomputable def G44 : Pure := addG G43 100 spReduceP
theorem at44_10 : G44 10 = spLight3 := (addG_ne _ _ (by decide)).trans at43_10
theorem at44_55 : G44 55 = spCanon := (addG_ne _ _ (by decide)).trans at43_55
theorem at44_72 : G44 72 = spCompareDigits := (addG_ne _ _ (by decide)).trans at43_72
theorem at44_28 : G44 28 = spReduce := (addG_ne _ _ (by decide)).trans at43_28
theorem at44_39 : G44 39 = spWhole := (addG_ne _ _ (by decide)).trans at43_39
theorem at44_80 : G44 80 = spMagnitude := (addG_ne _ _ (by decide)).trans at43_80
theorem at44_63 : G44 63 = spSign := (addG_ne _ _ (by decide)).trans at43_63
theorem at44_84 : G44 84 = spMake := (addG_ne _ _ (by decide)).trans at43_84
theorem at44_69 : G44 69 = spFromInt64 := (addG_ne _ _ (by decide)).trans at43_69
theorem at44_78 : G44 78 = spOne := (addG_ne _ _ (by decide)).trans at43_78
theorem at44_91 : G44 91 = spClone := (addG_ne _ _ (by decide)).trans at43_91
theorem at44_79 : G44 79 = spNegate := (addG_ne _ _ (by decide)).trans at43_79
theorem at44_62 : G44 62 = spParts := (addG_ne _ _ (by decide)).trans at43_62
theorem at44_12 : G44 12 = spValidate := (addG_ne _ _ (by decide)).trans at43_12
theorem at44_43 : G44 43 = spBoth := (addG_ne _ _ (by decide)).trans at43_43
theorem at44_95 : G44 95 = spCompareP := (addG_ne _ _ (by decide)).trans at43_95
theorem at44_97 : G44 97 = spShrunk := (addG_ne _ _ (by decide)).trans at43_97
theorem at44_98 : G44 98 = spLZ := (addG_ne _ _ (by decide)).trans at43_98
theorem at44_99 : G44 99 = spShifted := (addG_ne _ _ (by decide)).trans at43_99
theorem at44_101 : G44 101 = spDigitP := (addG_ne _ _ (by decide)).trans at43_101
theorem at44_104 : G44 104 = spSub32 := (addG_ne _ _ (by decide)).trans at43_104
theorem at44_103 : G44 103 = spAdd32 := (addG_ne _ _ (by decide)).trans at43_103
theorem at44_100 : G44 100 = spReduceP := addG_self _ _ _
theorem good44 : GoodG Try.prog ks G44 := good43.add (.inr ⟨by kernel_rfl, 0, 88, by kernel_rfl, updF_meets mixed good43 noInl_sound c100_ok spReduceP (reduceP_run G43 noInl (at43_104) (at43_103))⟩)
noncomputable def G45 : Pure := addG G44 102 spUnshifted
theorem at45_10 : G45 10 = spLight3 := (addG_ne _ _ (by decide)).trans at44_10
theorem at45_55 : G45 55 = spCanon := (addG_ne _ _ (by decide)).trans at44_55
theorem at45_72 : G45 72 = spCompareDigits := (addG_ne _ _ (by decide)).trans at44_72
theorem at45_28 : G45 28 = spReduce := (addG_ne _ _ (by decide)).trans at44_28
theorem at45_39 : G45 39 = spWhole := (addG_ne _ _ (by decide)).trans at44_39
theorem at45_80 : G45 80 = spMagnitude := (addG_ne _ _ (by decide)).trans at44_80
theorem at45_63 : G45 63 = spSign := (addG_ne _ _ (by decide)).trans at44_63
theorem at45_84 : G45 84 = spMake := (addG_ne _ _ (by decide)).trans at44_84
theorem at45_69 : G45 69 = spFromInt64 := (addG_ne _ _ (by decide)).trans at44_69
theorem at45_78 : G45 78 = spOne := (addG_ne _ _ (by decide)).trans at44_78
theorem at45_91 : G45 91 = spClone := (addG_ne _ _ (by decide)).trans at44_91
theorem at45_79 : G45 79 = spNegate := (addG_ne _ _ (by decide)).trans at44_79
theorem at45_62 : G45 62 = spParts := (addG_ne _ _ (by decide)).trans at44_62
theorem at45_12 : G45 12 = spValidate := (addG_ne _ _ (by decide)).trans at44_12
theorem at45_43 : G45 43 = spBoth := (addG_ne _ _ (by decide)).trans at44_43
theorem at45_95 : G45 95 = spCompareP := (addG_ne _ _ (by decide)).trans at44_95
theorem at45_97 : G45 97 = spShrunk := (addG_ne _ _ (by decide)).trans at44_97
theorem at45_98 : G45 98 = spLZ := (addG_ne _ _ (by decide)).trans at44_98
theorem at45_99 : G45 99 = spShifted := (addG_ne _ _ (by decide)).trans at44_99
theorem at45_101 : G45 101 = spDigitP := (addG_ne _ _ (by decide)).trans at44_101
theorem at45_104 : G45 104 = spSub32 := (addG_ne _ _ (by decide)).trans at44_104
theorem at45_103 : G45 103 = spAdd32 := (addG_ne _ _ (by decide)).trans at44_103
theorem at45_100 : G45 100 = spReduceP := (addG_ne _ _ (by decide)).trans at44_100
theorem at45_102 : G45 102 = spUnshifted := addG_self _ _ _
theorem good45 : GoodG Try.prog ks G45 := good44.add (.inr ⟨by kernel_rfl, 0, 88, by kernel_rfl, updF_meets mixed good44 noInl_sound c102_ok spUnshifted (unshifted_run G44 noInl )⟩)
noncomputable def G46 : Pure := addG G45 92 spDivide
theorem at46_10 : G46 10 = spLight3 := (addG_ne _ _ (by decide)).trans at45_10
theorem at46_55 : G46 55 = spCanon := (addG_ne _ _ (by decide)).trans at45_55
theorem at46_72 : G46 72 = spCompareDigits := (addG_ne _ _ (by decide)).trans at45_72
theorem at46_28 : G46 28 = spReduce := (addG_ne _ _ (by decide)).trans at45_28
theorem at46_39 : G46 39 = spWhole := (addG_ne _ _ (by decide)).trans at45_39
theorem at46_80 : G46 80 = spMagnitude := (addG_ne _ _ (by decide)).trans at45_80
theorem at46_63 : G46 63 = spSign := (addG_ne _ _ (by decide)).trans at45_63
theorem at46_84 : G46 84 = spMake := (addG_ne _ _ (by decide)).trans at45_84
theorem at46_69 : G46 69 = spFromInt64 := (addG_ne _ _ (by decide)).trans at45_69
theorem at46_78 : G46 78 = spOne := (addG_ne _ _ (by decide)).trans at45_78
theorem at46_91 : G46 91 = spClone := (addG_ne _ _ (by decide)).trans at45_91
theorem at46_79 : G46 79 = spNegate := (addG_ne _ _ (by decide)).trans at45_79
theorem at46_62 : G46 62 = spParts := (addG_ne _ _ (by decide)).trans at45_62
theorem at46_12 : G46 12 = spValidate := (addG_ne _ _ (by decide)).trans at45_12
theorem at46_43 : G46 43 = spBoth := (addG_ne _ _ (by decide)).trans at45_43
theorem at46_95 : G46 95 = spCompareP := (addG_ne _ _ (by decide)).trans at45_95
theorem at46_104 : G46 104 = spSub32 := (addG_ne _ _ (by decide)).trans at45_104
theorem at46_103 : G46 103 = spAdd32 := (addG_ne _ _ (by decide)).trans at45_103
theorem at46_92 : G46 92 = spDivide := addG_self _ _ _
theorem good46 : GoodG Try.prog ks G46 := good45.add (.inl ⟨by kernel_rfl, pure_spec mixed good45 noInl_sound c92_ok (divide_run G45 noInl (at45_95) (at45_91) (at45_97) (at45_98) (at45_99) (at45_101) (at45_100) (at45_102))⟩)
noncomputable def G47 : Pure := addG G46 82 spGCDS
theorem at47_10 : G47 10 = spLight3 := (addG_ne _ _ (by decide)).trans at46_10
theorem at47_55 : G47 55 = spCanon := (addG_ne _ _ (by decide)).trans at46_55
theorem at47_72 : G47 72 = spCompareDigits := (addG_ne _ _ (by decide)).trans at46_72
theorem at47_28 : G47 28 = spReduce := (addG_ne _ _ (by decide)).trans at46_28
theorem at47_39 : G47 39 = spWhole := (addG_ne _ _ (by decide)).trans at46_39
theorem at47_80 : G47 80 = spMagnitude := (addG_ne _ _ (by decide)).trans at46_80
theorem at47_63 : G47 63 = spSign := (addG_ne _ _ (by decide)).trans at46_63
theorem at47_84 : G47 84 = spMake := (addG_ne _ _ (by decide)).trans at46_84
theorem at47_69 : G47 69 = spFromInt64 := (addG_ne _ _ (by decide)).trans at46_69
theorem at47_78 : G47 78 = spOne := (addG_ne _ _ (by decide)).trans at46_78
theorem at47_79 : G47 79 = spNegate := (addG_ne _ _ (by decide)).trans at46_79
theorem at47_62 : G47 62 = spParts := (addG_ne _ _ (by decide)).trans at46_62
theorem at47_12 : G47 12 = spValidate := (addG_ne _ _ (by decide)).trans at46_12
theorem at47_43 : G47 43 = spBoth := (addG_ne _ _ (by decide)).trans at46_43
theorem at47_95 : G47 95 = spCompareP := (addG_ne _ _ (by decide)).trans at46_95
theorem at47_104 : G47 104 = spSub32 := (addG_ne _ _ (by decide)).trans at46_104
theorem at47_103 : G47 103 = spAdd32 := (addG_ne _ _ (by decide)).trans at46_103
theorem at47_92 : G47 92 = spDivide := (addG_ne _ _ (by decide)).trans at46_92
theorem at47_82 : G47 82 = spGCDS := addG_self _ _ _
theorem good47 : GoodG Try.prog ks G47 := good46.add (.inl ⟨by kernel_rfl, pure_spec mixed good46 noInl_sound c82_ok (gcdP_run G46 noInl (at46_80) (at46_91) (at46_92) (at46_84))⟩)
noncomputable def G48 : Pure := addG G47 94 spPlus
theorem at48_10 : G48 10 = spLight3 := (addG_ne _ _ (by decide)).trans at47_10
theorem at48_55 : G48 55 = spCanon := (addG_ne _ _ (by decide)).trans at47_55
theorem at48_72 : G48 72 = spCompareDigits := (addG_ne _ _ (by decide)).trans at47_72
theorem at48_28 : G48 28 = spReduce := (addG_ne _ _ (by decide)).trans at47_28
theorem at48_39 : G48 39 = spWhole := (addG_ne _ _ (by decide)).trans at47_39
theorem at48_80 : G48 80 = spMagnitude := (addG_ne _ _ (by decide)).trans at47_80
theorem at48_63 : G48 63 = spSign := (addG_ne _ _ (by decide)).trans at47_63
theorem at48_84 : G48 84 = spMake := (addG_ne _ _ (by decide)).trans at47_84
theorem at48_69 : G48 69 = spFromInt64 := (addG_ne _ _ (by decide)).trans at47_69
theorem at48_78 : G48 78 = spOne := (addG_ne _ _ (by decide)).trans at47_78
theorem at48_79 : G48 79 = spNegate := (addG_ne _ _ (by decide)).trans at47_79
theorem at48_62 : G48 62 = spParts := (addG_ne _ _ (by decide)).trans at47_62
theorem at48_12 : G48 12 = spValidate := (addG_ne _ _ (by decide)).trans at47_12
theorem at48_43 : G48 43 = spBoth := (addG_ne _ _ (by decide)).trans at47_43
theorem at48_95 : G48 95 = spCompareP := (addG_ne _ _ (by decide)).trans at47_95
theorem at48_104 : G48 104 = spSub32 := (addG_ne _ _ (by decide)).trans at47_104
theorem at48_92 : G48 92 = spDivide := (addG_ne _ _ (by decide)).trans at47_92
theorem at48_82 : G48 82 = spGCDS := (addG_ne _ _ (by decide)).trans at47_82
theorem at48_94 : G48 94 = spPlus := addG_self _ _ _
theorem good48 : GoodG Try.prog ks G48 := good47.add (.inl ⟨by kernel_rfl, pure_spec mixed good47 noInl_sound c94_ok (plus_run G47 noInl (at47_103))⟩)
noncomputable def G49 : Pure := addG G48 96 spMinus
theorem at49_10 : G49 10 = spLight3 := (addG_ne _ _ (by decide)).trans at48_10
theorem at49_55 : G49 55 = spCanon := (addG_ne _ _ (by decide)).trans at48_55
theorem at49_72 : G49 72 = spCompareDigits := (addG_ne _ _ (by decide)).trans at48_72
theorem at49_28 : G49 28 = spReduce := (addG_ne _ _ (by decide)).trans at48_28
theorem at49_39 : G49 39 = spWhole := (addG_ne _ _ (by decide)).trans at48_39
theorem at49_80 : G49 80 = spMagnitude := (addG_ne _ _ (by decide)).trans at48_80
theorem at49_63 : G49 63 = spSign := (addG_ne _ _ (by decide)).trans at48_63
theorem at49_84 : G49 84 = spMake := (addG_ne _ _ (by decide)).trans at48_84
theorem at49_69 : G49 69 = spFromInt64 := (addG_ne _ _ (by decide)).trans at48_69
theorem at49_78 : G49 78 = spOne := (addG_ne _ _ (by decide)).trans at48_78
theorem at49_79 : G49 79 = spNegate := (addG_ne _ _ (by decide)).trans at48_79
theorem at49_62 : G49 62 = spParts := (addG_ne _ _ (by decide)).trans at48_62
theorem at49_12 : G49 12 = spValidate := (addG_ne _ _ (by decide)).trans at48_12
theorem at49_43 : G49 43 = spBoth := (addG_ne _ _ (by decide)).trans at48_43
theorem at49_95 : G49 95 = spCompareP := (addG_ne _ _ (by decide)).trans at48_95
theorem at49_92 : G49 92 = spDivide := (addG_ne _ _ (by decide)).trans at48_92
theorem at49_82 : G49 82 = spGCDS := (addG_ne _ _ (by decide)).trans at48_82
theorem at49_94 : G49 94 = spPlus := (addG_ne _ _ (by decide)).trans at48_94
theorem at49_96 : G49 96 = spMinus := addG_self _ _ _
theorem good49 : GoodG Try.prog ks G49 := good48.add (.inl ⟨by kernel_rfl, pure_spec mixed good48 noInl_sound c96_ok (minus_run G48 noInl (at48_104))⟩)
noncomputable def G50 : Pure := addG G49 86 spSum
theorem at50_10 : G50 10 = spLight3 := (addG_ne _ _ (by decide)).trans at49_10
theorem at50_55 : G50 55 = spCanon := (addG_ne _ _ (by decide)).trans at49_55
theorem at50_72 : G50 72 = spCompareDigits := (addG_ne _ _ (by decide)).trans at49_72
theorem at50_28 : G50 28 = spReduce := (addG_ne _ _ (by decide)).trans at49_28
theorem at50_39 : G50 39 = spWhole := (addG_ne _ _ (by decide)).trans at49_39
theorem at50_80 : G50 80 = spMagnitude := (addG_ne _ _ (by decide)).trans at49_80
theorem at50_63 : G50 63 = spSign := (addG_ne _ _ (by decide)).trans at49_63
theorem at50_84 : G50 84 = spMake := (addG_ne _ _ (by decide)).trans at49_84
theorem at50_69 : G50 69 = spFromInt64 := (addG_ne _ _ (by decide)).trans at49_69
theorem at50_78 : G50 78 = spOne := (addG_ne _ _ (by decide)).trans at49_78
theorem at50_79 : G50 79 = spNegate := (addG_ne _ _ (by decide)).trans at49_79
theorem at50_62 : G50 62 = spParts := (addG_ne _ _ (by decide)).trans at49_62
theorem at50_12 : G50 12 = spValidate := (addG_ne _ _ (by decide)).trans at49_12
theorem at50_43 : G50 43 = spBoth := (addG_ne _ _ (by decide)).trans at49_43
theorem at50_92 : G50 92 = spDivide := (addG_ne _ _ (by decide)).trans at49_92
theorem at50_82 : G50 82 = spGCDS := (addG_ne _ _ (by decide)).trans at49_82
theorem at50_86 : G50 86 = spSum := addG_self _ _ _
theorem good50 : GoodG Try.prog ks G50 := good49.add (.inl ⟨by kernel_rfl, pure_spec mixed good49 noInl_sound c86_ok (sumP_run G49 noInl (at49_80) (at49_94) (at49_96) (at49_95) (at49_84))⟩)
noncomputable def G51 : Pure := addG G50 93 spSub
theorem at51_10 : G51 10 = spLight3 := (addG_ne _ _ (by decide)).trans at50_10
theorem at51_55 : G51 55 = spCanon := (addG_ne _ _ (by decide)).trans at50_55
theorem at51_72 : G51 72 = spCompareDigits := (addG_ne _ _ (by decide)).trans at50_72
theorem at51_28 : G51 28 = spReduce := (addG_ne _ _ (by decide)).trans at50_28
theorem at51_39 : G51 39 = spWhole := (addG_ne _ _ (by decide)).trans at50_39
theorem at51_80 : G51 80 = spMagnitude := (addG_ne _ _ (by decide)).trans at50_80
theorem at51_63 : G51 63 = spSign := (addG_ne _ _ (by decide)).trans at50_63
theorem at51_84 : G51 84 = spMake := (addG_ne _ _ (by decide)).trans at50_84
theorem at51_69 : G51 69 = spFromInt64 := (addG_ne _ _ (by decide)).trans at50_69
theorem at51_78 : G51 78 = spOne := (addG_ne _ _ (by decide)).trans at50_78
theorem at51_79 : G51 79 = spNegate := (addG_ne _ _ (by decide)).trans at50_79
theorem at51_62 : G51 62 = spParts := (addG_ne _ _ (by decide)).trans at50_62
theorem at51_12 : G51 12 = spValidate := (addG_ne _ _ (by decide)).trans at50_12
theorem at51_43 : G51 43 = spBoth := (addG_ne _ _ (by decide)).trans at50_43
theorem at51_92 : G51 92 = spDivide := (addG_ne _ _ (by decide)).trans at50_92
theorem at51_82 : G51 82 = spGCDS := (addG_ne _ _ (by decide)).trans at50_82
theorem at51_86 : G51 86 = spSum := (addG_ne _ _ (by decide)).trans at50_86
theorem at51_93 : G51 93 = spSub := addG_self _ _ _
theorem good51 : GoodG Try.prog ks G51 := good50.add (.inl ⟨by kernel_rfl, pure_spec mixed good50 noInl_sound c93_ok (subP_run G50 noInl (at50_86))⟩)
noncomputable def G52 : Pure := addG G51 67 spAdd
theorem at52_10 : G52 10 = spLight3 := (addG_ne _ _ (by decide)).trans at51_10
theorem at52_55 : G52 55 = spCanon := (addG_ne _ _ (by decide)).trans at51_55
theorem at52_72 : G52 72 = spCompareDigits := (addG_ne _ _ (by decide)).trans at51_72
theorem at52_28 : G52 28 = spReduce := (addG_ne _ _ (by decide)).trans at51_28
theorem at52_39 : G52 39 = spWhole := (addG_ne _ _ (by decide)).trans at51_39
theorem at52_80 : G52 80 = spMagnitude := (addG_ne _ _ (by decide)).trans at51_80
theorem at52_63 : G52 63 = spSign := (addG_ne _ _ (by decide)).trans at51_63
theorem at52_84 : G52 84 = spMake := (addG_ne _ _ (by decide)).trans at51_84
theorem at52_69 : G52 69 = spFromInt64 := (addG_ne _ _ (by decide)).trans at51_69
theorem at52_78 : G52 78 = spOne := (addG_ne _ _ (by decide)).trans at51_78
theorem at52_79 : G52 79 = spNegate := (addG_ne _ _ (by decide)).trans at51_79
theorem at52_62 : G52 62 = spParts := (addG_ne _ _ (by decide)).trans at51_62
theorem at52_12 : G52 12 = spValidate := (addG_ne _ _ (by decide)).trans at51_12
theorem at52_43 : G52 43 = spBoth := (addG_ne _ _ (by decide)).trans at51_43
theorem at52_92 : G52 92 = spDivide := (addG_ne _ _ (by decide)).trans at51_92
theorem at52_82 : G52 82 = spGCDS := (addG_ne _ _ (by decide)).trans at51_82
theorem at52_93 : G52 93 = spSub := (addG_ne _ _ (by decide)).trans at51_93
theorem at52_67 : G52 67 = spAdd := addG_self _ _ _
theorem good52 : GoodG Try.prog ks G52 := good51.add (.inl ⟨by kernel_rfl, pure_spec mixed good51 noInl_sound c67_ok (addP_run G51 noInl (at51_86))⟩)
noncomputable def G53 : Pure := addG G52 83 spDivMod
theorem at53_10 : G53 10 = spLight3 := (addG_ne _ _ (by decide)).trans at52_10
theorem at53_55 : G53 55 = spCanon := (addG_ne _ _ (by decide)).trans at52_55
theorem at53_72 : G53 72 = spCompareDigits := (addG_ne _ _ (by decide)).trans at52_72
theorem at53_28 : G53 28 = spReduce := (addG_ne _ _ (by decide)).trans at52_28
theorem at53_39 : G53 39 = spWhole := (addG_ne _ _ (by decide)).trans at52_39
theorem at53_80 : G53 80 = spMagnitude := (addG_ne _ _ (by decide)).trans at52_80
theorem at53_63 : G53 63 = spSign := (addG_ne _ _ (by decide)).trans at52_63
theorem at53_84 : G53 84 = spMake := (addG_ne _ _ (by decide)).trans at52_84
theorem at53_69 : G53 69 = spFromInt64 := (addG_ne _ _ (by decide)).trans at52_69
theorem at53_78 : G53 78 = spOne := (addG_ne _ _ (by decide)).trans at52_78
theorem at53_79 : G53 79 = spNegate := (addG_ne _ _ (by decide)).trans at52_79
theorem at53_62 : G53 62 = spParts := (addG_ne _ _ (by decide)).trans at52_62
theorem at53_12 : G53 12 = spValidate := (addG_ne _ _ (by decide)).trans at52_12
theorem at53_43 : G53 43 = spBoth := (addG_ne _ _ (by decide)).trans at52_43
theorem at53_82 : G53 82 = spGCDS := (addG_ne _ _ (by decide)).trans at52_82
theorem at53_67 : G53 67 = spAdd := (addG_ne _ _ (by decide)).trans at52_67
theorem at53_83 : G53 83 = spDivMod := addG_self _ _ _
theorem good53 : GoodG Try.prog ks G53 := good52.add (.inl ⟨by kernel_rfl, pure_spec mixed good52 noInl_sound c83_ok (divmodP_run G52 noInl (at52_63) (at52_80) (at52_92) (at52_84) (at52_69) (at52_93) (at52_67))⟩)
noncomputable def G54 : Pure := addG G53 65 spReduced
theorem at54_10 : G54 10 = spLight3 := (addG_ne _ _ (by decide)).trans at53_10
theorem at54_55 : G54 55 = spCanon := (addG_ne _ _ (by decide)).trans at53_55
theorem at54_72 : G54 72 = spCompareDigits := (addG_ne _ _ (by decide)).trans at53_72
theorem at54_28 : G54 28 = spReduce := (addG_ne _ _ (by decide)).trans at53_28
theorem at54_39 : G54 39 = spWhole := (addG_ne _ _ (by decide)).trans at53_39
theorem at54_80 : G54 80 = spMagnitude := (addG_ne _ _ (by decide)).trans at53_80
theorem at54_84 : G54 84 = spMake := (addG_ne _ _ (by decide)).trans at53_84
theorem at54_69 : G54 69 = spFromInt64 := (addG_ne _ _ (by decide)).trans at53_69
theorem at54_78 : G54 78 = spOne := (addG_ne _ _ (by decide)).trans at53_78
theorem at54_62 : G54 62 = spParts := (addG_ne _ _ (by decide)).trans at53_62
theorem at54_12 : G54 12 = spValidate := (addG_ne _ _ (by decide)).trans at53_12
theorem at54_43 : G54 43 = spBoth := (addG_ne _ _ (by decide)).trans at53_43
theorem at54_67 : G54 67 = spAdd := (addG_ne _ _ (by decide)).trans at53_67
theorem at54_65 : G54 65 = spReduced := addG_self _ _ _
theorem good54 : GoodG Try.prog ks G54 := good53.add (.inl ⟨by kernel_rfl, pure_spec mixed good53 noInl_sound c65_ok (reducedP_run G53 noInl (at53_63) (at53_78) (at53_82) (at53_79) (at53_83))⟩)
noncomputable def G55 : Pure := addG G54 68 spFromIntS
theorem at55_10 : G55 10 = spLight3 := (addG_ne _ _ (by decide)).trans at54_10
theorem at55_55 : G55 55 = spCanon := (addG_ne _ _ (by decide)).trans at54_55
theorem at55_72 : G55 72 = spCompareDigits := (addG_ne _ _ (by decide)).trans at54_72
theorem at55_28 : G55 28 = spReduce := (addG_ne _ _ (by decide)).trans at54_28
theorem at55_39 : G55 39 = spWhole := (addG_ne _ _ (by decide)).trans at54_39
theorem at55_80 : G55 80 = spMagnitude := (addG_ne _ _ (by decide)).trans at54_80
theorem at55_84 : G55 84 = spMake := (addG_ne _ _ (by decide)).trans at54_84
theorem at55_69 : G55 69 = spFromInt64 := (addG_ne _ _ (by decide)).trans at54_69
theorem at55_62 : G55 62 = spParts := (addG_ne _ _ (by decide)).trans at54_62
theorem at55_12 : G55 12 = spValidate := (addG_ne _ _ (by decide)).trans at54_12
theorem at55_43 : G55 43 = spBoth := (addG_ne _ _ (by decide)).trans at54_43
theorem at55_67 : G55 67 = spAdd := (addG_ne _ _ (by decide)).trans at54_67
theorem at55_65 : G55 65 = spReduced := (addG_ne _ _ (by decide)).trans at54_65
theorem at55_68 : G55 68 = spFromIntS := addG_self _ _ _
theorem good55 : GoodG Try.prog ks G55 := good54.add (.inl ⟨by kernel_rfl, pure_spec mixed good54 noInl_sound c68_ok (fromIntP_run G54 noInl (at54_78) (at54_65))⟩)
noncomputable def G56 : Pure := addG G55 48 spZero
theorem at56_10 : G56 10 = spLight3 := (addG_ne _ _ (by decide)).trans at55_10
theorem at56_55 : G56 55 = spCanon := (addG_ne _ _ (by decide)).trans at55_55
theorem at56_72 : G56 72 = spCompareDigits := (addG_ne _ _ (by decide)).trans at55_72
theorem at56_28 : G56 28 = spReduce := (addG_ne _ _ (by decide)).trans at55_28
theorem at56_39 : G56 39 = spWhole := (addG_ne _ _ (by decide)).trans at55_39
theorem at56_80 : G56 80 = spMagnitude := (addG_ne _ _ (by decide)).trans at55_80
theorem at56_84 : G56 84 = spMake := (addG_ne _ _ (by decide)).trans at55_84
theorem at56_62 : G56 62 = spParts := (addG_ne _ _ (by decide)).trans at55_62
theorem at56_12 : G56 12 = spValidate := (addG_ne _ _ (by decide)).trans at55_12
theorem at56_43 : G56 43 = spBoth := (addG_ne _ _ (by decide)).trans at55_43
theorem at56_67 : G56 67 = spAdd := (addG_ne _ _ (by decide)).trans at55_67
theorem at56_65 : G56 65 = spReduced := (addG_ne _ _ (by decide)).trans at55_65
theorem at56_48 : G56 48 = spZero := addG_self _ _ _
theorem good56 : GoodG Try.prog ks G56 := good55.add (.inl ⟨by kernel_rfl, pure_spec mixed good55 noInl_sound c48_ok (zero_run G55 noInl (at55_69) (at55_68))⟩)
noncomputable def G57 : Pure := addG G56 85 spTimes
theorem at57_10 : G57 10 = spLight3 := (addG_ne _ _ (by decide)).trans at56_10
theorem at57_55 : G57 55 = spCanon := (addG_ne _ _ (by decide)).trans at56_55
theorem at57_72 : G57 72 = spCompareDigits := (addG_ne _ _ (by decide)).trans at56_72
theorem at57_28 : G57 28 = spReduce := (addG_ne _ _ (by decide)).trans at56_28
theorem at57_39 : G57 39 = spWhole := (addG_ne _ _ (by decide)).trans at56_39
theorem at57_80 : G57 80 = spMagnitude := (addG_ne _ _ (by decide)).trans at56_80
theorem at57_84 : G57 84 = spMake := (addG_ne _ _ (by decide)).trans at56_84
theorem at57_62 : G57 62 = spParts := (addG_ne _ _ (by decide)).trans at56_62
theorem at57_12 : G57 12 = spValidate := (addG_ne _ _ (by decide)).trans at56_12
theorem at57_43 : G57 43 = spBoth := (addG_ne _ _ (by decide)).trans at56_43
theorem at57_67 : G57 67 = spAdd := (addG_ne _ _ (by decide)).trans at56_67
theorem at57_65 : G57 65 = spReduced := (addG_ne _ _ (by decide)).trans at56_65
theorem at57_48 : G57 48 = spZero := (addG_ne _ _ (by decide)).trans at56_48
theorem at57_85 : G57 85 = spTimes := addG_self _ _ _
theorem good57 : GoodG Try.prog ks G57 := good56.add (.inl ⟨by kernel_rfl, pure_spec mixed good56 noInl_sound c85_ok (times_run G56 noInl )⟩)
noncomputable def G58 : Pure := addG G57 66 spMul
theorem at58_10 : G58 10 = spLight3 := (addG_ne _ _ (by decide)).trans at57_10
theorem at58_55 : G58 55 = spCanon := (addG_ne _ _ (by decide)).trans at57_55
theorem at58_72 : G58 72 = spCompareDigits := (addG_ne _ _ (by decide)).trans at57_72
theorem at58_28 : G58 28 = spReduce := (addG_ne _ _ (by decide)).trans at57_28
theorem at58_39 : G58 39 = spWhole := (addG_ne _ _ (by decide)).trans at57_39
theorem at58_62 : G58 62 = spParts := (addG_ne _ _ (by decide)).trans at57_62
theorem at58_12 : G58 12 = spValidate := (addG_ne _ _ (by decide)).trans at57_12
theorem at58_43 : G58 43 = spBoth := (addG_ne _ _ (by decide)).trans at57_43
theorem at58_67 : G58 67 = spAdd := (addG_ne _ _ (by decide)).trans at57_67
theorem at58_65 : G58 65 = spReduced := (addG_ne _ _ (by decide)).trans at57_65
theorem at58_48 : G58 48 = spZero := (addG_ne _ _ (by decide)).trans at57_48
theorem at58_66 : G58 66 = spMul := addG_self _ _ _
theorem good58 : GoodG Try.prog ks G58 := good57.add (.inl ⟨by kernel_rfl, pure_spec mixed good57 noInl_sound c66_ok (mulP_run G57 noInl (at57_80) (at57_85) (at57_84))⟩)
noncomputable def G59 : Pure := addG G58 47 spAddFrac
theorem at59_10 : G59 10 = spLight3 := (addG_ne _ _ (by decide)).trans at58_10
theorem at59_55 : G59 55 = spCanon := (addG_ne _ _ (by decide)).trans at58_55
theorem at59_72 : G59 72 = spCompareDigits := (addG_ne _ _ (by decide)).trans at58_72
theorem at59_28 : G59 28 = spReduce := (addG_ne _ _ (by decide)).trans at58_28
theorem at59_39 : G59 39 = spWhole := (addG_ne _ _ (by decide)).trans at58_39
theorem at59_62 : G59 62 = spParts := (addG_ne _ _ (by decide)).trans at58_62
theorem at59_12 : G59 12 = spValidate := (addG_ne _ _ (by decide)).trans at58_12
theorem at59_43 : G59 43 = spBoth := (addG_ne _ _ (by decide)).trans at58_43
theorem at59_65 : G59 65 = spReduced := (addG_ne _ _ (by decide)).trans at58_65
theorem at59_48 : G59 48 = spZero := (addG_ne _ _ (by decide)).trans at58_48
theorem at59_66 : G59 66 = spMul := (addG_ne _ _ (by decide)).trans at58_66
theorem at59_47 : G59 47 = spAddFrac := addG_self _ _ _
theorem good59 : GoodG Try.prog ks G59 := good58.add (.inl ⟨by kernel_rfl, pure_spec mixed good58 noInl_sound c47_ok (addQ_run G58 noInl (at58_62) (at58_66) (at58_67) (at58_65))⟩)
noncomputable def G60 : Pure := addG G59 46 spMulFrac
theorem at60_10 : G60 10 = spLight3 := (addG_ne _ _ (by decide)).trans at59_10
theorem at60_55 : G60 55 = spCanon := (addG_ne _ _ (by decide)).trans at59_55
theorem at60_72 : G60 72 = spCompareDigits := (addG_ne _ _ (by decide)).trans at59_72
theorem at60_28 : G60 28 = spReduce := (addG_ne _ _ (by decide)).trans at59_28
theorem at60_39 : G60 39 = spWhole := (addG_ne _ _ (by decide)).trans at59_39
theorem at60_12 : G60 12 = spValidate := (addG_ne _ _ (by decide)).trans at59_12
theorem at60_43 : G60 43 = spBoth := (addG_ne _ _ (by decide)).trans at59_43
theorem at60_48 : G60 48 = spZero := (addG_ne _ _ (by decide)).trans at59_48
theorem at60_47 : G60 47 = spAddFrac := (addG_ne _ _ (by decide)).trans at59_47
theorem at60_46 : G60 46 = spMulFrac := addG_self _ _ _
theorem good60 : GoodG Try.prog ks G60 := good59.add (.inl ⟨by kernel_rfl, pure_spec mixed good59 noInl_sound c46_ok (mulQ_run G59 noInl (at59_62) (at59_66) (at59_65))⟩)
noncomputable def G61 : Pure := addG G60 17 spDot
theorem at61_10 : G61 10 = spLight3 := (addG_ne _ _ (by decide)).trans at60_10
theorem at61_55 : G61 55 = spCanon := (addG_ne _ _ (by decide)).trans at60_55
theorem at61_72 : G61 72 = spCompareDigits := (addG_ne _ _ (by decide)).trans at60_72
theorem at61_28 : G61 28 = spReduce := (addG_ne _ _ (by decide)).trans at60_28
theorem at61_39 : G61 39 = spWhole := (addG_ne _ _ (by decide)).trans at60_39
theorem at61_12 : G61 12 = spValidate := (addG_ne _ _ (by decide)).trans at60_12
theorem at61_17 : G61 17 = spDot := addG_self _ _ _
theorem good61 : GoodG Try.prog ks G61 := good60.add (.inl ⟨by kernel_rfl, pure_spec mixed good60 noInl_sound c17_ok (dotP_run G60 noInl (at60_43) (at60_48) (at60_47) (at60_46))⟩)
noncomputable def G62 : Pure := addG G61 51 spSameInt
theorem at62_10 : G62 10 = spLight3 := (addG_ne _ _ (by decide)).trans at61_10
theorem at62_55 : G62 55 = spCanon := (addG_ne _ _ (by decide)).trans at61_55
theorem at62_72 : G62 72 = spCompareDigits := (addG_ne _ _ (by decide)).trans at61_72
theorem at62_28 : G62 28 = spReduce := (addG_ne _ _ (by decide)).trans at61_28
theorem at62_39 : G62 39 = spWhole := (addG_ne _ _ (by decide)).trans at61_39
theorem at62_12 : G62 12 = spValidate := (addG_ne _ _ (by decide)).trans at61_12
theorem at62_17 : G62 17 = spDot := (addG_ne _ _ (by decide)).trans at61_17
theorem at62_51 : G62 51 = spSameInt := addG_self _ _ _
theorem good62 : GoodG Try.prog ks G62 := good61.add (.inl ⟨by kernel_rfl, pure_spec mixed good61 noInl_sound c51_ok (sameInt_run G61 noInl )⟩)
noncomputable def G63 : Pure := addG G62 20 spSameFrac
theorem at63_10 : G63 10 = spLight3 := (addG_ne _ _ (by decide)).trans at62_10
theorem at63_55 : G63 55 = spCanon := (addG_ne _ _ (by decide)).trans at62_55
theorem at63_72 : G63 72 = spCompareDigits := (addG_ne _ _ (by decide)).trans at62_72
theorem at63_28 : G63 28 = spReduce := (addG_ne _ _ (by decide)).trans at62_28
theorem at63_39 : G63 39 = spWhole := (addG_ne _ _ (by decide)).trans at62_39
theorem at63_12 : G63 12 = spValidate := (addG_ne _ _ (by decide)).trans at62_12
theorem at63_17 : G63 17 = spDot := (addG_ne _ _ (by decide)).trans at62_17
theorem at63_20 : G63 20 = spSameFrac := addG_self _ _ _
theorem good63 : GoodG Try.prog ks G63 := good62.add (.inl ⟨by kernel_rfl, pure_spec mixed good62 noInl_sound c20_ok (sameFrac_run G62 noInl (at62_51))⟩)
noncomputable def G64 : Pure := addG G63 11 spAwake
theorem at64_10 : G64 10 = spLight3 := (addG_ne _ _ (by decide)).trans at63_10
theorem at64_55 : G64 55 = spCanon := (addG_ne _ _ (by decide)).trans at63_55
theorem at64_72 : G64 72 = spCompareDigits := (addG_ne _ _ (by decide)).trans at63_72
theorem at64_28 : G64 28 = spReduce := (addG_ne _ _ (by decide)).trans at63_28
theorem at64_12 : G64 12 = spValidate := (addG_ne _ _ (by decide)).trans at63_12
theorem at64_11 : G64 11 = spAwake := addG_self _ _ _
theorem good64 : GoodG Try.prog ks G64 := good63.add (.inl ⟨by kernel_rfl, pure_spec mixed good63 noInl_sound c11_ok (awake_run G63 noInl (at63_39) (at63_17) (at63_20))⟩)
noncomputable def G65 : Pure := addG G64 81 spCompare
theorem at65_10 : G65 10 = spLight3 := (addG_ne _ _ (by decide)).trans at64_10
theorem at65_28 : G65 28 = spReduce := (addG_ne _ _ (by decide)).trans at64_28
theorem at65_12 : G65 12 = spValidate := (addG_ne _ _ (by decide)).trans at64_12
theorem at65_11 : G65 11 = spAwake := (addG_ne _ _ (by decide)).trans at64_11
theorem at65_81 : G65 81 = spCompare := addG_self _ _ _
theorem good65 : GoodG Try.prog ks G65 := good64.add (.inl ⟨by kernel_rfl, pure_spec mixed good64 noInl_sound c81_ok (compareZ_run G64 noInl (at64_55) (at64_72))⟩)
noncomputable def G66 : Pure := addG G65 64 spSign
theorem at66_10 : G66 10 = spLight3 := (addG_ne _ _ (by decide)).trans at65_10
theorem at66_28 : G66 28 = spReduce := (addG_ne _ _ (by decide)).trans at65_28
theorem at66_12 : G66 12 = spValidate := (addG_ne _ _ (by decide)).trans at65_12
theorem at66_11 : G66 11 = spAwake := (addG_ne _ _ (by decide)).trans at65_11
theorem at66_64 : G66 64 = spSign := addG_self _ _ _
theorem good66 : GoodG Try.prog ks G66 := good65.add (.inl ⟨by kernel_rfl, pure_spec mixed good65 noInl_sound c64_ok (sign_run G65 noInl (at65_81))⟩)
noncomputable def G67 : Pure := addG G66 41 spSignFrac
theorem at67_10 : G67 10 = spLight3 := (addG_ne _ _ (by decide)).trans at66_10
theorem at67_12 : G67 12 = spValidate := (addG_ne _ _ (by decide)).trans at66_12
theorem at67_11 : G67 11 = spAwake := (addG_ne _ _ (by decide)).trans at66_11
theorem at67_41 : G67 41 = spSignFrac := addG_self _ _ _
theorem good67 : GoodG Try.prog ks G67 := good66.add (.inl ⟨by kernel_rfl, pure_spec mixed good66 noInl_sound c41_ok (signFrac_run G66 noInl (at66_28) (at66_64))⟩)
noncomputable def G68 : Pure := addG G67 13 spValidate
theorem at68_10 : G68 10 = spLight3 := (addG_ne _ _ (by decide)).trans at67_10
theorem at68_12 : G68 12 = spValidate := (addG_ne _ _ (by decide)).trans at67_12
theorem at68_11 : G68 11 = spAwake := (addG_ne _ _ (by decide)).trans at67_11
theorem at68_13 : G68 13 = spValidate := addG_self _ _ _
theorem good68 : GoodG Try.prog ks G68 := good67.add (.inl ⟨by kernel_rfl, pure_spec mixed good67 noInl_sound c13_ok (validateR_run G67 noInl (at67_41))⟩)
open Classical in
noncomputable def sparseValid_run_sp : List AV → Option PRes := fun us => if FitAll [(false, [ctV]), (false, [.int .i64])] us then some { val := .bool true } else none
open Classical in
theorem sparseValid_run_meets : Meets Try.prog 3 sparseValid_run_sp := pureF_meets mixed good68 noInl_sound c3_ok sparseValid_run_sp (fun args r h => by
  unfold sparseValid_run_sp at h
  obtain ⟨h1, h2⟩ := of_ite h
  cases h2
  exact sparseValid_run G68 noInl (at68_10) (at68_11) (at68_12) (at68_13) args h1)
theorem sparseValid_run_true (us : List AV) (h : FitAll [(false, [ctV]), (false, [.int .i64])] us) : sparseValid_run_sp us = some { val := .bool true } := by unfold sparseValid_run_sp; rw [if_pos h]
end Go.Proofs.Ythlpmghodgiknaa.C
