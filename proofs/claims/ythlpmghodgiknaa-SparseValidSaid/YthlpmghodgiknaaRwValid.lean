/- SparseValid returns true for every input; each argument reads afterwards as it read before. Conditions: none. The proof evaluates the translated code by a verified evaluator. -/
import Derived.Test.YthlpmghodgiknaaKaV
import Derived.Test.YthlpmghodgiknaaRows
import Derived.Test.YthlpmghodgiknaaEvG
import Derived.WalkKit
import Derived.ProofKit
import Derived.OpenShut
import Derived.ChangeOld
import Derived.SizedLaws
namespace Go.Proofs.Ythlpmghodgiknaa
open Go Go.Ev Go.ChangeShapes Go.WideShapes Go.ChangeAt Go.RowKit

theorem sparseValid_own : ownKnob Try.prog.godebug = none := by kernel_rfl
theorem sparseValid_laid : laidOutB Try.prog = true := by kernel_rfl

set_option maxRecDepth 100000 in
theorem sparseValid_lifted (os : Os) (started : os.Started) (H : Type) (enc : TypeId × Value → H) :
    ReturnsInHanded {} Try.checked os 3 .any (Rows.sparseValidSpec.pre6 enc Try.prog Try.f3 Rows.sparseValidRow.domain false) (Rows.sparseValidSpec.post enc Try.prog Try.f3 false true false false) := by
  refine returnsInHanded_of_change_sized (C := Try.checked) sparseValid_own started (by kernel_rfl) Try.func3
    (ChangeSpec.witness6 (enc := enc) (C := Try.checked) false ⟨#[], #[.slice none 0 0, .int .i64 0], []⟩ 8 (by kernel_rfl) (by kernel_rfl) (by kernel_rfl) (by kernel_rfl)) ?_
  intro W base args ds gs before hval hW _ hsz _
  exact law_contract (P := Try.prog) C.sparseValid_run_meets sparseValid_laid (ps := [(false, [ctV]), (false, [.int .i64])]) (by kernel_rfl) (by kernel_rfl) (tb := 4) (by kernel_rfl) (by kernel_rfl) rfl (fun ds hds => by
    match ds, hds with
    | [d1, d2], _ => exact ⟨rfl, rfl, rfl⟩) C.sparseValid_run_true hval hW hsz

theorem sparseValid_over : Rows.sparseValidRow.holds Try.pinned (OpenSpec.ofChange Rows.sparseValidSpec) :=
  OpenClaim.holds_of_wide 3 Try.f3 rfl rfl rfl rfl rfl rfl rfl ⟨rfl, rfl, rfl, rfl, rfl⟩ rfl rfl rfl rfl rfl (by kernel_rfl) Try.func3 (by kernel_rfl)
    (of_decide_eq_true (by kernel_rfl)) (by unfold Func.isWrapper; first | (rw [if_pos (by decide +kernel)]; kernel_rfl) | (rw [if_neg (by decide +kernel)]; exact ⟨rfl, rfl⟩))
    (fun os started H enc _ => sparseValid_lifted os started H enc)

/-- The statement. -/
theorem sparseValid_holds : Rows.SparseValidSaid := sparseValid_over
#print axioms sparseValid_holds
end Go.Proofs.Ythlpmghodgiknaa
