/-
  No cell of these rows narrows 'for every input' (looked for: loops, veiled, ifaces, maps, wideKeys, modest, calm, conditions, laid).
  DERIVED. THE GIVEN ROWS OF THIS SEAT. 7 by the template 'for every input the law returns true; each argument reads behind the call as it read before'; 0 by the template 'total and deterministic' (their statements: YthlpmghodgiknaaTotals.lean).
  GIVEN WITH THE SEED: the statements are not yours to turn. If you find one false, say at which input.
  Laid BY PROGRAM, IN A SANDBOX (cutbox-rows.mjs): the forced cells as the released guide's own fill.sh prints them over the translation 960cbc126a6cdf72… (all of the seat's roots in one cut). By AI agents, Wed Nov 11 2026. No macro, syntax, notation, axiom, sorry.
-/
import Derived.Test.YthlpmghodgiknaaChecked
import GoSem.Claim
import GoSem.ClaimJoined
import GoSem.ClaimMapViews
import Derived.JoinedTies
import Derived.KernelRfl
namespace Go.Proofs.Ythlpmghodgiknaa
/- THE CELL 'sum', in the pinned program and in every row, IS THE sha256 OF THE DUMP (.gsa) THAT YthlpmghodgiknaaProg.lean LOADS. Nothing in Lean hashes anything: it is a label: what it is worth is what the hold of that sum in a sandbox is worth. -/
noncomputable def Try.pinned : Pinned := { name := "ythlpmghodgiknaa", sum := "960cbc126a6cdf7243bd9b31c4538cd95d0d5db92a523827c200b4321335a283", checked := Try.checked }
namespace Rows
def none {H : Type} : Left H := { results := [], args := [] }

/-- 'pairinglaw3.SparseValid': WHATEVER THE INPUT: true; the input reads as it did. -/
def sparseValidSpec : ChangeSpec := { name := "sparseValid", fn := fun _ => fun
  | [d1, d2] => { results := [.lit (.bool true)], args := [d1, d2] }
  | _ => none }
def sparseValidRow : OpenClaim := { program := "ythlpmghodgiknaa", sum := "960cbc126a6cdf7243bd9b31c4538cd95d0d5db92a523827c200b4321335a283", func := "pairing/pairinglaw3.SparseValid", spec := "sparseValid", apart := false }
def SparseValidSaid : Prop := sparseValidRow.holds Try.pinned (OpenSpec.ofChange sparseValidSpec)

/-- ITS FALSE NEIGHBOUR: 'it returns false'. Refute it at one input. -/
def sparseValidWrong : ChangeSpec := { name := "sparseValid", fn := fun _ => fun
  | [d1, d2] => { results := [.lit (.bool false)], args := [d1, d2] }
  | _ => none }
def SparseValidWrongFalsely : Prop := sparseValidRow.holds Try.pinned (OpenSpec.ofChange sparseValidWrong)

/-- 'pairinglaw3.SparseLinear': WHATEVER THE INPUT: true; the input reads as it did. -/
def sparseLinearSpec : ChangeSpec := { name := "sparseLinear", fn := fun _ => fun
  | [d1, d2, d3, d4, d5] => { results := [.lit (.bool true)], args := [d1, d2, d3, d4, d5] }
  | _ => none }
def sparseLinearRow : OpenClaim := { program := "ythlpmghodgiknaa", sum := "960cbc126a6cdf7243bd9b31c4538cd95d0d5db92a523827c200b4321335a283", func := "pairing/pairinglaw3.SparseLinear", spec := "sparseLinear", unfollowed := true, recurses := true, apart := false }
def SparseLinearSaid : Prop := sparseLinearRow.holds Try.pinned (OpenSpec.ofChange sparseLinearSpec)

/-- ITS FALSE NEIGHBOUR: 'it returns false'. Refute it at one input. -/
def sparseLinearWrong : ChangeSpec := { name := "sparseLinear", fn := fun _ => fun
  | [d1, d2, d3, d4, d5] => { results := [.lit (.bool false)], args := [d1, d2, d3, d4, d5] }
  | _ => none }
def SparseLinearWrongFalsely : Prop := sparseLinearRow.holds Try.pinned (OpenSpec.ofChange sparseLinearWrong)

/-- 'pairinglaw3.SparseProducts': WHATEVER THE INPUT: true; the input reads as it did. -/
def sparseProductsSpec : ChangeSpec := { name := "sparseProducts", fn := fun _ => fun
  | [d1, d2, d3, d4] => { results := [.lit (.bool true)], args := [d1, d2, d3, d4] }
  | _ => none }
def sparseProductsRow : OpenClaim := { program := "ythlpmghodgiknaa", sum := "960cbc126a6cdf7243bd9b31c4538cd95d0d5db92a523827c200b4321335a283", func := "pairing/pairinglaw3.SparseProducts", spec := "sparseProducts", unfollowed := true, recurses := true, apart := false }
def SparseProductsSaid : Prop := sparseProductsRow.holds Try.pinned (OpenSpec.ofChange sparseProductsSpec)

/-- ITS FALSE NEIGHBOUR: 'it returns false'. Refute it at one input. -/
def sparseProductsWrong : ChangeSpec := { name := "sparseProducts", fn := fun _ => fun
  | [d1, d2, d3, d4] => { results := [.lit (.bool false)], args := [d1, d2, d3, d4] }
  | _ => none }
def SparseProductsWrongFalsely : Prop := sparseProductsRow.holds Try.pinned (OpenSpec.ofChange sparseProductsWrong)

/-- 'pairinglaw3.SparseBack': WHATEVER THE INPUT: true; the input reads as it did. -/
def sparseBackSpec : ChangeSpec := { name := "sparseBack", fn := fun _ => fun
  | [d1, d2] => { results := [.lit (.bool true)], args := [d1, d2] }
  | _ => none }
def sparseBackRow : OpenClaim := { program := "ythlpmghodgiknaa", sum := "960cbc126a6cdf7243bd9b31c4538cd95d0d5db92a523827c200b4321335a283", func := "pairing/pairinglaw3.SparseBack", spec := "sparseBack", apart := false }
def SparseBackSaid : Prop := sparseBackRow.holds Try.pinned (OpenSpec.ofChange sparseBackSpec)

/-- ITS FALSE NEIGHBOUR: 'it returns false'. Refute it at one input. -/
def sparseBackWrong : ChangeSpec := { name := "sparseBack", fn := fun _ => fun
  | [d1, d2] => { results := [.lit (.bool false)], args := [d1, d2] }
  | _ => none }
def SparseBackWrongFalsely : Prop := sparseBackRow.holds Try.pinned (OpenSpec.ofChange sparseBackWrong)

/-- 'pairinglaw3.SparseDense': WHATEVER THE INPUT: true; the input reads as it did. -/
def sparseDenseSpec : ChangeSpec := { name := "sparseDense", fn := fun _ => fun
  | [d1, d2, d3, d4] => { results := [.lit (.bool true)], args := [d1, d2, d3, d4] }
  | _ => none }
def sparseDenseRow : OpenClaim := { program := "ythlpmghodgiknaa", sum := "960cbc126a6cdf7243bd9b31c4538cd95d0d5db92a523827c200b4321335a283", func := "pairing/pairinglaw3.SparseDense", spec := "sparseDense", apart := false }
def SparseDenseSaid : Prop := sparseDenseRow.holds Try.pinned (OpenSpec.ofChange sparseDenseSpec)

/-- ITS FALSE NEIGHBOUR: 'it returns false'. Refute it at one input. -/
def sparseDenseWrong : ChangeSpec := { name := "sparseDense", fn := fun _ => fun
  | [d1, d2, d3, d4] => { results := [.lit (.bool false)], args := [d1, d2, d3, d4] }
  | _ => none }
def SparseDenseWrongFalsely : Prop := sparseDenseRow.holds Try.pinned (OpenSpec.ofChange sparseDenseWrong)

/-- 'pairinglaw3.SparseMatrix': WHATEVER THE INPUT: true; the input reads as it did. -/
def sparseMatrixSpec : ChangeSpec := { name := "sparseMatrix", fn := fun _ => fun
  | [d1, d2, d3] => { results := [.lit (.bool true)], args := [d1, d2, d3] }
  | _ => none }
def sparseMatrixRow : OpenClaim := { program := "ythlpmghodgiknaa", sum := "960cbc126a6cdf7243bd9b31c4538cd95d0d5db92a523827c200b4321335a283", func := "pairing/pairinglaw3.SparseMatrix", spec := "sparseMatrix", apart := false }
def SparseMatrixSaid : Prop := sparseMatrixRow.holds Try.pinned (OpenSpec.ofChange sparseMatrixSpec)

/-- ITS FALSE NEIGHBOUR: 'it returns false'. Refute it at one input. -/
def sparseMatrixWrong : ChangeSpec := { name := "sparseMatrix", fn := fun _ => fun
  | [d1, d2, d3] => { results := [.lit (.bool false)], args := [d1, d2, d3] }
  | _ => none }
def SparseMatrixWrongFalsely : Prop := sparseMatrixRow.holds Try.pinned (OpenSpec.ofChange sparseMatrixWrong)

/-- 'pairinglaw3.SparseAdjoint': WHATEVER THE INPUT: true; the input reads as it did. -/
def sparseAdjointSpec : ChangeSpec := { name := "sparseAdjoint", fn := fun _ => fun
  | [d1, d2, d3, d4] => { results := [.lit (.bool true)], args := [d1, d2, d3, d4] }
  | _ => none }
def sparseAdjointRow : OpenClaim := { program := "ythlpmghodgiknaa", sum := "960cbc126a6cdf7243bd9b31c4538cd95d0d5db92a523827c200b4321335a283", func := "pairing/pairinglaw3.SparseAdjoint", spec := "sparseAdjoint", apart := false }
def SparseAdjointSaid : Prop := sparseAdjointRow.holds Try.pinned (OpenSpec.ofChange sparseAdjointSpec)

/-- ITS FALSE NEIGHBOUR: 'it returns false'. Refute it at one input. -/
def sparseAdjointWrong : ChangeSpec := { name := "sparseAdjoint", fn := fun _ => fun
  | [d1, d2, d3, d4] => { results := [.lit (.bool false)], args := [d1, d2, d3, d4] }
  | _ => none }
def SparseAdjointWrongFalsely : Prop := sparseAdjointRow.holds Try.pinned (OpenSpec.ofChange sparseAdjointWrong)

/- THE SECOND FORM. 'bulk': how many values and letters a reading holds, each counted each time it is reached (what is shared counts as often as it is met; a slice's spare places count too). A statement '..UptoSaid' is the law's where the arguments, and the package variables that the reading takes, are together of bulk at most 1048576: NARROWER than '..Said'. Prove '..Said' where nothing that the law and all that it calls make is longer than what came in: it says more and counts as full. Else prove '..UptoSaid'. A law counts once. -/
mutual
def uptoBulk {H : Type} : DataW H → Nat
  | .lit (.string bytes) => bytes.length + 1
  | .lit _ => 1
  | .nil => 1
  | .ptr d => uptoBulk d + 1
  | .slice elems spare => uptoBulkAll elems + uptoBulkAll spare + 1
  | .agg parts => uptoBulkAll parts + 1
  | .iface _ d => uptoBulk d + 1
  | .map entries => uptoBulkEntries entries + 1
  | .held _ => 1
def uptoBulkAll {H : Type} : List (DataW H) → Nat
  | [] => 0
  | d :: r => uptoBulk d + uptoBulkAll r
def uptoBulkEntries {H : Type} : List (Lit × DataW H) → Nat
  | [] => 0
  | x :: r => uptoBulkEntry x + uptoBulkEntries r
def uptoBulkEntry {H : Type} : Lit × DataW H → Nat
  | (.string bytes, d) => bytes.length + uptoBulk d + 1
  | (_, d) => uptoBulk d + 1
 end
def uptoSmall : (H : Type) → List (DataW H) → Bool := fun _ ds => decide (uptoBulkAll ds ≤ 1048576)
def OpenSpec.upto (s : _root_.Go.ChangeSpec) : _root_.Go.OpenSpec := { _root_.Go.OpenSpec.ofChange s with cond := some uptoSmall }

/-- 'pairinglaw3.SparseValid', WHERE WHAT IT READS IS OF BULK AT MOST 1048576: true; the input reads as it did. -/
def sparseValidUptoRow : OpenClaim := { program := "ythlpmghodgiknaa", sum := "960cbc126a6cdf7243bd9b31c4538cd95d0d5db92a523827c200b4321335a283", func := "pairing/pairinglaw3.SparseValid", spec := "sparseValid", apart := false, narrowed := true }
def SparseValidUptoSaid : Prop := sparseValidUptoRow.holds Try.pinned (OpenSpec.upto sparseValidSpec)

/-- 'pairinglaw3.SparseLinear', WHERE WHAT IT READS IS OF BULK AT MOST 1048576: true; the input reads as it did. -/
def sparseLinearUptoRow : OpenClaim := { program := "ythlpmghodgiknaa", sum := "960cbc126a6cdf7243bd9b31c4538cd95d0d5db92a523827c200b4321335a283", func := "pairing/pairinglaw3.SparseLinear", spec := "sparseLinear", unfollowed := true, recurses := true, apart := false, narrowed := true }
def SparseLinearUptoSaid : Prop := sparseLinearUptoRow.holds Try.pinned (OpenSpec.upto sparseLinearSpec)

/-- 'pairinglaw3.SparseProducts', WHERE WHAT IT READS IS OF BULK AT MOST 1048576: true; the input reads as it did. -/
def sparseProductsUptoRow : OpenClaim := { program := "ythlpmghodgiknaa", sum := "960cbc126a6cdf7243bd9b31c4538cd95d0d5db92a523827c200b4321335a283", func := "pairing/pairinglaw3.SparseProducts", spec := "sparseProducts", unfollowed := true, recurses := true, apart := false, narrowed := true }
def SparseProductsUptoSaid : Prop := sparseProductsUptoRow.holds Try.pinned (OpenSpec.upto sparseProductsSpec)

/-- 'pairinglaw3.SparseBack', WHERE WHAT IT READS IS OF BULK AT MOST 1048576: true; the input reads as it did. -/
def sparseBackUptoRow : OpenClaim := { program := "ythlpmghodgiknaa", sum := "960cbc126a6cdf7243bd9b31c4538cd95d0d5db92a523827c200b4321335a283", func := "pairing/pairinglaw3.SparseBack", spec := "sparseBack", apart := false, narrowed := true }
def SparseBackUptoSaid : Prop := sparseBackUptoRow.holds Try.pinned (OpenSpec.upto sparseBackSpec)

/-- 'pairinglaw3.SparseDense', WHERE WHAT IT READS IS OF BULK AT MOST 1048576: true; the input reads as it did. -/
def sparseDenseUptoRow : OpenClaim := { program := "ythlpmghodgiknaa", sum := "960cbc126a6cdf7243bd9b31c4538cd95d0d5db92a523827c200b4321335a283", func := "pairing/pairinglaw3.SparseDense", spec := "sparseDense", apart := false, narrowed := true }
def SparseDenseUptoSaid : Prop := sparseDenseUptoRow.holds Try.pinned (OpenSpec.upto sparseDenseSpec)

/-- 'pairinglaw3.SparseMatrix', WHERE WHAT IT READS IS OF BULK AT MOST 1048576: true; the input reads as it did. -/
def sparseMatrixUptoRow : OpenClaim := { program := "ythlpmghodgiknaa", sum := "960cbc126a6cdf7243bd9b31c4538cd95d0d5db92a523827c200b4321335a283", func := "pairing/pairinglaw3.SparseMatrix", spec := "sparseMatrix", apart := false, narrowed := true }
def SparseMatrixUptoSaid : Prop := sparseMatrixUptoRow.holds Try.pinned (OpenSpec.upto sparseMatrixSpec)

/-- 'pairinglaw3.SparseAdjoint', WHERE WHAT IT READS IS OF BULK AT MOST 1048576: true; the input reads as it did. -/
def sparseAdjointUptoRow : OpenClaim := { program := "ythlpmghodgiknaa", sum := "960cbc126a6cdf7243bd9b31c4538cd95d0d5db92a523827c200b4321335a283", func := "pairing/pairinglaw3.SparseAdjoint", spec := "sparseAdjoint", apart := false, narrowed := true }
def SparseAdjointUptoSaid : Prop := sparseAdjointUptoRow.holds Try.pinned (OpenSpec.upto sparseAdjointSpec)

end Rows
end Go.Proofs.Ythlpmghodgiknaa
