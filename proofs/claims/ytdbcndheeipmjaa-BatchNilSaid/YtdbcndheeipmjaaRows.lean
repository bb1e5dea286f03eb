/-
  No cell of these rows narrows 'for every input' (looked for: loops, veiled, ifaces, maps, wideKeys, modest, calm, conditions, laid).
  DERIVED. THE GIVEN ROWS OF THIS SEAT. 2 by the template 'for every input the law returns true; each argument reads behind the call as it read before'; 0 by the template 'total and deterministic' (their statements: YtdbcndheeipmjaaTotals.lean).
  GIVEN WITH THE SEED: the statements are not yours to turn. If you find one false, say at which input.
  Laid BY PROGRAM, IN A SANDBOX (cutbox-rows.mjs): the forced cells as the released guide's own fill.sh prints them over the translation 7381d640e8a3822f… (all of the seat's roots in one cut). By AI agents, Wed Nov 11 2026. No macro, syntax, notation, axiom, sorry.
-/
import Derived.Test.YtdbcndheeipmjaaChecked
import GoSem.Claim
import GoSem.ClaimJoined
import GoSem.ClaimMapViews
import Derived.JoinedTies
import Derived.KernelRfl
namespace Go.Proofs.Ytdbcndheeipmjaa
/- THE CELL 'sum', in the pinned program and in every row, IS THE sha256 OF THE DUMP (.gsa) THAT YtdbcndheeipmjaaProg.lean LOADS. Nothing in Lean hashes anything: it is a label: what it is worth is what the hold of that sum in a sandbox is worth. -/
noncomputable def Try.pinned : Pinned := { name := "ytdbcndheeipmjaa", sum := "7381d640e8a3822fbe3f5e178d2aa7289ba6d0d1a5e49907229d397c119c2aed", checked := Try.checked }
namespace Rows
def none {H : Type} : Left H := { results := [], args := [] }

/-- 'incipitlaw26.BatchNil': WHATEVER THE INPUT: true; the input reads as it did. -/
def batchNilSpec : ChangeSpec := { name := "batchNil", fn := fun _ => fun
  | [d] => { results := [.lit (.bool true)], args := [d] }
  | _ => none }
def batchNilRow : OpenClaim := { program := "ytdbcndheeipmjaa", sum := "7381d640e8a3822fbe3f5e178d2aa7289ba6d0d1a5e49907229d397c119c2aed", func := "incipit/incipitlaw26.BatchNil", spec := "batchNil", inPlace := ["slices.overlaps[incipit/corpus.Doc]"], unfollowed := true, recurses := true, apart := false }
def BatchNilSaid : Prop := batchNilRow.holds Try.pinned (OpenSpec.ofChange batchNilSpec)

/-- ITS FALSE NEIGHBOUR: 'it returns false'. Refute it at one input. -/
def batchNilWrong : ChangeSpec := { name := "batchNil", fn := fun _ => fun
  | [d] => { results := [.lit (.bool false)], args := [d] }
  | _ => none }
def BatchNilWrongFalsely : Prop := batchNilRow.holds Try.pinned (OpenSpec.ofChange batchNilWrong)

/-- 'incipitlaw26.BatchCuts': WHATEVER THE INPUT: true; the input reads as it did. -/
def batchCutsSpec : ChangeSpec := { name := "batchCuts", fn := fun _ => fun
  | [d1, d2, d3] => { results := [.lit (.bool true)], args := [d1, d2, d3] }
  | _ => none }
def batchCutsRow : OpenClaim := { program := "ytdbcndheeipmjaa", sum := "7381d640e8a3822fbe3f5e178d2aa7289ba6d0d1a5e49907229d397c119c2aed", func := "incipit/incipitlaw26.BatchCuts", spec := "batchCuts", inPlace := ["slices.overlaps[incipit/corpus.Doc]"], unfollowed := true, recurses := true, apart := false }
def BatchCutsSaid : Prop := batchCutsRow.holds Try.pinned (OpenSpec.ofChange batchCutsSpec)

/-- ITS FALSE NEIGHBOUR: 'it returns false'. Refute it at one input. -/
def batchCutsWrong : ChangeSpec := { name := "batchCuts", fn := fun _ => fun
  | [d1, d2, d3] => { results := [.lit (.bool false)], args := [d1, d2, d3] }
  | _ => none }
def BatchCutsWrongFalsely : Prop := batchCutsRow.holds Try.pinned (OpenSpec.ofChange batchCutsWrong)

/- THE SECOND FORM. 'bulk': how many values and letters a reading holds, each counted each time it is reached (what is shared counts as often as it is met; a slice's spare places count too). A statement '..UptoSaid' is the law's where the arguments, and the package variables that the reading takes, are together of bulk at most 1048576: NARROWER than '..Said'. Prove '..Said' where nothing that the law and all that it calls make is longer than what came in: it says more and counts as full. Else prove '..UptoSaid'. A law counts once. -/
mutual
def uptoBulk {H : Type} : DataW H → Nat
  | .lit (.string bytes) => bytes.length + 1
  | .lit _ => 1
  | .nil => 1
  | .ptr d => uptoBulk d + 1
  | .slice elems spare => uptoBulkAll elems + uptoBulkAll spare + 1
  | .agg parts => uptoBulkAll parts + 1
  | .iface _ d => uptoBulk d + 1
  | .map entries => uptoBulkEntries entries + 1
  | .held _ => 1
def uptoBulkAll {H : Type} : List (DataW H) → Nat
  | [] => 0
  | d :: r => uptoBulk d + uptoBulkAll r
def uptoBulkEntries {H : Type} : List (Lit × DataW H) → Nat
  | [] => 0
  | x :: r => uptoBulkEntry x + uptoBulkEntries r
def uptoBulkEntry {H : Type} : Lit × DataW H → Nat
  | (.string bytes, d) => bytes.length + uptoBulk d + 1
  | (_, d) => uptoBulk d + 1
 end
def uptoSmall : (H : Type) → List (DataW H) → Bool := fun _ ds => decide (uptoBulkAll ds ≤ 1048576)
def OpenSpec.upto (s : _root_.Go.ChangeSpec) : _root_.Go.OpenSpec := { _root_.Go.OpenSpec.ofChange s with cond := some uptoSmall }

/-- 'incipitlaw26.BatchNil', WHERE WHAT IT READS IS OF BULK AT MOST 1048576: true; the input reads as it did. -/
def batchNilUptoRow : OpenClaim := { program := "ytdbcndheeipmjaa", sum := "7381d640e8a3822fbe3f5e178d2aa7289ba6d0d1a5e49907229d397c119c2aed", func := "incipit/incipitlaw26.BatchNil", spec := "batchNil", inPlace := ["slices.overlaps[incipit/corpus.Doc]"], unfollowed := true, recurses := true, apart := false, narrowed := true }
def BatchNilUptoSaid : Prop := batchNilUptoRow.holds Try.pinned (OpenSpec.upto batchNilSpec)

/-- 'incipitlaw26.BatchCuts', WHERE WHAT IT READS IS OF BULK AT MOST 1048576: true; the input reads as it did. -/
def batchCutsUptoRow : OpenClaim := { program := "ytdbcndheeipmjaa", sum := "7381d640e8a3822fbe3f5e178d2aa7289ba6d0d1a5e49907229d397c119c2aed", func := "incipit/incipitlaw26.BatchCuts", spec := "batchCuts", inPlace := ["slices.overlaps[incipit/corpus.Doc]"], unfollowed := true, recurses := true, apart := false, narrowed := true }
def BatchCutsUptoSaid : Prop := batchCutsUptoRow.holds Try.pinned (OpenSpec.upto batchCutsSpec)

end Rows
end Go.Proofs.Ytdbcndheeipmjaa
