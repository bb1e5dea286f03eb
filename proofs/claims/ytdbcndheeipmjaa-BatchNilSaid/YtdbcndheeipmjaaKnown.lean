/- known() = true, reckoned. -/
import Derived.Test.YtdbcndheeipmjaaCrc
set_option linter.unusedVariables false
namespace Go.Proofs.Ytdbcndheeipmjaa
open Go.Ab
def prims (f : FuncId) (args : List AV) (H : AHeap) : Option (Option (AV × AHeap)) := match f, args with
  | 71, [] => some (some (.agg stepTab, H))
  | _, _ => none
theorem prims_ok (f : FuncId) (args : List AV) (H : AHeap) (r : AV) (H' : AHeap) (h : prims f args H = some (some (r, H'))) : ASpec Try.prog T f args H fun r1 H1 => r1 = r ∧ H1 = H' := by
  unfold prims at h
  split at h
  · injection h with h; injection h with h; injection h with h1 h2; subst h1; subst h2
    exact steps_spec H
  · cases h
theorem reckon {f : FuncId} {args : List AV} {r : AV} {H : AHeap} (h : comesTo (exF Try.prog T prims 1000 20 f args ⟨0, .lf⟩) r = true) (hp : AV.plains args = true) : ASpec Try.prog T f args H fun r1 H1 => r1 = r ∧ H1 = H :=
  .reckon tOk mixed name_ok prims_ok h hp
theorem new_nil (H : AHeap) : ASpec Try.prog T 5 [.ptr none] H fun r1 H1 => r1 = .tup [.ptr none, .int .i64 11] ∧ H1 = H :=
  reckon (by kernel_rfl) rfl
theorem known_true (H : AHeap) : ASpec Try.prog T 8 [] H fun r1 H1 => r1 = .bool true ∧ H1 = H :=
  reckon (by kernel_rfl) rfl
theorem prefix_nil (H : AHeap) : ASpec Try.prog T 7 [.ptr none, .int .i64 0] H fun r1 H1 => r1 = .tup [.ptr none, .int .i64 11] ∧ H1 = H :=
  reckon (by kernel_rfl) rfl
theorem len_nil (H : AHeap) : ASpec Try.prog T 11 [.ptr none] H fun r1 H1 => r1 = .int .i64 0 ∧ H1 = H :=
  reckon (by kernel_rfl) rfl
theorem ops_nil (H : AHeap) : ASpec Try.prog T 12 [.ptr none] H fun r1 H1 => r1 = .nsl ∧ H1 = H :=
  reckon (by kernel_rfl) rfl
theorem bytes_nil (H : AHeap) : ASpec Try.prog T 13 [.ptr none] H fun r1 H1 => r1 = .nsl ∧ H1 = H :=
  reckon (by kernel_rfl) rfl
theorem target_nil (H : AHeap) : ASpec Try.prog T 14 [.ptr none] H fun r1 H1 => r1 = .ptr none ∧ H1 = H :=
  reckon (by kernel_rfl) rfl
theorem base_nil (H : AHeap) : ASpec Try.prog T 15 [.ptr none] H fun r1 H1 => r1 = .ptr none ∧ H1 = H :=
  reckon (by kernel_rfl) rfl
end Go.Proofs.Ytdbcndheeipmjaa
