/- The seat's program: what all its proofs lean on. -/
import Derived.Test.YtdbcndheeipmjaaAbT
import Derived.Test.YtdbcndheeipmjaaAbxW
set_option linter.unusedVariables false
namespace Go.Proofs.Ytdbcndheeipmjaa
open Go.Ab
theorem mixed : Try.prog.follows .mixedOrders = true := by kernel_rfl
theorem names_ok : Try.prog.funcs.toList.all (fun fn => !(fn.name == "runtime.NumGoroutine")) = true := by kernel_rfl
theorem name_ok (f : FuncId) (fn : Func) (h : Try.prog.funcs[f]? = some fn) : (fn.name == "runtime.NumGoroutine") = false := by
  have := List.all_eq_true.1 names_ok fn (by rw [← Array.getElem?_toList] at h; exact List.mem_of_getElem? h)
  simpa using this
theorem eq4 (a b : Bool) : abin T .eql 4 (.bool a) (.bool b) = some (.bool (a == b)) := eq_bool (by kernel_rfl : T 4 = some ts4) rfl a b
theorem ne4 (a b : Bool) : abin T .neq 4 (.bool a) (.bool b) = some (.bool (!(a == b))) := neq_bool (by kernel_rfl : T 4 = some ts4) rfl a b
theorem eq15 (a : Option AA) : abin T .eql 15 (.ptr a) (.ptr none) = some (.bool a.isNone) := eq_ptr (by kernel_rfl : T 15 = some ts15) rfl a
theorem ne15 (a : Option AA) : abin T .neq 15 (.ptr a) (.ptr none) = some (.bool (!a.isNone)) := neq_ptr (by kernel_rfl : T 15 = some ts15) rfl a
theorem eq16 (a : Option AA) : abin T .eql 16 (.ptr a) (.ptr none) = some (.bool a.isNone) := eq_ptr (by kernel_rfl : T 16 = some ts16) rfl a
theorem ne16 (a : Option AA) : abin T .neq 16 (.ptr a) (.ptr none) = some (.bool (!a.isNone)) := neq_ptr (by kernel_rfl : T 16 = some ts16) rfl a
theorem eq17 (a : Option AA) : abin T .eql 17 (.ptr a) (.ptr none) = some (.bool a.isNone) := eq_ptr (by kernel_rfl : T 17 = some ts17) rfl a
theorem ne17 (a : Option AA) : abin T .neq 17 (.ptr a) (.ptr none) = some (.bool (!a.isNone)) := neq_ptr (by kernel_rfl : T 17 = some ts17) rfl a
theorem eqn22 : abin T .eql 22 .nsl .nsl = some (.bool true) := eq_nsl (by kernel_rfl : T 22 = some ts22) rfl
theorem nen22 : abin T .neq 22 .nsl .nsl = some (.bool false) := neq_nsl (by kernel_rfl : T 22 = some ts22) rfl
theorem eq22 (a : AA) (n : Nat) (c : Option Nat) : abin T .eql 22 (.sl a n c) .nsl = some (.bool false) := eq_sl (by kernel_rfl : T 22 = some ts22) rfl a n c
theorem ne22 (a : AA) (n : Nat) (c : Option Nat) : abin T .neq 22 (.sl a n c) .nsl = some (.bool true) := neq_sl (by kernel_rfl : T 22 = some ts22) rfl a n c
theorem app22 {s x : AV} {H : AHeap} (hx : x.isInt = false) : mAppend T 22 22 s x H = apA 5 1 1 H s x := append_apA (by kernel_rfl : T 22 = some ts22) rfl (by kernel_rfl : T 5 = some ts5) (by decide) rfl hx
theorem lst22 {n : Nat} {q : List (Nat × AV)} {H : AHeap} : mList T 22 n q H = lstA 5 1 [.int .u8 (0)] n q H := list_lstA (by kernel_rfl : T 22 = some ts22) rfl (by kernel_rfl : T 5 = some ts5) (by decide) rfl
theorem asl22 {x : AV} {H : AHeap} {lo hi mx : Option AV} : aslice T H 22 x lo hi mx = sliceS 5 1 H x lo hi mx := slice_sliceS (by kernel_rfl : T 22 = some ts22) rfl (by kernel_rfl : T 5 = some ts5)
theorem eq25 (a : Option AA) : abin T .eql 25 (.ptr a) (.ptr none) = some (.bool a.isNone) := eq_ptr (by kernel_rfl : T 25 = some ts25) rfl a
theorem ne25 (a : Option AA) : abin T .neq 25 (.ptr a) (.ptr none) = some (.bool (!a.isNone)) := neq_ptr (by kernel_rfl : T 25 = some ts25) rfl a
theorem eqn34 : abin T .eql 34 .nsl .nsl = some (.bool true) := eq_nsl (by kernel_rfl : T 34 = some ts34) rfl
theorem nen34 : abin T .neq 34 .nsl .nsl = some (.bool false) := neq_nsl (by kernel_rfl : T 34 = some ts34) rfl
theorem eq34 (a : AA) (n : Nat) (c : Option Nat) : abin T .eql 34 (.sl a n c) .nsl = some (.bool false) := eq_sl (by kernel_rfl : T 34 = some ts34) rfl a n c
theorem ne34 (a : AA) (n : Nat) (c : Option Nat) : abin T .neq 34 (.sl a n c) .nsl = some (.bool true) := neq_sl (by kernel_rfl : T 34 = some ts34) rfl a n c
theorem app34 {s x : AV} {H : AHeap} (hx : x.isInt = false) : mAppend T 34 34 s x H = apA 47 3 40 H s x := append_apA (by kernel_rfl : T 34 = some ts34) rfl (by kernel_rfl : T 47 = some ts47) (by decide) rfl hx
theorem lst34 {n : Nat} {q : List (Nat × AV)} {H : AHeap} : mList T 34 n q H = lstA 47 3 [.bool false, .int .i64 (0), .nsl] n q H := list_lstA (by kernel_rfl : T 34 = some ts34) rfl (by kernel_rfl : T 47 = some ts47) (by decide) rfl
theorem asl34 {x : AV} {H : AHeap} {lo hi mx : Option AV} : aslice T H 34 x lo hi mx = sliceS 47 3 H x lo hi mx := slice_sliceS (by kernel_rfl : T 34 = some ts34) rfl (by kernel_rfl : T 47 = some ts47)
theorem eqn36 : abin T .eql 36 .nsl .nsl = some (.bool true) := eq_nsl (by kernel_rfl : T 36 = some ts36) rfl
theorem nen36 : abin T .neq 36 .nsl .nsl = some (.bool false) := neq_nsl (by kernel_rfl : T 36 = some ts36) rfl
theorem eq36 (a : AA) (n : Nat) (c : Option Nat) : abin T .eql 36 (.sl a n c) .nsl = some (.bool false) := eq_sl (by kernel_rfl : T 36 = some ts36) rfl a n c
theorem ne36 (a : AA) (n : Nat) (c : Option Nat) : abin T .neq 36 (.sl a n c) .nsl = some (.bool true) := neq_sl (by kernel_rfl : T 36 = some ts36) rfl a n c
theorem app36 {s x : AV} {H : AHeap} (hx : x.isInt = false) : mAppend T 36 36 s x H = apA 24 3 40 H s x := append_apA (by kernel_rfl : T 36 = some ts36) rfl (by kernel_rfl : T 24 = some ts24) (by decide) rfl hx
theorem lst36 {n : Nat} {q : List (Nat × AV)} {H : AHeap} : mList T 36 n q H = lstA 24 3 [.bool false, .int .i64 (0), .nsl] n q H := list_lstA (by kernel_rfl : T 36 = some ts36) rfl (by kernel_rfl : T 24 = some ts24) (by decide) rfl
theorem asl36 {x : AV} {H : AHeap} {lo hi mx : Option AV} : aslice T H 36 x lo hi mx = sliceS 24 3 H x lo hi mx := slice_sliceS (by kernel_rfl : T 36 = some ts36) rfl (by kernel_rfl : T 24 = some ts24)
theorem eq40 (a : Option AA) : abin T .eql 40 (.ptr a) (.ptr none) = some (.bool a.isNone) := eq_ptr (by kernel_rfl : T 40 = some ts40) rfl a
theorem ne40 (a : Option AA) : abin T .neq 40 (.ptr a) (.ptr none) = some (.bool (!a.isNone)) := neq_ptr (by kernel_rfl : T 40 = some ts40) rfl a
theorem eqn43 : abin T .eql 43 .nsl .nsl = some (.bool true) := eq_nsl (by kernel_rfl : T 43 = some ts43) rfl
theorem nen43 : abin T .neq 43 .nsl .nsl = some (.bool false) := neq_nsl (by kernel_rfl : T 43 = some ts43) rfl
theorem eq43 (a : AA) (n : Nat) (c : Option Nat) : abin T .eql 43 (.sl a n c) .nsl = some (.bool false) := eq_sl (by kernel_rfl : T 43 = some ts43) rfl a n c
theorem ne43 (a : AA) (n : Nat) (c : Option Nat) : abin T .neq 43 (.sl a n c) .nsl = some (.bool true) := neq_sl (by kernel_rfl : T 43 = some ts43) rfl a n c
theorem app43 {s x : AV} {H : AHeap} (hx : x.isInt = false) : mAppend T 43 43 s x H = apA 70 2 32 H s x := append_apA (by kernel_rfl : T 43 = some ts43) rfl (by kernel_rfl : T 70 = some ts70) (by decide) rfl hx
theorem lst43 {n : Nat} {q : List (Nat × AV)} {H : AHeap} : mList T 43 n q H = lstA 70 2 [.int .i64 (0), .nsl] n q H := list_lstA (by kernel_rfl : T 43 = some ts43) rfl (by kernel_rfl : T 70 = some ts70) (by decide) rfl
theorem asl43 {x : AV} {H : AHeap} {lo hi mx : Option AV} : aslice T H 43 x lo hi mx = sliceS 70 2 H x lo hi mx := slice_sliceS (by kernel_rfl : T 43 = some ts43) rfl (by kernel_rfl : T 70 = some ts70)
theorem eqn46 : abin T .eql 46 .nsl .nsl = some (.bool true) := eq_nsl (by kernel_rfl : T 46 = some ts46) rfl
theorem nen46 : abin T .neq 46 .nsl .nsl = some (.bool false) := neq_nsl (by kernel_rfl : T 46 = some ts46) rfl
theorem eq46 (a : AA) (n : Nat) (c : Option Nat) : abin T .eql 46 (.sl a n c) .nsl = some (.bool false) := eq_sl (by kernel_rfl : T 46 = some ts46) rfl a n c
theorem ne46 (a : AA) (n : Nat) (c : Option Nat) : abin T .neq 46 (.sl a n c) .nsl = some (.bool true) := neq_sl (by kernel_rfl : T 46 = some ts46) rfl a n c
theorem app46 {s x : AV} {H : AHeap} (hx : x.isInt = false) : mAppend T 46 46 s x H = apA 3 1 8 H s x := append_apA (by kernel_rfl : T 46 = some ts46) rfl (by kernel_rfl : T 3 = some ts3) (by decide) rfl hx
theorem lst46 {n : Nat} {q : List (Nat × AV)} {H : AHeap} : mList T 46 n q H = lstA 3 1 [.int .i64 (0)] n q H := list_lstA (by kernel_rfl : T 46 = some ts46) rfl (by kernel_rfl : T 3 = some ts3) (by decide) rfl
theorem asl46 {x : AV} {H : AHeap} {lo hi mx : Option AV} : aslice T H 46 x lo hi mx = sliceS 3 1 H x lo hi mx := slice_sliceS (by kernel_rfl : T 46 = some ts46) rfl (by kernel_rfl : T 3 = some ts3)
theorem eqn64 : abin T .eql 64 .nsl .nsl = some (.bool true) := eq_nsl (by kernel_rfl : T 64 = some ts64) rfl
theorem nen64 : abin T .neq 64 .nsl .nsl = some (.bool false) := neq_nsl (by kernel_rfl : T 64 = some ts64) rfl
theorem eq64 (a : AA) (n : Nat) (c : Option Nat) : abin T .eql 64 (.sl a n c) .nsl = some (.bool false) := eq_sl (by kernel_rfl : T 64 = some ts64) rfl a n c
theorem ne64 (a : AA) (n : Nat) (c : Option Nat) : abin T .neq 64 (.sl a n c) .nsl = some (.bool true) := neq_sl (by kernel_rfl : T 64 = some ts64) rfl a n c
theorem app64 {s x : AV} {H : AHeap} (hx : x.isInt = false) : mAppend T 64 64 s x H = apA 73 2 32 H s x := append_apA (by kernel_rfl : T 64 = some ts64) rfl (by kernel_rfl : T 73 = some ts73) (by decide) rfl hx
theorem lst64 {n : Nat} {q : List (Nat × AV)} {H : AHeap} : mList T 64 n q H = lstA 73 2 [.int .i64 (0), .nsl] n q H := list_lstA (by kernel_rfl : T 64 = some ts64) rfl (by kernel_rfl : T 73 = some ts73) (by decide) rfl
theorem asl64 {x : AV} {H : AHeap} {lo hi mx : Option AV} : aslice T H 64 x lo hi mx = sliceS 73 2 H x lo hi mx := slice_sliceS (by kernel_rfl : T 64 = some ts64) rfl (by kernel_rfl : T 73 = some ts73)
theorem eqn71 : abin T .eql 71 .nsl .nsl = some (.bool true) := eq_nsl (by kernel_rfl : T 71 = some ts71) rfl
theorem nen71 : abin T .neq 71 .nsl .nsl = some (.bool false) := neq_nsl (by kernel_rfl : T 71 = some ts71) rfl
theorem eq71 (a : AA) (n : Nat) (c : Option Nat) : abin T .eql 71 (.sl a n c) .nsl = some (.bool false) := eq_sl (by kernel_rfl : T 71 = some ts71) rfl a n c
theorem ne71 (a : AA) (n : Nat) (c : Option Nat) : abin T .neq 71 (.sl a n c) .nsl = some (.bool true) := neq_sl (by kernel_rfl : T 71 = some ts71) rfl a n c
theorem app71 {s x : AV} {H : AHeap} (hx : x.isInt = false) : mAppend T 71 71 s x H = apA 73 2 32 H s x := append_apA (by kernel_rfl : T 71 = some ts71) rfl (by kernel_rfl : T 73 = some ts73) (by decide) rfl hx
theorem lst71 {n : Nat} {q : List (Nat × AV)} {H : AHeap} : mList T 71 n q H = lstA 73 2 [.int .i64 (0), .nsl] n q H := list_lstA (by kernel_rfl : T 71 = some ts71) rfl (by kernel_rfl : T 73 = some ts73) (by decide) rfl
theorem asl71 {x : AV} {H : AHeap} {lo hi mx : Option AV} : aslice T H 71 x lo hi mx = sliceS 73 2 H x lo hi mx := slice_sliceS (by kernel_rfl : T 71 = some ts71) rfl (by kernel_rfl : T 73 = some ts73)
theorem eqn88 : abin T .eql 88 .nsl .nsl = some (.bool true) := eq_nsl (by kernel_rfl : T 88 = some ts88) rfl
theorem nen88 : abin T .neq 88 .nsl .nsl = some (.bool false) := neq_nsl (by kernel_rfl : T 88 = some ts88) rfl
theorem eq88 (a : AA) (n : Nat) (c : Option Nat) : abin T .eql 88 (.sl a n c) .nsl = some (.bool false) := eq_sl (by kernel_rfl : T 88 = some ts88) rfl a n c
theorem ne88 (a : AA) (n : Nat) (c : Option Nat) : abin T .neq 88 (.sl a n c) .nsl = some (.bool true) := neq_sl (by kernel_rfl : T 88 = some ts88) rfl a n c
theorem app88 {s x : AV} {H : AHeap} (hx : x.isInt = false) : mAppend T 88 88 s x H = apA 22 1 24 H s x := append_apA (by kernel_rfl : T 88 = some ts88) rfl (by kernel_rfl : T 22 = some ts22) (by decide) rfl hx
theorem lst88 {n : Nat} {q : List (Nat × AV)} {H : AHeap} : mList T 88 n q H = lstA 22 1 [.nsl] n q H := list_lstA (by kernel_rfl : T 88 = some ts88) rfl (by kernel_rfl : T 22 = some ts22) (by decide) rfl
theorem asl88 {x : AV} {H : AHeap} {lo hi mx : Option AV} : aslice T H 88 x lo hi mx = sliceS 22 1 H x lo hi mx := slice_sliceS (by kernel_rfl : T 88 = some ts88) rfl (by kernel_rfl : T 22 = some ts22)
theorem eq105 (a : Option AA) : abin T .eql 105 (.ptr a) (.ptr none) = some (.bool a.isNone) := eq_ptr (by kernel_rfl : T 105 = some ts105) rfl a
theorem ne105 (a : Option AA) : abin T .neq 105 (.ptr a) (.ptr none) = some (.bool (!a.isNone)) := neq_ptr (by kernel_rfl : T 105 = some ts105) rfl a
theorem eq114 (a : Option AA) : abin T .eql 114 (.ptr a) (.ptr none) = some (.bool a.isNone) := eq_ptr (by kernel_rfl : T 114 = some ts114) rfl a
theorem ne114 (a : Option AA) : abin T .neq 114 (.ptr a) (.ptr none) = some (.bool (!a.isNone)) := neq_ptr (by kernel_rfl : T 114 = some ts114) rfl a
theorem eq123 (a : Option AA) : abin T .eql 123 (.ptr a) (.ptr none) = some (.bool a.isNone) := eq_ptr (by kernel_rfl : T 123 = some ts123) rfl a
theorem ne123 (a : Option AA) : abin T .neq 123 (.ptr a) (.ptr none) = some (.bool (!a.isNone)) := neq_ptr (by kernel_rfl : T 123 = some ts123) rfl a
theorem eq127 (a : Option AA) : abin T .eql 127 (.ptr a) (.ptr none) = some (.bool a.isNone) := eq_ptr (by kernel_rfl : T 127 = some ts127) rfl a
theorem ne127 (a : Option AA) : abin T .neq 127 (.ptr a) (.ptr none) = some (.bool (!a.isNone)) := neq_ptr (by kernel_rfl : T 127 = some ts127) rfl a
theorem eq140 (a : Option AA) : abin T .eql 140 (.ptr a) (.ptr none) = some (.bool a.isNone) := eq_ptr (by kernel_rfl : T 140 = some ts140) rfl a
theorem ne140 (a : Option AA) : abin T .neq 140 (.ptr a) (.ptr none) = some (.bool (!a.isNone)) := neq_ptr (by kernel_rfl : T 140 = some ts140) rfl a
end Go.Proofs.Ytdbcndheeipmjaa
