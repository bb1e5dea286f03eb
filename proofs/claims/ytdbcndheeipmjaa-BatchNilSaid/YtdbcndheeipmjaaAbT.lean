/- The types of the seat, as the abstract layer reads them. -/
import Derived.Test.YtdbcndheeipmjaaProg
import Derived.Test.YtdbcndheeipmjaaAbxU
import Derived.KernelRfl
set_option maxRecDepth 100000
namespace Go.Proofs.Ytdbcndheeipmjaa
open Go.Ab
def ts0 : TS := { k := TK.other, size := 1, bytes := 0, zero := [AV.tup []] }
def ts1 : TS := { k := TK.fn, size := 1, bytes := 8, zero := [AV.nilFn] }
def ts2 : TS := { k := TK.int IntKind.i64, size := 1, bytes := 8, zero := [AV.int IntKind.i64 (0)] }
def ts3 : TS := { k := TK.int IntKind.i64, size := 1, bytes := 8, zero := [AV.int IntKind.i64 (0)] }
def ts4 : TS := { k := TK.bool, size := 1, bytes := 1, zero := [AV.bool false] }
def ts5 : TS := { k := TK.int IntKind.u8, size := 1, bytes := 1, zero := [AV.int IntKind.u8 (0)] }
def ts6 : TS := { k := TK.int IntKind.u8, size := 1, bytes := 1, zero := [AV.int IntKind.u8 (0)] }
def ts7 : TS := { k := TK.st [(0, 2), (1, 3), (2, 4), (3, 6)], size := 4, bytes := 24, zero := [AV.int IntKind.i64 (0), AV.int IntKind.i64 (0), AV.bool false, AV.int IntKind.u8 (0)] }
def ts8 : TS := { k := TK.st [(0, 2), (1, 3), (2, 4), (3, 6)], size := 4, bytes := 24, zero := [AV.int IntKind.i64 (0), AV.int IntKind.i64 (0), AV.bool false, AV.int IntKind.u8 (0)] }
def ts9 : TS := { k := TK.str, size := 1, bytes := 16, zero := [AV.str { data := { toList := [] } }] }
def ts10 : TS := { k := TK.str, size := 1, bytes := 16, zero := [AV.str { data := { toList := [] } }] }
def ts11 : TS := { k := TK.str, size := 1, bytes := 16, zero := [AV.str { data := { toList := [] } }] }
def ts12 : TS := { k := TK.int IntKind.u64, size := 1, bytes := 8, zero := [AV.int IntKind.u64 (0)] }
def ts13 : TS := { k := TK.st [(0, 9), (1, 12)], size := 2, bytes := 24, zero := [AV.str { data := { toList := [] } }, AV.int IntKind.u64 (0)] }
def ts14 : TS := { k := TK.st [(0, 9), (1, 12)], size := 2, bytes := 24, zero := [AV.str { data := { toList := [] } }, AV.int IntKind.u64 (0)] }
def ts15 : TS := { k := TK.ptr 133, size := 1, bytes := 8, zero := [AV.ptr none] }
def ts16 : TS := { k := TK.ptr 136, size := 1, bytes := 8, zero := [AV.ptr none] }
def ts17 : TS := { k := TK.ptr 144, size := 1, bytes := 8, zero := [AV.ptr none] }
def ts18 : TS := { k := TK.st [(0, 17)], size := 1, bytes := 8, zero := [AV.ptr none] }
def ts19 : TS := { k := TK.st [(0, 17)], size := 1, bytes := 8, zero := [AV.ptr none] }
def ts21 : TS := { k := TK.int IntKind.i32, size := 1, bytes := 4, zero := [AV.int IntKind.i32 (0)] }
def ts22 : TS := { k := TK.sl 5, size := 1, bytes := 24, zero := [AV.nsl] }
def ts23 : TS := { k := TK.st [(0, 4), (1, 3), (2, 22)], size := 3, bytes := 40, zero := [AV.bool false, AV.int IntKind.i64 (0), AV.nsl] }
def ts24 : TS := { k := TK.st [(0, 4), (1, 3), (2, 22)], size := 3, bytes := 40, zero := [AV.bool false, AV.int IntKind.i64 (0), AV.nsl] }
def ts25 : TS := { k := TK.ptr 53, size := 1, bytes := 8, zero := [AV.ptr none] }
def ts26 : TS := { k := TK.int IntKind.i64, size := 1, bytes := 8, zero := [AV.int IntKind.i64 (0)] }
def ts28 : TS := { k := TK.fn, size := 1, bytes := 8, zero := [AV.nilFn] }
def ts30 : TS := { k := TK.fn, size := 1, bytes := 8, zero := [AV.nilFn] }
def ts31 : TS := { k := TK.fn, size := 1, bytes := 8, zero := [AV.nilFn] }
def ts32 : TS := { k := TK.fn, size := 1, bytes := 8, zero := [AV.nilFn] }
def ts33 : TS := { k := TK.fn, size := 1, bytes := 8, zero := [AV.nilFn] }
def ts34 : TS := { k := TK.sl 47, size := 1, bytes := 24, zero := [AV.nsl] }
def ts35 : TS := { k := TK.fn, size := 1, bytes := 8, zero := [AV.nilFn] }
def ts36 : TS := { k := TK.sl 24, size := 1, bytes := 24, zero := [AV.nsl] }
def ts37 : TS := { k := TK.fn, size := 1, bytes := 8, zero := [AV.nilFn] }
def ts38 : TS := { k := TK.fn, size := 1, bytes := 8, zero := [AV.nilFn] }
def ts39 : TS := { k := TK.fn, size := 1, bytes := 8, zero := [AV.nilFn] }
def ts40 : TS := { k := TK.ptr 75, size := 1, bytes := 8, zero := [AV.ptr none] }
def ts41 : TS := { k := TK.fn, size := 1, bytes := 8, zero := [AV.nilFn] }
def ts42 : TS := { k := TK.fn, size := 1, bytes := 8, zero := [AV.nilFn] }
def ts43 : TS := { k := TK.sl 70, size := 1, bytes := 24, zero := [AV.nsl] }
def ts45 : TS := { k := TK.fn, size := 1, bytes := 8, zero := [AV.nilFn] }
def ts46 : TS := { k := TK.sl 3, size := 1, bytes := 24, zero := [AV.nsl] }
def ts47 : TS := { k := TK.st [(0, 4), (1, 3), (2, 22)], size := 3, bytes := 40, zero := [AV.bool false, AV.int IntKind.i64 (0), AV.nsl] }
def ts48 : TS := { k := TK.fn, size := 1, bytes := 8, zero := [AV.nilFn] }
def ts49 : TS := { k := TK.fn, size := 1, bytes := 8, zero := [AV.nilFn] }
def ts50 : TS := { k := TK.int IntKind.u64, size := 1, bytes := 8, zero := [AV.int IntKind.u64 (0)] }
def ts51 : TS := { k := TK.fn, size := 1, bytes := 8, zero := [AV.nilFn] }
def ts52 : TS := { k := TK.st [(0, 40), (1, 40), (2, 34)], size := 3, bytes := 40, zero := [AV.ptr none, AV.ptr none, AV.nsl] }
def ts53 : TS := { k := TK.st [(0, 40), (1, 40), (2, 34)], size := 3, bytes := 40, zero := [AV.ptr none, AV.ptr none, AV.nsl] }
def ts55 : TS := { k := TK.fn, size := 1, bytes := 8, zero := [AV.nilFn] }
def ts57 : TS := { k := TK.fn, size := 1, bytes := 8, zero := [AV.nilFn] }
def ts58 : TS := { k := TK.fn, size := 1, bytes := 8, zero := [AV.nilFn] }
def ts59 : TS := { k := TK.fn, size := 1, bytes := 8, zero := [AV.nilFn] }
def ts60 : TS := { k := TK.fn, size := 1, bytes := 8, zero := [AV.nilFn] }
def ts61 : TS := { k := TK.fn, size := 1, bytes := 8, zero := [AV.nilFn] }
def ts63 : TS := { k := TK.fn, size := 1, bytes := 8, zero := [AV.nilFn] }
def ts64 : TS := { k := TK.sl 73, size := 1, bytes := 24, zero := [AV.nsl] }
def ts65 : TS := { k := TK.fn, size := 1, bytes := 8, zero := [AV.nilFn] }
def ts66 : TS := { k := TK.fn, size := 1, bytes := 8, zero := [AV.nilFn] }
def ts68 : TS := { k := TK.fn, size := 1, bytes := 8, zero := [AV.nilFn] }
def ts69 : TS := { k := TK.st [(0, 3), (1, 22)], size := 2, bytes := 32, zero := [AV.int IntKind.i64 (0), AV.nsl] }
def ts70 : TS := { k := TK.st [(0, 3), (1, 22)], size := 2, bytes := 32, zero := [AV.int IntKind.i64 (0), AV.nsl] }
def ts71 : TS := { k := TK.sl 73, size := 1, bytes := 24, zero := [AV.nsl] }
def ts72 : TS := { k := TK.fn, size := 1, bytes := 8, zero := [AV.nilFn] }
def ts73 : TS := { k := TK.st [(0, 3), (1, 22)], size := 2, bytes := 32, zero := [AV.int IntKind.i64 (0), AV.nsl] }
def ts74 : TS := { k := TK.st [(0, 71)], size := 1, bytes := 24, zero := [AV.nsl] }
def ts75 : TS := { k := TK.st [(0, 71)], size := 1, bytes := 24, zero := [AV.nsl] }
def ts76 : TS := { k := TK.fn, size := 1, bytes := 8, zero := [AV.nilFn] }
def ts77 : TS := { k := TK.fn, size := 1, bytes := 8, zero := [AV.nilFn] }
def ts78 : TS := { k := TK.fn, size := 1, bytes := 8, zero := [AV.nilFn] }
def ts79 : TS := { k := TK.fn, size := 1, bytes := 8, zero := [AV.nilFn] }
def ts80 : TS := { k := TK.fn, size := 1, bytes := 8, zero := [AV.nilFn] }
def ts81 : TS := { k := TK.fn, size := 1, bytes := 8, zero := [AV.nilFn] }
def ts82 : TS := { k := TK.fn, size := 1, bytes := 8, zero := [AV.nilFn] }
def ts83 : TS := { k := TK.fn, size := 1, bytes := 8, zero := [AV.nilFn] }
def ts84 : TS := { k := TK.fn, size := 1, bytes := 8, zero := [AV.nilFn] }
def ts85 : TS := { k := TK.fn, size := 1, bytes := 8, zero := [AV.nilFn] }
def ts86 : TS := { k := TK.fn, size := 1, bytes := 8, zero := [AV.nilFn] }
def ts87 : TS := { k := TK.fn, size := 1, bytes := 8, zero := [AV.nilFn] }
def ts88 : TS := { k := TK.sl 22, size := 1, bytes := 24, zero := [AV.nsl] }
def ts89 : TS := { k := TK.fn, size := 1, bytes := 8, zero := [AV.nilFn] }
def ts91 : TS := { k := TK.fn, size := 1, bytes := 8, zero := [AV.nilFn] }
def ts93 : TS := { k := TK.fn, size := 1, bytes := 8, zero := [AV.nilFn] }
def ts94 : TS := { k := TK.fn, size := 1, bytes := 8, zero := [AV.nilFn] }
def ts95 : TS := { k := TK.int IntKind.u32, size := 1, bytes := 4, zero := [AV.int IntKind.u32 (0)] }
def ts96 : TS := { k := TK.fn, size := 1, bytes := 8, zero := [AV.nilFn] }
def ts97 : TS := { k := TK.fn, size := 1, bytes := 8, zero := [AV.nilFn] }
def ts99 : TS := { k := TK.fn, size := 1, bytes := 8, zero := [AV.nilFn] }
def ts100 : TS := { k := TK.fn, size := 1, bytes := 8, zero := [AV.nilFn] }
def ts102 : TS := { k := TK.fn, size := 1, bytes := 8, zero := [AV.nilFn] }
def ts103 : TS := { k := TK.fn, size := 1, bytes := 8, zero := [AV.nilFn] }
def ts104 : TS := { k := TK.fn, size := 1, bytes := 8, zero := [AV.nilFn] }
def ts105 : TS := { k := TK.ptr 109, size := 1, bytes := 8, zero := [AV.ptr none] }
def ts106 : TS := { k := TK.st [(0, 22)], size := 1, bytes := 24, zero := [AV.nsl] }
def ts107 : TS := { k := TK.st [(0, 22)], size := 1, bytes := 24, zero := [AV.nsl] }
def ts108 : TS := { k := TK.st [(0, 107), (1, 26)], size := 2, bytes := 32, zero := [AV.nsl, AV.int IntKind.i64 (0)] }
def ts109 : TS := { k := TK.st [(0, 107), (1, 26)], size := 2, bytes := 32, zero := [AV.nsl, AV.int IntKind.i64 (0)] }
def ts110 : TS := { k := TK.fn, size := 1, bytes := 8, zero := [AV.nilFn] }
def ts111 : TS := { k := TK.fn, size := 1, bytes := 8, zero := [AV.nilFn] }
def ts112 : TS := { k := TK.fn, size := 1, bytes := 8, zero := [AV.nilFn] }
def ts113 : TS := { k := TK.int IntKind.u64, size := 1, bytes := 8, zero := [AV.int IntKind.u64 (0)] }
def ts114 : TS := { k := TK.ptr 117, size := 1, bytes := 8, zero := [AV.ptr none] }
def ts115 : TS := { k := TK.int IntKind.u32, size := 1, bytes := 4, zero := [AV.int IntKind.u32 (0)] }
def ts116 : TS := { k := TK.st [(0, 115), (1, 3)], size := 2, bytes := 16, zero := [AV.int IntKind.u32 (0), AV.int IntKind.i64 (0)] }
def ts117 : TS := { k := TK.st [(0, 115), (1, 3)], size := 2, bytes := 16, zero := [AV.int IntKind.u32 (0), AV.int IntKind.i64 (0)] }
def ts118 : TS := { k := TK.fn, size := 1, bytes := 8, zero := [AV.nilFn] }
def ts119 : TS := { k := TK.fn, size := 1, bytes := 8, zero := [AV.nilFn] }
def ts120 : TS := { k := TK.fn, size := 1, bytes := 8, zero := [AV.nilFn] }
def ts121 : TS := { k := TK.fn, size := 1, bytes := 8, zero := [AV.nilFn] }
def ts122 : TS := { k := TK.fn, size := 1, bytes := 8, zero := [AV.nilFn] }
def ts123 : TS := { k := TK.ptr 107, size := 1, bytes := 8, zero := [AV.ptr none] }
def ts124 : TS := { k := TK.arr 256 115, size := 256, bytes := 1024, zero := List.replicate 256 (AV.int IntKind.u32 (0)) }
def ts125 : TS := { k := TK.fn, size := 1, bytes := 8, zero := [AV.nilFn] }
def ts126 : TS := { k := TK.fn, size := 1, bytes := 8, zero := [AV.nilFn] }
def ts127 : TS := { k := TK.ptr 124, size := 1, bytes := 8, zero := [AV.ptr none] }
def ts128 : TS := { k := TK.fn, size := 1, bytes := 8, zero := [AV.nilFn] }
def ts129 : TS := { k := TK.fn, size := 1, bytes := 8, zero := [AV.nilFn] }
def ts130 : TS := { k := TK.fn, size := 1, bytes := 8, zero := [AV.nilFn] }
def ts131 : TS := { k := TK.fn, size := 1, bytes := 8, zero := [AV.nilFn] }
def ts132 : TS := { k := TK.st [(0, 17), (1, 17), (2, 17), (3, 9)], size := 4, bytes := 40, zero := [AV.ptr none, AV.ptr none, AV.ptr none, AV.str { data := { toList := [] } }] }
def ts133 : TS := { k := TK.st [(0, 17), (1, 17), (2, 17), (3, 9)], size := 4, bytes := 40, zero := [AV.ptr none, AV.ptr none, AV.ptr none, AV.str { data := { toList := [] } }] }
def ts134 : TS := { k := TK.arr 0 16, size := 0, bytes := 0, zero := [] }
def ts135 : TS := { k := TK.st [(0, 134)], size := 0, bytes := 0, zero := [] }
def ts136 : TS := { k := TK.st [(0, 134)], size := 0, bytes := 0, zero := [] }
def ts137 : TS := { k := TK.int IntKind.u8, size := 1, bytes := 1, zero := [AV.int IntKind.u8 (0)] }
def ts138 : TS := { k := TK.int IntKind.u8, size := 1, bytes := 1, zero := [AV.int IntKind.u8 (0)] }
def ts139 : TS := { k := TK.fn, size := 1, bytes := 8, zero := [AV.nilFn] }
def ts140 : TS := { k := TK.ptr 5, size := 1, bytes := 8, zero := [AV.ptr none] }
def ts141 : TS := { k := TK.int IntKind.i32, size := 1, bytes := 4, zero := [AV.int IntKind.i32 (0)] }
def ts142 : TS := { k := TK.int IntKind.i32, size := 1, bytes := 4, zero := [AV.int IntKind.i32 (0)] }
def ts143 : TS := { k := TK.st [(0, 12), (1, 12), (2, 95), (3, 137), (4, 5), (5, 5), (6, 138), (7, 139), (8, 140), (9, 141), (10, 142)], size := 11, bytes := 48, zero := [AV.int IntKind.u64 (0), AV.int IntKind.u64 (0), AV.int IntKind.u32 (0), AV.int IntKind.u8 (0), AV.int IntKind.u8 (0), AV.int IntKind.u8 (0), AV.int IntKind.u8 (0), AV.nilFn, AV.ptr none, AV.int IntKind.i32 (0), AV.int IntKind.i32 (0)] }
def ts144 : TS := { k := TK.st [(0, 12), (1, 12), (2, 95), (3, 137), (4, 5), (5, 5), (6, 138), (7, 139), (8, 140), (9, 141), (10, 142)], size := 11, bytes := 48, zero := [AV.int IntKind.u64 (0), AV.int IntKind.u64 (0), AV.int IntKind.u32 (0), AV.int IntKind.u8 (0), AV.int IntKind.u8 (0), AV.int IntKind.u8 (0), AV.int IntKind.u8 (0), AV.nilFn, AV.ptr none, AV.int IntKind.i32 (0), AV.int IntKind.i32 (0)] }
def ts145 : TS := { k := TK.other, size := 1, bytes := 8, zero := [AV.ptr none] }
def tt : Tr TS := (.nd (.nd (.nd (.nd (.nd (.nd (.nd (.nd .lf (some ts127) .lf) (some ts63) .lf) (some ts31) (.nd .lf (some ts95) .lf)) (some ts15) (.nd (.nd (.nd .lf (some ts143) .lf) (some ts79) .lf) (some ts47) (.nd .lf (some ts111) .lf))) (some ts7) (.nd (.nd (.nd (.nd .lf (some ts135) .lf) (some ts71) .lf) (some ts39) (.nd .lf (some ts103) .lf)) (some ts23) (.nd (.nd .lf (some ts87) .lf) (some ts55) (.nd .lf (some ts119) .lf)))) (some ts3) (.nd (.nd (.nd (.nd (.nd .lf (some ts131) .lf) none .lf) (some ts35) (.nd .lf (some ts99) .lf)) (some ts19) (.nd (.nd .lf (some ts83) .lf) (some ts51) (.nd .lf (some ts115) .lf))) (some ts11) (.nd (.nd (.nd (.nd .lf (some ts139) .lf) (some ts75) .lf) (some ts43) (.nd .lf (some ts107) .lf)) none (.nd (.nd .lf (some ts91) .lf) (some ts59) (.nd .lf (some ts123) .lf))))) (some ts1) (.nd (.nd (.nd (.nd (.nd (.nd .lf (some ts129) .lf) (some ts65) .lf) (some ts33) (.nd .lf (some ts97) .lf)) (some ts17) (.nd (.nd (.nd .lf (some ts145) .lf) (some ts81) .lf) (some ts49) (.nd .lf (some ts113) .lf))) (some ts9) (.nd (.nd (.nd (.nd .lf (some ts137) .lf) (some ts73) .lf) (some ts41) (.nd .lf (some ts105) .lf)) (some ts25) (.nd (.nd .lf (some ts89) .lf) (some ts57) (.nd .lf (some ts121) .lf)))) (some ts5) (.nd (.nd (.nd (.nd (.nd .lf (some ts133) .lf) (some ts69) .lf) (some ts37) .lf) (some ts21) (.nd (.nd .lf (some ts85) .lf) (some ts53) (.nd .lf (some ts117) .lf))) (some ts13) (.nd (.nd (.nd (.nd .lf (some ts141) .lf) (some ts77) .lf) (some ts45) (.nd .lf (some ts109) .lf)) none (.nd (.nd .lf (some ts93) .lf) (some ts61) (.nd .lf (some ts125) .lf)))))) (some ts0) (.nd (.nd (.nd (.nd (.nd (.nd (.nd .lf (some ts128) .lf) (some ts64) .lf) (some ts32) (.nd .lf (some ts96) .lf)) (some ts16) (.nd (.nd (.nd .lf (some ts144) .lf) (some ts80) .lf) (some ts48) (.nd .lf (some ts112) .lf))) (some ts8) (.nd (.nd (.nd (.nd .lf (some ts136) .lf) (some ts72) .lf) (some ts40) (.nd .lf (some ts104) .lf)) (some ts24) (.nd (.nd .lf (some ts88) .lf) none (.nd .lf (some ts120) .lf)))) (some ts4) (.nd (.nd (.nd (.nd (.nd .lf (some ts132) .lf) (some ts68) .lf) (some ts36) (.nd .lf (some ts100) .lf)) none (.nd (.nd .lf (some ts84) .lf) (some ts52) (.nd .lf (some ts116) .lf))) (some ts12) (.nd (.nd (.nd (.nd .lf (some ts140) .lf) (some ts76) .lf) none (.nd .lf (some ts108) .lf)) (some ts28) (.nd .lf (some ts60) (.nd .lf (some ts124) .lf))))) (some ts2) (.nd (.nd (.nd (.nd (.nd (.nd .lf (some ts130) .lf) (some ts66) .lf) (some ts34) .lf) (some ts18) (.nd (.nd .lf (some ts82) .lf) (some ts50) (.nd .lf (some ts114) .lf))) (some ts10) (.nd (.nd (.nd (.nd .lf (some ts138) .lf) (some ts74) .lf) (some ts42) (.nd .lf (some ts106) .lf)) (some ts26) (.nd .lf (some ts58) (.nd .lf (some ts122) .lf)))) (some ts6) (.nd (.nd (.nd (.nd (.nd .lf (some ts134) .lf) (some ts70) .lf) (some ts38) (.nd .lf (some ts102) .lf)) (some ts22) (.nd (.nd .lf (some ts86) .lf) none (.nd .lf (some ts118) .lf))) (some ts14) (.nd (.nd (.nd (.nd .lf (some ts142) .lf) (some ts78) .lf) (some ts46) (.nd .lf (some ts110) .lf)) (some ts30) (.nd (.nd .lf (some ts94) .lf) none (.nd .lf (some ts126) .lf)))))))
def T : TT := fun t => tt.get t
theorem tOk : TOk Go.Proofs.Try.prog T := tOk_by (by kernel_rfl : tableOk Go.Proofs.Try.prog tt = true)
end Go.Proofs.Ytdbcndheeipmjaa
