/- Functions of the program, in shallow words; each by one equation. -/
import Derived.Test.YtdbcndheeipmjaaAbB
set_option linter.unusedVariables false
set_option maxRecDepth 100000
noncomputable section
namespace Go.Proofs.Ytdbcndheeipmjaa
open Go.Ab
-- incipit/incipitlaw26.BatchNil
def law26_BatchNil_g1 (Q : AV → W) (t71 t75x1 : AV) : W := wP (aPick t71 t75x1 (.bool false)) fun t76 => wG t76 true (fun k => wC Try.prog T 15 [.ptr none] fun t79 => wP (abin T .eql 40 t79 (.ptr none)) fun t80 => k t80) (fun t80x1 => wP (aPick t76 t80x1 (.bool false)) fun t81 => Q t81)
def law26_BatchNil_g2 (Q : AV → W) (t65 t70x1 : AV) : W := wP (aPick t65 t70x1 (.bool false)) fun t71 => wG t71 true (fun k => wC Try.prog T 14 [.ptr none] fun t74 => wP (abin T .eql 40 t74 (.ptr none)) fun t75 => k t75) (law26_BatchNil_g1 Q t71)
def law26_BatchNil_g3 (Q : AV → W) (t59 t64x1 : AV) : W := wP (aPick t59 t64x1 (.bool false)) fun t65 => wG t65 true (fun k => wC Try.prog T 13 [.ptr none] fun t68 => wP (lenS t68) fun t69 => wP (abin T .eql 3 t69 (.int .i64 0)) fun t70 => k t70) (law26_BatchNil_g2 Q t65)
def law26_BatchNil_g4 (Q : AV → W) (t54 t58x1 : AV) : W := wP (aPick t54 t58x1 (.bool false)) fun t59 => wG t59 true (fun k => wC Try.prog T 12 [.ptr none] fun t62 => wP (lenS t62) fun t63 => wP (abin T .eql 3 t63 (.int .i64 0)) fun t64 => k t64) (law26_BatchNil_g3 Q t59)
def law26_BatchNil_g5 (Q : AV → W) (t46 t53x1 : AV) : W := wP (aPick t46 t53x1 (.bool false)) fun t54 => wG t54 true (fun k => wC Try.prog T 11 [.ptr none] fun t57 => wP (abin T .eql 3 t57 (.int .i64 0)) fun t58 => k t58) (law26_BatchNil_g4 Q t54)
def law26_BatchNil_g6 (Q : AV → W) (t1 t42 t45x1 : AV) : W := wP (aPick t42 t45x1 (.bool false)) fun t46 => wG t46 true (fun k => wO (ldn 3 t1) fun t49 => wO (mList T 36 1 [(0, t49)]) fun t50 => wC Try.prog T 10 [t50, .int .i64 1] fun t51 => wC Try.prog T 9 [.ptr none, t51] fun t52 => wP (abin T .eql 26 t52 (.int .i64 11)) fun t53 => k t53) (law26_BatchNil_g5 Q t46)
def law26_BatchNil_g7 (Q : AV → W) (t1 t25 t38 t41x1 : AV) : W := wP (aPick t38 t41x1 (.bool false)) fun t42 => wG t42 true (fun k => wP (abin T .eql 26 t25 (.int .i64 11)) fun t45 => k t45) (law26_BatchNil_g6 Q t1 t42)
def law26_BatchNil_g8 (Q : AV → W) (t1 t20 t25 t34 t37x1 : AV) : W := wP (aPick t34 t37x1 (.bool false)) fun t38 => wG t38 true (fun k => wP (abin T .eql 26 t20 (.int .i64 11)) fun t41 => k t41) (law26_BatchNil_g7 Q t1 t25 t38)
def law26_BatchNil_g9 (Q : AV → W) (t1 t19 t20 t25 t30 t33x1 : AV) : W := wP (aPick t30 t33x1 (.bool false)) fun t34 => wG t34 true (fun k => wP (abin T .eql 3 t19 (.int .i64 0)) fun t37 => k t37) (law26_BatchNil_g8 Q t1 t20 t25 t34)
def law26_BatchNil_g10 (Q : AV → W) (t1 t18 t19 t20 t25 t26 t29x1 : AV) : W := wP (aPick t26 t29x1 (.bool false)) fun t30 => wG t30 true (fun k => wP (abin T .eql 25 t18 (.ptr none)) fun t33 => k t33) (law26_BatchNil_g9 Q t1 t19 t20 t25 t30)
def law26_BatchNil_b11 (Q : AV → W) (t1 t14 t17 : AV) : W := wP (aextract t17 0) fun t18 => wP (aextract t17 1) fun t19 => wP (aextract t17 2) fun t20 => wC Try.prog T 7 [.ptr none, .int .i64 0] fun t23 => wP (aextract t23 0) fun t24 => wP (aextract t23 1) fun t25 => wC Try.prog T 8 [] fun t26 => wG t26 true (fun k => wP (abin T .eql 26 t14 (.int .i64 11)) fun t29 => k t29) (law26_BatchNil_g10 Q t1 t18 t19 t20 t25 t26)
def law26_BatchNil (Q : AV → W) (t0 : AV) : W := wO (mBox 24 t0) fun t1 => wC Try.prog T 5 [.ptr none] fun t12 => wP (aextract t12 0) fun t13 => wP (aextract t12 1) fun t14 => wO (mList T 22 1 [(0, .int .u8 1)]) fun t16 => wC Try.prog T 6 [.ptr none, t16] fun t17 => law26_BatchNil_b11 Q t1 t14 t17
def law26_BatchNil_a : Ann := (.seq (.reg [2]) none (.seq (.reg [1]) none (.seq (.reg [6]) none (.seq (.reg [9]) none (.seq (.reg [7]) none (.seq (.reg [2, 2, 2, 2, 2, 2, 2, 2, 2, 2, 2, 6, 2, 3, 2, 4, 2, 4, 2, 3, 2, 3, 2]) none .z))))))
theorem law26_BatchNil_d : @law26_BatchNil = fun Q t0 => denF Try.prog T 82 (bodyOf Try.f3) law26_BatchNil_a [.tmp 2] Q [t0] := by kernel_rfl
theorem law26_BatchNil_ok {Q : AV → W} {H : AHeap} {t0 : AV} (h : law26_BatchNil Q t0 H) : ASpec Try.prog T 3 [t0] H Q :=
  denF_ok tOk mixed Try.func3 Try.ntmps3 (by kernel_rfl : _ = some (bodyOf Try.f3)) (by kernel_rfl : _ = [.tmp 2]) (by kernel_rfl) (Nat.le_of_ble_eq_true rfl) (congrFun (congrFun law26_BatchNil_d Q) t0) h

-- incipit/incipitlaw26.BatchCuts
def law26_BatchCuts_g1 (Q : AV → W) (t121 t128 t153 t158x1 : AV) : W := wP (aPick t153 t158x1 (.bool false)) fun t159 => wG t159 true (fun k => wC Try.prog T 14 [t121] fun t162 => wC Try.prog T 14 [t128] fun t164 => wC Try.prog T 18 [t162, t164] fun t165 => k t165) (fun t165x1 => wP (aPick t159 t165x1 (.bool false)) fun t166 => Q t166)
def law26_BatchCuts_g2 (Q : AV → W) (t18 t121 t128 t142 t152x1 : AV) : W := wP (aPick t142 t152x1 (.bool false)) fun t153 => wG t153 true (fun k => wC Try.prog T 11 [t121] fun t156 => wP (abin T .eql 3 t156 t18) fun t158 => k t158) (law26_BatchCuts_g1 Q t121 t128 t153)
def law26_BatchCuts_g3 (Q : AV → W) (t2 t11 t18 t121 t123 t128 t134 t141x1 : AV) : W := wP (aPick t134 t141x1 (.bool false)) fun t142 => wG t142 true (fun k => wP (abin T .eql 26 t123 (.int .i64 0)) fun t145 => wP (ix 1 t11 t18) fun t149 => wO (ld t149) fun t150 => wP (abin T .eql 3 t2 t150) fun t151 => wP (abin T .eql 4 t145 t151) fun t152 => k t152) (law26_BatchCuts_g2 Q t18 t121 t128 t142)
def law26_BatchCuts_g4 (Q : AV → W) (t2 t11 t18 t121 t122 t123 t128 t130 t133x1 : AV) : W := wP (aPick t130 t133x1 (.bool false)) fun t134 => wG t134 true (fun k => wP (ix 1 t11 t18) fun t139 => wO (ld t139) fun t140 => wP (abin T .eql 3 t122 t140) fun t141 => k t141) (law26_BatchCuts_g3 Q t2 t11 t18 t121 t123 t128 t134)
def law26_BatchCuts_b5 (Q : AV → W) (t2 t9 t11 t18 t120 : AV) : W := wP (aextract t120 0) fun t121 => wP (aextract t120 1) fun t122 => wP (aextract t120 2) fun t123 => wC Try.prog T 7 [t9, t18] fun t127 => wP (aextract t127 0) fun t128 => wP (aextract t127 1) fun t129 => wC Try.prog T 8 [] fun t130 => wG t130 true (fun k => wP (abin T .eql 26 t129 (.int .i64 0)) fun t133 => k t133) (law26_BatchCuts_g4 Q t2 t11 t18 t121 t122 t123 t128 t130)
def law26_BatchCuts_b6 (Q : AV → W) (t2 t7 t9 t11 t14 t18 : AV) : W := wO (slS 5 1 t14 none (some t2) none) fun t119 => wC Try.prog T 6 [t7, t119] fun t120 => law26_BatchCuts_b5 Q t2 t9 t11 t18 t120
def law26_BatchCuts_g8 (k1 : AV → AV → AV → AV → AV → AV → W) (back1 : AV → W) (t2 t7 t9 t11 t14 t18 t103 t111x1 : AV) : W := wP (aPick t103 t111x1 (.bool false)) fun t112 => wIf t112 (wP (abin T .add 3 t18 (.int .i64 1)) fun t114 => back1 t114) (k1 t2 t7 t9 t11 t14 t18)
def law26_BatchCuts_L7 (k1 : AV → AV → AV → AV → AV → AV → W) (t2 t7 t9 t11 t14 : AV) (back1 : AV → W) (t18 : AV) : W := wP (abin T .add 3 t18 (.int .i64 1)) fun t100 => wP (lenS t11) fun t102 => wP (abin T .lss 3 t100 t102) fun t103 => wG t103 true (fun k => wP (abin T .add 3 t18 (.int .i64 1)) fun t107 => wP (ix 1 t11 t107) fun t108 => wO (ld t108) fun t109 => wP (abin T .leq 3 t109 t2) fun t111 => k t111) (law26_BatchCuts_g8 k1 back1 t2 t7 t9 t11 t14 t18 t103)
def law26_BatchCuts_b9 (Q : AV → W) (t2 t7 t9 t11 t14 : AV) : W := wP (cvI .u64 t2) fun t92 => wP (lenS t14) fun t94 => wP (abin T .add 3 t94 (.int .i64 1)) fun t95 => wP (cvI .u64 t95) fun t96 => wP (abin T .rem 50 t92 t96) fun t97 => wP (cvI .i64 t97) fun t98 => wLet6 (law26_BatchCuts_b6 Q) fun k1 => wLoop1 (law26_BatchCuts_L7 k1 t98 t7 t9 t11 t14) (.int .i64 0)
def law26_BatchCuts_g10 (Q : AV → W) (k2 : AV → AV → AV → AV → AV → W) (t2 t7 t9 t11 t60 t82 t89x1 : AV) : W := wP (aPick t82 (.bool true) t89x1) fun t90 => wIf t90 (Q (.bool false)) (k2 t2 t7 t9 t11 t60)
def law26_BatchCuts_g11 (Q : AV → W) (k2 : AV → AV → AV → AV → AV → W) (t2 t7 t9 t11 t60 t65 t75 t81x1 : AV) : W := wP (aPick t75 (.bool true) t81x1) fun t82 => wG t82 false (fun k => wC Try.prog T 14 [t65] fun t85 => wC Try.prog T 14 [t9] fun t87 => wC Try.prog T 18 [t85, t87] fun t88 => wP (aun .not t88) fun t89 => k t89) (law26_BatchCuts_g10 Q k2 t2 t7 t9 t11 t60 t82)
def law26_BatchCuts_g12 (Q : AV → W) (k2 : AV → AV → AV → AV → AV → W) (t2 t7 t9 t11 t60 t65 t69 t74x1 : AV) : W := wP (aPick t69 (.bool true) t74x1) fun t75 => wG t75 false (fun k => wC Try.prog T 13 [t65] fun t78 => wC Try.prog T 17 [t78, t60] fun t80 => wP (aun .not t80) fun t81 => k t81) (law26_BatchCuts_g11 Q k2 t2 t7 t9 t11 t60 t65 t75)
def law26_BatchCuts_b13 (Q : AV → W) (t2 t7 t9 t11 t60 t64 : AV) : W := wP (aextract t64 0) fun t65 => wP (aextract t64 1) fun t66 => wP (aextract t64 2) fun t67 => wLet5 (law26_BatchCuts_b9 Q) fun k2 => wP (abin T .neq 26 t67 (.int .i64 0)) fun t69 => wG t69 false (fun k => wP (lenS t60) fun t73 => wP (abin T .neq 3 t66 t73) fun t74 => k t74) (law26_BatchCuts_g12 Q k2 t2 t7 t9 t11 t60 t65 t69)
def law26_BatchCuts_b14 (Q : AV → W) (t2 t7 t9 t11 : AV) : W := wC Try.prog T 13 [t9] fun t60 => wC Try.prog T 6 [t7, t60] fun t64 => law26_BatchCuts_b13 Q t2 t7 t9 t11 t60 t64
def law26_BatchCuts_b16 (back2 : AV → AV → W) (t2 t7 t9 t11 t12 t13 : AV) : W := wP (abin T .add 3 t13 (.int .i64 1)) fun t44 => back2 t11 t44
def law26_BatchCuts_b17 (back2 : AV → AV → W) (t2 t7 t9 t11 t12 t13 : AV) : W := wLet6 (law26_BatchCuts_b16 back2) fun k4 => wP (ix 3 t12 t13) fun t48 => wO (ldn 3 t48) fun t49 => wO (mList T 34 1 [(0, t49)]) fun t50 => wC Try.prog T 9 [t9, t50] fun t51 => wP (abin T .eql 26 t51 (.int .i64 0)) fun t52 => wIf t52 (wC Try.prog T 13 [t9] fun t55 => wP (lenS t55) fun t56 => wO (mList T 46 1 [(0, t56)]) fun t57 => wO (mAppend T 46 46 t11 t57) fun t58 => k4 t2 t7 t9 t58 t12 t13) (k4 t2 t7 t9 t11 t12 t13)
def law26_BatchCuts_L15 (k3 : AV → AV → AV → AV → W) (t2 t7 t9 t12 : AV) (back2 : AV → AV → W) (t11 t13 : AV) : W := wLet6 (law26_BatchCuts_b17 back2) fun k5 => wP (lenS t12) fun t41 => wP (abin T .lss 3 t13 t41) fun t42 => wIf t42 (k5 t2 t7 t9 t11 t12 t13) (k3 t2 t7 t9 t11)
def law26_BatchCuts_b18 (Q : AV → W) (t1 t2 t7 t9 : AV) : W := wO (mList T 46 1 [(0, .int .i64 0)]) fun t36 => wC Try.prog T 10 [t1, .int .i64 12] fun t38 => wLet4 (law26_BatchCuts_b14 Q) fun k3 => wLoop2 (law26_BatchCuts_L15 k3 t2 t7 t9 t38) t36 (.int .i64 0)
def law26_BatchCuts_b19 (Q : AV → W) (t1 t2 t26 : AV) : W := wP (aextract t26 0) fun t27 => wP (aextract t26 1) fun t28 => wC Try.prog T 5 [t27] fun t31 => wP (aextract t31 0) fun t32 => wP (aextract t31 1) fun t33 => wLet4 (law26_BatchCuts_b18 Q) fun k6 => wP (abin T .neq 26 t33 (.int .i64 0)) fun t35 => wIf t35 (Q (.bool false)) (k6 t1 t2 t27 t32)
def law26_BatchCuts (Q : AV → W) (t0 t1 t2 : AV) : W := wC Try.prog T 16 [t0] fun t26 => law26_BatchCuts_b19 Q t1 t2 t26
def law26_BatchCuts_a : Ann := (.seq (.reg [1]) none (.seq (.reg [7]) none (.seq (.reg [7]) none (.join (.seq (.reg [2]) none (.cond (.seq (.reg [1]) none .z) .z)) [1, 2, 7, 9] (.seq (.reg [2]) none (.seq (.reg [3]) none (.join (.seq (.reg [1]) none (.sub (.loop [11, 13] [2, 7, 9, 12] (.join (.seq (.reg [4]) none (.cond .z .z)) [2, 7, 9, 11, 12, 13] (.join (.sub (.seq (.reg [8]) none (.cond (.reg [7]) .z))) [2, 7, 9, 11, 12, 13] (.reg [3])))))) [2, 7, 9, 11] (.seq (.reg [3]) none (.seq (.reg [10]) none (.join (.seq (.reg [3, 4, 2, 5, 2, 6, 1]) none (.cond (.seq (.reg [1]) none .z) .z)) [2, 7, 9, 11, 14] (.seq (.reg [9]) none (.seq (.reg [1]) none (.join (.sub (.loop [18] [2, 7, 9, 11, 14] (.seq (.seq (.reg [6, 7, 1]) none (.cond .z .z)) (some [2, 7, 9, 11, 14, 18]) (.sub (.reg [3]))))) [2, 7, 9, 11, 14, 18] (.seq (.reg [12]) none (.seq (.reg [8]) none (.seq (.reg [2, 2, 2, 6, 2, 9, 2, 4, 2, 5, 2]) none .z))))))))))))))))
theorem law26_BatchCuts_d : @law26_BatchCuts = fun Q t0 t1 t2 => denF Try.prog T 167 (bodyOf Try.f4) law26_BatchCuts_a [.tmp 6] Q [t0, t1, t2] := by kernel_rfl
theorem law26_BatchCuts_ok {Q : AV → W} {H : AHeap} {t0 t1 t2 : AV} (h : law26_BatchCuts Q t0 t1 t2 H) : ASpec Try.prog T 4 [t0, t1, t2] H Q :=
  denF_ok tOk mixed Try.func4 Try.ntmps4 (by kernel_rfl : _ = some (bodyOf Try.f4)) (by kernel_rfl : _ = [.tmp 6]) (by kernel_rfl) (Nat.le_of_ble_eq_true rfl) (congrFun (congrFun (congrFun (congrFun law26_BatchCuts_d Q) t0) t1) t2) h

-- incipit/batch.New
def batch_New_b1 (Q : AV → W) (t0 : AV) : W := wC Try.prog T 19 [t0] fun t7 => wC Try.prog T 19 [t0] fun t9 => wP (abuild T 53 [(0, t7), (1, t9)]) fun t10 => wO (mBox 53 t10) fun t11 => Q (.tup [t11, .int .i64 0])
def batch_New (Q : AV → W) (t0 : AV) : W := wLet1 (batch_New_b1 Q) fun k1 => wP (abin T .eql 40 t0 (.ptr none)) fun t5 => wIf t5 (Q (.tup [.ptr none, .int .i64 11])) (k1 t0)
def batch_New_a : Ann := (.seq (.reg [2]) none (.join (.seq (.reg [2]) none (.cond (.seq (.reg [2]) none .z) .z)) [0] (.seq (.reg [8]) none .z)))
theorem batch_New_d : @batch_New = fun Q t0 => denF Try.prog T 12 (bodyOf Try.f5) batch_New_a [.tmp 2, .tmp 3] Q [t0] := by kernel_rfl
theorem batch_New_ok {Q : AV → W} {H : AHeap} {t0 : AV} (h : batch_New Q t0 H) : ASpec Try.prog T 5 [t0] H Q :=
  denF_ok tOk mixed Try.func5 Try.ntmps5 (by kernel_rfl : _ = some (bodyOf Try.f5)) (by kernel_rfl : _ = [.tmp 2, .tmp 3]) (by kernel_rfl) (Nat.le_of_ble_eq_true rfl) (congrFun (congrFun batch_New_d Q) t0) h

-- incipit/batch.Read
def batch_Read_b1 (Q : AV → W) (t1 t7 t8 t9 : AV) : W := wP (lenS t1) fun t43 => wP (lenS t9) fun t45 => wP (abin T .sub 3 t43 t45) fun t46 => Q (.tup [t7, t46, t8])
def batch_Read_b3 (k1 : AV → AV → AV → AV → W) (back1 : AV → AV → W) (t1 t7 t8 t9 t11 t12 : AV) : W := wP (abin T .neq 26 t12 (.int .i64 0)) fun t38 => wIf t38 (k1 t1 t7 t12 t9) (back1 t8 t11)
def batch_Read_b4 (k1 : AV → AV → AV → AV → W) (back1 : AV → AV → W) (t1 t7 t8 t9 t27 : AV) : W := wP (aextract t27 0) fun t28 => wP (aextract t27 1) fun t29 => wP (aextract t27 2) fun t30 => wO (new 47 [.bool false, .int .i64 (0), .nsl]) fun t10 => wO (st 3 t10 t28) fun _ => wLet6 (batch_Read_b3 k1 back1) fun k2 => wP (abin T .eql 26 t30 (.int .i64 0)) fun t32 => wIf t32 (wO (ldn 3 t10) fun t34 => wO (mList T 34 1 [(0, t34)]) fun t35 => wC Try.prog T 9 [t7, t35] fun t36 => k2 t1 t7 t8 t9 t29 t36) (k2 t1 t7 t8 t9 t29 t30)
def batch_Read_b5 (k1 : AV → AV → AV → AV → W) (back1 : AV → AV → W) (t1 t7 t8 t9 : AV) : W := wC Try.prog T 20 [t9] fun t27 => batch_Read_b4 k1 back1 t1 t7 t8 t9 t27
def batch_Read_L2 (k1 : AV → AV → AV → AV → W) (t1 t7 : AV) (back1 : AV → AV → W) (t8 t9 : AV) : W := wLet4 (batch_Read_b5 k1 back1) fun k3 => wP (lenS t9) fun t23 => wP (abin T .gtr 3 t23 (.int .i64 0)) fun t24 => wIf t24 (k3 t1 t7 t8 t9) (k1 t1 t7 t8 t9)
def batch_Read_b6 (Q : AV → W) (t1 t7 t8 : AV) : W := wLet4 (batch_Read_b1 Q) fun k1 => wLoop2 (batch_Read_L2 k1 t1 t7) t8 t1
def batch_Read (Q : AV → W) (t0 t1 : AV) : W := wC Try.prog T 5 [t0] fun t15 => wP (aextract t15 0) fun t16 => wP (aextract t15 1) fun t17 => wLet3 (batch_Read_b6 Q) fun k4 => wP (abin T .neq 26 t17 (.int .i64 0)) fun t19 => wIf t19 (Q (.tup [.ptr none, .int .i64 0, t17])) (k4 t1 t16 t17)
def batch_Read_a : Ann := (.seq (.reg [3]) none (.sub (.seq (.reg [7]) none (.join (.seq (.reg [2]) none (.cond (.seq (.reg [4]) none .z) .z)) [1, 7, 8] (.seq (.reg [2]) none (.seq .z none (.join (.sub (.loop [8, 9] [1, 7] (.join (.seq (.reg [3]) none (.cond .z .z)) [1, 7, 8, 9] (.sub (.seq (.reg [10]) none (.join (.seq (.reg [2]) none (.cond (.reg [5]) .z)) [1, 7, 8, 9, 11, 12] (.seq (.seq (.reg [2]) none (.cond (.seq (.reg [2]) none .z) .z)) (some [1, 7, 8, 11]) (.reg [2])))))))) [1, 7, 8, 9] (.seq (.reg [10]) none .z))))))))
theorem batch_Read_d : @batch_Read = fun Q t0 t1 => denF Try.prog T 48 (bodyOf Try.f6) batch_Read_a [.tmp 4, .tmp 5, .tmp 6] Q [t0, t1] := by kernel_rfl
theorem batch_Read_ok {Q : AV → W} {H : AHeap} {t0 t1 : AV} (h : batch_Read Q t0 t1 H) : ASpec Try.prog T 6 [t0, t1] H Q :=
  denF_ok tOk mixed Try.func6 Try.ntmps6 (by kernel_rfl : _ = some (bodyOf Try.f6)) (by kernel_rfl : _ = [.tmp 4, .tmp 5, .tmp 6]) (by kernel_rfl) (Nat.le_of_ble_eq_true rfl) (congrFun (congrFun (congrFun batch_Read_d Q) t0) t1) h

-- (*incipit/batch.Batch).Prefix
def batch_Batch_Prefix_b1 (Q : AV → W) (t0 t1 : AV) : W := wP (aNil t0) fun t25 => wP (po 1 t25) fun t26 => wO (ld t26) fun t27 => wC Try.prog T 5 [t27] fun t28 => wP (aextract t28 0) fun t29 => wP (aextract t28 1) fun t30 => wP (aNil t0) fun t34 => wP (po 2 t34) fun t35 => wO (ld t35) fun t36 => wO (slS 47 3 t36 none (some t1) none) fun t38 => wC Try.prog T 9 [t29, t38] fun t39 => Q (.tup [t29, t39])
def batch_Batch_Prefix_g2 (Q : AV → W) (k1 : AV → AV → W) (t0 t1 t13 t21x1 : AV) : W := wP (aPick t13 (.bool true) t21x1) fun t22 => wIf t22 (Q (.tup [.ptr none, .int .i64 10])) (k1 t0 t1)
def batch_Batch_Prefix (Q : AV → W) (t0 t1 : AV) : W := wLet2 (batch_Batch_Prefix_b1 Q) fun k1 => wP (abin T .eql 25 t0 (.ptr none)) fun t10 => wIf t10 (Q (.tup [.ptr none, .int .i64 11])) (wP (abin T .lss 3 t1 (.int .i64 0)) fun t13 => wG t13 false (fun k => wP (aNil t0) fun t17 => wP (po 2 t17) fun t18 => wO (ld t18) fun t19 => wP (lenS t19) fun t20 => wP (abin T .gtr 3 t1 t20) fun t21 => k t21) (batch_Batch_Prefix_g2 Q k1 t0 t1 t13))
def batch_Batch_Prefix_a : Ann := (.seq (.reg [2]) none (.join (.sub (.seq (.reg [3]) none (.cond (.seq (.reg [2]) none .z) (.seq (.reg [3, 7, 2]) none (.cond (.seq (.reg [2]) none .z) .z))))) [0, 1] (.seq (.reg [10]) none (.seq (.reg [11]) none .z))))
theorem batch_Batch_Prefix_d : @batch_Batch_Prefix = fun Q t0 t1 => denF Try.prog T 40 (bodyOf Try.f7) batch_Batch_Prefix_a [.tmp 4, .tmp 5] Q [t0, t1] := by kernel_rfl
theorem batch_Batch_Prefix_ok {Q : AV → W} {H : AHeap} {t0 t1 : AV} (h : batch_Batch_Prefix Q t0 t1 H) : ASpec Try.prog T 7 [t0, t1] H Q :=
  denF_ok tOk mixed Try.func7 Try.ntmps7 (by kernel_rfl : _ = some (bodyOf Try.f7)) (by kernel_rfl : _ = [.tmp 4, .tmp 5]) (by kernel_rfl) (Nat.le_of_ble_eq_true rfl) (congrFun (congrFun (congrFun batch_Batch_Prefix_d Q) t0) t1) h

-- incipit/incipitlaw26.known
def law26_known_g1 (Q : AV → W) (t6 t14 t19x1 : AV) : W := wP (aPick t14 t19x1 (.bool false)) fun t20 => wG t20 true (fun k => wP (ix 1 t6 (.int .i64 1)) fun t23 => wO (ld t23) fun t24 => wP (abin T .eql 5 t24 (.int .u8 5)) fun t25 => k t25) (fun t25x1 => wP (aPick t20 t25x1 (.bool false)) fun t26 => Q t26)
def law26_known_g2 (Q : AV → W) (t6 t9 t13x1 : AV) : W := wP (aPick t9 t13x1 (.bool false)) fun t14 => wG t14 true (fun k => wP (ix 1 t6 (.int .i64 0)) fun t17 => wO (ld t17) fun t18 => wP (abin T .eql 5 t18 (.int .u8 2)) fun t19 => k t19) (law26_known_g1 Q t6 t14)
def law26_known (Q : AV → W) : W := wP (abuild T 47 [(0, .bool true), (1, .int .i64 5)]) fun t4 => wC Try.prog T 21 [t4] fun t5 => wP (aextract t5 0) fun t6 => wP (aextract t5 1) fun t7 => wP (abin T .eql 26 t7 (.int .i64 0)) fun t9 => wG t9 true (fun k => wP (lenS t6) fun t12 => wP (abin T .eql 3 t12 (.int .i64 6)) fun t13 => k t13) (law26_known_g2 Q t6 t9)
def law26_known_a : Ann := (.seq (.reg [1]) none (.seq (.reg [7]) none (.seq (.reg [3, 3, 2, 4, 2, 4, 2]) none .z)))
theorem law26_known_d : @law26_known = fun Q => denF Try.prog T 27 (bodyOf Try.f8) law26_known_a [.tmp 0] Q [] := by kernel_rfl
theorem law26_known_ok {Q : AV → W} {H : AHeap} (h : law26_known Q  H) : ASpec Try.prog T 8 [] H Q :=
  denF_ok tOk mixed Try.func8 Try.ntmps8 (by kernel_rfl : _ = some (bodyOf Try.f8)) (by kernel_rfl : _ = [.tmp 0]) (by kernel_rfl) (Nat.le_of_ble_eq_true rfl) (congrFun law26_known_d Q) h

-- (*incipit/batch.Batch).Do
def batch_Batch_Do_b1 (Q : AV → W) (t0 t5 t6 : AV) : W := wP (aNil t0) fun t53 => wP (po 0 t53) fun t54 => wO (st 1 t54 t5) fun _ => wP (aNil t0) fun t55 => wP (po 2 t55) fun t56 => wO (st 1 t56 t6) fun _ => Q (.int .i64 0)
def batch_Batch_Do_b3 (back1 : AV → AV → W) (t0 t5 t6 t8 t23 t24 t25 : AV) : W := wO (ldn 3 t8) fun t44 => wC Try.prog T 25 [t44] fun t45 => wO (mList T 34 1 [(0, t45)]) fun t46 => wO (mAppend T 34 34 t6 t46) fun t47 => wP (abin T .add 3 t25 (.int .i64 1)) fun t48 => back1 t47 t48
def batch_Batch_Do_b4 (Q : AV → W) (back1 : AV → AV → W) (t0 t5 t6 t8 t23 t24 t25 : AV) : W := wLet7 (batch_Batch_Do_b3 back1) fun k2 => wO (ldn 3 t8) fun t37 => wC Try.prog T 24 [t37, t5] fun t39 => wP (abin T .neq 26 t39 (.int .i64 0)) fun t41 => wIf t41 (Q t39) (k2 t0 t5 t6 t8 t23 t24 t25)
def batch_Batch_Do_b5 (Q : AV → W) (back1 : AV → AV → W) (t0 t5 t6 t8 t23 t24 t25 : AV) : W := wLet7 (batch_Batch_Do_b4 Q back1) fun k3 => wP (lenS t6) fun t35 => wP (abin T .eql 3 t35 (.int .i64 64)) fun t36 => wIf t36 (Q (.int .i64 2)) (k3 t0 t5 t6 t8 t23 t24 t25)
def batch_Batch_Do_b6 (Q : AV → W) (back1 : AV → AV → W) (t0 t5 t6 t23 t24 t25 : AV) : W := wP (ix 3 t23 t25) fun t27 => wO (ldn 3 t27) fun t28 => wO (new 47 [.bool false, .int .i64 (0), .nsl]) fun t8 => wO (st 3 t8 t28) fun _ => wLet7 (batch_Batch_Do_b5 Q back1) fun k4 => wO (ldn 3 t8) fun t29 => wC Try.prog T 23 [t29] fun t30 => wP (abin T .neq 26 t30 (.int .i64 0)) fun t32 => wIf t32 (Q t30) (k4 t0 t5 t6 t8 t23 t24 t25)
def batch_Batch_Do_L2 (Q : AV → W) (k1 : AV → AV → AV → W) (t0 t5 t23 t24 : AV) (back1 : AV → AV → W) (t6 t25 : AV) : W := wP (abin T .lss 3 t25 t24) fun t26 => wLet6 (batch_Batch_Do_b6 Q back1) fun k5 => wIf t26 (k5 t0 t5 t6 t23 t24 t25) (k1 t0 t5 t6)
def batch_Batch_Do_b7 (Q : AV → W) (t0 t1 : AV) : W := wD fun ls1 => wP (aNil t0) fun t14 => wP (po 0 t14) fun t15 => wO (ldX ls1 t15) fun t16 => wP (aNil t0) fun t19 => wP (po 2 t19) fun t20 => wO (ldX ls1 t20) fun t21 => wCX ls1 Try.prog T 19 [t16] fun t17 => wCX ls1 Try.prog T 22 [t21] fun t22 => wLet3 (batch_Batch_Do_b1 Q) fun k1 => wP (lenS t1) fun t24 => wLoop2 (batch_Batch_Do_L2 Q k1 t0 t17 t1 t24) t22 (.int .i64 0)
def batch_Batch_Do (Q : AV → W) (t0 t1 : AV) : W := wLet2 (batch_Batch_Do_b7 Q) fun k6 => wP (abin T .eql 25 t0 (.ptr none)) fun t12 => wIf t12 (Q (.int .i64 11)) (k6 t0 t1)
def batch_Batch_Do_a : Ann := (.seq (.reg [1]) none (.join (.seq (.reg [2]) none (.cond (.seq (.reg [1]) none .z) .z)) [0, 1] (.seq (.plan true (.st 0 false (.st 1 false (.st 2 false (.st 3 false (.st 5 false (.st 6 false (.st 7 false (.st 8 false (.alt 4 (.alt 9 (.st 10 false (.st 11 false .done)) .nil) .nil)))))))))) none (.join (.seq (.reg [3]) none (.sub (.loop [6, 25] [0, 5, 23, 24] (.seq (.reg [1]) none (.join (.cond .z .z) [0, 5, 6, 23, 24, 25] (.seq (.sub (.seq (.reg [4]) none (.join (.seq (.reg [3]) none (.seq (.reg [2]) none (.cond (.seq (.reg [2]) none .z) .z))) [0, 5, 6, 8, 23, 24, 25] (.join (.seq (.reg [3]) none (.cond (.seq (.reg [1]) none .z) .z)) [0, 5, 6, 8, 23, 24, 25] (.join (.seq (.reg [4]) none (.seq (.reg [2]) none (.cond (.seq (.reg [2]) none .z) .z))) [0, 5, 6, 8, 23, 24, 25] (.reg [6])))))) (some [0, 5, 6, 23, 24, 25]) (.reg [2]))))))) [0, 5, 6] (.seq (.reg [10]) none (.seq (.reg [1]) none .z))))))
theorem batch_Batch_Do_d : @batch_Batch_Do = fun Q t0 t1 => denF Try.prog T 57 (bodyOf Try.f9) batch_Batch_Do_a [.tmp 4] Q [t0, t1] := by kernel_rfl
theorem batch_Batch_Do_ok {Q : AV → W} {H : AHeap} {t0 t1 : AV} (h : batch_Batch_Do Q t0 t1 H) : ASpec Try.prog T 9 [t0, t1] H Q :=
  denF_ok tOk mixed Try.func9 Try.ntmps9 (by kernel_rfl : _ = some (bodyOf Try.f9)) (by kernel_rfl : _ = [.tmp 4]) (by kernel_rfl) (Nat.le_of_ble_eq_true rfl) (congrFun (congrFun (congrFun batch_Batch_Do_d Q) t0) t1) h

-- incipit/incipitlaw26.To
def law26_To_b2 (back1 : AV → AV → W) (t0 t1 t5 t6 : AV) : W := wD fun ls1 => wP (ix 3 t0 t6) fun t21 => wP (po 0 t21) fun t22 => wO (ldX ls1 t22) fun t23 => wP (ix 3 t0 t6) fun t26 => wP (po 1 t26) fun t27 => wO (ldX ls1 t27) fun t28 => wP (ix 3 t0 t6) fun t32 => wP (po 2 t32) fun t33 => wO (ldX ls1 t33) fun t34 => wP (ix 3 t0 t6) fun t37 => wP (po 2 t37) fun t38 => wO (ldX ls1 t38) fun t39 => wP (lenS t39) fun t40 => wP (aMin [t40, .int .i64 1100]) fun t41 => wO (mSliceX ls1 T 22 t34 none (some t41) none) fun t42 => wO (mList T 22 0 []) fun t29 => wOX ls1 (mAppend T 22 22 t29 t42) fun t43 => wP (abuild T 47 [(0, t23), (1, t28), (2, t43)]) fun t44 => wO (mList T 34 1 [(0, t44)]) fun t45 => wOX ls1 (mAppend T 34 34 t5 t45) fun t46 => wP (abin T .add 3 t6 (.int .i64 1)) fun t17 => back1 t46 t17
def law26_To_L1 (Q : AV → W) (t0 t1 : AV) (back1 : AV → AV → W) (t5 t6 : AV) : W := wLet4 (law26_To_b2 back1) fun k1 => wP (lenS t0) fun t9 => wP (abin T .lss 3 t6 t9) fun t10 => wG t10 true (fun k => wP (abin T .lss 3 t6 t1) fun t14 => k t14) (fun t14x1 => wP (aPick t10 t14x1 (.bool false)) fun t15 => wIf t15 (k1 t0 t1 t5 t6) (Q t5))
def law26_To (Q : AV → W) (t0 t1 : AV) : W := wLoop2 (law26_To_L1 Q t0 t1) .nsl (.int .i64 0)
def law26_To_a : Ann := (.seq (.reg [1]) none (.seq (.reg [1]) none (.seq (.seq (.reg [1]) none (.sub (.loop [5, 6] [0, 1] (.join (.seq (.reg [5, 3, 1]) none (.cond .z .z)) [0, 1, 5, 6] (.seq (.sub (.plan true (.st 0 false (.st 1 false (.st 2 false (.st 3 false (.st 4 false (.st 5 false (.st 6 false (.st 7 false (.st 8 false (.st 9 false (.st 10 false (.st 12 false (.st 13 false (.st 14 false (.st 15 false (.st 16 false (.st 17 false (.st 18 false (.st 19 false (.st 20 false (.st 21 false (.st 22 false (.st 23 false (.st 24 false (.alt 11 (.alt 25 (.st 26 false (.alt 27 (.alt 28 (.st 29 false .done) .nil) .nil)) .nil) .nil))))))))))))))))))))))))))) (some [0, 1, 5, 6]) (.reg [3])))))) (some [5]) (.seq (.reg [2]) none .z))))
theorem law26_To_d : @law26_To = fun Q t0 t1 => denF Try.prog T 48 (bodyOf Try.f10) law26_To_a [.tmp 4] Q [t0, t1] := by kernel_rfl
theorem law26_To_ok {Q : AV → W} {H : AHeap} {t0 t1 : AV} (h : law26_To Q t0 t1 H) : ASpec Try.prog T 10 [t0, t1] H Q :=
  denF_ok tOk mixed Try.func10 Try.ntmps10 (by kernel_rfl : _ = some (bodyOf Try.f10)) (by kernel_rfl : _ = [.tmp 4]) (by kernel_rfl) (Nat.le_of_ble_eq_true rfl) (congrFun (congrFun (congrFun law26_To_d Q) t0) t1) h

-- (*incipit/batch.Batch).Len
def batch_Batch_Len_b1 (Q : AV → W) (t0 : AV) : W := wP (aNil t0) fun t6 => wP (po 2 t6) fun t7 => wO (ld t7) fun t8 => wP (lenS t8) fun t9 => Q t9
def batch_Batch_Len (Q : AV → W) (t0 : AV) : W := wLet1 (batch_Batch_Len_b1 Q) fun k1 => wP (abin T .eql 25 t0 (.ptr none)) fun t4 => wIf t4 (Q (.int .i64 0)) (k1 t0)
def batch_Batch_Len_a : Ann := (.seq (.reg [1]) none (.join (.seq (.reg [2]) none (.cond (.seq (.reg [1]) none .z) .z)) [0] (.seq (.reg [6]) none .z)))
theorem batch_Batch_Len_d : @batch_Batch_Len = fun Q t0 => denF Try.prog T 10 (bodyOf Try.f11) batch_Batch_Len_a [.tmp 2] Q [t0] := by kernel_rfl
theorem batch_Batch_Len_ok {Q : AV → W} {H : AHeap} {t0 : AV} (h : batch_Batch_Len Q t0 H) : ASpec Try.prog T 11 [t0] H Q :=
  denF_ok tOk mixed Try.func11 Try.ntmps11 (by kernel_rfl : _ = some (bodyOf Try.f11)) (by kernel_rfl : _ = [.tmp 2]) (by kernel_rfl) (Nat.le_of_ble_eq_true rfl) (congrFun (congrFun batch_Batch_Len_d Q) t0) h

-- (*incipit/batch.Batch).Ops
def batch_Batch_Ops_b2 (back1 : AV → AV → W) (t0 t3 t6 t7 : AV) : W := wP (aNil t0) fun t12 => wP (po 2 t12) fun t13 => wO (ld t13) fun t14 => wP (ix 3 t14 t7) fun t16 => wO (ldn 3 t16) fun t17 => wC Try.prog T 25 [t17] fun t18 => wO (mList T 34 1 [(0, t18)]) fun t19 => wO (mAppend T 34 34 t3 t19) fun t20 => wP (abin T .add 3 t7 (.int .i64 1)) fun t21 => back1 t20 t21
def batch_Batch_Ops_L1 (Q : AV → W) (t0 t6 : AV) (back1 : AV → AV → W) (t3 t7 : AV) : W := wP (abin T .lss 3 t7 t6) fun t8 => wLet4 (batch_Batch_Ops_b2 back1) fun k1 => wIf t8 (k1 t0 t3 t6 t7) (Q t3)
def batch_Batch_Ops (Q : AV → W) (t0 : AV) : W := wC Try.prog T 11 [t0] fun t6 => wLoop2 (batch_Batch_Ops_L1 Q t0 t6) .nsl (.int .i64 0)
def batch_Batch_Ops_a : Ann := (.seq (.reg [1]) none (.seq (.reg [1]) none (.seq (.seq (.reg [3]) none (.sub (.loop [3, 7] [0, 6] (.seq (.reg [1]) none (.join (.cond .z .z) [0, 3, 6, 7] (.seq (.sub (.seq (.reg [2]) none (.reg [12]))) (some [0, 3, 6, 7]) (.reg [2]))))))) (some [3]) (.seq (.reg [2]) none .z))))
theorem batch_Batch_Ops_d : @batch_Batch_Ops = fun Q t0 => denF Try.prog T 23 (bodyOf Try.f12) batch_Batch_Ops_a [.tmp 2] Q [t0] := by kernel_rfl
theorem batch_Batch_Ops_ok {Q : AV → W} {H : AHeap} {t0 : AV} (h : batch_Batch_Ops Q t0 H) : ASpec Try.prog T 12 [t0] H Q :=
  denF_ok tOk mixed Try.func12 Try.ntmps12 (by kernel_rfl : _ = some (bodyOf Try.f12)) (by kernel_rfl : _ = [.tmp 2]) (by kernel_rfl) (Nat.le_of_ble_eq_true rfl) (congrFun (congrFun batch_Batch_Ops_d Q) t0) h

-- (*incipit/batch.Batch).Bytes
def batch_Batch_Bytes_b2 (back1 : AV → AV → W) (t3 t9 t10 t11 : AV) : W := wP (ix 3 t9 t11) fun t13 => wO (ldn 3 t13) fun t14 => wO (new 47 [.bool false, .int .i64 (0), .nsl]) fun t5 => wO (st 3 t5 t14) fun _ => wO (ldn 3 t5) fun t16 => wC Try.prog T 21 [t16] fun t17 => wP (aextract t17 0) fun t18 => wP (aextract t17 1) fun t19 => wO (mAppend T 22 22 t3 t18) fun t22 => wP (abin T .add 3 t11 (.int .i64 1)) fun t23 => back1 t22 t23
def batch_Batch_Bytes_L1 (Q : AV → W) (t9 t10 : AV) (back1 : AV → AV → W) (t3 t11 : AV) : W := wP (abin T .lss 3 t11 t10) fun t12 => wLet4 (batch_Batch_Bytes_b2 back1) fun k1 => wIf t12 (k1 t3 t9 t10 t11) (Q t3)
def batch_Batch_Bytes (Q : AV → W) (t0 : AV) : W := wC Try.prog T 12 [t0] fun t9 => wP (lenS t9) fun t10 => wLoop2 (batch_Batch_Bytes_L1 Q t9 t10) .nsl (.int .i64 0)
def batch_Batch_Bytes_a : Ann := (.seq (.reg [1]) none (.seq (.reg [1]) none (.seq (.seq (.reg [4]) none (.sub (.loop [3, 11] [9, 10] (.seq (.reg [1]) none (.join (.cond .z .z) [3, 9, 10, 11] (.seq (.sub (.seq (.reg [4]) none (.seq (.reg [7]) none (.reg [4])))) (some [3, 9, 10, 11]) (.reg [2]))))))) (some [3]) (.seq (.reg [2]) none .z))))
theorem batch_Batch_Bytes_d : @batch_Batch_Bytes = fun Q t0 => denF Try.prog T 25 (bodyOf Try.f13) batch_Batch_Bytes_a [.tmp 2] Q [t0] := by kernel_rfl
theorem batch_Batch_Bytes_ok {Q : AV → W} {H : AHeap} {t0 : AV} (h : batch_Batch_Bytes Q t0 H) : ASpec Try.prog T 13 [t0] H Q :=
  denF_ok tOk mixed Try.func13 Try.ntmps13 (by kernel_rfl : _ = some (bodyOf Try.f13)) (by kernel_rfl : _ = [.tmp 2]) (by kernel_rfl) (Nat.le_of_ble_eq_true rfl) (congrFun (congrFun batch_Batch_Bytes_d Q) t0) h

-- (*incipit/batch.Batch).Target
def batch_Batch_Target_b1 (Q : AV → W) (t0 : AV) : W := wP (aNil t0) fun t6 => wP (po 0 t6) fun t7 => wO (ld t7) fun t8 => wC Try.prog T 19 [t8] fun t9 => Q t9
def batch_Batch_Target (Q : AV → W) (t0 : AV) : W := wLet1 (batch_Batch_Target_b1 Q) fun k1 => wP (abin T .eql 25 t0 (.ptr none)) fun t4 => wIf t4 (Q (.ptr none)) (k1 t0)
def batch_Batch_Target_a : Ann := (.seq (.reg [1]) none (.join (.seq (.reg [2]) none (.cond (.seq (.reg [1]) none .z) .z)) [0] (.seq (.reg [6]) none .z)))
theorem batch_Batch_Target_d : @batch_Batch_Target = fun Q t0 => denF Try.prog T 10 (bodyOf Try.f14) batch_Batch_Target_a [.tmp 2] Q [t0] := by kernel_rfl
theorem batch_Batch_Target_ok {Q : AV → W} {H : AHeap} {t0 : AV} (h : batch_Batch_Target Q t0 H) : ASpec Try.prog T 14 [t0] H Q :=
  denF_ok tOk mixed Try.func14 Try.ntmps14 (by kernel_rfl : _ = some (bodyOf Try.f14)) (by kernel_rfl : _ = [.tmp 2]) (by kernel_rfl) (Nat.le_of_ble_eq_true rfl) (congrFun (congrFun batch_Batch_Target_d Q) t0) h

-- (*incipit/batch.Batch).Base
def batch_Batch_Base_b1 (Q : AV → W) (t0 : AV) : W := wP (aNil t0) fun t6 => wP (po 1 t6) fun t7 => wO (ld t7) fun t8 => wC Try.prog T 19 [t8] fun t9 => Q t9
def batch_Batch_Base (Q : AV → W) (t0 : AV) : W := wLet1 (batch_Batch_Base_b1 Q) fun k1 => wP (abin T .eql 25 t0 (.ptr none)) fun t4 => wIf t4 (Q (.ptr none)) (k1 t0)
def batch_Batch_Base_a : Ann := (.seq (.reg [1]) none (.join (.seq (.reg [2]) none (.cond (.seq (.reg [1]) none .z) .z)) [0] (.seq (.reg [6]) none .z)))
theorem batch_Batch_Base_d : @batch_Batch_Base = fun Q t0 => denF Try.prog T 10 (bodyOf Try.f15) batch_Batch_Base_a [.tmp 2] Q [t0] := by kernel_rfl
theorem batch_Batch_Base_ok {Q : AV → W} {H : AHeap} {t0 : AV} (h : batch_Batch_Base Q t0 H) : ASpec Try.prog T 15 [t0] H Q :=
  denF_ok tOk mixed Try.func15 Try.ntmps15 (by kernel_rfl : _ = some (bodyOf Try.f15)) (by kernel_rfl : _ = [.tmp 2]) (by kernel_rfl) (Nat.le_of_ble_eq_true rfl) (congrFun (congrFun batch_Batch_Base_d Q) t0) h

-- incipit/incipitlaw26.Base
def law26_Base_b2 (back1 : AV → AV → W) (t4 t6 t7 t8 : AV) : W := wP (ix 2 t7 t8) fun t35 => wO (ldn 2 t35) fun t36 => wC Try.prog T 29 [t6, t36] fun t37 => wP (aextract t37 0) fun t38 => wP (aextract t37 1) fun t39 => wP (abin T .add 3 t8 (.int .i64 1)) fun t30 => back1 t38 t30
def law26_Base_L1 (Q : AV → W) (t4 t7 : AV) (back1 : AV → AV → W) (t6 t8 : AV) : W := wLet4 (law26_Base_b2 back1) fun k1 => wP (lenS t7) fun t27 => wP (abin T .lss 3 t8 t27) fun t28 => wIf t28 (k1 t4 t6 t7 t8) (Q (.tup [t4, t6]))
def law26_Base_b3 (Q : AV → W) (t0 t4 : AV) : W := wC Try.prog T 27 [t0] fun t23 => wC Try.prog T 28 [t23] fun t24 => wLoop2 (law26_Base_L1 Q t4 t24) .nsl (.int .i64 0)
def law26_Base_b4 (Q : AV → W) (t0 t12 : AV) : W := wP (aextract t12 0) fun t13 => wP (aextract t12 1) fun t14 => wLet2 (law26_Base_b3 Q) fun k2 => wP (abin T .neq 26 t14 (.int .i64 0)) fun t16 => wIf t16 (wC Try.prog T 26 [.nsl] fun t18 => wP (aextract t18 0) fun t19 => wP (aextract t18 1) fun t20 => Q (.tup [t19, .nsl])) (k2 t0 t13)
def law26_Base (Q : AV → W) (t0 : AV) : W := wC Try.prog T 27 [t0] fun t11 => wC Try.prog T 26 [t11] fun t12 => law26_Base_b4 Q t0 t12
def law26_Base_a : Ann := (.seq (.reg [2]) none (.seq (.reg [8]) none (.join (.seq (.reg [2]) none (.cond (.seq (.reg [5]) none (.seq (.reg [3]) none .z)) .z)) [0, 4] (.seq (.reg [1]) none (.seq (.reg [4]) none (.seq (.seq (.reg [1]) none (.sub (.loop [6, 8] [4, 7] (.join (.seq (.reg [4]) none (.cond .z .z)) [4, 6, 7, 8] (.seq (.sub (.reg [10])) (some [4, 6, 7, 8]) (.reg [3])))))) (some [4, 6]) (.seq (.reg [4]) none .z)))))))
theorem law26_Base_d : @law26_Base = fun Q t0 => denF Try.prog T 42 (bodyOf Try.f16) law26_Base_a [.tmp 2, .tmp 3] Q [t0] := by kernel_rfl
theorem law26_Base_ok {Q : AV → W} {H : AHeap} {t0 : AV} (h : law26_Base Q t0 H) : ASpec Try.prog T 16 [t0] H Q :=
  denF_ok tOk mixed Try.func16 Try.ntmps16 (by kernel_rfl : _ = some (bodyOf Try.f16)) (by kernel_rfl : _ = [.tmp 2, .tmp 3]) (by kernel_rfl) (Nat.le_of_ble_eq_true rfl) (congrFun (congrFun law26_Base_d Q) t0) h

-- incipit/incipitref01.Same
def ref01_Same_b2 (Q : AV → W) (back1 : AV → W) (t0 t1 t5 : AV) : W := wD fun ls1 => wP (ix 1 t0 t5) fun t19 => wO (ldX ls1 t19) fun t20 => wP (ix 1 t1 t5) fun t23 => wO (ldX ls1 t23) fun t24 => wP (abin T .neq 5 t20 t24) fun t25 => wIf t25 (Q (.bool false)) (wP (abin T .add 3 t5 (.int .i64 1)) fun t16 => back1 t16)
def ref01_Same_L1 (Q : AV → W) (t0 t1 : AV) (back1 : AV → W) (t5 : AV) : W := wLet3 (ref01_Same_b2 Q back1) fun k1 => wP (lenS t0) fun t13 => wP (abin T .lss 3 t5 t13) fun t14 => wIf t14 (k1 t0 t1 t5) (Q (.bool true))
def ref01_Same (Q : AV → W) (t0 t1 : AV) : W := wP (lenS t0) fun t7 => wP (lenS t1) fun t9 => wP (abin T .neq 3 t7 t9) fun t10 => wIf t10 (Q (.bool false)) (wLoop1 (ref01_Same_L1 Q t0 t1) (.int .i64 0))
def ref01_Same_a : Ann := (.seq (.reg [1]) none (.seq (.seq (.reg [5]) none (.cond (.seq (.reg [1]) none .z) .z)) (some [0, 1]) (.seq (.seq (.reg [1]) none (.sub (.loop [5] [0, 1] (.join (.seq (.reg [4]) none (.cond .z .z)) [0, 1, 5] (.seq (.sub (.seq (.plan true (.st 0 false (.st 1 false (.st 2 false (.st 3 false (.st 4 false (.st 5 false (.st 6 false (.st 7 false (.st 8 false .done)))))))))) none (.cond (.seq (.reg [1]) none .z) .z))) (some [0, 1, 5]) (.reg [3])))))) (some []) (.seq (.reg [1]) none .z))))
theorem ref01_Same_d : @ref01_Same = fun Q t0 t1 => denF Try.prog T 26 (bodyOf Try.f17) ref01_Same_a [.tmp 4] Q [t0, t1] := by kernel_rfl
theorem ref01_Same_ok {Q : AV → W} {H : AHeap} {t0 t1 : AV} (h : ref01_Same Q t0 t1 H) : ASpec Try.prog T 17 [t0, t1] H Q :=
  denF_ok tOk mixed Try.func17 Try.ntmps17 (by kernel_rfl : _ = some (bodyOf Try.f17)) (by kernel_rfl : _ = [.tmp 4]) (by kernel_rfl) (Nat.le_of_ble_eq_true rfl) (congrFun (congrFun (congrFun ref01_Same_d Q) t0) t1) h

-- incipit/corpus.Same
def corpus_Same_b1 (Q : AV → W) (t0 t1 : AV) : W := wC Try.prog T 31 [t0] fun t15 => wC Try.prog T 31 [t1] fun t17 => wC Try.prog T 30 [t15, t17] fun t18 => Q t18
def corpus_Same_g2 (Q : AV → W) (k1 : AV → AV → W) (t0 t1 t6 t9x1 : AV) : W := wP (aPick t6 (.bool true) t9x1) fun t10 => wIf t10 (wP (abin T .eql 40 t0 t1) fun t13 => Q t13) (k1 t0 t1)
def corpus_Same (Q : AV → W) (t0 t1 : AV) : W := wLet2 (corpus_Same_b1 Q) fun k1 => wP (abin T .eql 40 t0 (.ptr none)) fun t6 => wG t6 false (fun k => wP (abin T .eql 40 t1 (.ptr none)) fun t9 => k t9) (corpus_Same_g2 Q k1 t0 t1 t6)
def corpus_Same_a : Ann := (.seq (.reg [1]) none (.join (.seq (.reg [3, 2, 1]) none (.cond (.seq (.reg [4]) none .z) .z)) [0, 1] (.seq (.reg [6]) none .z)))
theorem corpus_Same_d : @corpus_Same = fun Q t0 t1 => denF Try.prog T 19 (bodyOf Try.f18) corpus_Same_a [.tmp 4] Q [t0, t1] := by kernel_rfl
theorem corpus_Same_ok {Q : AV → W} {H : AHeap} {t0 t1 : AV} (h : corpus_Same Q t0 t1 H) : ASpec Try.prog T 18 [t0, t1] H Q :=
  denF_ok tOk mixed Try.func18 Try.ntmps18 (by kernel_rfl : _ = some (bodyOf Try.f18)) (by kernel_rfl : _ = [.tmp 4]) (by kernel_rfl) (Nat.le_of_ble_eq_true rfl) (congrFun (congrFun (congrFun corpus_Same_d Q) t0) t1) h

-- (*incipit/corpus.Corpus).Copy
def corpus_Corpus_Copy_b1 (Q : AV → W) (t0 : AV) : W := wP (aNil t0) fun t6 => wP (po 0 t6) fun t7 => wO (ld t7) fun t8 => wC Try.prog T 32 [t8] fun t9 => wP (abuild T 75 [(0, t9)]) fun t10 => wO (mBox 75 t10) fun t11 => Q t11
def corpus_Corpus_Copy (Q : AV → W) (t0 : AV) : W := wLet1 (corpus_Corpus_Copy_b1 Q) fun k1 => wP (abin T .eql 40 t0 (.ptr none)) fun t4 => wIf t4 (Q (.ptr none)) (k1 t0)
def corpus_Corpus_Copy_a : Ann := (.seq (.reg [1]) none (.join (.seq (.reg [2]) none (.cond (.seq (.reg [1]) none .z) .z)) [0] (.seq (.reg [8]) none .z)))
theorem corpus_Corpus_Copy_d : @corpus_Corpus_Copy = fun Q t0 => denF Try.prog T 12 (bodyOf Try.f19) corpus_Corpus_Copy_a [.tmp 2] Q [t0] := by kernel_rfl
theorem corpus_Corpus_Copy_ok {Q : AV → W} {H : AHeap} {t0 : AV} (h : corpus_Corpus_Copy Q t0 H) : ASpec Try.prog T 19 [t0] H Q :=
  denF_ok tOk mixed Try.func19 Try.ntmps19 (by kernel_rfl : _ = some (bodyOf Try.f19)) (by kernel_rfl : _ = [.tmp 2]) (by kernel_rfl) (Nat.le_of_ble_eq_true rfl) (congrFun (congrFun corpus_Corpus_Copy_d Q) t0) h

-- incipit/batch.Next
def batch_Next_b1 (Q : AV → W) (t2 t5 t6 : AV) : W := wD fun ls1 => wO (ldnX ls1 3 t5) fun t40 => wO (mSlice0 T 22 t6 (some (.int .i64 4)) none none) fun t42 => wO (st 3 t2 t40) fun _ => wO (ldn 3 t2) fun r0 => Q (.tup [r0, t42, .int .i64 0])
def batch_Next_b2 (Q : AV → W) (t0 t2 t5 t6 : AV) : W := wP (lenS t0) fun t28 => wP (lenS t6) fun t30 => wP (abin T .sub 3 t28 t30) fun t31 => wP (abin T .add 3 t31 (.int .i64 4)) fun t32 => wLet3 (batch_Next_b1 Q) fun k1 => wO (slS 5 1 t0 none (some t32) (some t32)) fun t36 => wC Try.prog T 34 [t36] fun t37 => wP (aun .not t37) fun t38 => wIf t38 (wP (abuild T 47 []) fun t39 => wO (st 3 t2 t39) fun _ => wO (ldn 3 t2) fun r0 => Q (.tup [r0, .nsl, .int .i64 5])) (k1 t2 t5 t6)
def batch_Next_b3 (Q : AV → W) (t0 t2 t5 t6 : AV) : W := wLet4 (batch_Next_b2 Q) fun k2 => wP (lenS t6) fun t24 => wP (abin T .lss 3 t24 (.int .i64 4)) fun t25 => wIf t25 (wP (abuild T 47 []) fun t26 => wO (st 3 t2 t26) fun _ => wO (ldn 3 t2) fun r0 => Q (.tup [r0, .nsl, .int .i64 4])) (k2 t0 t2 t5 t6)
def batch_Next_b4 (Q : AV → W) (t0 t2 t5 t6 : AV) : W := wLet4 (batch_Next_b3 Q) fun k3 => wO (ldn 3 t5) fun t19 => wC Try.prog T 23 [t19] fun t20 => wP (abin T .neq 26 t20 (.int .i64 0)) fun t21 => wIf t21 (wP (abuild T 47 []) fun t22 => wO (st 3 t2 t22) fun _ => wO (ldn 3 t2) fun r0 => Q (.tup [r0, .nsl, .int .i64 3])) (k3 t0 t2 t5 t6)
def batch_Next_b5 (Q : AV → W) (t0 t2 t11 : AV) : W := wP (aextract t11 0) fun t12 => wP (aextract t11 1) fun t13 => wP (aextract t11 2) fun t14 => wO (new 47 [.bool false, .int .i64 (0), .nsl]) fun t5 => wO (st 3 t5 t12) fun _ => wLet4 (batch_Next_b4 Q) fun k4 => wP (abin T .neq 26 t14 (.int .i64 0)) fun t16 => wIf t16 (wP (abuild T 47 []) fun t17 => wO (st 3 t2 t17) fun _ => wO (ldn 3 t2) fun r0 => Q (.tup [r0, .nsl, t14])) (k4 t0 t2 t5 t13)
def batch_Next (Q : AV → W) (t0 : AV) : W := wO (new 47 [.bool false, .int .i64 (0), .nsl]) fun t2 => wC Try.prog T 33 [t0] fun t11 => batch_Next_b5 Q t0 t2 t11
def batch_Next_a : Ann := (.seq (.reg [3]) none (.seq (.reg [10]) none (.join (.seq (.reg [2]) none (.cond (.seq (.reg [5]) none .z) .z)) [0, 2, 5, 6] (.join (.seq (.reg [3]) none (.cond (.seq (.reg [4]) none .z) .z)) [0, 2, 5, 6] (.join (.seq (.reg [3]) none (.cond (.seq (.reg [4]) none .z) .z)) [0, 2, 5, 6] (.seq (.reg [7]) none (.join (.seq (.reg [6]) none (.cond (.seq (.reg [4]) none .z) .z)) [2, 5, 6] (.seq (.plan true (.st 0 false (.st 1 true (.st 2 true (.alt 3 (.st 4 false (.st 5 false .done)) .nil))))) none .z))))))))
theorem batch_Next_d : @batch_Next = fun Q t0 => denF Try.prog T 43 (bodyOf Try.f20) batch_Next_a [.cell 2 47, .tmp 3, .tmp 4] Q [t0] := by kernel_rfl
theorem batch_Next_ok {Q : AV → W} {H : AHeap} {t0 : AV} (h : batch_Next Q t0 H) : ASpec Try.prog T 20 [t0] H Q :=
  denF_ok tOk mixed Try.func20 Try.ntmps20 (by kernel_rfl : _ = some (bodyOf Try.f20)) (by kernel_rfl : _ = [.cell 2 47, .tmp 3, .tmp 4]) (by kernel_rfl) (Nat.le_of_ble_eq_true rfl) (congrFun (congrFun batch_Next_d Q) t0) h

-- incipit/batch.Record
def batch_Record_b1 (Q : AV → W) (t1 : AV) : W := wO (ldn 3 t1) fun t10 => wC Try.prog T 36 [t10] fun t11 => wC Try.prog T 35 [t11] fun t12 => Q (.tup [t12, .int .i64 0])
def batch_Record (Q : AV → W) (t0 : AV) : W := wO (mBox 47 t0) fun t1 => wLet1 (batch_Record_b1 Q) fun k1 => wO (ldn 3 t1) fun t5 => wC Try.prog T 23 [t5] fun t6 => wP (abin T .neq 26 t6 (.int .i64 0)) fun t8 => wIf t8 (Q (.tup [.nsl, t6])) (k1 t1)
def batch_Record_a : Ann := (.seq (.reg [3]) none (.join (.seq (.reg [3]) none (.seq (.reg [2]) none (.cond (.seq (.reg [3]) none .z) .z))) [1] (.seq (.reg [5]) none .z)))
theorem batch_Record_d : @batch_Record = fun Q t0 => denF Try.prog T 13 (bodyOf Try.f21) batch_Record_a [.tmp 2, .tmp 3] Q [t0] := by kernel_rfl
theorem batch_Record_ok {Q : AV → W} {H : AHeap} {t0 : AV} (h : batch_Record Q t0 H) : ASpec Try.prog T 21 [t0] H Q :=
  denF_ok tOk mixed Try.func21 Try.ntmps21 (by kernel_rfl : _ = some (bodyOf Try.f21)) (by kernel_rfl : _ = [.tmp 2, .tmp 3]) (by kernel_rfl) (Nat.le_of_ble_eq_true rfl) (congrFun (congrFun batch_Record_d Q) t0) h

-- slices.Clone[[]incipit/batch.Op,incipit/batch.Op]
def slices_Clone_batch_Op_b1 (Q : AV → W) (t0 : AV) : W := wO (mList T 34 0 []) fun t5 => wO (mAppend T 34 34 t5 t0) fun t7 => Q t7
def slices_Clone_batch_Op (Q : AV → W) (t0 : AV) : W := wLet1 (slices_Clone_batch_Op_b1 Q) fun k1 => wP (abin T .eql 34 t0 .nsl) fun t4 => wIf t4 (Q .nsl) (k1 t0)
def slices_Clone_batch_Op_a : Ann := (.seq (.reg [1]) none (.join (.seq (.reg [2]) none (.cond (.seq (.reg [1]) none .z) .z)) [0] (.seq (.reg [4]) none .z)))
theorem slices_Clone_batch_Op_d : @slices_Clone_batch_Op = fun Q t0 => denF Try.prog T 8 (bodyOf Try.f22) slices_Clone_batch_Op_a [.tmp 2] Q [t0] := by kernel_rfl
theorem slices_Clone_batch_Op_ok {Q : AV → W} {H : AHeap} {t0 : AV} (h : slices_Clone_batch_Op Q t0 H) : ASpec Try.prog T 22 [t0] H Q :=
  denF_ok tOk mixed Try.func22 Try.ntmps22 (by kernel_rfl : _ = some (bodyOf Try.f22)) (by kernel_rfl : _ = [.tmp 2]) (by kernel_rfl) (Nat.le_of_ble_eq_true rfl) (congrFun (congrFun slices_Clone_batch_Op_d Q) t0) h

-- (incipit/batch.Op).check
def batch_Op_check_b1 (Q : AV → W) (t1 : AV) : W := wP (po 2 t1) fun t18 => wO (ld t18) fun t19 => wP (lenS t19) fun t20 => wP (abin T .gtr 3 t20 (.int .i64 0)) fun t21 => wIf t21 (Q (.int .i64 3)) (Q (.int .i64 0))
def batch_Op_check_g2 (Q : AV → W) (k1 : AV → W) (t1 t9 t13x1 : AV) : W := wP (aPick t9 (.bool true) t13x1) fun t14 => wIf t14 (wO (ldn 3 t1) fun t15 => wC Try.prog T 38 [t15] fun t16 => wC Try.prog T 37 [t16] fun t17 => Q t17) (k1 t1)
def batch_Op_check (Q : AV → W) (t0 : AV) : W := wO (mBox 47 t0) fun t1 => wLet1 (batch_Op_check_b1 Q) fun k1 => wP (po 1 t1) fun t4 => wO (ld t4) fun t5 => wP (abuild T 73 [(0, t5)]) fun t6 => wC Try.prog T 37 [t6] fun t7 => wP (abin T .neq 26 t7 (.int .i64 0)) fun t9 => wG t9 false (fun k => wP (po 0 t1) fun t11 => wO (ld t11) fun t12 => wP (aun .not t12) fun t13 => k t13) (batch_Op_check_g2 Q k1 t1 t9)
def batch_Op_check_a : Ann := (.seq (.reg [2]) none (.join (.seq (.reg [5]) none (.seq (.reg [3, 3, 1]) none (.cond (.seq (.reg [4]) none .z) .z))) [1] (.seq (.seq (.reg [4]) none (.cond (.seq (.reg [1]) none .z) .z)) (some []) (.seq (.reg [1]) none .z))))
theorem batch_Op_check_d : @batch_Op_check = fun Q t0 => denF Try.prog T 22 (bodyOf Try.f23) batch_Op_check_a [.tmp 2] Q [t0] := by kernel_rfl
theorem batch_Op_check_ok {Q : AV → W} {H : AHeap} {t0 : AV} (h : batch_Op_check Q t0 H) : ASpec Try.prog T 23 [t0] H Q :=
  denF_ok tOk mixed Try.func23 Try.ntmps23 (by kernel_rfl : _ = some (bodyOf Try.f23)) (by kernel_rfl : _ = [.tmp 2]) (by kernel_rfl) (Nat.le_of_ble_eq_true rfl) (congrFun (congrFun batch_Op_check_d Q) t0) h

-- (incipit/batch.Op).one
def batch_Op_one_b1 (Q : AV → W) (t1 t2 : AV) : W := wO (ldn 3 t2) fun t13 => wC Try.prog T 38 [t13] fun t14 => wO (mList T 64 1 [(0, t14)]) fun t15 => wC Try.prog T 40 [t1, t15] fun t16 => Q t16
def batch_Op_one (Q : AV → W) (t0 t1 : AV) : W := wO (mBox 47 t0) fun t2 => wLet2 (batch_Op_one_b1 Q) fun k1 => wP (po 0 t2) fun t5 => wO (ld t5) fun t6 => wIf t6 (wP (po 1 t2) fun t8 => wO (ld t8) fun t9 => wO (mList T 46 1 [(0, t9)]) fun t10 => wC Try.prog T 39 [t1, t10] fun t11 => Q t11) (k1 t1 t2)
def batch_Op_one_a : Ann := (.seq (.reg [2]) none (.join (.seq (.reg [2]) none (.cond (.seq (.reg [6]) none .z) .z)) [1, 2] (.seq (.reg [6]) none .z)))
theorem batch_Op_one_d : @batch_Op_one = fun Q t0 t1 => denF Try.prog T 17 (bodyOf Try.f24) batch_Op_one_a [.tmp 4] Q [t0, t1] := by kernel_rfl
theorem batch_Op_one_ok {Q : AV → W} {H : AHeap} {t0 t1 : AV} (h : batch_Op_one Q t0 t1 H) : ASpec Try.prog T 24 [t0, t1] H Q :=
  denF_ok tOk mixed Try.func24 Try.ntmps24 (by kernel_rfl : _ = some (bodyOf Try.f24)) (by kernel_rfl : _ = [.tmp 4]) (by kernel_rfl) (Nat.le_of_ble_eq_true rfl) (congrFun (congrFun (congrFun batch_Op_one_d Q) t0) t1) h

-- (incipit/batch.Op).copied
def batch_Op_copied (Q : AV → W) (t0 : AV) : W := wO (mBox 47 t0) fun t1 => wO (new 47 [.bool false, .int .i64 (0), .nsl]) fun t2 => wD fun ls1 => wP (po 0 t1) fun t3 => wO (ldX ls1 t3) fun t4 => wP (po 1 t1) fun t5 => wO (ldX ls1 t5) fun t6 => wP (po 2 t1) fun t7 => wO (ldX ls1 t7) fun t8 => wCX ls1 Try.prog T 41 [t8] fun t9 => wP (abuild T 47 [(0, t4), (1, t6), (2, t9)]) fun t10 => wO (st 3 t2 t10) fun _ => wO (ldn 3 t2) fun r0 => Q r0
def batch_Op_copied_a : Ann := (.seq (.reg [2]) none (.seq (.plan true (.st 0 false (.st 1 false (.st 2 false (.st 3 false (.st 4 false (.st 5 false (.alt 6 (.st 7 false (.alt 8 .done .nil)) .nil)))))))) none .z))
theorem batch_Op_copied_d : @batch_Op_copied = fun Q t0 => denF Try.prog T 11 (bodyOf Try.f25) batch_Op_copied_a [.cell 2 47] Q [t0] := by kernel_rfl
theorem batch_Op_copied_ok {Q : AV → W} {H : AHeap} {t0 : AV} (h : batch_Op_copied Q t0 H) : ASpec Try.prog T 25 [t0] H Q :=
  denF_ok tOk mixed Try.func25 Try.ntmps25 (by kernel_rfl : _ = some (bodyOf Try.f25)) (by kernel_rfl : _ = [.cell 2 47]) (by kernel_rfl) (Nat.le_of_ble_eq_true rfl) (congrFun (congrFun batch_Op_copied_d Q) t0) h

-- incipit/corpus.New
def corpus_New (Q : AV → W) (t0 : AV) : W := wP (abuild T 75 []) fun t6 => wO (mBox 75 t6) fun t7 => wC Try.prog T 40 [t7, t0] fun t10 => wP (abin T .neq 26 t10 (.int .i64 0)) fun t12 => wIf t12 (Q (.tup [.ptr none, t10])) (Q (.tup [t7, .int .i64 0]))
def corpus_New_a : Ann := (.seq (.reg [2]) none (.seq (.reg [3]) none (.seq (.seq (.reg [4]) none (.seq (.reg [2]) none (.cond (.seq (.reg [3]) none .z) .z))) (some [4]) (.seq (.reg [3]) none .z))))
theorem corpus_New_d : @corpus_New = fun Q t0 => denF Try.prog T 15 (bodyOf Try.f26) corpus_New_a [.tmp 2, .tmp 3] Q [t0] := by kernel_rfl
theorem corpus_New_ok {Q : AV → W} {H : AHeap} {t0 : AV} (h : corpus_New Q t0 H) : ASpec Try.prog T 26 [t0] H Q :=
  denF_ok tOk mixed Try.func26 Try.ntmps26 (by kernel_rfl : _ = some (bodyOf Try.f26)) (by kernel_rfl : _ = [.tmp 2, .tmp 3]) (by kernel_rfl) (Nat.le_of_ble_eq_true rfl) (congrFun (congrFun corpus_New_d Q) t0) h

-- incipit/incipitlaw25.To
def law25_To_b2 (back1 : AV → AV → W) (t0 t3 t4 : AV) : W := wD fun ls1 => wP (ix 2 t0 t4) fun t18 => wP (po 0 t18) fun t19 => wO (ldX ls1 t19) fun t20 => wP (ix 2 t0 t4) fun t24 => wP (po 1 t24) fun t25 => wO (ldX ls1 t25) fun t26 => wP (ix 2 t0 t4) fun t29 => wP (po 1 t29) fun t30 => wO (ldX ls1 t30) fun t31 => wP (lenS t31) fun t32 => wP (aMin [t32, .int .i64 1100]) fun t33 => wO (mSliceX ls1 T 22 t26 none (some t33) none) fun t34 => wO (mList T 22 0 []) fun t21 => wOX ls1 (mAppend T 22 22 t21 t34) fun t35 => wP (abuild T 73 [(0, t20), (1, t35)]) fun t36 => wO (mList T 64 1 [(0, t36)]) fun t37 => wOX ls1 (mAppend T 64 64 t3 t37) fun t38 => wP (abin T .add 3 t4 (.int .i64 1)) fun t14 => back1 t38 t14
def law25_To_L1 (Q : AV → W) (t0 : AV) (back1 : AV → AV → W) (t3 t4 : AV) : W := wLet3 (law25_To_b2 back1) fun k1 => wP (lenS t0) fun t7 => wP (abin T .lss 3 t4 t7) fun t8 => wG t8 true (fun k => wP (abin T .lss 3 t4 (.int .i64 3)) fun t11 => k t11) (fun t11x1 => wP (aPick t8 t11x1 (.bool false)) fun t12 => wIf t12 (k1 t0 t3 t4) (Q t3))
def law25_To (Q : AV → W) (t0 : AV) : W := wLoop2 (law25_To_L1 Q t0) .nsl (.int .i64 0)
def law25_To_a : Ann := (.seq (.reg [1]) none (.seq (.reg [1]) none (.seq (.seq (.reg [1]) none (.sub (.loop [3, 4] [0] (.join (.seq (.reg [5, 2, 1]) none (.cond .z .z)) [0, 3, 4] (.seq (.sub (.plan true (.st 0 false (.st 1 false (.st 2 false (.st 3 false (.st 4 false (.st 5 false (.st 7 false (.st 8 false (.st 9 false (.st 10 false (.st 11 false (.st 12 false (.st 13 false (.st 14 false (.st 15 false (.st 16 false (.st 17 false (.st 18 false (.st 19 false (.alt 6 (.alt 20 (.st 21 false (.alt 22 (.alt 23 (.st 24 false .done) .nil) .nil)) .nil) .nil)))))))))))))))))))))) (some [0, 3, 4]) (.reg [3])))))) (some [3]) (.seq (.reg [2]) none .z))))
theorem law25_To_d : @law25_To = fun Q t0 => denF Try.prog T 40 (bodyOf Try.f27) law25_To_a [.tmp 2] Q [t0] := by kernel_rfl
theorem law25_To_ok {Q : AV → W} {H : AHeap} {t0 : AV} (h : law25_To Q t0 H) : ASpec Try.prog T 27 [t0] H Q :=
  denF_ok tOk mixed Try.func27 Try.ntmps27 (by kernel_rfl : _ = some (bodyOf Try.f27)) (by kernel_rfl : _ = [.tmp 2]) (by kernel_rfl) (Nat.le_of_ble_eq_true rfl) (congrFun (congrFun law25_To_d Q) t0) h

-- incipit/incipitlaw25.Of
def law25_Of_b2 (back1 : AV → AV → W) (t0 t3 t4 : AV) : W := wD fun ls1 => wP (ix 2 t0 t4) fun t14 => wP (po 0 t14) fun t15 => wO (ldX ls1 t15) fun t16 => wP (ix 2 t0 t4) fun t19 => wP (po 1 t19) fun t20 => wO (ldX ls1 t20) fun t21 => wP (abuild T 70 [(0, t16), (1, t21)]) fun t22 => wO (mList T 43 1 [(0, t22)]) fun t23 => wOX ls1 (mAppend T 43 43 t3 t23) fun t24 => wP (abin T .add 3 t4 (.int .i64 1)) fun t10 => back1 t24 t10
def law25_Of_L1 (Q : AV → W) (t0 : AV) (back1 : AV → AV → W) (t3 t4 : AV) : W := wLet3 (law25_Of_b2 back1) fun k1 => wP (lenS t0) fun t7 => wP (abin T .lss 3 t4 t7) fun t8 => wIf t8 (k1 t0 t3 t4) (Q t3)
def law25_Of (Q : AV → W) (t0 : AV) : W := wLoop2 (law25_Of_L1 Q t0) .nsl (.int .i64 0)
def law25_Of_a : Ann := (.seq (.reg [1]) none (.seq (.reg [1]) none (.seq (.seq (.reg [1]) none (.sub (.loop [3, 4] [0] (.join (.seq (.reg [4]) none (.cond .z .z)) [0, 3, 4] (.seq (.sub (.plan true (.st 0 false (.st 1 false (.st 2 false (.st 3 false (.st 4 false (.st 5 false (.st 6 false (.st 7 false (.st 8 false (.st 9 false (.st 10 false (.st 11 false (.alt 12 (.alt 13 (.st 14 false .done) .nil) .nil))))))))))))))) (some [0, 3, 4]) (.reg [3])))))) (some [3]) (.seq (.reg [2]) none .z))))
theorem law25_Of_d : @law25_Of = fun Q t0 => denF Try.prog T 26 (bodyOf Try.f28) law25_Of_a [.tmp 2] Q [t0] := by kernel_rfl
theorem law25_Of_ok {Q : AV → W} {H : AHeap} {t0 : AV} (h : law25_Of Q t0 H) : ASpec Try.prog T 28 [t0] H Q :=
  denF_ok tOk mixed Try.func28 Try.ntmps28 (by kernel_rfl : _ = some (bodyOf Try.f28)) (by kernel_rfl : _ = [.tmp 2]) (by kernel_rfl) (Nat.le_of_ble_eq_true rfl) (congrFun (congrFun law25_Of_d Q) t0) h

-- incipit/incipitref25.Add
def ref25_Add_b1 (Q : AV → W) (t3 t7 t8 : AV) : W := wP (aun .not t8) fun t65 => wIf t65 (wO (ldn 2 t3) fun t67 => wO (mList T 43 1 [(0, t67)]) fun t68 => wO (mAppend T 43 43 t7 t68) fun t69 => Q (.tup [t69, .int .i64 0])) (Q (.tup [t7, .int .i64 0]))
def ref25_Add_b3 (back1 : AV → AV → AV → W) (t0 t3 t7 t8 t9 : AV) : W := wP (abin T .add 3 t9 (.int .i64 1)) fun t40 => back1 t7 t8 t40
def ref25_Add_b4 (k2 : AV → AV → AV → AV → AV → W) (t0 t3 t7 t8 t9 : AV) : W := wP (ix 2 t0 t9) fun t60 => wO (ldn 2 t60) fun t61 => wO (mList T 43 1 [(0, t61)]) fun t62 => wO (mAppend T 43 43 t7 t62) fun t63 => k2 t0 t3 t63 t8 t9
def ref25_Add_g5 (k3 : AV → AV → AV → AV → AV → W) (t0 t3 t7 t8 t9 t42 t51 : AV) : W := wP (aPick t42 t51 (.bool false)) fun t52 => wIf t52 (wO (ldn 2 t3) fun t54 => wO (mList T 43 1 [(0, t54)]) fun t55 => wO (mAppend T 43 43 t7 t55) fun t56 => k3 t0 t3 t56 (.bool true) t9) (k3 t0 t3 t7 t8 t9)
def ref25_Add_g6 (k3 : AV → AV → AV → AV → AV → W) (t0 t3 t7 t8 t9 t42 t48 t50 : AV) : W := wG t42 true (fun k => wP (abin T .gtr 3 t48 t50) k) (ref25_Add_g5 k3 t0 t3 t7 t8 t9 t42)
def ref25_Add_g7 (k3 : AV → AV → AV → AV → AV → W) (ls1 : List Nat) (t0 t3 t7 t8 t9 t42 t48 t49 : AV) : W := wG t42 true (fun k => wO (ldX ls1 t49) k) (ref25_Add_g6 k3 t0 t3 t7 t8 t9 t42 t48)
def ref25_Add_g8 (k3 : AV → AV → AV → AV → AV → W) (ls1 : List Nat) (t0 t3 t7 t8 t9 t42 t48 : AV) : W := wG t42 true (fun k => wP (po 0 t3) k) (ref25_Add_g7 k3 ls1 t0 t3 t7 t8 t9 t42 t48)
def ref25_Add_g9 (k3 : AV → AV → AV → AV → AV → W) (ls1 : List Nat) (t0 t3 t7 t8 t9 t42 t47 : AV) : W := wG t42 true (fun k => wO (ldX ls1 t47) k) (ref25_Add_g8 k3 ls1 t0 t3 t7 t8 t9 t42)
def ref25_Add_g10 (k3 : AV → AV → AV → AV → AV → W) (ls1 : List Nat) (t0 t3 t7 t8 t9 t42 t44 t45 : AV) : W := wG t42 true (fun k => wP (ix 2 t44 t45) k) (fun t46 => wG t42 true (fun k => wP (po 0 t46) k) (ref25_Add_g9 k3 ls1 t0 t3 t7 t8 t9 t42))
def ref25_Add_b11 (back1 : AV → AV → AV → W) (t0 t3 t7 t8 t9 : AV) : W := wLet5 (ref25_Add_b3 back1) fun k2 => wLet5 (ref25_Add_b4 k2) fun k3 => wD fun ls1 => wP (aun .not t8) fun t42 => wG t42 true (fun k => k t0) (fun t44 => wG t42 true (fun k => k t9) (ref25_Add_g10 k3 ls1 t0 t3 t7 t8 t9 t42 t44))
def ref25_Add_L2 (k1 : AV → AV → AV → W) (t0 t3 : AV) (back1 : AV → AV → AV → W) (t7 t8 t9 : AV) : W := wLet5 (ref25_Add_b11 back1) fun k4 => wP (lenS t0) fun t37 => wP (abin T .lss 3 t9 t37) fun t38 => wIf t38 (k4 t0 t3 t7 t8 t9) (k1 t3 t7 t8)
def ref25_Add_b12 (Q : AV → W) (t0 t3 : AV) : W := wLet3 (ref25_Add_b1 Q) fun k1 => wLoop3 (ref25_Add_L2 k1 t0 t3) .nsl (.bool false) (.int .i64 0)
def ref25_Add_g13 (Q : AV → W) (k5 : AV → AV → W) (t0 t3 t24 t32 : AV) : W := wP (aPick t24 (.bool true) t32) fun t33 => wIf t33 (Q (.tup [t0, .int .i64 6])) (k5 t0 t3)
def ref25_Add_g14 (Q : AV → W) (k5 : AV → AV → W) (t0 t3 t24 t31 : AV) : W := wG t24 false (fun k => wP (abin T .gtr 3 t31 (.int .i64 8192)) k) (ref25_Add_g13 Q k5 t0 t3 t24)
def ref25_Add_g15 (Q : AV → W) (k5 : AV → AV → W) (t0 t3 t24 t30 t27 : AV) : W := wG t24 false (fun k => wP (abin T .add 3 t27 t30) k) (ref25_Add_g14 Q k5 t0 t3 t24)
def ref25_Add_g16 (Q : AV → W) (k5 : AV → AV → W) (ls2 : List Nat) (t0 t3 t24 t26 t30 : AV) : W := wG t24 false (fun k => wCX ls2 Try.prog T 44 [t26] k) (ref25_Add_g15 Q k5 t0 t3 t24 t30)
def ref25_Add_g17 (Q : AV → W) (k5 : AV → AV → W) (ls2 : List Nat) (t0 t3 t24 t26 t28 : AV) : W := wG t24 false (fun k => wO (ldX ls2 t28) k) (fun t29 => wG t24 false (fun k => wP (lenS t29) k) (ref25_Add_g16 Q k5 ls2 t0 t3 t24 t26))
def ref25_Add_b18 (Q : AV → W) (t0 t3 : AV) : W := wLet2 (ref25_Add_b12 Q) fun k5 => wD fun ls2 => wP (lenS t0) fun t23 => wP (abin T .geq 3 t23 (.int .i64 64)) fun t24 => wG t24 false (fun k => k t0) (fun t26 => wG t24 false (fun k => wP (po 1 t3) k) (ref25_Add_g17 Q k5 ls2 t0 t3 t24 t26))
def ref25_Add_b19 (Q : AV → W) (t0 t3 : AV) : W := wLet2 (ref25_Add_b18 Q) fun k6 => wP (po 0 t3) fun t17 => wO (ld t17) fun t18 => wC Try.prog T 43 [t0, t18] fun t19 => wP (abin T .geq 3 t19 (.int .i64 0)) fun t20 => wIf t20 (Q (.tup [t0, .int .i64 8])) (k6 t0 t3)
def ref25_Add (Q : AV → W) (t0 t1 : AV) : W := wO (mBox 70 t1) fun t3 => wO (ldn 2 t3) fun t10 => wC Try.prog T 42 [t10] fun t11 => wLet2 (ref25_Add_b19 Q) fun k7 => wP (abin T .neq 3 t11 (.int .i64 0)) fun t13 => wIf t13 (Q (.tup [t0, t11])) (k7 t0 t3)
def ref25_Add_a : Ann := (.seq (.reg [3]) none (.seq (.reg [3]) none (.join (.seq (.reg [2]) none (.cond (.seq (.reg [4]) none .z) .z)) [0, 3] (.join (.seq (.reg [5]) none (.cond (.seq (.reg [3]) none .z) .z)) [0, 3] (.join (.seq (.plan true (.st 0 false (.st 1 false (.st 2 false (.st 3 false (.st 4 false (.st 6 false (.st 7 false (.st 8 false (.alt 5 (.st 9 false (.st 10 false (.st 11 false .done))) .nil)))))))))) none (.cond (.seq (.reg [3]) none .z) .z)) [0, 3] (.seq (.reg [1]) none (.seq (.reg [1]) none (.join (.seq (.reg [1]) none (.sub (.loop [7, 8, 9] [0, 3] (.join (.seq (.reg [4]) none (.cond .z .z)) [0, 3, 7, 8, 9] (.join (.sub (.join (.seq (.plan true (.st 0 false (.st 1 false (.st 2 false (.st 3 false (.st 4 false (.st 5 false (.st 6 false (.st 7 false (.st 8 false (.st 9 false (.st 10 false (.st 11 false .done))))))))))))) none (.cond (.seq (.reg [5]) none (.reg [1])) .z)) [0, 3, 7, 8, 9] (.reg [8]))) [0, 3, 7, 8, 9] (.reg [3])))))) [3, 7, 8] (.seq (.seq (.reg [2]) none (.cond (.reg [5]) .z)) (some [7]) (.seq (.reg [3]) none .z))))))))))
theorem ref25_Add_d : @ref25_Add = fun Q t0 t1 => denF Try.prog T 71 (bodyOf Try.f29) ref25_Add_a [.tmp 4, .tmp 5] Q [t0, t1] := by kernel_rfl
theorem ref25_Add_ok {Q : AV → W} {H : AHeap} {t0 t1 : AV} (h : ref25_Add Q t0 t1 H) : ASpec Try.prog T 29 [t0, t1] H Q :=
  denF_ok tOk mixed Try.func29 Try.ntmps29 (by kernel_rfl : _ = some (bodyOf Try.f29)) (by kernel_rfl : _ = [.tmp 4, .tmp 5]) (by kernel_rfl) (Nat.le_of_ble_eq_true rfl) (congrFun (congrFun (congrFun ref25_Add_d Q) t0) t1) h

-- bytes.Equal
def bytes_Equal (Q : AV → W) (t0 t1 : AV) : W := wP (aconv T 22 9 t0) fun t6 => wP (aconv T 22 9 t1) fun t8 => wP (abin T .eql 9 t6 t8) fun t9 => Q t9
def bytes_Equal_a : Ann := (.seq (.reg [1]) none (.seq (.reg [6]) none .z))
theorem bytes_Equal_d : @bytes_Equal = fun Q t0 t1 => denF Try.prog T 10 (bodyOf Try.f30) bytes_Equal_a [.tmp 4] Q [t0, t1] := by kernel_rfl
theorem bytes_Equal_ok {Q : AV → W} {H : AHeap} {t0 t1 : AV} (h : bytes_Equal Q t0 t1 H) : ASpec Try.prog T 30 [t0, t1] H Q :=
  denF_ok tOk mixed Try.func30 Try.ntmps30 (by kernel_rfl : _ = some (bodyOf Try.f30)) (by kernel_rfl : _ = [.tmp 4]) (by kernel_rfl) (Nat.le_of_ble_eq_true rfl) (congrFun (congrFun (congrFun bytes_Equal_d Q) t0) t1) h

-- (*incipit/corpus.Corpus).Bytes
def corpus_Corpus_Bytes_b1 (Q : AV → W) (t0 : AV) : W := wC Try.prog T 47 [t0] fun t6 => wC Try.prog T 46 [t6] fun t7 => wC Try.prog T 49 [t0] fun t9 => wC Try.prog T 48 [t9] fun t10 => wO (mList T 88 2 [(0, t7), (1, t10)]) fun t11 => wC Try.prog T 45 [t11] fun t12 => Q t12
def corpus_Corpus_Bytes (Q : AV → W) (t0 : AV) : W := wLet1 (corpus_Corpus_Bytes_b1 Q) fun k1 => wP (abin T .eql 40 t0 (.ptr none)) fun t4 => wIf t4 (Q .nsl) (k1 t0)
def corpus_Corpus_Bytes_a : Ann := (.seq (.reg [1]) none (.join (.seq (.reg [2]) none (.cond (.seq (.reg [1]) none .z) .z)) [0] (.seq (.reg [9]) none .z)))
theorem corpus_Corpus_Bytes_d : @corpus_Corpus_Bytes = fun Q t0 => denF Try.prog T 13 (bodyOf Try.f31) corpus_Corpus_Bytes_a [.tmp 2] Q [t0] := by kernel_rfl
theorem corpus_Corpus_Bytes_ok {Q : AV → W} {H : AHeap} {t0 : AV} (h : corpus_Corpus_Bytes Q t0 H) : ASpec Try.prog T 31 [t0] H Q :=
  denF_ok tOk mixed Try.func31 Try.ntmps31 (by kernel_rfl : _ = some (bodyOf Try.f31)) (by kernel_rfl : _ = [.tmp 2]) (by kernel_rfl) (Nat.le_of_ble_eq_true rfl) (congrFun (congrFun corpus_Corpus_Bytes_d Q) t0) h

-- slices.Clone[incipit/corpus.list,incipit/corpus.Doc]
def slices_Clone_corpus_Doc_b1 (Q : AV → W) (t0 : AV) : W := wO (mList T 71 0 []) fun t5 => wO (mAppend T 71 71 t5 t0) fun t7 => Q t7
def slices_Clone_corpus_Doc (Q : AV → W) (t0 : AV) : W := wLet1 (slices_Clone_corpus_Doc_b1 Q) fun k1 => wP (abin T .eql 71 t0 .nsl) fun t4 => wIf t4 (Q .nsl) (k1 t0)
def slices_Clone_corpus_Doc_a : Ann := (.seq (.reg [1]) none (.join (.seq (.reg [2]) none (.cond (.seq (.reg [1]) none .z) .z)) [0] (.seq (.reg [4]) none .z)))
theorem slices_Clone_corpus_Doc_d : @slices_Clone_corpus_Doc = fun Q t0 => denF Try.prog T 8 (bodyOf Try.f32) slices_Clone_corpus_Doc_a [.tmp 2] Q [t0] := by kernel_rfl
theorem slices_Clone_corpus_Doc_ok {Q : AV → W} {H : AHeap} {t0 : AV} (h : slices_Clone_corpus_Doc Q t0 H) : ASpec Try.prog T 32 [t0] H Q :=
  denF_ok tOk mixed Try.func32 Try.ntmps32 (by kernel_rfl : _ = some (bodyOf Try.f32)) (by kernel_rfl : _ = [.tmp 2]) (by kernel_rfl) (Nat.le_of_ble_eq_true rfl) (congrFun (congrFun slices_Clone_corpus_Doc_d Q) t0) h

-- incipit/batch.read
def batch_read_b1 (Q : AV → W) (t2 t6 t7 t8 : AV) : W := wO (ldn 3 t8) fun t53 => wO (st 3 t2 t53) fun _ => wO (ldn 3 t2) fun r0 => Q (.tup [r0, t6, t7])
def batch_read_g2 (k1 : AV → AV → AV → AV → W) (t2 t8 t31 t32 t40 t44x1 : AV) : W := wP (aPick t40 t44x1 (.bool false)) fun t45 => wIf t45 (wC Try.prog T 51 [t31] fun t48 => wP (aextract t48 0) fun t49 => wP (aextract t48 1) fun t50 => wP (aextract t48 2) fun t51 => wP (po 2 t8) fun t52 => wO (st 1 t52 t49) fun _ => k1 t2 t50 t51 t8) (k1 t2 t31 t32 t8)
def batch_read_b3 (Q : AV → W) (t0 t2 t29 : AV) : W := wP (aextract t29 0) fun t30 => wP (aextract t29 1) fun t31 => wP (aextract t29 2) fun t32 => wP (ix 1 t0 (.int .i64 0)) fun t34 => wO (ld t34) fun t35 => wP (abin T .eql 5 t35 (.int .u8 2)) fun t36 => wP (abuild T 47 [(0, t36), (1, t30)]) fun t38 => wO (new 47 [.bool false, .int .i64 (0), .nsl]) fun t8 => wO (st 3 t8 t38) fun _ => wLet4 (batch_read_b1 Q) fun k1 => wP (abin T .eql 26 t32 (.int .i64 0)) fun t40 => wG t40 true (fun k => wP (po 0 t8) fun t42 => wO (ld t42) fun t43 => wP (aun .not t43) fun t44 => k t44) (batch_read_g2 k1 t2 t8 t31 t32 t40)
def batch_read_b4 (Q : AV → W) (t0 t2 : AV) : W := wO (slS 5 1 t0 (some (.int .i64 1)) none none) fun t28 => wC Try.prog T 50 [t28] fun t29 => batch_read_b3 Q t0 t2 t29
def batch_read_g5 (Q : AV → W) (k2 : AV → AV → W) (t0 t2 t18 t23x1 : AV) : W := wP (aPick t18 t23x1 (.bool false)) fun t24 => wIf t24 (wP (abuild T 47 []) fun t25 => wO (st 3 t2 t25) fun _ => wO (ldn 3 t2) fun r0 => Q (.tup [r0, .nsl, .int .i64 3])) (k2 t0 t2)
def batch_read (Q : AV → W) (t0 : AV) : W := wO (new 47 [.bool false, .int .i64 (0), .nsl]) fun t2 => wLet2 (batch_read_b4 Q) fun k2 => wP (lenS t0) fun t11 => wP (abin T .eql 3 t11 (.int .i64 0)) fun t12 => wIf t12 (wP (abuild T 47 []) fun t13 => wO (st 3 t2 t13) fun _ => wO (ldn 3 t2) fun r0 => Q (.tup [r0, .nsl, .int .i64 4])) (wP (ix 1 t0 (.int .i64 0)) fun t16 => wO (ld t16) fun t17 => wP (abin T .neq 5 t17 (.int .u8 1)) fun t18 => wG t18 true (fun k => wP (ix 1 t0 (.int .i64 0)) fun t21 => wO (ld t21) fun t22 => wP (abin T .neq 5 t22 (.int .u8 2)) fun t23 => k t23) (batch_read_g5 Q k2 t0 t2 t18))
def batch_read_a : Ann := (.seq (.reg [3]) none (.join (.sub (.seq (.reg [4]) none (.cond (.seq (.reg [4]) none .z) (.seq (.reg [5, 4, 2]) none (.cond (.seq (.reg [4]) none .z) .z))))) [0, 2] (.seq (.reg [10]) none (.seq (.reg [8]) none (.join (.seq (.reg [3, 3, 1]) none (.cond (.reg [10]) .z)) [2, 6, 7, 8] (.seq (.reg [6]) none .z))))))
theorem batch_read_d : @batch_read = fun Q t0 => denF Try.prog T 56 (bodyOf Try.f33) batch_read_a [.cell 2 47, .tmp 3, .tmp 4] Q [t0] := by kernel_rfl
theorem batch_read_ok {Q : AV → W} {H : AHeap} {t0 : AV} (h : batch_read Q t0 H) : ASpec Try.prog T 33 [t0] H Q :=
  denF_ok tOk mixed Try.func33 Try.ntmps33 (by kernel_rfl : _ = some (bodyOf Try.f33)) (by kernel_rfl : _ = [.cell 2 47, .tmp 3, .tmp 4]) (by kernel_rfl) (Nat.le_of_ble_eq_true rfl) (congrFun (congrFun batch_read_d Q) t0) h

-- incipit/crc.Holds
def crc_Holds_g1 (Q : AV → W) (ls1 : List Nat) (t8 t12 t18 : AV) : W := wG t8 true (fun k => wCX ls1 Try.prog T 30 [t12, t18] k) (fun t19 => wP (aPick t8 t19 (.bool false)) fun t20 => Q t20)
def crc_Holds_g2 (Q : AV → W) (ls1 : List Nat) (t8 t12 t16 : AV) : W := wG t8 true (fun k => wCX ls1 Try.prog T 53 [t16] k) (fun t17 => wG t8 true (fun k => wCX ls1 Try.prog T 52 [t17] k) (crc_Holds_g1 Q ls1 t8 t12))
def crc_Holds_g3 (Q : AV → W) (ls1 : List Nat) (t8 t12 t13 t14 : AV) : W := wG t8 true (fun k => wO (mSliceX ls1 T 22 t13 none (some t14) none) k) (fun t15 => wG t8 true (fun k => wO (mList T 88 1 [(0, t15)]) k) (crc_Holds_g2 Q ls1 t8 t12))
def crc_Holds_g4 (Q : AV → W) (ls1 : List Nat) (t0 t6 t8 t12 : AV) : W := wG t8 true (fun k => k t0) (fun t13 => wG t8 true (fun k => k t6) (crc_Holds_g3 Q ls1 t8 t12 t13))
def crc_Holds_g5 (Q : AV → W) (ls1 : List Nat) (t0 t6 t8 t10 t11 : AV) : W := wG t8 true (fun k => wO (mSliceX ls1 T 22 t10 (some t11) none none) k) (crc_Holds_g4 Q ls1 t0 t6 t8)
def crc_Holds (Q : AV → W) (t0 : AV) : W := wP (lenS t0) fun t5 => wP (abin T .sub 3 t5 (.int .i64 4)) fun t6 => wD fun ls1 => wP (abin T .geq 3 t6 (.int .i64 0)) fun t8 => wG t8 true (fun k => k t0) (fun t10 => wG t8 true (fun k => k t6) (crc_Holds_g5 Q ls1 t0 t6 t8 t10))
def crc_Holds_a : Ann := (.seq (.reg [1]) none (.seq (.reg [4]) none (.seq (.plan true (.st 0 false (.st 1 false (.st 2 false (.st 3 false (.st 4 false (.st 5 false (.st 6 false (.st 7 false (.st 8 false (.alt 9 (.alt 10 (.alt 11 (.alt 12 (.st 13 false (.st 14 false .done)) .nil) .nil) .nil) .nil))))))))))) none .z)))
theorem crc_Holds_d : @crc_Holds = fun Q t0 => denF Try.prog T 21 (bodyOf Try.f34) crc_Holds_a [.tmp 2] Q [t0] := by kernel_rfl
theorem crc_Holds_ok {Q : AV → W} {H : AHeap} {t0 : AV} (h : crc_Holds Q t0 H) : ASpec Try.prog T 34 [t0] H Q :=
  denF_ok tOk mixed Try.func34 Try.ntmps34 (by kernel_rfl : _ = some (bodyOf Try.f34)) (by kernel_rfl : _ = [.tmp 2]) (by kernel_rfl) (Nat.le_of_ble_eq_true rfl) (congrFun (congrFun crc_Holds_d Q) t0) h

-- incipit/crc.Mark
def crc_Mark (Q : AV → W) (t0 : AV) : W := wO (mList T 88 1 [(0, t0)]) fun t5 => wC Try.prog T 53 [t5] fun t6 => wC Try.prog T 52 [t6] fun t7 => wO (mList T 88 2 [(0, t0), (1, t7)]) fun t8 => wC Try.prog T 45 [t8] fun t9 => Q t9
def crc_Mark_a : Ann := (.seq (.reg [1]) none (.seq (.reg [8]) none .z))
theorem crc_Mark_d : @crc_Mark = fun Q t0 => denF Try.prog T 10 (bodyOf Try.f35) crc_Mark_a [.tmp 2] Q [t0] := by kernel_rfl
theorem crc_Mark_ok {Q : AV → W} {H : AHeap} {t0 : AV} (h : crc_Mark Q t0 H) : ASpec Try.prog T 35 [t0] H Q :=
  denF_ok tOk mixed Try.func35 Try.ntmps35 (by kernel_rfl : _ = some (bodyOf Try.f35)) (by kernel_rfl : _ = [.tmp 2]) (by kernel_rfl) (Nat.le_of_ble_eq_true rfl) (congrFun (congrFun crc_Mark_d Q) t0) h

-- (incipit/batch.Op).plain
def batch_Op_plain_b1 (Q : AV → W) (ls1 : List Nat) (t15x5 t17 : AV) : W := wAnd (wO (mList T 22 1 [(0, .int .u8 1)]) fun t11x2 => wO (mList T 88 1 [(0, t17)]) fun t18x5 => wCX ls1 Try.prog T 48 [t18x5] fun t19x5 => wO (mList T 88 3 [(0, t11x2), (1, t15x5), (2, t19x5)]) fun t20x5 => wCX ls1 Try.prog T 45 [t20x5] fun t21x5 => Q t21x5) (wO (mList T 88 1 [(0, t17)]) fun t18x6 => wAnd (wO (mList T 22 1 [(0, .int .u8 1)]) fun t11x3 => wCX ls1 Try.prog T 48 [t18x6] fun t19x6 => wO (mList T 88 3 [(0, t11x3), (1, t15x5), (2, t19x6)]) fun t20x6 => wCX ls1 Try.prog T 45 [t20x6] fun t21x6 => Q t21x6) (wCX ls1 Try.prog T 48 [t18x6] fun t19x7 => wO (mList T 22 1 [(0, .int .u8 1)]) fun t11x4 => wO (mList T 88 3 [(0, t11x4), (1, t15x5), (2, t19x7)]) fun t20x7 => wCX ls1 Try.prog T 45 [t20x7] fun t21x7 => Q t21x7))
def batch_Op_plain_b2 (Q : AV → W) (ls1 : List Nat) (t15x7 t18x7 : AV) : W := wAnd (wO (mList T 22 1 [(0, .int .u8 1)]) fun t11x6 => wCX ls1 Try.prog T 48 [t18x7] fun t19x9 => wO (mList T 88 3 [(0, t11x6), (1, t15x7), (2, t19x9)]) fun t20x9 => wCX ls1 Try.prog T 45 [t20x9] fun t21x9 => Q t21x9) (wCX ls1 Try.prog T 48 [t18x7] fun t19x10 => wO (mList T 22 1 [(0, .int .u8 1)]) fun t11x7 => wO (mList T 88 3 [(0, t11x7), (1, t15x7), (2, t19x10)]) fun t20x10 => wCX ls1 Try.prog T 45 [t20x10] fun t21x10 => Q t21x10)
def batch_Op_plain_b3 (Q : AV → W) (ls1 : List Nat) (t15x10 t18x8 : AV) : W := wAnd (wO (mList T 22 1 [(0, .int .u8 1)]) fun t11x10 => wCX ls1 Try.prog T 48 [t18x8] fun t19x13 => wO (mList T 88 3 [(0, t11x10), (1, t15x10), (2, t19x13)]) fun t20x13 => wCX ls1 Try.prog T 45 [t20x13] fun t21x13 => Q t21x13) (wCX ls1 Try.prog T 48 [t18x8] fun t19x14 => wO (mList T 22 1 [(0, .int .u8 1)]) fun t11x11 => wO (mList T 88 3 [(0, t11x11), (1, t15x10), (2, t19x14)]) fun t20x14 => wCX ls1 Try.prog T 45 [t20x14] fun t21x14 => Q t21x14)
def batch_Op_plain_b4 (Q : AV → W) (t1 : AV) : W := wD fun ls1 => wP (po 1 t1) fun t12 => wO (ldX ls1 t12) fun t13 => wP (po 2 t1) fun t16 => wO (ldX ls1 t16) fun t17 => wAnd (wO (mList T 22 1 [(0, .int .u8 1)]) fun t11 => wAnd (wO (mList T 46 1 [(0, t13)]) fun t14 => wAnd (wCX ls1 Try.prog T 54 [t14] fun t15 => wO (mList T 88 1 [(0, t17)]) fun t18 => wCX ls1 Try.prog T 48 [t18] fun t19 => wO (mList T 88 3 [(0, t11), (1, t15), (2, t19)]) fun t20 => wCX ls1 Try.prog T 45 [t20] fun t21 => Q t21) (wO (mList T 88 1 [(0, t17)]) fun t18x1 => wCX ls1 Try.prog T 54 [t14] fun t15x1 => wCX ls1 Try.prog T 48 [t18x1] fun t19x1 => wO (mList T 88 3 [(0, t11), (1, t15x1), (2, t19x1)]) fun t20x1 => wCX ls1 Try.prog T 45 [t20x1] fun t21x1 => Q t21x1)) (wO (mList T 88 1 [(0, t17)]) fun t18x2 => wO (mList T 46 1 [(0, t13)]) fun t14x1 => wCX ls1 Try.prog T 54 [t14x1] fun t15x2 => wCX ls1 Try.prog T 48 [t18x2] fun t19x2 => wO (mList T 88 3 [(0, t11), (1, t15x2), (2, t19x2)]) fun t20x2 => wCX ls1 Try.prog T 45 [t20x2] fun t21x2 => Q t21x2)) (wAnd (wO (mList T 46 1 [(0, t13)]) fun t14x2 => wAnd (wO (mList T 22 1 [(0, .int .u8 1)]) fun t11x1 => wAnd (wCX ls1 Try.prog T 54 [t14x2] fun t15x3 => wO (mList T 88 1 [(0, t17)]) fun t18x3 => wCX ls1 Try.prog T 48 [t18x3] fun t19x3 => wO (mList T 88 3 [(0, t11x1), (1, t15x3), (2, t19x3)]) fun t20x3 => wCX ls1 Try.prog T 45 [t20x3] fun t21x3 => Q t21x3) (wO (mList T 88 1 [(0, t17)]) fun t18x4 => wCX ls1 Try.prog T 54 [t14x2] fun t15x4 => wCX ls1 Try.prog T 48 [t18x4] fun t19x4 => wO (mList T 88 3 [(0, t11x1), (1, t15x4), (2, t19x4)]) fun t20x4 => wCX ls1 Try.prog T 45 [t20x4] fun t21x4 => Q t21x4)) (wAnd (wCX ls1 Try.prog T 54 [t14x2] fun t15x5 => batch_Op_plain_b1 Q ls1 t15x5 t17) (wO (mList T 88 1 [(0, t17)]) fun t18x7 => wAnd (wO (mList T 22 1 [(0, .int .u8 1)]) fun t11x5 => wCX ls1 Try.prog T 54 [t14x2] fun t15x6 => wCX ls1 Try.prog T 48 [t18x7] fun t19x8 => wO (mList T 88 3 [(0, t11x5), (1, t15x6), (2, t19x8)]) fun t20x8 => wCX ls1 Try.prog T 45 [t20x8] fun t21x8 => Q t21x8) (wCX ls1 Try.prog T 54 [t14x2] fun t15x7 => batch_Op_plain_b2 Q ls1 t15x7 t18x7)))) (wO (mList T 88 1 [(0, t17)]) fun t18x8 => wAnd (wO (mList T 22 1 [(0, .int .u8 1)]) fun t11x8 => wO (mList T 46 1 [(0, t13)]) fun t14x3 => wCX ls1 Try.prog T 54 [t14x3] fun t15x8 => wCX ls1 Try.prog T 48 [t18x8] fun t19x11 => wO (mList T 88 3 [(0, t11x8), (1, t15x8), (2, t19x11)]) fun t20x11 => wCX ls1 Try.prog T 45 [t20x11] fun t21x11 => Q t21x11) (wO (mList T 46 1 [(0, t13)]) fun t14x4 => wAnd (wO (mList T 22 1 [(0, .int .u8 1)]) fun t11x9 => wCX ls1 Try.prog T 54 [t14x4] fun t15x9 => wCX ls1 Try.prog T 48 [t18x8] fun t19x12 => wO (mList T 88 3 [(0, t11x9), (1, t15x9), (2, t19x12)]) fun t20x12 => wCX ls1 Try.prog T 45 [t20x12] fun t21x12 => Q t21x12) (wCX ls1 Try.prog T 54 [t14x4] fun t15x10 => batch_Op_plain_b3 Q ls1 t15x10 t18x8))))
def batch_Op_plain (Q : AV → W) (t0 : AV) : W := wO (mBox 47 t0) fun t1 => wLet1 (batch_Op_plain_b4 Q) fun k1 => wP (po 0 t1) fun t3 => wO (ld t3) fun t4 => wIf t4 (wO (mList T 22 1 [(0, .int .u8 2)]) fun t5 => wP (po 1 t1) fun t6 => wO (ld t6) fun t7 => wO (mList T 46 1 [(0, t7)]) fun t8 => wC Try.prog T 54 [t8] fun t9 => wO (mAppend T 22 22 t5 t9) fun t10 => Q t10) (k1 t1)
def batch_Op_plain_a : Ann := (.seq (.reg [2]) none (.join (.seq (.reg [2]) none (.cond (.seq (.reg [7]) none .z) .z)) [1] (.seq (.plan true (.st 1 false (.st 2 false (.st 5 false (.st 6 false (.alt 0 (.alt 3 (.alt 4 (.alt 7 (.alt 8 (.alt 9 (.alt 10 (.st 11 false .done) .nil) .nil) .nil) .nil) (.alt 7 (.alt 4 (.alt 8 (.alt 9 (.alt 10 (.st 11 false .done) .nil) .nil) .nil) .nil) .nil)) (.alt 7 (.alt 3 (.alt 4 (.alt 8 (.alt 9 (.alt 10 (.st 11 false .done) .nil) .nil) .nil) .nil) .nil) .nil)) (.alt 3 (.alt 0 (.alt 4 (.alt 7 (.alt 8 (.alt 9 (.alt 10 (.st 11 false .done) .nil) .nil) .nil) .nil) (.alt 7 (.alt 4 (.alt 8 (.alt 9 (.alt 10 (.st 11 false .done) .nil) .nil) .nil) .nil) .nil)) (.alt 4 (.alt 0 (.alt 7 (.alt 8 (.alt 9 (.alt 10 (.st 11 false .done) .nil) .nil) .nil) .nil) (.alt 7 (.alt 0 (.alt 8 (.alt 9 (.alt 10 (.st 11 false .done) .nil) .nil) .nil) (.alt 8 (.alt 0 (.alt 9 (.alt 10 (.st 11 false .done) .nil) .nil) .nil) .nil)) .nil)) (.alt 7 (.alt 0 (.alt 4 (.alt 8 (.alt 9 (.alt 10 (.st 11 false .done) .nil) .nil) .nil) .nil) (.alt 4 (.alt 0 (.alt 8 (.alt 9 (.alt 10 (.st 11 false .done) .nil) .nil) .nil) (.alt 8 (.alt 0 (.alt 9 (.alt 10 (.st 11 false .done) .nil) .nil) .nil) .nil)) .nil)) .nil))) (.alt 7 (.alt 0 (.alt 3 (.alt 4 (.alt 8 (.alt 9 (.alt 10 (.st 11 false .done) .nil) .nil) .nil) .nil) .nil) (.alt 3 (.alt 0 (.alt 4 (.alt 8 (.alt 9 (.alt 10 (.st 11 false .done) .nil) .nil) .nil) .nil) (.alt 4 (.alt 0 (.alt 8 (.alt 9 (.alt 10 (.st 11 false .done) .nil) .nil) .nil) (.alt 8 (.alt 0 (.alt 9 (.alt 10 (.st 11 false .done) .nil) .nil) .nil) .nil)) .nil)) .nil)) .nil)))))))) (some [2]) .z)))
theorem batch_Op_plain_d : @batch_Op_plain = fun Q t0 => denF Try.prog T 22 (bodyOf Try.f36) batch_Op_plain_a [.tmp 2] Q [t0] := by kernel_rfl
theorem batch_Op_plain_ok {Q : AV → W} {H : AHeap} {t0 : AV} (h : batch_Op_plain Q t0 H) : ASpec Try.prog T 36 [t0] H Q :=
  denF_ok tOk mixed Try.func36 Try.ntmps36 (by kernel_rfl : _ = some (bodyOf Try.f36)) (by kernel_rfl : _ = [.tmp 2]) (by kernel_rfl) (Nat.le_of_ble_eq_true rfl) (congrFun (congrFun batch_Op_plain_d Q) t0) h

-- incipit/corpus.Check
def corpus_Check_g1 (Q : AV → W) (t1 t6 t10x1 : AV) : W := wP (aPick t6 (.bool true) t10x1) fun t11 => wIf t11 (Q (.int .i64 1)) (wP (po 1 t1) fun t13 => wO (ld t13) fun t14 => wP (lenS t14) fun t15 => wP (abin T .gtr 3 t15 (.int .i64 1024)) fun t16 => wIf t16 (Q (.int .i64 2)) (Q (.int .i64 0)))
def corpus_Check (Q : AV → W) (t0 : AV) : W := wO (mBox 73 t0) fun t1 => wP (po 0 t1) fun t4 => wO (ld t4) fun t5 => wP (abin T .lss 3 t5 (.int .i64 1)) fun t6 => wG t6 false (fun k => wP (po 0 t1) fun t8 => wO (ld t8) fun t9 => wP (abin T .gtr 3 t9 (.int .i64 65535)) fun t10 => k t10) (corpus_Check_g1 Q t1 t6)
def corpus_Check_a : Ann := (.seq (.reg [2]) none (.seq (.sub (.seq (.reg [4, 3, 2]) none (.cond (.seq (.reg [1]) none .z) (.seq (.reg [5]) none (.cond (.seq (.reg [1]) none .z) .z))))) (some []) (.seq (.reg [1]) none .z)))
theorem corpus_Check_d : @corpus_Check = fun Q t0 => denF Try.prog T 17 (bodyOf Try.f37) corpus_Check_a [.tmp 2] Q [t0] := by kernel_rfl
theorem corpus_Check_ok {Q : AV → W} {H : AHeap} {t0 : AV} (h : corpus_Check Q t0 H) : ASpec Try.prog T 37 [t0] H Q :=
  denF_ok tOk mixed Try.func37 Try.ntmps37 (by kernel_rfl : _ = some (bodyOf Try.f37)) (by kernel_rfl : _ = [.tmp 2]) (by kernel_rfl) (Nat.le_of_ble_eq_true rfl) (congrFun (congrFun corpus_Check_d Q) t0) h

-- (incipit/batch.Op).doc
def batch_Op_doc (Q : AV → W) (t0 : AV) : W := wO (mBox 47 t0) fun t1 => wO (new 73 [.int .i64 (0), .nsl]) fun t2 => wP (po 1 t1) fun t3 => wO (ld t3) fun t4 => wP (po 2 t1) fun t5 => wO (ld t5) fun t6 => wP (abuild T 73 [(0, t4), (1, t6)]) fun t7 => wO (st 2 t2 t7) fun _ => wO (ldn 2 t2) fun r0 => Q r0
def batch_Op_doc_a : Ann := (.seq (.reg [2]) none (.seq (.reg [6]) none .z))
theorem batch_Op_doc_d : @batch_Op_doc = fun Q t0 => denF Try.prog T 8 (bodyOf Try.f38) batch_Op_doc_a [.cell 2 73] Q [t0] := by kernel_rfl
theorem batch_Op_doc_ok {Q : AV → W} {H : AHeap} {t0 : AV} (h : batch_Op_doc Q t0 H) : ASpec Try.prog T 38 [t0] H Q :=
  denF_ok tOk mixed Try.func38 Try.ntmps38 (by kernel_rfl : _ = some (bodyOf Try.f38)) (by kernel_rfl : _ = [.cell 2 73]) (by kernel_rfl) (Nat.le_of_ble_eq_true rfl) (congrFun (congrFun batch_Op_doc_d Q) t0) h

-- (*incipit/corpus.Corpus).Drop
def corpus_Corpus_Drop_b1 (Q : AV → W) (t0 t5 : AV) : W := wP (aNil t0) fun t38 => wP (po 0 t38) fun t39 => wO (st 1 t39 t5) fun _ => Q (.int .i64 0)
def corpus_Corpus_Drop_b3 (Q : AV → W) (back1 : AV → AV → W) (t0 t5 t17 t18 t19 : AV) : W := wP (ix 1 t17 t19) fun t21 => wO (ld t21) fun t22 => wC Try.prog T 55 [t5, t22] fun t26 => wP (aextract t26 0) fun t27 => wP (aextract t26 1) fun t28 => wIf t28 (wP (abin T .add 3 t27 (.int .i64 1)) fun t33 => wC Try.prog T 56 [t5, t27, t33] fun t34 => wP (abin T .add 3 t19 (.int .i64 1)) fun t35 => back1 t34 t35) (Q (.int .i64 7))
def corpus_Corpus_Drop_L2 (Q : AV → W) (k1 : AV → AV → W) (t0 t17 t18 : AV) (back1 : AV → AV → W) (t5 t19 : AV) : W := wP (abin T .lss 3 t19 t18) fun t20 => wLet5 (corpus_Corpus_Drop_b3 Q back1) fun k2 => wIf t20 (k2 t0 t5 t17 t18 t19) (k1 t0 t5)
def corpus_Corpus_Drop_b4 (Q : AV → W) (t0 t1 : AV) : W := wP (aNil t0) fun t13 => wP (po 0 t13) fun t14 => wO (ld t14) fun t15 => wC Try.prog T 32 [t15] fun t16 => wLet2 (corpus_Corpus_Drop_b1 Q) fun k1 => wP (lenS t1) fun t18 => wLoop2 (corpus_Corpus_Drop_L2 Q k1 t0 t1 t18) t16 (.int .i64 0)
def corpus_Corpus_Drop (Q : AV → W) (t0 t1 : AV) : W := wLet2 (corpus_Corpus_Drop_b4 Q) fun k3 => wP (abin T .eql 40 t0 (.ptr none)) fun t11 => wIf t11 (Q (.int .i64 11)) (k3 t0 t1)
def corpus_Corpus_Drop_a : Ann := (.seq (.reg [1]) none (.sub (.join (.seq (.reg [2]) none (.cond (.seq (.reg [1]) none .z) .z)) [0, 1] (.seq (.reg [6]) none (.seq .z none (.join (.seq (.reg [3]) none (.sub (.loop [5, 19] [0, 17, 18] (.seq (.reg [1]) none (.join (.cond .z .z) [0, 5, 17, 18, 19] (.seq (.sub (.seq (.reg [3]) none (.seq (.seq (.reg [8]) none (.seq (.reg [1]) none (.cond (.seq (.reg [6]) none .z) .z))) (some []) (.seq (.reg [1]) none .z)))) (some [0, 5, 17, 18, 19]) (.reg [2]))))))) [0, 5] (.seq (.reg [5]) none (.seq (.reg [1]) none .z))))))))
theorem corpus_Corpus_Drop_d : @corpus_Corpus_Drop = fun Q t0 t1 => denF Try.prog T 40 (bodyOf Try.f39) corpus_Corpus_Drop_a [.tmp 4] Q [t0, t1] := by kernel_rfl
theorem corpus_Corpus_Drop_ok {Q : AV → W} {H : AHeap} {t0 t1 : AV} (h : corpus_Corpus_Drop Q t0 t1 H) : ASpec Try.prog T 39 [t0, t1] H Q :=
  denF_ok tOk mixed Try.func39 Try.ntmps39 (by kernel_rfl : _ = some (bodyOf Try.f39)) (by kernel_rfl : _ = [.tmp 4]) (by kernel_rfl) (Nat.le_of_ble_eq_true rfl) (congrFun (congrFun (congrFun corpus_Corpus_Drop_d Q) t0) t1) h

-- (*incipit/corpus.Corpus).Add
def corpus_Corpus_Add_b1 (Q : AV → W) (t0 t5 : AV) : W := wP (aNil t0) fun t35 => wP (po 0 t35) fun t36 => wO (st 1 t36 t5) fun _ => Q (.int .i64 0)
def corpus_Corpus_Add_b3 (Q : AV → W) (back1 : AV → AV → W) (t0 t5 t16 t17 t18 : AV) : W := wP (ix 2 t16 t18) fun t20 => wO (ldn 2 t20) fun t21 => wO (new 73 [.int .i64 (0), .nsl]) fun t7 => wO (st 2 t7 t21) fun _ => wO (ldn 2 t7) fun t24 => wC Try.prog T 57 [t5, t24] fun t25 => wP (aextract t25 0) fun t26 => wP (aextract t25 1) fun t27 => wP (abin T .neq 26 t27 (.int .i64 0)) fun t29 => wIf t29 (Q t27) (wP (abin T .add 3 t18 (.int .i64 1)) fun t32 => back1 t26 t32)
def corpus_Corpus_Add_L2 (Q : AV → W) (k1 : AV → AV → W) (t0 t16 t17 : AV) (back1 : AV → AV → W) (t5 t18 : AV) : W := wP (abin T .lss 3 t18 t17) fun t19 => wLet5 (corpus_Corpus_Add_b3 Q back1) fun k2 => wIf t19 (k2 t0 t5 t16 t17 t18) (k1 t0 t5)
def corpus_Corpus_Add_b4 (Q : AV → W) (t0 t1 : AV) : W := wP (aNil t0) fun t13 => wP (po 0 t13) fun t14 => wO (ld t14) fun t15 => wLet2 (corpus_Corpus_Add_b1 Q) fun k1 => wP (lenS t1) fun t17 => wLoop2 (corpus_Corpus_Add_L2 Q k1 t0 t1 t17) t15 (.int .i64 0)
def corpus_Corpus_Add (Q : AV → W) (t0 t1 : AV) : W := wLet2 (corpus_Corpus_Add_b4 Q) fun k3 => wP (abin T .eql 40 t0 (.ptr none)) fun t11 => wIf t11 (Q (.int .i64 11)) (k3 t0 t1)
def corpus_Corpus_Add_a : Ann := (.seq (.reg [1]) none (.join (.seq (.reg [2]) none (.cond (.seq (.reg [1]) none .z) .z)) [0, 1] (.seq (.reg [5]) none (.join (.seq (.reg [3]) none (.sub (.loop [5, 18] [0, 16, 17] (.seq (.reg [1]) none (.join (.cond .z .z) [0, 5, 16, 17, 18] (.seq (.sub (.seq (.reg [4]) none (.seq (.reg [8]) none (.seq (.seq (.reg [2]) none (.cond (.seq (.reg [2]) none .z) .z)) (some [0, 8, 16, 17, 18]) (.reg [2]))))) (some [0, 5, 16, 17, 18]) (.reg [2]))))))) [0, 5] (.seq (.reg [5]) none (.seq (.reg [1]) none .z))))))
theorem corpus_Corpus_Add_d : @corpus_Corpus_Add = fun Q t0 t1 => denF Try.prog T 37 (bodyOf Try.f40) corpus_Corpus_Add_a [.tmp 4] Q [t0, t1] := by kernel_rfl
theorem corpus_Corpus_Add_ok {Q : AV → W} {H : AHeap} {t0 t1 : AV} (h : corpus_Corpus_Add Q t0 t1 H) : ASpec Try.prog T 40 [t0, t1] H Q :=
  denF_ok tOk mixed Try.func40 Try.ntmps40 (by kernel_rfl : _ = some (bodyOf Try.f40)) (by kernel_rfl : _ = [.tmp 4]) (by kernel_rfl) (Nat.le_of_ble_eq_true rfl) (congrFun (congrFun (congrFun corpus_Corpus_Add_d Q) t0) t1) h

-- bytes.Clone
def bytes_Clone_b1 (Q : AV → W) (t0 : AV) : W := wO (mList T 22 0 []) fun t5 => wO (mAppend T 22 22 t5 t0) fun t7 => Q t7
def bytes_Clone (Q : AV → W) (t0 : AV) : W := wLet1 (bytes_Clone_b1 Q) fun k1 => wP (abin T .eql 22 t0 .nsl) fun t4 => wIf t4 (Q .nsl) (k1 t0)
def bytes_Clone_a : Ann := (.seq (.reg [1]) none (.join (.seq (.reg [2]) none (.cond (.seq (.reg [1]) none .z) .z)) [0] (.seq (.reg [4]) none .z)))
theorem bytes_Clone_d : @bytes_Clone = fun Q t0 => denF Try.prog T 8 (bodyOf Try.f41) bytes_Clone_a [.tmp 2] Q [t0] := by kernel_rfl
theorem bytes_Clone_ok {Q : AV → W} {H : AHeap} {t0 : AV} (h : bytes_Clone Q t0 H) : ASpec Try.prog T 41 [t0] H Q :=
  denF_ok tOk mixed Try.func41 Try.ntmps41 (by kernel_rfl : _ = some (bodyOf Try.f41)) (by kernel_rfl : _ = [.tmp 2]) (by kernel_rfl) (Nat.le_of_ble_eq_true rfl) (congrFun (congrFun bytes_Clone_d Q) t0) h

-- incipit/incipitref25.Check
def ref25_Check_b1 (Q : AV → W) (t1 : AV) : W := wP (po 1 t1) fun t11 => wO (ld t11) fun t12 => wP (lenS t12) fun t13 => wP (abin T .gtr 3 t13 (.int .i64 1024)) fun t14 => wIf t14 (Q (.int .i64 2)) (Q (.int .i64 0))
def ref25_Check (Q : AV → W) (t0 : AV) : W := wO (mBox 70 t0) fun t1 => wLet1 (ref25_Check_b1 Q) fun k1 => wP (po 0 t1) fun t3 => wO (ld t3) fun t4 => wP (abin T .lss 3 t4 (.int .i64 1)) fun t5 => wG t5 false (fun k => wP (po 0 t1) fun t7 => wO (ld t7) fun t8 => wP (abin T .gtr 3 t8 (.int .i64 65535)) fun t9 => k t9) (fun t9x1 => wP (aPick t5 (.bool true) t9x1) fun t10 => wIf t10 (Q (.int .i64 1)) (k1 t1))
def ref25_Check_a : Ann := (.seq (.reg [2]) none (.join (.seq (.reg [4, 3, 1]) none (.cond (.seq (.reg [1]) none .z) .z)) [1] (.seq (.seq (.reg [4]) none (.cond (.seq (.reg [1]) none .z) .z)) (some []) (.seq (.reg [1]) none .z))))
theorem ref25_Check_d : @ref25_Check = fun Q t0 => denF Try.prog T 15 (bodyOf Try.f42) ref25_Check_a [.tmp 2] Q [t0] := by kernel_rfl
theorem ref25_Check_ok {Q : AV → W} {H : AHeap} {t0 : AV} (h : ref25_Check Q t0 H) : ASpec Try.prog T 42 [t0] H Q :=
  denF_ok tOk mixed Try.func42 Try.ntmps42 (by kernel_rfl : _ = some (bodyOf Try.f42)) (by kernel_rfl : _ = [.tmp 2]) (by kernel_rfl) (Nat.le_of_ble_eq_true rfl) (congrFun (congrFun ref25_Check_d Q) t0) h

-- incipit/incipitref25.Find
def ref25_Find_b2 (Q : AV → W) (back1 : AV → W) (t0 t1 t5 : AV) : W := wP (ix 2 t0 t5) fun t14 => wP (po 0 t14) fun t15 => wO (ld t15) fun t16 => wP (abin T .eql 3 t16 t1) fun t18 => wIf t18 (Q t5) (wP (abin T .add 3 t5 (.int .i64 1)) fun t11 => back1 t11)
def ref25_Find_L1 (Q : AV → W) (t0 t1 : AV) (back1 : AV → W) (t5 : AV) : W := wLet3 (ref25_Find_b2 Q back1) fun k1 => wP (lenS t0) fun t8 => wP (abin T .lss 3 t5 t8) fun t9 => wIf t9 (k1 t0 t1 t5) (Q (.int .i64 (-1)))
def ref25_Find (Q : AV → W) (t0 t1 : AV) : W := wLoop1 (ref25_Find_L1 Q t0 t1) (.int .i64 0)
def ref25_Find_a : Ann := (.seq (.reg [1]) none (.seq (.seq (.reg [1]) none (.sub (.loop [5] [0, 1] (.join (.seq (.reg [4]) none (.cond .z .z)) [0, 1, 5] (.seq (.sub (.seq (.reg [7]) none (.cond (.seq (.reg [2]) none .z) .z))) (some [0, 1, 5]) (.reg [3])))))) (some []) (.seq (.reg [1]) none .z)))
theorem ref25_Find_d : @ref25_Find = fun Q t0 t1 => denF Try.prog T 20 (bodyOf Try.f43) ref25_Find_a [.tmp 4] Q [t0, t1] := by kernel_rfl
theorem ref25_Find_ok {Q : AV → W} {H : AHeap} {t0 t1 : AV} (h : ref25_Find Q t0 t1 H) : ASpec Try.prog T 43 [t0, t1] H Q :=
  denF_ok tOk mixed Try.func43 Try.ntmps43 (by kernel_rfl : _ = some (bodyOf Try.f43)) (by kernel_rfl : _ = [.tmp 4]) (by kernel_rfl) (Nat.le_of_ble_eq_true rfl) (congrFun (congrFun (congrFun ref25_Find_d Q) t0) t1) h

-- incipit/incipitref25.Total
def ref25_Total_b2 (back1 : AV → AV → W) (t0 t3 t4 : AV) : W := wP (ix 2 t0 t4) fun t14 => wP (po 1 t14) fun t15 => wO (ld t15) fun t16 => wP (lenS t16) fun t17 => wP (abin T .add 3 t3 t17) fun t18 => wP (abin T .add 3 t4 (.int .i64 1)) fun t10 => back1 t18 t10
def ref25_Total_L1 (Q : AV → W) (t0 : AV) (back1 : AV → AV → W) (t3 t4 : AV) : W := wLet3 (ref25_Total_b2 back1) fun k1 => wP (lenS t0) fun t7 => wP (abin T .lss 3 t4 t7) fun t8 => wIf t8 (k1 t0 t3 t4) (Q t3)
def ref25_Total (Q : AV → W) (t0 : AV) : W := wLoop2 (ref25_Total_L1 Q t0) (.int .i64 0) (.int .i64 0)
def ref25_Total_a : Ann := (.seq (.reg [1]) none (.seq (.reg [1]) none (.seq (.seq (.reg [1]) none (.sub (.loop [3, 4] [0] (.join (.seq (.reg [4]) none (.cond .z .z)) [0, 3, 4] (.seq (.sub (.reg [9])) (some [0, 3, 4]) (.reg [3])))))) (some [3]) (.seq (.reg [2]) none .z))))
theorem ref25_Total_d : @ref25_Total = fun Q t0 => denF Try.prog T 20 (bodyOf Try.f44) ref25_Total_a [.tmp 2] Q [t0] := by kernel_rfl
theorem ref25_Total_ok {Q : AV → W} {H : AHeap} {t0 : AV} (h : ref25_Total Q t0 H) : ASpec Try.prog T 44 [t0] H Q :=
  denF_ok tOk mixed Try.func44 Try.ntmps44 (by kernel_rfl : _ = some (bodyOf Try.f44)) (by kernel_rfl : _ = [.tmp 2]) (by kernel_rfl) (Nat.le_of_ble_eq_true rfl) (congrFun (congrFun ref25_Total_d Q) t0) h

-- slices.Concat[[]byte,byte]
def slices_Concat_byte_b2 (back1 : AV → AV → W) (t6 t25 t26 t27 : AV) : W := wP (ix 1 t25 t27) fun t29 => wO (ld t29) fun t30 => wO (mAppend T 22 22 t6 t30) fun t33 => wP (abin T .add 3 t27 (.int .i64 1)) fun t34 => back1 t33 t34
def slices_Concat_byte_L1 (Q : AV → W) (t25 t26 : AV) (back1 : AV → AV → W) (t6 t27 : AV) : W := wP (abin T .lss 3 t27 t26) fun t28 => wLet4 (slices_Concat_byte_b2 back1) fun k1 => wIf t28 (k1 t6 t25 t26 t27) (Q t6)
def slices_Concat_byte_b3 (Q : AV → W) (t0 t3 : AV) : W := wC Try.prog T 58 [.nsl, t3] fun t24 => wP (lenS t0) fun t26 => wLoop2 (slices_Concat_byte_L1 Q t0 t26) t24 (.int .i64 0)
def slices_Concat_byte_b5 (back2 : AV → AV → W) (t0 t3 t9 t10 t11 : AV) : W := wP (ix 1 t9 t11) fun t13 => wO (ld t13) fun t14 => wP (lenS t14) fun t17 => wP (abin T .add 3 t3 t17) fun t18 => wP (abin T .lss 3 t18 (.int .i64 0)) fun t20 => wIf t20 (wBot) (wP (abin T .add 3 t11 (.int .i64 1)) fun t22 => back2 t18 t22)
def slices_Concat_byte_L4 (k2 : AV → AV → W) (t0 t9 t10 : AV) (back2 : AV → AV → W) (t3 t11 : AV) : W := wP (abin T .lss 3 t11 t10) fun t12 => wLet5 (slices_Concat_byte_b5 back2) fun k3 => wIf t12 (k3 t0 t3 t9 t10 t11) (k2 t0 t3)
def slices_Concat_byte (Q : AV → W) (t0 : AV) : W := wLet2 (slices_Concat_byte_b3 Q) fun k2 => wP (lenS t0) fun t10 => wLoop2 (slices_Concat_byte_L4 k2 t0 t0 t10) (.int .i64 0) (.int .i64 0)
def slices_Concat_byte_a : Ann := (.seq (.reg [1]) none (.seq (.reg [1]) none (.join (.seq (.reg [3]) none (.sub (.loop [3, 11] [0, 9, 10] (.seq (.reg [1]) none (.join (.cond .z .z) [0, 3, 9, 10, 11] (.seq (.sub (.seq (.reg [3]) none (.seq (.reg [5]) none (.seq (.reg [2]) none (.cond (.reg [2]) .z))))) (some [0, 3, 9, 10, 11]) (.reg [2]))))))) [0, 3] (.seq (.reg [3]) none (.seq (.seq (.reg [3]) none (.sub (.loop [6, 27] [25, 26] (.seq (.reg [1]) none (.join (.cond .z .z) [6, 25, 26, 27] (.seq (.sub (.seq (.reg [3]) none (.reg [4]))) (some [6, 25, 26, 27]) (.reg [2]))))))) (some [6]) (.seq (.reg [2]) none .z))))))
theorem slices_Concat_byte_d : @slices_Concat_byte = fun Q t0 => denF Try.prog T 36 (bodyOf Try.f45) slices_Concat_byte_a [.tmp 2] Q [t0] := by kernel_rfl
theorem slices_Concat_byte_ok {Q : AV → W} {H : AHeap} {t0 : AV} (h : slices_Concat_byte Q t0 H) : ASpec Try.prog T 45 [t0] H Q :=
  denF_ok tOk mixed Try.func45 Try.ntmps45 (by kernel_rfl : _ = some (bodyOf Try.f45)) (by kernel_rfl : _ = [.tmp 2]) (by kernel_rfl) (Nat.le_of_ble_eq_true rfl) (congrFun (congrFun slices_Concat_byte_d Q) t0) h

-- incipit/varint.List
def varint_List_b1 (Q : AV → W) (t0 t3 : AV) : W := wP (lenS t0) fun t12 => wO (mList T 46 1 [(0, t12)]) fun t13 => wC Try.prog T 54 [t13] fun t14 => wO (mAppend T 22 22 t14 t3) fun t16 => Q t16
def varint_List (Q : AV → W) (t0 : AV) : W := wC Try.prog T 54 [t0] fun t5 => wLet2 (varint_List_b1 Q) fun k1 => wP (lenS t5) fun t7 => wP (lenS t0) fun t9 => wP (abin T .lss 3 t7 t9) fun t10 => wIf t10 (Q .nsl) (k1 t0 t5)
def varint_List_a : Ann := (.seq (.reg [1]) none (.seq (.reg [3]) none (.join (.seq (.reg [5]) none (.cond (.seq (.reg [1]) none .z) .z)) [0, 3] (.seq (.reg [7]) none .z))))
theorem varint_List_d : @varint_List = fun Q t0 => denF Try.prog T 17 (bodyOf Try.f46) varint_List_a [.tmp 2] Q [t0] := by kernel_rfl
theorem varint_List_ok {Q : AV → W} {H : AHeap} {t0 : AV} (h : varint_List Q t0 H) : ASpec Try.prog T 46 [t0] H Q :=
  denF_ok tOk mixed Try.func46 Try.ntmps46 (by kernel_rfl : _ = some (bodyOf Try.f46)) (by kernel_rfl : _ = [.tmp 2]) (by kernel_rfl) (Nat.le_of_ble_eq_true rfl) (congrFun (congrFun varint_List_d Q) t0) h

-- (*incipit/corpus.Corpus).Ids
def corpus_Corpus_Ids_b2 (back1 : AV → AV → W) (t0 t3 t6 t7 : AV) : W := wP (aNil t0) fun t12 => wP (po 0 t12) fun t13 => wO (ld t13) fun t14 => wP (ix 2 t14 t7) fun t16 => wP (po 0 t16) fun t17 => wO (ld t17) fun t18 => wO (mList T 46 1 [(0, t18)]) fun t19 => wO (mAppend T 46 46 t3 t19) fun t20 => wP (abin T .add 3 t7 (.int .i64 1)) fun t21 => back1 t20 t21
def corpus_Corpus_Ids_L1 (Q : AV → W) (t0 t6 : AV) (back1 : AV → AV → W) (t3 t7 : AV) : W := wP (abin T .lss 3 t7 t6) fun t8 => wLet4 (corpus_Corpus_Ids_b2 back1) fun k1 => wIf t8 (k1 t0 t3 t6 t7) (Q t3)
def corpus_Corpus_Ids (Q : AV → W) (t0 : AV) : W := wC Try.prog T 59 [t0] fun t6 => wLoop2 (corpus_Corpus_Ids_L1 Q t0 t6) .nsl (.int .i64 0)
def corpus_Corpus_Ids_a : Ann := (.seq (.reg [1]) none (.seq (.reg [1]) none (.seq (.seq (.reg [3]) none (.sub (.loop [3, 7] [0, 6] (.seq (.reg [1]) none (.join (.cond .z .z) [0, 3, 6, 7] (.seq (.sub (.seq (.reg [2]) none (.reg [12]))) (some [0, 3, 6, 7]) (.reg [2]))))))) (some [3]) (.seq (.reg [2]) none .z))))
theorem corpus_Corpus_Ids_d : @corpus_Corpus_Ids = fun Q t0 => denF Try.prog T 23 (bodyOf Try.f47) corpus_Corpus_Ids_a [.tmp 2] Q [t0] := by kernel_rfl
theorem corpus_Corpus_Ids_ok {Q : AV → W} {H : AHeap} {t0 : AV} (h : corpus_Corpus_Ids Q t0 H) : ASpec Try.prog T 47 [t0] H Q :=
  denF_ok tOk mixed Try.func47 Try.ntmps47 (by kernel_rfl : _ = some (bodyOf Try.f47)) (by kernel_rfl : _ = [.tmp 2]) (by kernel_rfl) (Nat.le_of_ble_eq_true rfl) (congrFun (congrFun corpus_Corpus_Ids_d Q) t0) h

-- incipit/varint.Text
def varint_Text_b2 (back1 : AV → AV → W) (t3 t6 t7 t8 : AV) : W := wP (ix 1 t6 t8) fun t10 => wO (ld t10) fun t11 => wP (lenS t11) fun t14 => wP (cvI .u64 t14) fun t15 => wC Try.prog T 60 [t3, t15] fun t16 => wO (mAppend T 22 22 t16 t11) fun t18 => wP (abin T .add 3 t8 (.int .i64 1)) fun t19 => back1 t18 t19
def varint_Text_L1 (Q : AV → W) (t6 t7 : AV) (back1 : AV → AV → W) (t3 t8 : AV) : W := wP (abin T .lss 3 t8 t7) fun t9 => wLet4 (varint_Text_b2 back1) fun k1 => wIf t9 (k1 t3 t6 t7 t8) (Q t3)
def varint_Text (Q : AV → W) (t0 : AV) : W := wP (lenS t0) fun t7 => wLoop2 (varint_Text_L1 Q t0 t7) .nsl (.int .i64 0)
def varint_Text_a : Ann := (.seq (.reg [1]) none (.seq (.reg [1]) none (.seq (.seq (.reg [3]) none (.sub (.loop [3, 8] [6, 7] (.seq (.reg [1]) none (.join (.cond .z .z) [3, 6, 7, 8] (.seq (.sub (.seq (.reg [3]) none (.reg [8]))) (some [3, 6, 7, 8]) (.reg [2]))))))) (some [3]) (.seq (.reg [2]) none .z))))
theorem varint_Text_d : @varint_Text = fun Q t0 => denF Try.prog T 21 (bodyOf Try.f48) varint_Text_a [.tmp 2] Q [t0] := by kernel_rfl
theorem varint_Text_ok {Q : AV → W} {H : AHeap} {t0 : AV} (h : varint_Text Q t0 H) : ASpec Try.prog T 48 [t0] H Q :=
  denF_ok tOk mixed Try.func48 Try.ntmps48 (by kernel_rfl : _ = some (bodyOf Try.f48)) (by kernel_rfl : _ = [.tmp 2]) (by kernel_rfl) (Nat.le_of_ble_eq_true rfl) (congrFun (congrFun varint_Text_d Q) t0) h

-- (*incipit/corpus.Corpus).Docs
def corpus_Corpus_Docs_b2 (back1 : AV → AV → W) (t0 t3 t6 t7 : AV) : W := wO (mList T 22 0 []) fun t11 => wP (aNil t0) fun t13 => wP (po 0 t13) fun t14 => wO (ld t14) fun t15 => wP (ix 2 t15 t7) fun t17 => wP (po 1 t17) fun t18 => wO (ld t18) fun t19 => wO (mList T 88 2 [(0, t11), (1, t19)]) fun t20 => wC Try.prog T 45 [t20] fun t21 => wO (mList T 88 1 [(0, t21)]) fun t22 => wO (mAppend T 88 88 t3 t22) fun t23 => wP (abin T .add 3 t7 (.int .i64 1)) fun t24 => back1 t23 t24
def corpus_Corpus_Docs_L1 (Q : AV → W) (t0 t6 : AV) (back1 : AV → AV → W) (t3 t7 : AV) : W := wP (abin T .lss 3 t7 t6) fun t8 => wLet4 (corpus_Corpus_Docs_b2 back1) fun k1 => wIf t8 (k1 t0 t3 t6 t7) (Q t3)
def corpus_Corpus_Docs (Q : AV → W) (t0 : AV) : W := wC Try.prog T 59 [t0] fun t6 => wLoop2 (corpus_Corpus_Docs_L1 Q t0 t6) .nsl (.int .i64 0)
def corpus_Corpus_Docs_a : Ann := (.seq (.reg [1]) none (.seq (.reg [1]) none (.seq (.seq (.reg [3]) none (.sub (.loop [3, 7] [0, 6] (.seq (.reg [1]) none (.join (.cond .z .z) [0, 3, 6, 7] (.seq (.sub (.seq (.reg [2]) none (.reg [15]))) (some [0, 3, 6, 7]) (.reg [2]))))))) (some [3]) (.seq (.reg [2]) none .z))))
theorem corpus_Corpus_Docs_d : @corpus_Corpus_Docs = fun Q t0 => denF Try.prog T 26 (bodyOf Try.f49) corpus_Corpus_Docs_a [.tmp 2] Q [t0] := by kernel_rfl
theorem corpus_Corpus_Docs_ok {Q : AV → W} {H : AHeap} {t0 : AV} (h : corpus_Corpus_Docs Q t0 H) : ASpec Try.prog T 49 [t0] H Q :=
  denF_ok tOk mixed Try.func49 Try.ntmps49 (by kernel_rfl : _ = some (bodyOf Try.f49)) (by kernel_rfl : _ = [.tmp 2]) (by kernel_rfl) (Nat.le_of_ble_eq_true rfl) (congrFun (congrFun corpus_Corpus_Docs_d Q) t0) h

-- incipit/varint.Get
def varint_Get (Q : AV → W) (t0 : AV) : W := wP (abuild T 107 [(0, t0)]) fun t10 => wP (abuild T 109 [(0, t10)]) fun t11 => wO (mBox 109 t11) fun t12 => wC Try.prog T 61 [t12, .int .u64 9223372036854775807] fun t14 => wC Try.prog T 62 [t12] fun t17 => wP (aextract t17 0) fun t18 => wP (aextract t17 1) fun t19 => wP (cvI .i64 t14) fun t21 => Q (.tup [t21, t18, t19])
def varint_Get_a : Ann := (.seq (.reg [3]) none (.seq (.reg [5]) none (.seq (.reg [3]) none (.seq (.reg [7]) none (.seq (.reg [7]) none .z)))))
theorem varint_Get_d : @varint_Get = fun Q t0 => denF Try.prog T 24 (bodyOf Try.f50) varint_Get_a [.tmp 2, .tmp 3, .tmp 4] Q [t0] := by kernel_rfl
theorem varint_Get_ok {Q : AV → W} {H : AHeap} {t0 : AV} (h : varint_Get Q t0 H) : ASpec Try.prog T 50 [t0] H Q :=
  denF_ok tOk mixed Try.func50 Try.ntmps50 (by kernel_rfl : _ = some (bodyOf Try.f50)) (by kernel_rfl : _ = [.tmp 2, .tmp 3, .tmp 4]) (by kernel_rfl) (Nat.le_of_ble_eq_true rfl) (congrFun (congrFun varint_Get_d Q) t0) h

-- incipit/varint.GetText
def varint_GetText_b1 (Q : AV → W) (t5 t6 : AV) : W := wP (aNil t5) fun t43 => wP (po 0 t43) fun t44 => wP (cvI .i64 t6) fun t46 => wC Try.prog T 63 [t44, t46] fun t47 => wP (aNil t5) fun t50 => wP (po 0 t50) fun t51 => wC Try.prog T 64 [t51] fun t52 => Q (.tup [t47, t52, .int .i64 0])
def varint_GetText_b2 (Q : AV → W) (t5 t6 : AV) : W := wLet2 (varint_GetText_b1 Q) fun k1 => wP (aNil t5) fun t34 => wP (po 1 t34) fun t35 => wO (ld t35) fun t36 => wP (abin T .neq 26 t36 (.int .i64 0)) fun t37 => wIf t37 (wD fun ls1 => wP (aNil t5) fun t39 => wP (po 1 t39) fun t40 => wO (ldX ls1 t40) fun t41 => Q (.tup [.nsl, .nsl, t41])) (k1 t5 t6)
def varint_GetText_g3 (k2 : AV → AV → W) (t11 t13 t18 t28x1 : AV) : W := wP (aPick t18 t28x1 (.bool false)) fun t29 => wIf t29 (wP (aNil t11) fun t31 => wP (po 1 t31) fun t32 => wO (st 1 t32 (.int .i64 4)) fun _ => k2 t11 t13) (k2 t11 t13)
def varint_GetText_b4 (Q : AV → W) (t11 t13 : AV) : W := wLet2 (varint_GetText_b2 Q) fun k2 => wP (aNil t11) fun t15 => wP (po 1 t15) fun t16 => wO (ld t16) fun t17 => wP (abin T .eql 26 t17 (.int .i64 0)) fun t18 => wG t18 true (fun k => wP (aNil t11) fun t22 => wP (po 0 t22) fun t23 => wP (po 0 t23) fun t24 => wO (ld t24) fun t25 => wP (lenS t25) fun t26 => wP (cvI .u64 t26) fun t27 => wP (abin T .gtr 50 t13 t27) fun t28 => k t28) (varint_GetText_g3 k2 t11 t13 t18)
def varint_GetText (Q : AV → W) (t0 : AV) : W := wP (abuild T 107 [(0, t0)]) fun t9 => wP (abuild T 109 [(0, t9)]) fun t10 => wO (mBox 109 t10) fun t11 => wC Try.prog T 61 [t11, .int .u64 9223372036854775807] fun t13 => varint_GetText_b4 Q t11 t13
def varint_GetText_a : Ann := (.seq (.reg [3]) none (.seq (.reg [5]) none (.seq (.reg [3]) none (.join (.seq (.reg [6, 9, 1]) none (.cond (.reg [4]) .z)) [5, 6] (.join (.seq (.reg [5]) none (.cond (.seq (.plan true (.st 0 false (.st 1 false (.st 2 false (.st 3 false (.st 4 false (.st 5 false (.st 6 false .done)))))))) none .z) .z)) [5, 6] (.seq (.reg [7]) none (.seq (.reg [8]) none .z)))))))
theorem varint_GetText_d : @varint_GetText = fun Q t0 => denF Try.prog T 53 (bodyOf Try.f51) varint_GetText_a [.tmp 2, .tmp 3, .tmp 4] Q [t0] := by kernel_rfl
theorem varint_GetText_ok {Q : AV → W} {H : AHeap} {t0 : AV} (h : varint_GetText Q t0 H) : ASpec Try.prog T 51 [t0] H Q :=
  denF_ok tOk mixed Try.func51 Try.ntmps51 (by kernel_rfl : _ = some (bodyOf Try.f51)) (by kernel_rfl : _ = [.tmp 2, .tmp 3, .tmp 4]) (by kernel_rfl) (Nat.le_of_ble_eq_true rfl) (congrFun (congrFun varint_GetText_d Q) t0) h

-- incipit/crc.low
def crc_low (Q : AV → W) (t0 : AV) : W := wP (cvI .u8 t0) fun t4 => wP (abin T .shr 95 t0 (.int .u64 8)) fun t6 => wP (cvI .u8 t6) fun t7 => wP (abin T .shr 95 t0 (.int .u64 16)) fun t9 => wP (cvI .u8 t9) fun t10 => wP (abin T .shr 95 t0 (.int .u64 24)) fun t12 => wP (cvI .u8 t12) fun t13 => wO (mList T 22 4 [(0, t4), (1, t7), (2, t10), (3, t13)]) fun t14 => Q t14
def crc_low_a : Ann := (.seq (.reg [1]) none (.seq (.reg [13]) none .z))
theorem crc_low_d : @crc_low = fun Q t0 => denF Try.prog T 15 (bodyOf Try.f52) crc_low_a [.tmp 2] Q [t0] := by kernel_rfl
theorem crc_low_ok {Q : AV → W} {H : AHeap} {t0 : AV} (h : crc_low Q t0 H) : ASpec Try.prog T 52 [t0] H Q :=
  denF_ok tOk mixed Try.func52 Try.ntmps52 (by kernel_rfl : _ = some (bodyOf Try.f52)) (by kernel_rfl : _ = [.tmp 2]) (by kernel_rfl) (Nat.le_of_ble_eq_true rfl) (congrFun (congrFun crc_low_d Q) t0) h

-- incipit/crc.Sum
def crc_Sum (Q : AV → W) (t0 : AV) : W := wP (abuild T 117 []) fun t3 => wO (mBox 117 t3) fun t4 => wC Try.prog T 65 [t4, t0] fun t6 => wC Try.prog T 66 [t6] fun t7 => Q t7
def crc_Sum_a : Ann := (.seq (.reg [1]) none (.seq (.reg [6]) none .z))
theorem crc_Sum_d : @crc_Sum = fun Q t0 => denF Try.prog T 8 (bodyOf Try.f53) crc_Sum_a [.tmp 2] Q [t0] := by kernel_rfl
theorem crc_Sum_ok {Q : AV → W} {H : AHeap} {t0 : AV} (h : crc_Sum Q t0 H) : ASpec Try.prog T 53 [t0] H Q :=
  denF_ok tOk mixed Try.func53 Try.ntmps53 (by kernel_rfl : _ = some (bodyOf Try.f53)) (by kernel_rfl : _ = [.tmp 2]) (by kernel_rfl) (Nat.le_of_ble_eq_true rfl) (congrFun (congrFun crc_Sum_d Q) t0) h

-- incipit/varint.Put
def varint_Put_b2 (back1 : AV → AV → W) (t3 t5 t6 t7 t8 : AV) : W := wP (cvI .u64 t5) fun t16 => wC Try.prog T 60 [t3, t16] fun t17 => wP (abin T .add 3 t8 (.int .i64 1)) fun t18 => back1 t17 t18
def varint_Put_b3 (Q : AV → W) (back1 : AV → AV → W) (t3 t6 t7 t8 : AV) : W := wP (ix 1 t6 t8) fun t10 => wO (ld t10) fun t11 => wLet5 (varint_Put_b2 back1) fun k1 => wP (abin T .lss 3 t11 (.int .i64 0)) fun t13 => wIf t13 (Q .nsl) (k1 t3 t11 t6 t7 t8)
def varint_Put_L1 (Q : AV → W) (t6 t7 : AV) (back1 : AV → AV → W) (t3 t8 : AV) : W := wP (abin T .lss 3 t8 t7) fun t9 => wLet4 (varint_Put_b3 Q back1) fun k2 => wIf t9 (k2 t3 t6 t7 t8) (Q t3)
def varint_Put (Q : AV → W) (t0 : AV) : W := wP (lenS t0) fun t7 => wLoop2 (varint_Put_L1 Q t0 t7) .nsl (.int .i64 0)
def varint_Put_a : Ann := (.seq (.reg [1]) none (.seq (.reg [1]) none (.seq (.seq (.reg [3]) none (.sub (.loop [3, 8] [6, 7] (.seq (.reg [1]) none (.join (.cond .z .z) [3, 6, 7, 8] (.seq (.sub (.seq (.reg [3]) none (.join (.seq (.reg [2]) none (.cond (.seq (.reg [1]) none .z) .z)) [3, 5, 6, 7, 8] (.reg [5])))) (some [3, 6, 7, 8]) (.reg [2]))))))) (some [3]) (.seq (.reg [2]) none .z))))
theorem varint_Put_d : @varint_Put = fun Q t0 => denF Try.prog T 20 (bodyOf Try.f54) varint_Put_a [.tmp 2] Q [t0] := by kernel_rfl
theorem varint_Put_ok {Q : AV → W} {H : AHeap} {t0 : AV} (h : varint_Put Q t0 H) : ASpec Try.prog T 54 [t0] H Q :=
  denF_ok tOk mixed Try.func54 Try.ntmps54 (by kernel_rfl : _ = some (bodyOf Try.f54)) (by kernel_rfl : _ = [.tmp 2]) (by kernel_rfl) (Nat.le_of_ble_eq_true rfl) (congrFun (congrFun varint_Put_d Q) t0) h

-- (incipit/corpus.list).at
def corpus_list_at_g1 (Q : AV → W) (t10 t15 t21 t22 : AV) : W := wG t15 true (fun k => wP (abin T .eql 3 t21 t22) k) (fun t23 => wP (aPick t15 t23 (.bool false)) fun t24 => Q (.tup [t10, t24]))
def corpus_list_at_g2 (Q : AV → W) (ls1 : List Nat) (t3 t10 t15 t20 : AV) : W := wG t15 true (fun k => wO (ldX ls1 t20) k) (fun t21 => wG t15 true (fun k => wO (ldX ls1 t3) k) (corpus_list_at_g1 Q t10 t15 t21))
def corpus_list_at_g3 (Q : AV → W) (ls1 : List Nat) (t3 t10 t15 t17 t18 : AV) : W := wG t15 true (fun k => wP (ix 2 t17 t18) k) (fun t19 => wG t15 true (fun k => wP (po 0 t19) k) (corpus_list_at_g2 Q ls1 t3 t10 t15))
def corpus_list_at (Q : AV → W) (t0 t1 : AV) : W := wO (mBox 71 t0) fun t2 => wO (mBox 3 t1) fun t3 => wO (ld t2) fun t7 => wP (lenS t7) fun t8 => wP (some (.fn (.func 68) [] [t2, t3])) fun t9 => wC Try.prog T 67 [t8, t9] fun t10 => wD fun ls1 => wO (ldX ls1 t2) fun t13 => wP (lenS t13) fun t14 => wP (abin T .lss 3 t10 t14) fun t15 => wG t15 true (fun k => wO (ldX ls1 t2) k) (fun t17 => wG t15 true (fun k => k t10) (corpus_list_at_g3 Q ls1 t3 t10 t15 t17))
def corpus_list_at_a : Ann := (.seq (.reg [4]) none (.seq (.reg [5]) none (.seq (.plan true (.st 0 false (.st 1 false (.st 2 false (.st 3 false (.st 4 false (.st 5 false (.st 6 false (.st 7 false (.st 8 false (.st 9 false (.st 10 false (.st 11 false (.st 12 false (.st 13 false (.st 14 false (.st 15 false .done))))))))))))))))) none .z)))
theorem corpus_list_at_d : @corpus_list_at = fun Q t0 t1 => denF Try.prog T 25 (bodyOf Try.f55) corpus_list_at_a [.tmp 4, .tmp 5] Q [t0, t1] := by kernel_rfl
theorem corpus_list_at_ok {Q : AV → W} {H : AHeap} {t0 t1 : AV} (h : corpus_list_at Q t0 t1 H) : ASpec Try.prog T 55 [t0, t1] H Q :=
  denF_ok tOk mixed Try.func55 Try.ntmps55 (by kernel_rfl : _ = some (bodyOf Try.f55)) (by kernel_rfl : _ = [.tmp 4, .tmp 5]) (by kernel_rfl) (Nat.le_of_ble_eq_true rfl) (congrFun (congrFun (congrFun corpus_list_at_d Q) t0) t1) h

-- slices.Delete[incipit/corpus.list,incipit/corpus.Doc]
def slices_Delete_corpus_Doc_b1 (Q : AV → W) (t0 t1 t2 : AV) : W := wP (lenS t0) fun t19 => wD fun ls1 => wO (mSliceX ls1 T 71 t0 none (some t1) none) fun t22 => wO (mSliceX ls1 T 71 t0 (some t2) none none) fun t25 => wOX ls1 (mAppend T 71 71 t22 t25) fun t26 => wP (lenS t26) fun t29 => wO (slS 73 2 t26 (some t29) (some t19) none) fun t31 => wO (mClear T 71 t31) fun _ => Q t26
def slices_Delete_corpus_Doc (Q : AV → W) (t0 t1 t2 : AV) : W := wP (lenS t0) fun t12 => wO (slS 73 2 t0 (some t1) (some t2) (some t12)) fun t13 => wLet3 (slices_Delete_corpus_Doc_b1 Q) fun k1 => wP (abin T .eql 3 t1 t2) fun t16 => wIf t16 (Q t0) (k1 t0 t1 t2)
def slices_Delete_corpus_Doc_a : Ann := (.seq (.reg [1]) none (.seq (.reg [6]) none (.join (.seq (.reg [3]) none (.cond (.seq (.reg [2]) none .z) .z)) [0, 1, 2] (.seq (.reg [3]) none (.seq (.plan true (.st 0 false (.st 1 false (.st 2 false (.st 3 false (.st 4 false (.st 5 false (.alt 6 (.st 7 false .done) .nil)))))))) none (.seq (.reg [6]) none (.seq (.reg [2]) none .z)))))))
theorem slices_Delete_corpus_Doc_d : @slices_Delete_corpus_Doc = fun Q t0 t1 t2 => denF Try.prog T 33 (bodyOf Try.f56) slices_Delete_corpus_Doc_a [.tmp 6] Q [t0, t1, t2] := by kernel_rfl
theorem slices_Delete_corpus_Doc_ok {Q : AV → W} {H : AHeap} {t0 t1 t2 : AV} (h : slices_Delete_corpus_Doc Q t0 t1 t2 H) : ASpec Try.prog T 56 [t0, t1, t2] H Q :=
  denF_ok tOk mixed Try.func56 Try.ntmps56 (by kernel_rfl : _ = some (bodyOf Try.f56)) (by kernel_rfl : _ = [.tmp 6]) (by kernel_rfl) (Nat.le_of_ble_eq_true rfl) (congrFun (congrFun (congrFun (congrFun slices_Delete_corpus_Doc_d Q) t0) t1) t2) h

-- (incipit/corpus.list).with
def corpus_list_with_b1 (Q : AV → W) (t0 t3 t7 : AV) : W := wD fun ls1 => wP (po 0 t3) fun t39 => wO (ldX ls1 t39) fun t40 => wP (po 1 t3) fun t41 => wO (ldX ls1 t41) fun t42 => wCX ls1 Try.prog T 32 [t0] fun t37 => wCX ls1 Try.prog T 41 [t42] fun t43 => wP (abuild T 73 [(0, t40), (1, t43)]) fun t44 => wO (mList T 64 1 [(0, t44)]) fun t45 => wCX ls1 Try.prog T 70 [t37, t7, t45] fun t46 => Q (.tup [t46, .int .i64 0])
def corpus_list_with_g2 (Q : AV → W) (k1 : AV → AV → AV → W) (t0 t3 t19 t26 t34 : AV) : W := wP (aPick t26 (.bool true) t34) fun t35 => wIf t35 (Q (.tup [.nsl, .int .i64 6])) (k1 t0 t3 t19)
def corpus_list_with_g3 (Q : AV → W) (k1 : AV → AV → AV → W) (t0 t3 t19 t26 t33 : AV) : W := wG t26 false (fun k => wP (abin T .gtr 3 t33 (.int .i64 8192)) k) (corpus_list_with_g2 Q k1 t0 t3 t19 t26)
def corpus_list_with_g4 (Q : AV → W) (k1 : AV → AV → AV → W) (t0 t3 t19 t26 t32 t29 : AV) : W := wG t26 false (fun k => wP (abin T .add 3 t29 t32) k) (corpus_list_with_g3 Q k1 t0 t3 t19 t26)
def corpus_list_with_g5 (Q : AV → W) (k1 : AV → AV → AV → W) (ls2 : List Nat) (t0 t3 t19 t26 t28 t32 : AV) : W := wG t26 false (fun k => wCX ls2 Try.prog T 69 [t28] k) (corpus_list_with_g4 Q k1 t0 t3 t19 t26 t32)
def corpus_list_with_g6 (Q : AV → W) (k1 : AV → AV → AV → W) (ls2 : List Nat) (t0 t3 t19 t26 t28 t31 : AV) : W := wG t26 false (fun k => wP (lenS t31) k) (corpus_list_with_g5 Q k1 ls2 t0 t3 t19 t26 t28)
def corpus_list_with_g7 (Q : AV → W) (k1 : AV → AV → AV → W) (ls2 : List Nat) (t0 t3 t19 t26 t28 t30 : AV) : W := wG t26 false (fun k => wO (ldX ls2 t30) k) (corpus_list_with_g6 Q k1 ls2 t0 t3 t19 t26 t28)
def corpus_list_with_g8 (Q : AV → W) (k1 : AV → AV → AV → W) (ls2 : List Nat) (t0 t3 t19 t26 t28 : AV) : W := wG t26 false (fun k => wP (po 1 t3) k) (corpus_list_with_g7 Q k1 ls2 t0 t3 t19 t26 t28)
def corpus_list_with_b9 (Q : AV → W) (t0 t3 t18 : AV) : W := wP (aextract t18 0) fun t19 => wP (aextract t18 1) fun t20 => wLet3 (corpus_list_with_b1 Q) fun k1 => wIf t20 (Q (.tup [.nsl, .int .i64 8])) (wD fun ls2 => wP (lenS t0) fun t25 => wP (abin T .eql 3 t25 (.int .i64 64)) fun t26 => wG t26 false (fun k => k t0) (corpus_list_with_g8 Q k1 ls2 t0 t3 t19 t26))
def corpus_list_with_b10 (Q : AV → W) (t0 t3 : AV) : W := wP (po 0 t3) fun t16 => wO (ld t16) fun t17 => wC Try.prog T 55 [t0, t17] fun t18 => corpus_list_with_b9 Q t0 t3 t18
def corpus_list_with (Q : AV → W) (t0 t1 : AV) : W := wO (mBox 73 t1) fun t3 => wLet2 (corpus_list_with_b10 Q) fun k2 => wO (ldn 2 t3) fun t9 => wC Try.prog T 37 [t9] fun t10 => wP (abin T .neq 26 t10 (.int .i64 0)) fun t12 => wIf t12 (Q (.tup [.nsl, t10])) (k2 t0 t3)
def corpus_list_with_a : Ann := (.seq (.reg [3]) none (.join (.seq (.reg [3]) none (.seq (.reg [2]) none (.cond (.seq (.reg [3]) none .z) .z))) [0, 3] (.seq (.reg [9]) none (.join (.sub (.seq (.reg [2]) none (.cond (.seq (.reg [2]) none .z) (.seq (.plan true (.st 0 false (.st 1 false (.st 2 false (.st 3 false (.st 4 false (.st 6 false (.st 7 false (.st 8 false (.alt 5 (.st 9 false (.st 10 false (.st 11 false (.st 12 false .done)))) .nil)))))))))) none (.cond (.seq (.reg [2]) none .z) .z))))) [0, 3, 7] (.seq (.plan true (.st 0 false (.st 2 false (.st 3 false (.st 4 false (.st 5 false (.st 6 false (.alt 1 (.alt 7 (.st 8 false (.alt 9 (.alt 10 (.st 11 false (.st 12 false .done)) .nil) .nil)) .nil) .nil)))))))) none .z)))))
theorem corpus_list_with_d : @corpus_list_with = fun Q t0 t1 => denF Try.prog T 47 (bodyOf Try.f57) corpus_list_with_a [.tmp 4, .tmp 5] Q [t0, t1] := by kernel_rfl
theorem corpus_list_with_ok {Q : AV → W} {H : AHeap} {t0 t1 : AV} (h : corpus_list_with Q t0 t1 H) : ASpec Try.prog T 57 [t0, t1] H Q :=
  denF_ok tOk mixed Try.func57 Try.ntmps57 (by kernel_rfl : _ = some (bodyOf Try.f57)) (by kernel_rfl : _ = [.tmp 4, .tmp 5]) (by kernel_rfl) (Nat.le_of_ble_eq_true rfl) (congrFun (congrFun (congrFun corpus_list_with_d Q) t0) t1) h

-- slices.Grow[[]byte,byte]
def slices_Grow_byte_b1 (Q : AV → W) (t0 t1 : AV) : W := wP (acap T 22 t0) fun t10 => wP (lenS t0) fun t12 => wP (abin T .sub 3 t10 t12) fun t13 => wP (abin T .sub 3 t1 t13) fun t14 => wP (abin T .gtr 3 t14 (.int .i64 0)) fun t16 => wIf t16 (wP (acap T 22 t0) fun t19 => wO (slS 5 1 t0 none (some t19) none) fun t20 => wO (mAppend T 22 3 t20 t14) fun t22 => wP (lenS t0) fun t24 => wO (slS 5 1 t22 none (some t24) none) fun t25 => Q t25) (Q t0)
def slices_Grow_byte (Q : AV → W) (t0 t1 : AV) : W := wLet2 (slices_Grow_byte_b1 Q) fun k1 => wP (abin T .lss 3 t1 (.int .i64 0)) fun t6 => wIf t6 (wBot) (k1 t0 t1)
def slices_Grow_byte_a : Ann := (.seq (.reg [1]) none (.join (.seq (.reg [2]) none (.cond (.reg [2]) .z)) [0, 1] (.seq (.seq (.reg [8]) none (.seq (.reg [2]) none (.cond (.reg [10]) .z))) (some [0]) (.seq (.reg [2]) none .z))))
theorem slices_Grow_byte_d : @slices_Grow_byte = fun Q t0 t1 => denF Try.prog T 27 (bodyOf Try.f58) slices_Grow_byte_a [.tmp 4] Q [t0, t1] := by kernel_rfl
theorem slices_Grow_byte_ok {Q : AV → W} {H : AHeap} {t0 t1 : AV} (h : slices_Grow_byte Q t0 t1 H) : ASpec Try.prog T 58 [t0, t1] H Q :=
  denF_ok tOk mixed Try.func58 Try.ntmps58 (by kernel_rfl : _ = some (bodyOf Try.f58)) (by kernel_rfl : _ = [.tmp 4]) (by kernel_rfl) (Nat.le_of_ble_eq_true rfl) (congrFun (congrFun (congrFun slices_Grow_byte_d Q) t0) t1) h

-- (*incipit/corpus.Corpus).Count
def corpus_Corpus_Count_b1 (Q : AV → W) (t0 : AV) : W := wP (aNil t0) fun t6 => wP (po 0 t6) fun t7 => wO (ld t7) fun t8 => wP (lenS t8) fun t9 => Q t9
def corpus_Corpus_Count (Q : AV → W) (t0 : AV) : W := wLet1 (corpus_Corpus_Count_b1 Q) fun k1 => wP (abin T .eql 40 t0 (.ptr none)) fun t4 => wIf t4 (Q (.int .i64 0)) (k1 t0)
def corpus_Corpus_Count_a : Ann := (.seq (.reg [1]) none (.join (.seq (.reg [2]) none (.cond (.seq (.reg [1]) none .z) .z)) [0] (.seq (.reg [6]) none .z)))
theorem corpus_Corpus_Count_d : @corpus_Corpus_Count = fun Q t0 => denF Try.prog T 10 (bodyOf Try.f59) corpus_Corpus_Count_a [.tmp 2] Q [t0] := by kernel_rfl
theorem corpus_Corpus_Count_ok {Q : AV → W} {H : AHeap} {t0 : AV} (h : corpus_Corpus_Count Q t0 H) : ASpec Try.prog T 59 [t0] H Q :=
  denF_ok tOk mixed Try.func59 Try.ntmps59 (by kernel_rfl : _ = some (bodyOf Try.f59)) (by kernel_rfl : _ = [.tmp 2]) (by kernel_rfl) (Nat.le_of_ble_eq_true rfl) (congrFun (congrFun corpus_Corpus_Count_d Q) t0) h

-- incipit/varint.put
def varint_put_b1 (Q : AV → W) (t0 t1 : AV) : W := wP (cvI .u8 t1) fun t17 => wO (mList T 22 1 [(0, t17)]) fun t18 => wO (mAppend T 22 22 t0 t18) fun t19 => Q t19
def varint_put_b3 (back1 : AV → AV → W) (t0 t1 : AV) : W := wP (cvI .u8 t1) fun t11 => wP (abin T .or 5 t11 (.int .u8 128)) fun t12 => wO (mList T 22 1 [(0, t12)]) fun t13 => wO (mAppend T 22 22 t0 t13) fun t14 => wP (abin T .shr 50 t1 (.int .u64 7)) fun t8 => back1 t14 t8
def varint_put_L2 (k1 : AV → AV → W) (back1 : AV → AV → W) (t0 t1 : AV) : W := wLet2 (varint_put_b3 back1) fun k2 => wP (abin T .geq 50 t1 (.int .u64 128)) fun t6 => wIf t6 (k2 t0 t1) (k1 t0 t1)
def varint_put (Q : AV → W) (t0 t1 : AV) : W := wLet2 (varint_put_b1 Q) fun k1 => wLoop2 (varint_put_L2 k1) t0 t1
def varint_put_a : Ann := (.seq (.reg [1]) none (.join (.sub (.loop [0, 1] [] (.join (.seq (.reg [2]) none (.cond .z .z)) [0, 1] (.seq (.sub (.reg [7])) (some [0, 1]) (.reg [3]))))) [0, 1] (.seq (.reg [6]) none .z)))
theorem varint_put_d : @varint_put = fun Q t0 t1 => denF Try.prog T 20 (bodyOf Try.f60) varint_put_a [.tmp 4] Q [t0, t1] := by kernel_rfl
theorem varint_put_ok {Q : AV → W} {H : AHeap} {t0 t1 : AV} (h : varint_put Q t0 t1 H) : ASpec Try.prog T 60 [t0, t1] H Q :=
  denF_ok tOk mixed Try.func60 Try.ntmps60 (by kernel_rfl : _ = some (bodyOf Try.f60)) (by kernel_rfl : _ = [.tmp 4]) (by kernel_rfl) (Nat.le_of_ble_eq_true rfl) (congrFun (congrFun (congrFun varint_put_d Q) t0) t1) h

-- (*incipit/varint.reader).number
def varint_reader_number_b1 (Q : AV → W) (t0 : AV) : W := wP (aNil t0) fun t78 => wP (po 1 t78) fun t79 => wO (ld t79) fun t80 => wP (abin T .eql 26 t80 (.int .i64 0)) fun t81 => wIf t81 (wP (aNil t0) fun t83 => wP (po 1 t83) fun t84 => wO (st 1 t84 (.int .i64 4)) fun _ => Q (.int .u64 0)) (Q (.int .u64 0))
def varint_reader_number_b3 (Q : AV → W) (back1 : AV → AV → W) (t0 t1 t5 t6 t7 t8 t9 t19 t20 t21 : AV) : W := wP (abin T .shl 50 t8 t9) fun t65 => wP (abin T .or 50 t5 t65) fun t66 => wP (abin T .lss 5 t7 (.int .u8 128)) fun t68 => wIf t68 (wP (aNil t0) fun t70 => wP (po 0 t70) fun t71 => wP (abin T .add 3 t6 (.int .i64 1)) fun t73 => wC Try.prog T 63 [t71, t73] fun t74 => Q t66) (wP (abin T .add 3 t21 (.int .i64 1)) fun t76 => back1 t66 t76)
def varint_reader_number_g4 (k1 : AV → W) (k2 : AV → AV → AV → AV → AV → AV → AV → AV → AV → AV → W) (t0 t1 t5 t19 t20 t21 t25 t28 t30 t54 t57x1 : AV) : W := wP (aPick t54 t57x1 (.bool false)) fun t58 => wIf t58 (wP (aNil t0) fun t60 => wP (po 1 t60) fun t61 => wO (st 1 t61 (.int .i64 3)) fun _ => k1 t0) (k2 t0 t1 t5 t21 t25 t28 t30 t19 t20 t21)
def varint_reader_number_g5 (k1 : AV → W) (k2 : AV → AV → AV → AV → AV → AV → AV → AV → AV → AV → W) (t0 t1 t5 t19 t20 t21 t25 t28 t30 t39 t47x1 : AV) : W := wP (aPick t39 (.bool true) t47x1) fun t48 => wIf t48 (wP (aNil t0) fun t50 => wP (po 1 t50) fun t51 => wO (st 1 t51 (.int .i64 3)) fun _ => k1 t0) (wP (abin T .eql 5 t25 (.int .u8 0)) fun t54 => wG t54 true (fun k => wP (abin T .gtr 3 t21 (.int .i64 0)) fun t57 => k t57) (varint_reader_number_g4 k1 k2 t0 t1 t5 t19 t20 t21 t25 t28 t30 t54))
def varint_reader_number_g6 (k1 : AV → W) (k2 : AV → AV → AV → AV → AV → AV → AV → AV → AV → AV → W) (t0 t1 t5 t19 t20 t21 t25 t28 t30 t33 t38x1 : AV) : W := wP (aPick t33 (.bool true) t38x1) fun t39 => wG t39 false (fun k => wP (abin T .shl 50 t28 t30) fun t44 => wP (abin T .or 50 t5 t44) fun t45 => wP (abin T .gtr 50 t45 t1) fun t47 => k t47) (varint_reader_number_g5 k1 k2 t0 t1 t5 t19 t20 t21 t25 t28 t30 t39)
def varint_reader_number_b7 (Q : AV → W) (k1 : AV → W) (back1 : AV → AV → W) (t0 t1 t5 t19 t20 t21 : AV) : W := wP (ix 1 t19 t21) fun t24 => wO (ld t24) fun t25 => wP (abin T .andNot 5 t25 (.int .u8 128)) fun t27 => wP (cvI .u64 t27) fun t28 => wP (abin T .mul 3 (.int .i64 7) t21) fun t30 => wLet10 (varint_reader_number_b3 Q back1) fun k2 => wP (abin T .gtr 3 t30 (.int .i64 63)) fun t33 => wG t33 false (fun k => wP (abin T .shr 50 (.int .u64 18446744073709551615) t30) fun t37 => wP (abin T .gtr 50 t28 t37) fun t38 => k t38) (varint_reader_number_g6 k1 k2 t0 t1 t5 t19 t20 t21 t25 t28 t30 t33)
def varint_reader_number_L2 (Q : AV → W) (k1 : AV → W) (t0 t1 t19 t20 : AV) (back1 : AV → AV → W) (t5 t21 : AV) : W := wP (abin T .lss 3 t21 t20) fun t22 => wLet6 (varint_reader_number_b7 Q k1 back1) fun k3 => wIf t22 (k3 t0 t1 t5 t19 t20 t21) (k1 t0)
def varint_reader_number_b8 (Q : AV → W) (t0 t1 : AV) : W := wLet1 (varint_reader_number_b1 Q) fun k1 => wP (aNil t0) fun t16 => wP (po 0 t16) fun t17 => wP (po 0 t17) fun t18 => wO (ld t18) fun t19 => wP (lenS t19) fun t20 => wLoop2 (varint_reader_number_L2 Q k1 t0 t1 t19 t20) (.int .u64 0) (.int .i64 0)
def varint_reader_number (Q : AV → W) (t0 t1 : AV) : W := wLet2 (varint_reader_number_b8 Q) fun k4 => wP (aNil t0) fun t11 => wP (po 1 t11) fun t12 => wO (ld t12) fun t13 => wP (abin T .neq 26 t13 (.int .i64 0)) fun t14 => wIf t14 (Q (.int .u64 0)) (k4 t0 t1)
def varint_reader_number_a : Ann := (.seq (.reg [1]) none (.sub (.join (.seq (.reg [5]) none (.cond (.seq (.reg [1]) none .z) .z)) [0, 1] (.seq (.reg [1]) none (.seq .z none (.join (.seq (.reg [7]) none (.sub (.loop [5, 21] [0, 1, 19, 20] (.seq (.reg [1]) none (.join (.cond .z .z) [0, 1, 5, 19, 20, 21] (.seq (.sub (.seq (.reg [5]) none (.seq (.reg [4]) none (.seq (.reg [3]) none (.join (.sub (.seq (.reg [3, 4, 2, 7, 2]) none (.cond (.seq (.reg [4]) none .z) (.seq (.reg [3, 2, 2]) none (.cond (.seq (.reg [4]) none .z) .z))))) [0, 1, 5, 6, 7, 8, 9, 19, 20, 21] (.seq (.reg [6]) none (.seq (.reg [2]) none (.cond (.seq (.reg [6]) none (.seq (.reg [2]) none .z)) .z)))))))) (some [0, 1, 5, 19, 20, 21]) (.reg [2]))))))) [0] (.seq (.seq (.reg [5]) none (.cond (.reg [4]) .z)) (some []) (.seq (.reg [1]) none .z))))))))
theorem varint_reader_number_d : @varint_reader_number = fun Q t0 t1 => denF Try.prog T 85 (bodyOf Try.f61) varint_reader_number_a [.tmp 4] Q [t0, t1] := by kernel_rfl
theorem varint_reader_number_ok {Q : AV → W} {H : AHeap} {t0 t1 : AV} (h : varint_reader_number Q t0 t1 H) : ASpec Try.prog T 61 [t0, t1] H Q :=
  denF_ok tOk mixed Try.func61 Try.ntmps61 (by kernel_rfl : _ = some (bodyOf Try.f61)) (by kernel_rfl : _ = [.tmp 4]) (by kernel_rfl) (Nat.le_of_ble_eq_true rfl) (congrFun (congrFun (congrFun varint_reader_number_d Q) t0) t1) h

-- (*incipit/varint.reader).end
def varint_reader_end_b1 (Q : AV → W) (t0 : AV) : W := wP (aNil t0) fun t14 => wP (po 0 t14) fun t15 => wC Try.prog T 64 [t15] fun t16 => Q (.tup [t16, .int .i64 0])
def varint_reader_end (Q : AV → W) (t0 : AV) : W := wLet1 (varint_reader_end_b1 Q) fun k1 => wP (aNil t0) fun t5 => wP (po 1 t5) fun t6 => wO (ld t6) fun t7 => wP (abin T .neq 26 t7 (.int .i64 0)) fun t8 => wIf t8 (wD fun ls1 => wP (aNil t0) fun t10 => wP (po 1 t10) fun t11 => wO (ldX ls1 t11) fun t12 => Q (.tup [.nsl, t12])) (k1 t0)
def varint_reader_end_a : Ann := (.seq (.reg [2]) none (.join (.seq (.reg [5]) none (.cond (.seq (.plan true (.st 0 false (.st 1 false (.st 2 false (.st 3 false (.st 4 false (.st 5 false .done))))))) none .z) .z)) [0] (.seq (.reg [6]) none .z)))
theorem varint_reader_end_d : @varint_reader_end = fun Q t0 => denF Try.prog T 17 (bodyOf Try.f62) varint_reader_end_a [.tmp 2, .tmp 3] Q [t0] := by kernel_rfl
theorem varint_reader_end_ok {Q : AV → W} {H : AHeap} {t0 : AV} (h : varint_reader_end Q t0 H) : ASpec Try.prog T 62 [t0] H Q :=
  denF_ok tOk mixed Try.func62 Try.ntmps62 (by kernel_rfl : _ = some (bodyOf Try.f62)) (by kernel_rfl : _ = [.tmp 2, .tmp 3]) (by kernel_rfl) (Nat.le_of_ble_eq_true rfl) (congrFun (congrFun varint_reader_end_d Q) t0) h

-- (*incipit/varint.rest).take
def varint_rest_take (Q : AV → W) (t0 t1 : AV) : W := wP (aNil t0) fun t7 => wP (po 0 t7) fun t8 => wO (ld t8) fun t9 => wO (slS 5 1 t9 none (some t1) none) fun t11 => wC Try.prog T 41 [t11] fun t12 => wP (aNil t0) fun t15 => wP (po 0 t15) fun t16 => wO (ld t16) fun t17 => wO (slS 5 1 t17 (some t1) none none) fun t19 => wP (aNil t0) fun t20 => wP (po 0 t20) fun t21 => wO (st 1 t21 t19) fun _ => Q t12
def varint_rest_take_a : Ann := (.seq (.reg [1]) none (.seq (.reg [8]) none (.seq (.reg [10]) none (.seq (.reg [2]) none .z))))
theorem varint_rest_take_d : @varint_rest_take = fun Q t0 t1 => denF Try.prog T 23 (bodyOf Try.f63) varint_rest_take_a [.tmp 4] Q [t0, t1] := by kernel_rfl
theorem varint_rest_take_ok {Q : AV → W} {H : AHeap} {t0 t1 : AV} (h : varint_rest_take Q t0 t1 H) : ASpec Try.prog T 63 [t0, t1] H Q :=
  denF_ok tOk mixed Try.func63 Try.ntmps63 (by kernel_rfl : _ = some (bodyOf Try.f63)) (by kernel_rfl : _ = [.tmp 4]) (by kernel_rfl) (Nat.le_of_ble_eq_true rfl) (congrFun (congrFun (congrFun varint_rest_take_d Q) t0) t1) h

-- (*incipit/varint.rest).left
def varint_rest_left (Q : AV → W) (t0 : AV) : W := wP (aNil t0) fun t4 => wP (po 0 t4) fun t5 => wO (ld t5) fun t6 => wC Try.prog T 41 [t6] fun t7 => Q t7
def varint_rest_left_a : Ann := (.seq (.reg [1]) none (.seq (.reg [6]) none .z))
theorem varint_rest_left_d : @varint_rest_left = fun Q t0 => denF Try.prog T 8 (bodyOf Try.f64) varint_rest_left_a [.tmp 2] Q [t0] := by kernel_rfl
theorem varint_rest_left_ok {Q : AV → W} {H : AHeap} {t0 : AV} (h : varint_rest_left Q t0 H) : ASpec Try.prog T 64 [t0] H Q :=
  denF_ok tOk mixed Try.func64 Try.ntmps64 (by kernel_rfl : _ = some (bodyOf Try.f64)) (by kernel_rfl : _ = [.tmp 2]) (by kernel_rfl) (Nat.le_of_ble_eq_true rfl) (congrFun (congrFun varint_rest_left_d Q) t0) h

-- (*incipit/crc.Register).Add
def crc_Register_Add_b2 (back1 : AV → W) (t0 t20 t21 t22 : AV) : W := wP (ix 1 t20 t22) fun t24 => wO (ld t24) fun t25 => wP (aNil t0) fun t27 => wP (po 1 t27) fun t28 => wO (ld t28) fun t29 => wP (lenS t25) fun t31 => wP (abin T .add 3 t29 t31) fun t32 => wP (aNil t0) fun t33 => wP (po 1 t33) fun t34 => wO (st 1 t34 t32) fun _ => wP (abin T .add 3 t22 (.int .i64 1)) fun t35 => back1 t35
def crc_Register_Add_L1 (Q : AV → W) (t0 t20 t21 : AV) (back1 : AV → W) (t22 : AV) : W := wP (abin T .lss 3 t22 t21) fun t23 => wLet4 (crc_Register_Add_b2 back1) fun k1 => wIf t23 (k1 t0 t20 t21 t22) (Q t0)
def crc_Register_Add_b3 (Q : AV → W) (t0 t1 t10 : AV) : W := wO (new 124 (List.replicate 256 (.int .u32 (0)))) fun t5 => wO (st 256 t5 t10) fun _ => wP (aNil t0) fun t13 => wP (po 0 t13) fun t14 => wO (ld t14) fun t15 => wC Try.prog T 72 [t15, t5, t1] fun t17 => wP (aNil t0) fun t18 => wP (po 0 t18) fun t19 => wO (st 1 t19 t17) fun _ => wP (lenS t1) fun t21 => wLoop1 (crc_Register_Add_L1 Q t0 t1 t21) (.int .i64 0)
def crc_Register_Add_b4 (Q : AV → W) (t0 t1 : AV) : W := wC Try.prog T 71 [] fun t10 => crc_Register_Add_b3 Q t0 t1 t10
def crc_Register_Add (Q : AV → W) (t0 t1 : AV) : W := wLet2 (crc_Register_Add_b4 Q) fun k2 => wP (abin T .eql 114 t0 (.ptr none)) fun t9 => wIf t9 (Q (.ptr none)) (k2 t0 t1)
def crc_Register_Add_a : Ann := (.seq (.reg [1]) none (.join (.seq (.reg [2]) none (.cond (.seq (.reg [1]) none .z) .z)) [0, 1] (.seq (.reg [3]) none (.seq (.reg [10]) none (.seq (.seq (.reg [3]) none (.sub (.loop [22] [0, 20, 21] (.seq (.reg [1]) none (.join (.cond .z .z) [0, 20, 21, 22] (.seq (.sub (.seq (.reg [3]) none (.reg [10]))) (some [0, 20, 21, 22]) (.reg [2]))))))) (some [0]) (.seq (.reg [2]) none .z))))))
theorem crc_Register_Add_d : @crc_Register_Add = fun Q t0 t1 => denF Try.prog T 37 (bodyOf Try.f65) crc_Register_Add_a [.tmp 4] Q [t0, t1] := by kernel_rfl
theorem crc_Register_Add_ok {Q : AV → W} {H : AHeap} {t0 t1 : AV} (h : crc_Register_Add Q t0 t1 H) : ASpec Try.prog T 65 [t0, t1] H Q :=
  denF_ok tOk mixed Try.func65 Try.ntmps65 (by kernel_rfl : _ = some (bodyOf Try.f65)) (by kernel_rfl : _ = [.tmp 4]) (by kernel_rfl) (Nat.le_of_ble_eq_true rfl) (congrFun (congrFun (congrFun crc_Register_Add_d Q) t0) t1) h

-- (*incipit/crc.Register).Sum
def crc_Register_Sum_b1 (Q : AV → W) (t0 : AV) : W := wP (aNil t0) fun t6 => wP (po 0 t6) fun t7 => wO (ld t7) fun t8 => wC Try.prog T 73 [t8] fun t9 => Q t9
def crc_Register_Sum (Q : AV → W) (t0 : AV) : W := wLet1 (crc_Register_Sum_b1 Q) fun k1 => wP (abin T .eql 114 t0 (.ptr none)) fun t4 => wIf t4 (Q (.int .u32 0)) (k1 t0)
def crc_Register_Sum_a : Ann := (.seq (.reg [1]) none (.join (.seq (.reg [2]) none (.cond (.seq (.reg [1]) none .z) .z)) [0] (.seq (.reg [6]) none .z)))
theorem crc_Register_Sum_d : @crc_Register_Sum = fun Q t0 => denF Try.prog T 10 (bodyOf Try.f66) crc_Register_Sum_a [.tmp 2] Q [t0] := by kernel_rfl
theorem crc_Register_Sum_ok {Q : AV → W} {H : AHeap} {t0 : AV} (h : crc_Register_Sum Q t0 H) : ASpec Try.prog T 66 [t0] H Q :=
  denF_ok tOk mixed Try.func66 Try.ntmps66 (by kernel_rfl : _ = some (bodyOf Try.f66)) (by kernel_rfl : _ = [.tmp 2]) (by kernel_rfl) (Nat.le_of_ble_eq_true rfl) (congrFun (congrFun crc_Register_Sum_d Q) t0) h

-- sort.Search
def sort_Search_b2 (back1 : AV → AV → W) (t1 t5 t6 : AV) : W := wP (abin T .add 3 t5 t6) fun t14 => wP (cvI .u64 t14) fun t15 => wP (abin T .shr 113 t15 (.int .u64 1)) fun t16 => wP (cvI .i64 t16) fun t17 => wV Try.prog T t1 [t17] fun t20 => wP (aun .not t20) fun t21 => wIf t21 (wP (abin T .add 3 t17 (.int .i64 1)) fun t23 => back1 t23 t6) (back1 t5 t17)
def sort_Search_L1 (Q : AV → W) (t1 : AV) (back1 : AV → AV → W) (t5 t6 : AV) : W := wLet3 (sort_Search_b2 back1) fun k1 => wP (abin T .lss 3 t5 t6) fun t11 => wIf t11 (k1 t1 t5 t6) (Q t5)
def sort_Search (Q : AV → W) (t0 t1 : AV) : W := wLoop2 (sort_Search_L1 Q t1) (.int .i64 0) t0
def sort_Search_a : Ann := (.seq (.reg [1]) none (.seq (.reg [3]) none (.seq (.sub (.loop [5, 6] [1] (.join (.seq (.reg [3]) none (.cond .z .z)) [1, 5, 6] (.sub (.seq (.reg [7]) none (.seq (.reg [4]) none (.cond (.reg [3]) (.reg [2])))))))) (some [5]) (.seq (.reg [2]) none .z))))
theorem sort_Search_d : @sort_Search = fun Q t0 t1 => denF Try.prog T 26 (bodyOf Try.f67) sort_Search_a [.tmp 4] Q [t0, t1] := by kernel_rfl
theorem sort_Search_ok {Q : AV → W} {H : AHeap} {t0 t1 : AV} (h : sort_Search Q t0 t1 H) : ASpec Try.prog T 67 [t0, t1] H Q :=
  denF_ok tOk mixed Try.func67 Try.ntmps67 (by kernel_rfl : _ = some (bodyOf Try.f67)) (by kernel_rfl : _ = [.tmp 4]) (by kernel_rfl) (Nat.le_of_ble_eq_true rfl) (congrFun (congrFun (congrFun sort_Search_d Q) t0) t1) h

-- (incipit/corpus.list).at$1
def corpus_list_at_1 (Q : AV → W) (t0 t1 t2 : AV) : W := wD fun ls1 => wO (ldX ls1 t1) fun t5 => wP (ix 2 t5 t0) fun t7 => wP (po 0 t7) fun t8 => wO (ldX ls1 t8) fun t9 => wO (ldX ls1 t2) fun t10 => wP (abin T .geq 3 t9 t10) fun t11 => Q t11
def corpus_list_at_1_a : Ann := (.seq (.reg [1]) none (.seq (.plan true (.st 0 false (.st 1 false (.st 2 false (.st 3 false (.st 4 false (.st 5 false (.st 6 false (.st 7 false .done))))))))) none .z))
theorem corpus_list_at_1_d : @corpus_list_at_1 = fun Q t0 t1 t2 => denF Try.prog T 12 (bodyOf Try.f68) corpus_list_at_1_a [.tmp 4] Q [t0, t1, t2] := by kernel_rfl
theorem corpus_list_at_1_ok {Q : AV → W} {H : AHeap} {t0 t1 t2 : AV} (h : corpus_list_at_1 Q t0 t1 t2 H) : ASpec Try.prog T 68 [t0, t1, t2] H Q :=
  denF_ok tOk mixed Try.func68 Try.ntmps68 (by kernel_rfl : _ = some (bodyOf Try.f68)) (by kernel_rfl : _ = [.tmp 4]) (by kernel_rfl) (Nat.le_of_ble_eq_true rfl) (congrFun (congrFun (congrFun (congrFun corpus_list_at_1_d Q) t0) t1) t2) h

-- (incipit/corpus.list).total
def corpus_list_total_b2 (back1 : AV → AV → W) (t3 t6 t7 t8 : AV) : W := wP (ix 2 t6 t8) fun t10 => wO (ldn 2 t10) fun t11 => wO (new 73 [.int .i64 (0), .nsl]) fun t5 => wO (st 2 t5 t11) fun _ => wP (po 1 t5) fun t13 => wO (ld t13) fun t14 => wP (lenS t14) fun t15 => wP (abin T .add 3 t3 t15) fun t16 => wP (abin T .add 3 t8 (.int .i64 1)) fun t17 => back1 t16 t17
def corpus_list_total_L1 (Q : AV → W) (t6 t7 : AV) (back1 : AV → AV → W) (t3 t8 : AV) : W := wP (abin T .lss 3 t8 t7) fun t9 => wLet4 (corpus_list_total_b2 back1) fun k1 => wIf t9 (k1 t3 t6 t7 t8) (Q t3)
def corpus_list_total (Q : AV → W) (t0 : AV) : W := wP (lenS t0) fun t7 => wLoop2 (corpus_list_total_L1 Q t0 t7) (.int .i64 0) (.int .i64 0)
def corpus_list_total_a : Ann := (.seq (.reg [1]) none (.seq (.reg [1]) none (.seq (.seq (.reg [3]) none (.sub (.loop [3, 8] [6, 7] (.seq (.reg [1]) none (.join (.cond .z .z) [3, 6, 7, 8] (.seq (.sub (.seq (.reg [4]) none (.reg [6]))) (some [3, 6, 7, 8]) (.reg [2]))))))) (some [3]) (.seq (.reg [2]) none .z))))
theorem corpus_list_total_d : @corpus_list_total = fun Q t0 => denF Try.prog T 19 (bodyOf Try.f69) corpus_list_total_a [.tmp 2] Q [t0] := by kernel_rfl
theorem corpus_list_total_ok {Q : AV → W} {H : AHeap} {t0 : AV} (h : corpus_list_total Q t0 H) : ASpec Try.prog T 69 [t0] H Q :=
  denF_ok tOk mixed Try.func69 Try.ntmps69 (by kernel_rfl : _ = some (bodyOf Try.f69)) (by kernel_rfl : _ = [.tmp 2]) (by kernel_rfl) (Nat.le_of_ble_eq_true rfl) (congrFun (congrFun corpus_list_total_d Q) t0) h

-- slices.Insert[incipit/corpus.list,incipit/corpus.Doc]
def slices_Insert_corpus_Doc_b1 (Q : AV → W) (t0 t1 t2 t7 t8 : AV) : W := wO (slS 73 2 t0 (some t8) none none) fun t86 => wO (cpS 2 t86 t2) fun t88 => wO (slS 73 2 t0 (some t1) none none) fun t91 => wC Try.prog T 75 [t91, t7] fun t93 => Q t0
def slices_Insert_corpus_Doc_b2 (Q : AV → W) (k1 : AV → AV → AV → AV → AV → W) (t1 t2 t7 t8 t60 t67 : AV) : W := wP (aun .not t67) fun t68 => wIf t68 (wD fun ls1 => wP (abin T .add 3 t1 t7) fun t72 => wO (mSliceX ls1 T 71 t60 (some t72) none none) fun t73 => wO (mSliceX ls1 T 71 t60 (some t1) none none) fun t76 => wOX ls1 (cpS 2 t73 t76) fun t77 => wO (slS 73 2 t60 (some t1) none none) fun t80 => wO (cpS 2 t80 t2) fun t82 => Q t60) (k1 t60 t1 t2 t7 t8)
def slices_Insert_corpus_Doc_b3 (Q : AV → W) (t0 t1 t2 t7 t8 : AV) : W := wP (abin T .add 3 t8 t7) fun t59 => wO (slS 73 2 t0 none (some t59) none) fun t60 => wLet5 (slices_Insert_corpus_Doc_b1 Q) fun k1 => wP (abin T .add 3 t1 t7) fun t65 => wO (slS 73 2 t60 (some t65) none none) fun t66 => wC Try.prog T 74 [t2, t66] fun t67 => slices_Insert_corpus_Doc_b2 Q k1 t1 t2 t7 t8 t60 t67
def slices_Insert_corpus_Doc_b4 (Q : AV → W) (t0 t1 t2 t7 t8 : AV) : W := wLet5 (slices_Insert_corpus_Doc_b3 Q) fun k2 => wP (abin T .add 3 t8 t7) fun t28 => wP (acap T 71 t0) fun t30 => wP (abin T .gtr 3 t28 t30) fun t31 => wIf t31 (wO (slS 73 2 t0 none (some t1) none) fun t34 => wP (abin T .add 3 t8 t7) fun t37 => wP (abin T .sub 3 t37 t1) fun t39 => wO (mAppend T 71 3 t34 t39) fun t40 => wO (slS 73 2 t40 (some t1) none none) fun t43 => wO (cpS 2 t43 t2) fun t45 => wD fun ls2 => wP (abin T .add 3 t1 t7) fun t49 => wO (mSliceX ls2 T 71 t40 (some t49) none none) fun t50 => wO (mSliceX ls2 T 71 t0 (some t1) none none) fun t53 => wOX ls2 (cpS 2 t50 t53) fun t54 => Q t40) (k2 t0 t1 t2 t7 t8)
def slices_Insert_corpus_Doc_b5 (Q : AV → W) (t0 t1 t2 t7 : AV) : W := wP (lenS t0) fun t19 => wLet5 (slices_Insert_corpus_Doc_b4 Q) fun k3 => wP (abin T .eql 3 t1 t19) fun t22 => wIf t22 (wO (mAppend T 71 64 t0 t2) fun t25 => Q t25) (k3 t0 t1 t2 t7 t19)
def slices_Insert_corpus_Doc (Q : AV → W) (t0 t1 t2 : AV) : W := wO (slS 73 2 t0 (some t1) none none) fun t12 => wP (lenS t2) fun t14 => wLet4 (slices_Insert_corpus_Doc_b5 Q) fun k4 => wP (abin T .eql 3 t14 (.int .i64 0)) fun t16 => wIf t16 (Q t0) (k4 t0 t1 t2 t14)
def slices_Insert_corpus_Doc_a : Ann := (.seq (.reg [1]) none (.seq (.reg [3]) none (.seq (.reg [3]) none (.join (.seq (.reg [2]) none (.cond (.seq (.reg [2]) none .z) .z)) [0, 1, 2, 7] (.seq (.reg [3]) none (.join (.seq (.reg [3]) none (.cond (.seq (.reg [4]) none .z) .z)) [0, 1, 2, 7, 8] (.join (.seq (.reg [6]) none (.cond (.seq (.reg [10]) none (.seq (.reg [5]) none (.seq (.plan true (.st 0 false (.st 1 false (.st 2 false (.st 3 false (.st 4 false (.st 5 false (.st 6 false (.st 7 false (.alt 8 .done .nil)))))))))) none (.seq (.reg [2]) none .z)))) .z)) [0, 1, 2, 7, 8] (.seq (.reg [6]) none (.join (.seq (.reg [8]) none (.cond (.seq (.plan true (.st 0 false (.st 1 false (.st 2 false (.st 3 false (.st 4 false (.st 5 false (.st 6 false (.st 7 false (.alt 8 .done .nil)))))))))) none (.seq (.reg [5]) none (.seq (.reg [2]) none .z))) .z)) [0, 1, 2, 7, 8] (.seq (.reg [5]) none (.seq (.reg [5]) none (.seq (.reg [2]) none .z))))))))))))
theorem slices_Insert_corpus_Doc_d : @slices_Insert_corpus_Doc = fun Q t0 t1 t2 => denF Try.prog T 95 (bodyOf Try.f70) slices_Insert_corpus_Doc_a [.tmp 6] Q [t0, t1, t2] := by kernel_rfl
theorem slices_Insert_corpus_Doc_ok {Q : AV → W} {H : AHeap} {t0 t1 t2 : AV} (h : slices_Insert_corpus_Doc Q t0 t1 t2 H) : ASpec Try.prog T 70 [t0, t1, t2] H Q :=
  denF_ok tOk mixed Try.func70 Try.ntmps70 (by kernel_rfl : _ = some (bodyOf Try.f70)) (by kernel_rfl : _ = [.tmp 6]) (by kernel_rfl) (Nat.le_of_ble_eq_true rfl) (congrFun (congrFun (congrFun (congrFun slices_Insert_corpus_Doc_d Q) t0) t1) t2) h

-- incipit/crc.steps
def crc_steps_b1 (Q : AV → W) (t0 t1 : AV) : W := wO (ldn 256 t1) fun t25 => wO (st 256 t0 t25) fun _ => wO (ldn 256 t0) fun r0 => Q r0
def crc_steps_b3 (back1 : AV → W) (t0 t1 t2 t3 t5 : AV) : W := wP (ixp 256 1 t1 t2) fun t23 => wO (st 1 t23 t3) fun _ => wP (abin T .add 3 t5 (.int .i64 1)) fun t24 => back1 t24
def crc_steps_b5 (back2 : AV → AV → W) (t0 t1 t2 t3 t5 t10 : AV) : W := wP (abin T .and 115 t3 (.int .u32 1)) fun t13 => wP (abin T .shr 115 t3 (.int .u64 1)) fun t15 => wP (abin T .eql 115 t13 (.int .u32 1)) fun t17 => wIf t17 (wP (abin T .xor 115 t15 (.int .u32 2197175160)) fun t19 => wP (abin T .add 3 t10 (.int .i64 1)) fun t20 => back2 t19 t20) (wP (abin T .add 3 t10 (.int .i64 1)) fun t20 => back2 t15 t20)
def crc_steps_L4 (k2 : AV → AV → AV → AV → AV → W) (t0 t1 t2 t5 : AV) (back2 : AV → AV → W) (t3 t10 : AV) : W := wP (abin T .lss 3 t10 (.int .i64 8)) fun t11 => wLet6 (crc_steps_b5 back2) fun k3 => wIf t11 (k3 t0 t1 t2 t3 t5 t10) (k2 t0 t1 t2 t3 t5)
def crc_steps_b6 (back1 : AV → W) (t0 t1 t5 : AV) : W := wP (cvI .u32 t5) fun t9 => wLet5 (crc_steps_b3 back1) fun k2 => wLoop2 (crc_steps_L4 k2 t0 t1 t5 t5) t9 (.int .i64 0)
def crc_steps_L2 (k1 : AV → AV → W) (t0 t1 : AV) (back1 : AV → W) (t5 : AV) : W := wP (abin T .lss 3 t5 (.int .i64 256)) fun t6 => wLet3 (crc_steps_b6 back1) fun k4 => wIf t6 (k4 t0 t1 t5) (k1 t0 t1)
def crc_steps (Q : AV → W) : W := wO (new 124 (List.replicate 256 (.int .u32 (0)))) fun t0 => wO (new 124 (List.replicate 256 (.int .u32 (0)))) fun t1 => wLet2 (crc_steps_b1 Q) fun k1 => wLoop1 (crc_steps_L2 k1 t0 t1) (.int .i64 0)
def crc_steps_a : Ann := (.seq (.reg [1]) none (.seq (.reg [1]) none (.join (.seq (.reg [1]) none (.sub (.loop [5] [0, 1] (.seq (.reg [1]) none (.join (.cond .z .z) [0, 1, 5] (.seq (.sub (.seq (.reg [2]) none (.seq (.reg [3]) none (.join (.seq (.reg [1]) none (.sub (.loop [3, 10] [0, 1, 2, 5] (.seq (.reg [1]) none (.join (.cond .z .z) [0, 1, 2, 3, 5, 10] (.seq (.sub (.seq (.reg [3]) none (.seq (.reg [3]) none (.seq (.reg [2]) none (.cond (.reg [3]) .z))))) (some [0, 1, 2, 3, 5, 10]) (.reg [2]))))))) [0, 1, 2, 3, 5] (.reg [4]))))) (some [0, 1, 5]) (.reg [2]))))))) [0, 1] (.seq (.reg [2]) none .z))))
theorem crc_steps_d : @crc_steps = fun Q => denF Try.prog T 26 (bodyOf Try.f71) crc_steps_a [.cell 0 124] Q [] := by kernel_rfl
theorem crc_steps_ok {Q : AV → W} {H : AHeap} (h : crc_steps Q  H) : ASpec Try.prog T 71 [] H Q :=
  denF_ok tOk mixed Try.func71 Try.ntmps71 (by kernel_rfl : _ = some (bodyOf Try.f71)) (by kernel_rfl : _ = [.cell 0 124]) (by kernel_rfl) (Nat.le_of_ble_eq_true rfl) (congrFun crc_steps_d Q) h

-- (incipit/crc.bits).told
def crc_bits_told_b3 (back2 : AV → AV → W) (t1 t7 t14 t15 t16 t20 t21 t22 : AV) : W := wP (ix 1 t20 t22) fun t24 => wO (ld t24) fun t25 => wP (cvI .u8 t7) fun t28 => wP (abin T .xor 5 t28 t25) fun t30 => wP (aNil t1) fun t31 => wP (ixp 256 1 t31 t30) fun t32 => wO (ld t32) fun t33 => wP (abin T .shr 115 t7 (.int .u64 8)) fun t35 => wP (abin T .xor 115 t33 t35) fun t36 => wP (abin T .add 3 t22 (.int .i64 1)) fun t37 => back2 t36 t37
def crc_bits_told_L2 (back1 : AV → AV → W) (t1 t14 t15 t16 t20 t21 : AV) (back2 : AV → AV → W) (t7 t22 : AV) : W := wP (abin T .lss 3 t22 t21) fun t23 => wLet8 (crc_bits_told_b3 back2) fun k1 => wIf t23 (k1 t1 t7 t14 t15 t16 t20 t21 t22) (wP (abin T .add 3 t16 (.int .i64 1)) fun t38 => back1 t7 t38)
def crc_bits_told_b4 (back1 : AV → AV → W) (t1 t7 t14 t15 t16 : AV) : W := wP (ix 1 t14 t16) fun t18 => wO (ld t18) fun t19 => wP (lenS t19) fun t21 => wLoop2 (crc_bits_told_L2 back1 t1 t14 t15 t16 t19 t21) t7 (.int .i64 0)
def crc_bits_told_L1 (Q : AV → W) (t1 t14 t15 : AV) (back1 : AV → AV → W) (t7 t16 : AV) : W := wP (abin T .lss 3 t16 t15) fun t17 => wLet5 (crc_bits_told_b4 back1) fun k2 => wIf t17 (k2 t1 t7 t14 t15 t16) (wP (aun .xor t7) fun t40 => Q t40)
def crc_bits_told (Q : AV → W) (t0 t1 t2 : AV) : W := wP (aun .xor t0) fun t13 => wP (lenS t2) fun t15 => wLoop2 (crc_bits_told_L1 Q t1 t2 t15) t13 (.int .i64 0)
def crc_bits_told_a : Ann := (.seq (.reg [1]) none (.seq (.reg [3]) none (.seq (.seq (.reg [3]) none (.sub (.loop [7, 16] [1, 14, 15] (.seq (.reg [1]) none (.join (.cond .z .z) [1, 7, 14, 15, 16] (.seq (.sub (.seq (.reg [3]) none (.seq (.reg [3]) none (.sub (.loop [7, 22] [1, 14, 15, 16, 20, 21] (.seq (.reg [1]) none (.join (.cond .z .z) [1, 7, 14, 15, 16, 20, 21, 22] (.seq (.sub (.seq (.reg [3]) none (.reg [12]))) (some [1, 7, 14, 15, 16, 20, 21, 22]) (.reg [2]))))))))) (some [1, 7, 14, 15, 16]) (.reg [2]))))))) (some [7]) (.seq (.reg [3]) none .z))))
theorem crc_bits_told_d : @crc_bits_told = fun Q t0 t1 t2 => denF Try.prog T 41 (bodyOf Try.f72) crc_bits_told_a [.tmp 6] Q [t0, t1, t2] := by kernel_rfl
theorem crc_bits_told_ok {Q : AV → W} {H : AHeap} {t0 t1 t2 : AV} (h : crc_bits_told Q t0 t1 t2 H) : ASpec Try.prog T 72 [t0, t1, t2] H Q :=
  denF_ok tOk mixed Try.func72 Try.ntmps72 (by kernel_rfl : _ = some (bodyOf Try.f72)) (by kernel_rfl : _ = [.tmp 6]) (by kernel_rfl) (Nat.le_of_ble_eq_true rfl) (congrFun (congrFun (congrFun (congrFun crc_bits_told_d Q) t0) t1) t2) h

-- (incipit/crc.bits).value
def crc_bits_value (Q : AV → W) (t0 : AV) : W := Q t0
def crc_bits_value_a : Ann := (.seq (.reg [1]) none (.seq (.reg [2]) none .z))
theorem crc_bits_value_d : @crc_bits_value = fun Q t0 => denF Try.prog T 4 (bodyOf Try.f73) crc_bits_value_a [.tmp 2] Q [t0] := by kernel_rfl
theorem crc_bits_value_ok {Q : AV → W} {H : AHeap} {t0 : AV} (h : crc_bits_value Q t0 H) : ASpec Try.prog T 73 [t0] H Q :=
  denF_ok tOk mixed Try.func73 Try.ntmps73 (by kernel_rfl : _ = some (bodyOf Try.f73)) (by kernel_rfl : _ = [.tmp 2]) (by kernel_rfl) (Nat.le_of_ble_eq_true rfl) (congrFun (congrFun crc_bits_value_d Q) t0) h

-- slices.rotateRight[incipit/corpus.Doc]
def slices_rotateRight_corpus_Doc (Q : AV → W) (t0 t1 : AV) : W := wP (lenS t0) fun t6 => wP (abin T .sub 3 t6 t1) fun t8 => wC Try.prog T 76 [t0, t8] fun t9 => Q (.tup [])
def slices_rotateRight_corpus_Doc_a : Ann := (.reg [6])
theorem slices_rotateRight_corpus_Doc_d : @slices_rotateRight_corpus_Doc = fun Q t0 t1 => denF Try.prog T 10 (bodyOf Try.f75) slices_rotateRight_corpus_Doc_a [] Q [t0, t1] := by kernel_rfl
theorem slices_rotateRight_corpus_Doc_ok {Q : AV → W} {H : AHeap} {t0 t1 : AV} (h : slices_rotateRight_corpus_Doc Q t0 t1 H) : ASpec Try.prog T 75 [t0, t1] H Q :=
  denF_ok tOk mixed Try.func75 Try.ntmps75 (by kernel_rfl : _ = some (bodyOf Try.f75)) (by kernel_rfl : _ = []) (by kernel_rfl) (Nat.le_of_ble_eq_true rfl) (congrFun (congrFun (congrFun slices_rotateRight_corpus_Doc_d Q) t0) t1) h

-- slices.rotateLeft[incipit/corpus.Doc]
def slices_rotateLeft_corpus_Doc (Q : AV → W) (t0 t1 : AV) : W := wO (slS 73 2 t0 none (some t1) none) fun t6 => wC Try.prog T 77 [t6] fun t7 => wO (slS 73 2 t0 (some t1) none none) fun t10 => wC Try.prog T 77 [t10] fun t11 => wC Try.prog T 77 [t0] fun t13 => Q (.tup [])
def slices_rotateLeft_corpus_Doc_a : Ann := (.seq (.reg [4]) none (.seq (.reg [4]) none (.reg [2])))
theorem slices_rotateLeft_corpus_Doc_d : @slices_rotateLeft_corpus_Doc = fun Q t0 t1 => denF Try.prog T 14 (bodyOf Try.f76) slices_rotateLeft_corpus_Doc_a [] Q [t0, t1] := by kernel_rfl
theorem slices_rotateLeft_corpus_Doc_ok {Q : AV → W} {H : AHeap} {t0 t1 : AV} (h : slices_rotateLeft_corpus_Doc Q t0 t1 H) : ASpec Try.prog T 76 [t0, t1] H Q :=
  denF_ok tOk mixed Try.func76 Try.ntmps76 (by kernel_rfl : _ = some (bodyOf Try.f76)) (by kernel_rfl : _ = []) (by kernel_rfl) (Nat.le_of_ble_eq_true rfl) (congrFun (congrFun (congrFun slices_rotateLeft_corpus_Doc_d Q) t0) t1) h

-- slices.Reverse[[]incipit/corpus.Doc,incipit/corpus.Doc]
def slices_Reverse_corpus_Doc_b2 (back1 : AV → AV → W) (t0 t2 t3 : AV) : W := wP (abin T .add 3 t2 (.int .i64 1)) fun t11 => wP (abin T .sub 3 t3 (.int .i64 1)) fun t13 => back1 t11 t13
def slices_Reverse_corpus_Doc_b3 (back1 : AV → AV → W) (t0 t2 t3 : AV) : W := wLet3 (slices_Reverse_corpus_Doc_b2 back1) fun k1 => wD fun ls1 => wP (ix 2 t0 t3) fun t20 => wO (ldnX ls1 2 t20) fun t21 => wP (ix 2 t0 t2) fun t24 => wO (ldnX ls1 2 t24) fun t25 => wP (ix 2 t0 t2) fun t26 => wO (st 2 t26 t21) fun _ => wP (ix 2 t0 t3) fun t27 => wO (st 2 t27 t25) fun _ => k1 t0 t2 t3
def slices_Reverse_corpus_Doc_L1 (Q : AV → W) (t0 : AV) (back1 : AV → AV → W) (t2 t3 : AV) : W := wLet3 (slices_Reverse_corpus_Doc_b3 back1) fun k2 => wP (abin T .lss 3 t2 t3) fun t9 => wIf t9 (k2 t0 t2 t3) (Q (.tup []))
def slices_Reverse_corpus_Doc (Q : AV → W) (t0 : AV) : W := wP (lenS t0) fun t5 => wP (abin T .sub 3 t5 (.int .i64 1)) fun t6 => wLoop2 (slices_Reverse_corpus_Doc_L1 Q t0) (.int .i64 0) t6
def slices_Reverse_corpus_Doc_a : Ann := (.seq (.reg [5]) none (.sub (.loop [2, 3] [0] (.join (.seq (.reg [3]) none (.cond .z .z)) [0, 2, 3] (.join (.sub (.plan true (.st 0 false (.st 1 false (.st 2 true (.st 3 true (.st 4 false (.st 5 false (.st 6 false (.st 7 false (.st 8 true (.st 9 true (.st 10 true (.st 11 false (.st 12 false (.alt 13 (.st 14 false (.alt 15 .done .nil)) .nil)))))))))))))))) [0, 2, 3] (.reg [6]))))))
theorem slices_Reverse_corpus_Doc_d : @slices_Reverse_corpus_Doc = fun Q t0 => denF Try.prog T 28 (bodyOf Try.f77) slices_Reverse_corpus_Doc_a [] Q [t0] := by kernel_rfl
theorem slices_Reverse_corpus_Doc_ok {Q : AV → W} {H : AHeap} {t0 : AV} (h : slices_Reverse_corpus_Doc Q t0 H) : ASpec Try.prog T 77 [t0] H Q :=
  denF_ok tOk mixed Try.func77 Try.ntmps77 (by kernel_rfl : _ = some (bodyOf Try.f77)) (by kernel_rfl : _ = []) (by kernel_rfl) (Nat.le_of_ble_eq_true rfl) (congrFun (congrFun slices_Reverse_corpus_Doc_d Q) t0) h

end Go.Proofs.Ytdbcndheeipmjaa
