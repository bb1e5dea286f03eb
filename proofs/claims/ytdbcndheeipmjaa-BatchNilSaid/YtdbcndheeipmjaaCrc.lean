/- crc.steps: its table. -/
import Derived.Test.YtdbcndheeipmjaaAbF0
set_option linter.unusedVariables false
set_option linter.unusedSimpArgs false
namespace Go.Proofs.Ytdbcndheeipmjaa
open Go.Ab
theorem abin_int {T : TT} {op : BinOp} {t : TypeId} {k k' : IntKind} {a b : Int} : abin T op t (.int k a) (.int k' b) = if isShift op then ashift op k a b else if k = k' then aarith op k a b else none := rfl
theorem wO_of {f : AHeap → Option (AV × AHeap)} {K : AV → W} {H H' : AHeap} {v : AV} (h : f H = some (v, H')) : wO f K H = K v H' := by simp only [wO, h]
theorem wOX_of {ls : List Nat} {f : AHeap → Option (AV × AHeap)} {K : AV → W} {H H' : AHeap} {v : AV} (h : f H = some (v, H')) : wOX ls f K H = (H.Ext (· ∈ ls) H' ∧ K v H') := by simp only [wOX, h]
/-- One bit of a byte's step. -/
def stepBit (r : Int) : Int :=
  if wrapF .u32 (band .u32 r 1) == 1 then wrapF .u32 (bxor .u32 (r.fdiv (pow2 (min 1 32))) 2197175160) else r.fdiv (pow2 (min 1 32))
def stepN : Nat → Int → Int
  | 0, r => r
  | k + 1, r => stepBit (stepN k r)
def stepByte (i : Nat) : Int := stepN 8 (wrapF .u32 i)
def stepTab : List AV := (List.range 256).map fun i => .int .u32 (stepByte i)
def tabTo (i : Nat) : List AV := (List.range i).map (fun i => .int .u32 (stepByte i)) ++ List.replicate (256 - i) (.int .u32 0)
theorem tabTo_length {i : Nat} (h : i ≤ 256) : (tabTo i).length = 256 := by simp [tabTo]; omega
theorem tabTo_set {i : Nat} (h : i < 256) : (tabTo i).set i (.int .u32 (stepByte i)) = tabTo (i + 1) := by
  unfold tabTo
  obtain ⟨k, hk⟩ : ∃ k, 256 - i = k + 1 := ⟨255 - i, by omega⟩
  have hk' : 256 - (i + 1) = k := by omega
  rw [hk, hk', List.replicate_succ, List.range_succ, List.map_append, List.set_append_right _ _ (by simp)]
  simp
set_option maxRecDepth 100000 in
theorem steps_spec (H : AHeap) : ASpec Try.prog T 71 [] H (fun r H1 => r = .agg stepTab ∧ H1 = H) := by
  refine ASpec.forget (Q := fun r H1 => r = .agg stepTab ∧ ∀ a b, H.get a = some b → H1.get a = some b) tOk ?_ (fun r H' ⟨h1, h2⟩ => ⟨by subst h1; decide, h2, h1, rfl⟩)
  refine crc_steps_ok ?_
  simp only [crc_steps, wP_some, wO_ld, wO_ldn, wO_st, wO_new, wO_box, wIf_true, wIf_false, wG_tt, wG_ff, wG_tf, wG_ft, wG_tup, po_ptr, lenS_sl, lenS_nsl, fd_agg, fdn_agg, cvI_int, add_mk, aPick, aNil, aextract, wLet0, wLet1, wLet2, wLet3, wLet4, wLet5, wLet6, wLet7, wLet8, wLet9, wLet10, wLet11, wLet12, wLet13, wLet14, wLet15, wLet16, abin_int, isShift, aarith, ashift, aun, aMin, aMax, afold, amin2, amax2, ↓reduceIte, Nat.reduceLT, Nat.reduceEqDiff, Nat.reduceAdd, Nat.reduceMul, Nat.reduceLeDiff, Nat.zero_add, Nat.add_zero, Nat.mul_one, Nat.zero_mul, Nat.mul_zero, Option.isSome_some, Option.isSome_none, if_true, if_false, and_true, true_and, Int.toNat_natCast, Int.natCast_nonneg, Int.reduceLT, Int.reduceLE, Int.reduceBEq, Int.reduceBNe, Int.reduceToNat, IntKind.bits, List.getElem?_cons_zero, List.getElem?_cons_succ, List.append_nil, List.nil_append, List.cons_append, Int.cast_ofNat_Int, Int.natCast_one, Int.natCast_zero, decide_true, decide_false, Bool.and_true, Bool.true_and, Bool.and_false, Bool.false_and, Bool.or_true, Bool.or_false, beq_self_eq_true, reduceCtorEq, Bool.false_eq_true, false_implies, true_implies, implies_true, eq_self, decide_eq_true_eq, decide_eq_false_iff_not, AHeap.next_push, AHeap.next_set, Bool.not_true, Bool.not_false]
  refine wLoop1_rule (fun m t5 H1 => ∃ i : Nat, i ≤ 256 ∧ m = 256 - i ∧ t5 = .int .i64 i ∧ (∀ a b, H.get a = some b → H1.get a = some b) ∧ (∃ c0 el, c0.length = 256 ∧ H1.get H.next = some (.cells c0 el .ex)) ∧
    ∃ el, H1.get (H.next + 1) = some (.cells (tabTo i) el .ex)) 256 ?_ ?_
  · refine ⟨0, by omega, by omega, rfl, fun a b h => AHeap.get_push_old _ (AHeap.get_push_old _ h), ⟨_, _, List.length_replicate, AHeap.get_push_old _ (AHeap.get_push_new _ _)⟩, _, AHeap.get_push_new (H.push _) _⟩
  · rintro m _ H1 K ⟨i, hi, rfl, rfl, hold, ⟨c0, el0, hc0, hg0⟩, el1, hg1⟩ hK
    simp only [crc_steps_L2, wP_some, wO_ld, wO_ldn, wO_st, wO_new, wO_box, wIf_true, wIf_false, wG_tt, wG_ff, wG_tf, wG_ft, wG_tup, po_ptr, lenS_sl, lenS_nsl, fd_agg, fdn_agg, cvI_int, add_mk, aPick, aNil, aextract, wLet0, wLet1, wLet2, wLet3, wLet4, wLet5, wLet6, wLet7, wLet8, wLet9, wLet10, wLet11, wLet12, wLet13, wLet14, wLet15, wLet16, abin_int, isShift, aarith, ashift, aun, aMin, aMax, afold, amin2, amax2, ↓reduceIte, Nat.reduceLT, Nat.reduceEqDiff, Nat.reduceAdd, Nat.reduceMul, Nat.reduceLeDiff, Nat.zero_add, Nat.add_zero, Nat.mul_one, Nat.zero_mul, Nat.mul_zero, Option.isSome_some, Option.isSome_none, if_true, if_false, and_true, true_and, Int.toNat_natCast, Int.natCast_nonneg, Int.reduceLT, Int.reduceLE, Int.reduceBEq, Int.reduceBNe, Int.reduceToNat, IntKind.bits, List.getElem?_cons_zero, List.getElem?_cons_succ, List.append_nil, List.nil_append, List.cons_append, Int.cast_ofNat_Int, Int.natCast_one, Int.natCast_zero, decide_true, decide_false, Bool.and_true, Bool.true_and, Bool.and_false, Bool.false_and, Bool.or_true, Bool.or_false, beq_self_eq_true, reduceCtorEq, Bool.false_eq_true, false_implies, true_implies, implies_true, eq_self, decide_eq_true_eq, decide_eq_false_iff_not, AHeap.next_push, AHeap.next_set, Bool.not_true, Bool.not_false]
    by_cases hlt : i < 256
    · have hd : decide ((i : Int) < 256) = true := by simp; omega
      simp only [hd, crc_steps_b6, wP_some, wO_ld, wO_ldn, wO_st, wO_new, wO_box, wIf_true, wIf_false, wG_tt, wG_ff, wG_tf, wG_ft, wG_tup, po_ptr, lenS_sl, lenS_nsl, fd_agg, fdn_agg, cvI_int, add_mk, aPick, aNil, aextract, wLet0, wLet1, wLet2, wLet3, wLet4, wLet5, wLet6, wLet7, wLet8, wLet9, wLet10, wLet11, wLet12, wLet13, wLet14, wLet15, wLet16, abin_int, isShift, aarith, ashift, aun, aMin, aMax, afold, amin2, amax2, ↓reduceIte, Nat.reduceLT, Nat.reduceEqDiff, Nat.reduceAdd, Nat.reduceMul, Nat.reduceLeDiff, Nat.zero_add, Nat.add_zero, Nat.mul_one, Nat.zero_mul, Nat.mul_zero, Option.isSome_some, Option.isSome_none, if_true, if_false, and_true, true_and, Int.toNat_natCast, Int.natCast_nonneg, Int.reduceLT, Int.reduceLE, Int.reduceBEq, Int.reduceBNe, Int.reduceToNat, IntKind.bits, List.getElem?_cons_zero, List.getElem?_cons_succ, List.append_nil, List.nil_append, List.cons_append, Int.cast_ofNat_Int, Int.natCast_one, Int.natCast_zero, decide_true, decide_false, Bool.and_true, Bool.true_and, Bool.and_false, Bool.false_and, Bool.or_true, Bool.or_false, beq_self_eq_true, reduceCtorEq, Bool.false_eq_true, false_implies, true_implies, implies_true, eq_self, decide_eq_true_eq, decide_eq_false_iff_not, AHeap.next_push, AHeap.next_set, Bool.not_true, Bool.not_false]
      refine wLoop2_rule (fun m t3 t10 H2 => ∃ j : Nat, j ≤ 8 ∧ m = 8 - j ∧ t10 = .int .i64 j ∧ t3 = .int .u32 (stepN j (wrapF .u32 i)) ∧ H2 = H1) 8 ⟨0, by omega, by omega, rfl, rfl, rfl⟩ ?_
      rintro m _ _ H2 K2 ⟨j, hj, rfl, rfl, rfl, rfl⟩ hK2
      simp only [crc_steps_L4, wP_some, wO_ld, wO_ldn, wO_st, wO_new, wO_box, wIf_true, wIf_false, wG_tt, wG_ff, wG_tf, wG_ft, wG_tup, po_ptr, lenS_sl, lenS_nsl, fd_agg, fdn_agg, cvI_int, add_mk, aPick, aNil, aextract, wLet0, wLet1, wLet2, wLet3, wLet4, wLet5, wLet6, wLet7, wLet8, wLet9, wLet10, wLet11, wLet12, wLet13, wLet14, wLet15, wLet16, abin_int, isShift, aarith, ashift, aun, aMin, aMax, afold, amin2, amax2, ↓reduceIte, Nat.reduceLT, Nat.reduceEqDiff, Nat.reduceAdd, Nat.reduceMul, Nat.reduceLeDiff, Nat.zero_add, Nat.add_zero, Nat.mul_one, Nat.zero_mul, Nat.mul_zero, Option.isSome_some, Option.isSome_none, if_true, if_false, and_true, true_and, Int.toNat_natCast, Int.natCast_nonneg, Int.reduceLT, Int.reduceLE, Int.reduceBEq, Int.reduceBNe, Int.reduceToNat, IntKind.bits, List.getElem?_cons_zero, List.getElem?_cons_succ, List.append_nil, List.nil_append, List.cons_append, Int.cast_ofNat_Int, Int.natCast_one, Int.natCast_zero, decide_true, decide_false, Bool.and_true, Bool.true_and, Bool.and_false, Bool.false_and, Bool.or_true, Bool.or_false, beq_self_eq_true, reduceCtorEq, Bool.false_eq_true, false_implies, true_implies, implies_true, eq_self, decide_eq_true_eq, decide_eq_false_iff_not, AHeap.next_push, AHeap.next_set, Bool.not_true, Bool.not_false]
      by_cases hj8 : j < 8
      · have hd : decide ((j : Int) < 8) = true := by simp; omega
        have hw : wrapF .i64 ((j : Int) + 1) = ((j + 1 : Nat) : Int) := wrapF_i64 (by omega) (by omega)
        simp only [hd, crc_steps_b5, wP_some, wO_ld, wO_ldn, wO_st, wO_new, wO_box, wIf_true, wIf_false, wG_tt, wG_ff, wG_tf, wG_ft, wG_tup, po_ptr, lenS_sl, lenS_nsl, fd_agg, fdn_agg, cvI_int, add_mk, aPick, aNil, aextract, wLet0, wLet1, wLet2, wLet3, wLet4, wLet5, wLet6, wLet7, wLet8, wLet9, wLet10, wLet11, wLet12, wLet13, wLet14, wLet15, wLet16, abin_int, isShift, aarith, ashift, aun, aMin, aMax, afold, amin2, amax2, ↓reduceIte, Nat.reduceLT, Nat.reduceEqDiff, Nat.reduceAdd, Nat.reduceMul, Nat.reduceLeDiff, Nat.zero_add, Nat.add_zero, Nat.mul_one, Nat.zero_mul, Nat.mul_zero, Option.isSome_some, Option.isSome_none, if_true, if_false, and_true, true_and, Int.toNat_natCast, Int.natCast_nonneg, Int.reduceLT, Int.reduceLE, Int.reduceBEq, Int.reduceBNe, Int.reduceToNat, IntKind.bits, List.getElem?_cons_zero, List.getElem?_cons_succ, List.append_nil, List.nil_append, List.cons_append, Int.cast_ofNat_Int, Int.natCast_one, Int.natCast_zero, decide_true, decide_false, Bool.and_true, Bool.true_and, Bool.and_false, Bool.false_and, Bool.or_true, Bool.or_false, beq_self_eq_true, reduceCtorEq, Bool.false_eq_true, false_implies, true_implies, implies_true, eq_self, decide_eq_true_eq, decide_eq_false_iff_not, AHeap.next_push, AHeap.next_set, Bool.not_true, Bool.not_false, hw, wIf_bool]
        refine ⟨fun hb => hK2 _ _ _ _ (by omega) ⟨j + 1, by omega, rfl, rfl, ?_, rfl⟩, fun hb => hK2 _ _ _ _ (by omega) ⟨j + 1, by omega, rfl, rfl, ?_, rfl⟩⟩
        · simp only [stepN, stepBit]; rw [if_pos hb]
        · simp only [stepN, stepBit]; rw [if_neg (by rw [hb]; decide)]
      · obtain rfl : j = 8 := by omega
        have hst : stA 1 H2 ⟨H.next + 1, i⟩ (.int .u32 (stepByte i)) = some (H2.set (H.next + 1) (.cells (tabTo (i + 1)) el1 .ex)) := by
          rw [stA_one hg1 (by decide) (by rw [tabTo_length hi]; exact hlt) rfl, tabTo_set hlt]
        have hix : (i : Int) < 256 := by omega
        have hw : wrapF .i64 ((i : Int) + 1) = ((i + 1 : Nat) : Int) := wrapF_i64 (by omega) (by omega)
        simp only [crc_steps_b3, wP_some, wO_ld, wO_ldn, wO_st, wO_new, wO_box, wIf_true, wIf_false, wG_tt, wG_ff, wG_tf, wG_ft, wG_tup, po_ptr, lenS_sl, lenS_nsl, fd_agg, fdn_agg, cvI_int, add_mk, aPick, aNil, aextract, wLet0, wLet1, wLet2, wLet3, wLet4, wLet5, wLet6, wLet7, wLet8, wLet9, wLet10, wLet11, wLet12, wLet13, wLet14, wLet15, wLet16, abin_int, isShift, aarith, ashift, aun, aMin, aMax, afold, amin2, amax2, ↓reduceIte, Nat.reduceLT, Nat.reduceEqDiff, Nat.reduceAdd, Nat.reduceMul, Nat.reduceLeDiff, Nat.zero_add, Nat.add_zero, Nat.mul_one, Nat.zero_mul, Nat.mul_zero, Option.isSome_some, Option.isSome_none, if_true, if_false, and_true, true_and, Int.toNat_natCast, Int.natCast_nonneg, Int.reduceLT, Int.reduceLE, Int.reduceBEq, Int.reduceBNe, Int.reduceToNat, IntKind.bits, List.getElem?_cons_zero, List.getElem?_cons_succ, List.append_nil, List.nil_append, List.cons_append, Int.cast_ofNat_Int, Int.natCast_one, Int.natCast_zero, decide_true, decide_false, Bool.and_true, Bool.true_and, Bool.and_false, Bool.false_and, Bool.or_true, Bool.or_false, beq_self_eq_true, reduceCtorEq, Bool.false_eq_true, false_implies, true_implies, implies_true, eq_self, decide_eq_true_eq, decide_eq_false_iff_not, AHeap.next_push, AHeap.next_set, Bool.not_true, Bool.not_false, ixp_ptr, hix, show stepN 8 (wrapF .u32 (i : Int)) = stepByte i from rfl, hst, hw]
        refine hK _ _ _ (by omega) ⟨i + 1, by omega, rfl, rfl, fun a b h => ?_, ⟨c0, el0, hc0, ?_⟩, el1, AHeap.get_set_same _ (AHeap.get_lt hg1)⟩
        · have hl := AHeap.get_lt h
          rw [AHeap.get_set_ne _ _ (by omega)]; exact hold a b h
        · rw [AHeap.get_set_ne _ _ (by omega)]; exact hg0
    · obtain rfl : i = 256 := by omega
      have htab : tabTo 256 = stepTab := by simp [tabTo, stepTab]
      have hl : stepTab.length = 256 := by simp [stepTab]
      rw [htab] at hg1
      have h1 : ldN 256 H1 ⟨H.next + 1, 0⟩ = some (.agg stepTab) := by
        rw [ldN_of hg1, if_pos (by omega)]; simp only [List.drop_zero]; rw [List.take_of_length_le (by omega)]
      have h2 : stA 256 H1 ⟨H.next, 0⟩ (.agg stepTab) = some (H1.set H.next (.cells stepTab el0 .ex)) := by
        rw [stA_of hg0 (by decide) (by exact hl) (by omega) (by decide)]
        simp only [aput, AV.cells, List.take_zero, List.nil_append, Nat.zero_add]
        rw [List.drop_of_length_le (by omega), List.append_nil]
      have h3 : ldN 256 (H1.set H.next (.cells stepTab el0 .ex)) ⟨H.next, 0⟩ = some (.agg stepTab) := by
        rw [ldN_of (AHeap.get_set_same _ (AHeap.get_lt hg0)), if_pos (by omega)]; simp only [List.drop_zero]; rw [List.take_of_length_le (by omega)]
      simp only [crc_steps_b1, wP_some, wO_ld, wO_ldn, wO_st, wO_new, wO_box, wIf_true, wIf_false, wG_tt, wG_ff, wG_tf, wG_ft, wG_tup, po_ptr, lenS_sl, lenS_nsl, fd_agg, fdn_agg, cvI_int, add_mk, aPick, aNil, aextract, wLet0, wLet1, wLet2, wLet3, wLet4, wLet5, wLet6, wLet7, wLet8, wLet9, wLet10, wLet11, wLet12, wLet13, wLet14, wLet15, wLet16, abin_int, isShift, aarith, ashift, aun, aMin, aMax, afold, amin2, amax2, ↓reduceIte, Nat.reduceLT, Nat.reduceEqDiff, Nat.reduceAdd, Nat.reduceMul, Nat.reduceLeDiff, Nat.zero_add, Nat.add_zero, Nat.mul_one, Nat.zero_mul, Nat.mul_zero, Option.isSome_some, Option.isSome_none, if_true, if_false, and_true, true_and, Int.toNat_natCast, Int.natCast_nonneg, Int.reduceLT, Int.reduceLE, Int.reduceBEq, Int.reduceBNe, Int.reduceToNat, IntKind.bits, List.getElem?_cons_zero, List.getElem?_cons_succ, List.append_nil, List.nil_append, List.cons_append, Int.cast_ofNat_Int, Int.natCast_one, Int.natCast_zero, decide_true, decide_false, Bool.and_true, Bool.true_and, Bool.and_false, Bool.false_and, Bool.or_true, Bool.or_false, beq_self_eq_true, reduceCtorEq, Bool.false_eq_true, false_implies, true_implies, implies_true, eq_self, decide_eq_true_eq, decide_eq_false_iff_not, AHeap.next_push, AHeap.next_set, Bool.not_true, Bool.not_false, h1, h2, h3, show decide (((256 : Nat) : Int) < 256) = false from rfl]
      intro a b h
      have hl := AHeap.get_lt h
      rw [AHeap.get_set_ne _ _ (by omega)]; exact hold a b h
end Go.Proofs.Ytdbcndheeipmjaa
