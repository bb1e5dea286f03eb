/- The abstract layer, part H: copy, clear, slices; every operation. -/
import Derived.Test.YtdbcndheeipmjaaAbxG
set_option linter.unusedVariables false
set_option linter.unusedSimpArgs false
namespace Go.Ab
section
variable {P : Program} {T : TT} {ρ : Rho} {lo : Nat} {H : AHeap} {w : World} (hT : TOk P T)
include hT

theorem acopy_sound (h : HRel T ρ lo H w) {t ty : TypeId} {ats : Array TypeId} (hat : ats[0]? = some t) {d x z : AV} {u v : Value} {H' : AHeap} (hd : VR ρ d u) (hx : VR ρ x v) (hz : acopy T H t d x = some (z, H')) :
    ∃ r w', (Builtin.copy_ ats ty #[u, v]).run P w = .ok r w' ∧ VR ρ z r ∧ HRel T ρ lo H' w' ∧ Step ρ H w ρ H' w' := by
  unfold acopy at hz
  split at hz
  · cases hz
  rename_i ts hts
  split at hz
  · rename_i el e
    obtain ⟨i, dd, zv, hi, hdd, hk, _⟩ := info_T hT hts
    rw [hk] at e
    have := TK.of_sl e; subst this
    split at hz
    · rename_i se m hse hm
      simp only [Option.some.injEq, Prod.mk.injEq] at hz
      obtain ⟨rfl, rfl⟩ := hz
      cases hd
      have hszr := fun w => run_sizeOf_T (w := w) hT hse
      have hlen := asLen_sound (P := P) hx hm w
      refine ⟨.int .i64 0, w, ?_, rfl, h, Step.refl _ _ _⟩
      have hf : (Builtin.firstCells se.size 0 v).run P w = .ok #[] w := by
        cases x with
        | nsl => cases hx; simp [Builtin.firstCells]
        | sl a n c => obtain ⟨i, o, cc, _, rfl, _⟩ := hx.slice; simp [Builtin.firstCells, loadCells, loadCellsFrom]
        | _ => simp [asLen] at hm
      simp [Builtin.copy_, hat, run_underlying hdd, hlen, hszr, hf, goInt]
    · rename_i se m a n c hse hm
      obtain ⟨bi, ad, cc, hbi, rfl, hex, ho0, hcapn, hgr⟩ := hd.slice
      have hszr := fun w => run_sizeOf_T (w := w) hT hse
      have hlen := asLen_sound (P := P) hx hm w
      split at hz
      · rename_i h0
        simp only [Option.some.injEq, Prod.mk.injEq] at hz
        obtain ⟨rfl, rfl⟩ := hz
        have hf : (Builtin.firstCells se.size 0 v).run P w = .ok #[] w := by
          cases x with
          | nsl => cases hx; simp [Builtin.firstCells]
          | sl a n c => obtain ⟨i, o, cc, _, rfl, _⟩ := hx.slice; simp [Builtin.firstCells, loadCells, loadCellsFrom]
          | _ => simp [asLen] at hm
        have h0' : Nat.min m n = 0 := h0
        refine ⟨.int .i64 0, w, ?_, rfl, h, Step.refl _ _ _⟩
        simp [Builtin.copy_, hat, run_underlying hdd, hlen, hszr, h0', hf, goInt, storeCells]
      · rename_i h0
        split at hz
        · rename_i news cs el' k hnews hg
          split at hz
          · cases hz
          · rename_i hbad
            simp only [not_or, Nat.not_lt] at hbad
            obtain ⟨hro, hfit, hone⟩ := hbad
            have hone : news.all AV.one = true := by cases hh : news.all AV.one <;> simp_all
            simp only [Option.some.injEq, Prod.mk.injEq] at hz
            obtain ⟨rfl, rfl⟩ := hz
            obtain ⟨ns, hns, hnl, hfirst⟩ := acells_sound (P := P) h hx (.inr ⟨m, hm, Nat.min_le_left m n⟩) hnews
            have ho : ad = ⟨bi.b, bi.s + a.off, none⟩ := ho0.resolve_left (by have := Nat.min_le_right m n; omega)
            subst ho
            obtain ⟨w', hst, hh', hs'⟩ := storeCells_sound (P := P) h hbi hro hg (o := a.off) hns hone hfit
            refine ⟨_, w', ?_, rfl, hh', hs'⟩
            have hf := hfirst w (fun _ => rfl)
            have hmin : Nat.min m n = min m n := rfl
            simp [Builtin.copy_, hat, run_underlying hdd, hlen, hszr, hmin, hf, goInt, hst]
        · cases hz
    · cases hz
  · cases hz

theorem aclear_sound (h : HRel T ρ lo H w) {t ty : TypeId} {ats : Array TypeId} (hat : ats[0]? = some t) {x z : AV} {v : Value} {H' : AHeap} (hx : VR ρ x v) (hz : aclear T H t x = some (z, H')) :
    ∃ r w', (Builtin.clear_ ats ty #[v]).run P w = .ok r w' ∧ VR ρ z r ∧ HRel T ρ lo H' w' ∧ Step ρ H w ρ H' w' := by
  unfold aclear at hz
  split at hz
  · cases hz
  rename_i ts hts
  obtain ⟨i, dd, zv, hi, hdd, hk, _⟩ := info_T hT hts
  rw [hk] at hz
  split at hz
  · rename_i el e
    cases hx
    have := TK.of_sl e; subst this
    simp only [Option.some.injEq, Prod.mk.injEq] at hz
    obtain ⟨rfl, rfl⟩ := hz
    exact ⟨.tuple #[], w, by simp [Builtin.clear_, hat, run_underlying hdd], ⟨[], rfl, rfl⟩, h, Step.refl _ _ _⟩
  · rename_i el a n c e
    have := TK.of_sl e; subst this
    obtain ⟨bi, ad, cc, hbi, rfl, hex, ho0, hcapn, hgr⟩ := hx.slice
    split at hz
    · rename_i h0
      subst h0
      simp only [Option.some.injEq, Prod.mk.injEq] at hz
      obtain ⟨rfl, rfl⟩ := hz
      exact ⟨.tuple #[], w, by simp [Builtin.clear_, hat, run_underlying hdd], ⟨[], rfl, rfl⟩, h, Step.refl _ _ _⟩
    · rename_i h0
      split at hz
      · rename_i se cs el' k hse hg
        split at hz
        · cases hz
        · rename_i hbad
          simp only [not_or, Nat.not_lt, Decidable.not_not] at hbad
          obtain ⟨hro, hfit, hone, hzl⟩ := hbad
          have hone : se.zero.all AV.one = true := by cases hh : se.zero.all AV.one <;> simp_all
          have honez : (azeros n se.zero).all AV.one = true := by
            simp only [azeros, List.all_eq_true] at hone ⊢
            intro y hy
            obtain ⟨l, hl, hy⟩ := List.mem_flatten.1 hy
            rw [List.eq_of_mem_replicate hl] at hy
            exact hone y hy
          simp only [Option.some.injEq, Prod.mk.injEq] at hz
          obtain ⟨rfl, rfl⟩ := hz
          obtain ⟨i', d', zv', hi', hd', hk', hsz', hby', hzr', hzz'⟩ := info_T hT hse
          have ho : ad = ⟨bi.b, bi.s + a.off, none⟩ := ho0.resolve_left (by omega)
          subst ho
          obtain ⟨w', hst, hh', hs'⟩ := storeCells_sound (P := P) h hbi hro hg (o := a.off) ((hzz' ρ).zeroCells n) honez hfit
          refine ⟨_, w', ?_, ⟨[], rfl, rfl⟩, hh', hs'⟩
          cases n with
          | zero => exact absurd rfl h0
          | succ n => simp [Builtin.clear_, hat, run_underlying hdd, zeroValue, typeInfo, hi', hzr', hst]
      · cases hz
  · cases hz

omit hT in
theorem abound_sound {hi : Nat} {x : AV} {v : Value} {d n : Nat} {code : BoundsCode} (hx : VR ρ x v) (hz : abound hi (some x) d = some n) : (Instr.sliceBound v hi code).run P w = .ok n w ∧ n ≤ hi := by
  cases x <;> simp only [abound, reduceCtorEq] at hz
  cases hx
  split at hz
  · rename_i hb
    injection hz with hz; subst hz
    exact ⟨by simp [Instr.sliceBound, asIntOf, hb], by omega⟩
  · cases hz

def VRO (ρ : Rho) : Option AV → Option Value → Prop
  | none, v => v = none
  | some x, v => ∃ u, v = some u ∧ VR ρ x u
omit hT in
/-- The bounds of a slice expression. -/
theorem bounds_sound {isS : Bool} {len cap : Nat} {lo hi mx : Option AV} {vlo vhi vmx : Option Value} {m h l : Nat} (h1 : VRO ρ lo vlo) (h2 : VRO ρ hi vhi) (h3 : VRO ρ mx vmx)
    (hmh : ¬ (mx.isSome = true ∧ hi.isNone = true)) (hm : abound cap mx cap = some m) (hh : abound m hi len = some h) (hl : abound h lo 0 = some l) :
    (Instr.sliceBounds isS len cap vlo vhi vmx).run P w = .ok (l, h, m) w ∧ l ≤ h ∧ (hi.isSome = true → h ≤ m) ∧ m ≤ cap := by
  have el : ∀ (code : BoundsCode), (match vlo with | some v => Instr.sliceBound v h code | none => pure 0 : Sem Nat).run P w = .ok l w ∧ l ≤ h := by
    intro code
    cases lo with
    | none => cases h1; simp only [abound, Option.some.injEq] at hl; subst hl; exact ⟨rfl, Nat.zero_le _⟩
    | some x => obtain ⟨u, rfl, hu⟩ := h1; exact abound_sound hu hl
  cases mx with
  | none =>
    cases h3
    simp only [abound, Option.some.injEq] at hm; subst hm
    cases hi with
    | none =>
      cases h2
      simp only [abound, Option.some.injEq] at hh; subst hh
      refine ⟨?_, (el .sliceB).2, by simp, Nat.le_refl _⟩
      have := (el .sliceB).1
      cases vlo <;> simp [Instr.sliceBounds] at this ⊢ <;> simp [this]
    | some y =>
      obtain ⟨u, rfl, hu⟩ := h2
      refine ⟨?_, (el .sliceB).2, fun _ => (abound_sound (P := P) (w := w) (code := .index) hu hh).2, Nat.le_refl _⟩
      have e1 := (el .sliceB).1
      have e2 := (abound_sound (P := P) (w := w) (code := if isS = true then .sliceAcap else .sliceAlen) hu hh).1
      cases vlo <;> simp [Instr.sliceBounds, e2] at e1 ⊢ <;> simp [e1]
  | some z =>
    obtain ⟨uz, rfl, huz⟩ := h3
    cases hi with
    | none => simp at hmh
    | some y =>
      obtain ⟨u, rfl, hu⟩ := h2
      refine ⟨?_, (el .sliceB).2, fun _ => (abound_sound (P := P) (w := w) (code := .index) hu hh).2, (abound_sound (P := P) (w := w) (code := .index) huz hm).2⟩
      have e1 := (el .slice3C).1
      have e2 := (abound_sound (P := P) (w := w) (code := .slice3B) hu hh).1
      have e3 := (abound_sound (P := P) (w := w) (code := if isS = true then .slice3Acap else .slice3Alen) huz hm).1
      cases vlo <;> simp [Instr.sliceBounds, e2, e3] at e1 ⊢ <;> simp [e1]
end
end Go.Ab
