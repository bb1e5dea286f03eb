/- The abstract layer, part P: drawn regions by hand; closed calls; a law's call. -/
import Derived.Test.YtdbcndheeipmjaaAbxO
import Derived.ProofKit
set_option linter.unusedVariables false
set_option linter.unusedSimpArgs false
namespace Go.Ab
section
variable (P : Program) (T : TT) (n : Nat) (ls : List Nat)
/-- A drawn region's operations, in one order that stands for all. -/
def awpSeqX (ops : Array Oper) (Q : Env → AHeap → Prop) : List Oper → Env → AHeap → Prop
  | [], e, H => Q e H
  | o :: l, e, H =>
    if kindSteady o.op = true then match steadyB T ls ops o e H with
      | some v => match eput n e o.dst v with
        | some e' => awpSeqX ops Q l e' H
        | none => False
      | none => False
    else awpOpX P T n (· ∈ ls) ops o (awpSeqX ops Q l) e H
end
section
variable {P : Program} {T : TT} {n : Nat} {ls : List Nat}
theorem awpSeqX_sound {ops : Array Oper} {Q : Env → AHeap → Prop} : ∀ (pl : List Nat) (listed : Array Bool) {e : Env} {H : AHeap}, planOkL ops pl listed = true →
    awpSeqX P T n ls ops Q (pl.filterMap (ops[·]?)) e H → awpAnyX P T n (· ∈ ls) ops Q pl.length listed e H
  | [], listed, e, H, hp, h => ⟨by simpa [planOkL] using hp, h⟩
  | i :: l, listed, e, H, hp, h => by
    simp only [planOkL, Bool.and_eq_true] at hp
    obtain ⟨hs, hp⟩ := hp
    cases hi : ops[i]? with
    | none => simp [stepOk, hi] at hs
    | some o =>
      simp only [stepOk, hi] at hs
      rw [List.filterMap_cons_some hi] at h
      simp only [awpSeqX] at h
      simp only [List.length_cons]
      split at h
      · rename_i hks
        rw [if_pos hks] at hs
        simp only [Bool.and_eq_true, List.contains_iff_mem] at hs
        split at h
        · rename_i v hv
          split at h
          · rename_i e1 he1
            exact awpAnyX_first hi _ _ _ _ _ (freeX_spec hi hs.2) hs.1 (steadyB_sound hv) he1 (awpSeqX_sound l _ hp h)
          · exact h.elim
        · exact h.elim
      · rename_i hks
        rw [if_neg hks] at hs
        have hrs : Region.ready .any ops listed = [i] := by simpa using hs
        refine ⟨fun h0 => by (rw [hrs] at h0; cases h0), fun j hj => ?_⟩
        rw [hrs] at hj
        obtain rfl : j = i := by simpa using hj
        exact ⟨o, hi, awpOpX_mono (fun e H => awpSeqX_sound l _ hp) h⟩
theorem awp_drawn {id : Nat} {ops : Array Oper} {Q : AQ} {e : Env} {H : AHeap} (ls : List Nat) (pl : List Nat) (hp : planOk ops pl = true)
    (h : awpSeqX P T n ls ops (Q .normal) (pl.filterMap (ops[·]?)) e H) : awp P T n (.region id ops true) Q e H := by
  simp only [planOk, Bool.and_eq_true, beq_iff_eq] at hp
  have := awpSeqX_sound pl _ hp.2 h
  rw [hp.1] at this
  exact awpAny_of_X _ this
theorem ext_push {L : Nat → Prop} {H : AHeap} {b : ABlk} : H.Ext L (H.push b) = True := eq_true (.push H b)
end

/-! ### Closed calls -/
section
variable {P : Program} {T : TT} {ρ : Rho} {lo : Nat} {H : AHeap} {w w' : World}
theorem HRel.over (h : HRel T ρ lo H w) (hs : w.heap.size ≤ w'.heap.size) (hb : ∀ k, k < w.heap.size → w'.heap[k]? = w.heap[k]?) : HRel T ρ lo H w' := by
  refine ⟨fun a blk hg => ?_, h.fresh, h.inj, Nat.le_trans h.lo hs⟩
  obtain ⟨i, hi, hr⟩ := h.dom a blk hg
  refine ⟨i, hi, hr.same (.refl _) (hb _ ?_)⟩
  by_cases hrw : blk.rw = true
  · exact h.lt hg hrw hi
  · cases blk with
    | cells cs el k =>
      cases k with
      | ro => exact Nat.lt_of_lt_of_le hr.1 h.lo
      | _ => exact absurd rfl hrw
    | mp es mt => exact hr.elim
theorem HRel.none (w : World) : HRel T (fun _ => Option.none) w.heap.size ⟨0, .lf⟩ w := by
  refine ⟨fun a blk hg => ?_, fun _ _ => rfl, fun a a' blk blk' i i' hg => ?_, Nat.le_refl _⟩
  · exact absurd (AHeap.get_lt hg) (by simp)
  · exact absurd (AHeap.get_lt hg) (by simp)
/-- A call that is handed no memory, and hands none back, may be reckoned in the empty heap. -/
theorem ASpec.closed {f : FuncId} {args : List AV} {Q : AV → AHeap → Prop} (h : ASpec P T f args ⟨0, .lf⟩ Q) (hp : AV.plains args = true) (hq : ∀ r H', Q r H' → r.plainV = true) :
    ASpec P T f args H fun r H1 => (∃ H0, Q r H0) ∧ H1 = H := by
  intro ρ lo w cargs hh ha
  refine (h _ _ w cargs (HRel.none w) (ha.plain hp)).mono ?_
  rintro v w' ⟨r, ρ', H', q, hr, hh', hs⟩
  have hno : ∀ k, ¬ Own (fun _ => Option.none) ⟨0, .lf⟩ k := by
    rintro k ⟨a, b, i, hg, _⟩
    exact absurd (AHeap.get_lt hg) (by simp)
  have hb : ∀ k, k < w.heap.size → w'.heap[k]? = w.heap[k]? := fun k hk => hs.block k hk (hno k)
  exact ⟨r, ρ, H, ⟨⟨_, q⟩, rfl⟩, hr.plainV (hq _ _ q), hh.over hs.size hb, ⟨.refl _, hs.os, hs.tape, hs.output, hs.size, fun _ _ h => h, fun k hk _ => hb k hk⟩⟩
/-- The result of a closed call, if it is r. -/
def comesTo (x : Option (AV × AHeap)) (r : AV) : Bool := match x with
  | some (r', _) => AV.beq r' r && r.plainV
  | none => false
theorem ASpec.reckon (hT : TOk P T) (hm : P.follows .mixedOrders = true) (hn : ∀ (f : FuncId) (fn : Func), P.funcs[f]? = some fn → (fn.name == "runtime.NumGoroutine") = false)
    {prims : FuncId → List AV → AHeap → Option (Option (AV × AHeap))} (hprims : ∀ f args H r H', prims f args H = some (some (r, H')) → ASpec P T f args H fun r1 H1 => r1 = r ∧ H1 = H') {fuel d : Nat}
    {f : FuncId} {args : List AV} {r : AV} (h : comesTo (exF P T prims fuel d f args ⟨0, .lf⟩) r = true) (hp : AV.plains args = true) : ASpec P T f args H fun r1 H1 => r1 = r ∧ H1 = H := by
  unfold comesTo at h
  split at h
  · rename_i r' H' hx
    simp only [Bool.and_eq_true] at h
    obtain rfl := AV.beq_eq h.1
    refine ((exF_sound hT hm hn hprims d f args _ _ _ hx).closed hp (fun r1 H1 hq => by rw [hq.1]; exact h.2)).mono ?_
    rintro r1 H1 ⟨⟨H0, h1, _⟩, h2⟩
    exact ⟨h1, h2⟩
  · cases h

/-! ### A law's call -/
/-- From memory of which nothing may be written: the call returns, and what was there is as it was. -/
theorem ASpec.top {f : FuncId} {fn : Func} {c : Code} {aargs : List AV} {cargs : List Value} {Q : AV → AHeap → Prop} (h : ASpec P T f aargs H Q) (hf : P.funcs[f]? = some fn) (hb : fn.body = some c)
    (hname : (fn.name == "runtime.NumGoroutine") = false) (hh : HRel T ρ lo H w) (ha : VRs ρ aargs cargs) (hro : ∀ a b, H.get a = some b → b.rw = false) :
    Calls P f ⟨cargs⟩ w fun e w' => ∃ v, e = .returned v ∧ (∃ r ρ' H', Q r H' ∧ VR ρ' r v) ∧ RowKit.Below w.heap.size w w' := by
  have hrun : (callFunc f ⟨cargs⟩).run P w = .ok (.enter f ⟨cargs⟩) w := by simp [callFunc, hf, hb]; simpa using hname
  rcases h ρ lo w cargs hh ha with ⟨_, h2⟩ | ⟨v, w', h1, _⟩
  · refine h2.mono fun e w' ⟨v, he, r, ρ', H', q, hr, hh', hs⟩ => ⟨v, he, ⟨r, ρ', H', q, hr⟩, ⟨hs.os, hs.tape, hs.output, hs.size, fun k hk => hs.block k hk ?_⟩⟩
    rintro ⟨a, b, i, hg, hw, _⟩
    rw [hro a b hg] at hw; cases hw
  · rw [hrun] at h1
    simp at h1
end
end Go.Ab
