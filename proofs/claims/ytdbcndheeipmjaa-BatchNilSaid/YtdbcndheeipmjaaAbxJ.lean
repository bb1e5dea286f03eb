/- The abstract layer, part J: code and calls. -/
import Derived.Test.YtdbcndheeipmjaaAbxI
import Derived.LoopN
import Derived.Scope
import Derived.Orders
set_option linter.unusedVariables false
set_option linter.unusedSimpArgs false
namespace Go.Ab

/-- A call: of a function with a body, or of one of the model's own. -/
def CallTo (P : Program) (f : FuncId) (args : Array Value) (w : World) (R : Value → World → Prop) : Prop :=
  ((callFunc f args).run P w = .ok (.enter f args) w ∧ Calls P f args w fun e w' => ∃ v, e = .returned v ∧ R v w') ∨
  (∃ v w', (callFunc f args).run P w = .ok (.value v) w' ∧ R v w')
theorem CallTo.mono {P : Program} {f : FuncId} {args : Array Value} {w : World} {R R' : Value → World → Prop} (h : CallTo P f args w R) (hr : ∀ v w', R v w' → R' v w') : CallTo P f args w R' := by
  rcases h with ⟨h1, h2⟩ | ⟨v, w', h1, h2⟩
  · exact .inl ⟨h1, h2.mono fun e w' ⟨v, he, hv⟩ => ⟨v, he, hr _ _ hv⟩⟩
  · exact .inr ⟨v, w', h1, hr _ _ h2⟩

/-- What a function does: from any memory that the abstract heap tells of, it returns, and result and heap are as Q says. -/
def ASpec (P : Program) (T : TT) (f : FuncId) (args : List AV) (H : AHeap) (Q : AV → AHeap → Prop) : Prop :=
  ∀ (ρ : Rho) (lo : Nat) (w : World) (cargs : List Value), HRel T ρ lo H w → VRs ρ args cargs →
    CallTo P f ⟨cargs⟩ w fun v w' => ∃ r ρ' H', Q r H' ∧ VR ρ' r v ∧ HRel T ρ' lo H' w' ∧ Step ρ H w ρ' H' w'
theorem ASpec.mono {P : Program} {T : TT} {f : FuncId} {args : List AV} {H : AHeap} {Q Q' : AV → AHeap → Prop} (h : ASpec P T f args H Q) (hq : ∀ r H', Q r H' → Q' r H') : ASpec P T f args H Q' :=
  fun ρ lo w cargs h1 h2 => (h ρ lo w cargs h1 h2).mono fun v w' ⟨r, ρ', H', q, rest⟩ => ⟨r, ρ', H', hq _ _ q, rest⟩

def eput (n : Nat) (e : Env) (dst : Option Tmp) (v : AV) : Option Env :=
  match dst with
  | none => some e
  | some d => if d < n then some (e.set d (some v)) else none
def awanted (ops : Array Oper) (o : Oper) (e : Env) : Option Bool :=
  match o.guard with
  | none => some true
  | some (j, want) => match (ops[j]?).bind (·.dst) with
    | none => some false
    | some t => match e.get t with
      | some (.bool b) => some (b == want)
      | some (.tup []) => some false
      | _ => none

section
variable (P : Program) (T : TT) (n : Nat)
/-- One operation, then K. -/
def awpOp (ops : Array Oper) (o : Oper) (K : Env → AHeap → Prop) (e : Env) (H : AHeap) : Prop :=
  match awanted ops o e with
  | none => False
  | some false => match eput n e o.dst (.tup []) with
    | some e' => K e' H
    | none => False
  | some true => match aopR T e H o.op with
    | .val v H' => match eput n e o.dst v with
      | some e' => K e' H'
      | none => False
    | .call f args => ASpec P T f args H fun r H' => match eput n e o.dst r with
      | some e' => K e' H'
      | none => False
    | .bad => False
def awpOps (ops : Array Oper) (Q : Env → AHeap → Prop) : List Oper → Env → AHeap → Prop
  | [], e, H => Q e H
  | o :: rest, e, H => awpOp P T n ops o (awpOps ops Q rest) e H
/-- Whatever order is picked. -/
def awpAny (ops : Array Oper) (Q : Env → AHeap → Prop) : Nat → Array Bool → Env → AHeap → Prop
  | 0, listed, e, H => Region.ready .any ops listed = [] ∧ Q e H
  | fuel + 1, listed, e, H => (Region.ready .any ops listed = [] → Q e H) ∧
      ∀ i ∈ Region.ready .any ops listed, match ops[i]? with
        | none => awpAny ops Q fuel (listed.setIfInBounds i true) e H
        | some o => awpOp P T n ops o (awpAny ops Q fuel (listed.setIfInBounds i true)) e H

abbrev AQ := Exit → Env → AHeap → Prop
def thenA (next : Env → AHeap → Prop) (Q : AQ) : AQ
  | .normal, e, H => next e H
  | x, e, H => Q x e H
def blockA (id : Nat) (Q : AQ) : AQ
  | .exit id', e, H => if id' = id then Q .normal e H else Q (.exit id') e H
  | x, e, H => Q x e H
def scopeA (Q : AQ) : AQ
  | .goto _, _, _ => False
  | x, e, H => Q x e H
def aiter (body : AQ → Env → AHeap → Prop) (Q : AQ) : Nat → Env → AHeap → Prop
  | 0, _, _ => False
  | k + 1, e, H => body (thenA (aiter body Q k) Q) e H
def awp : Code → AQ → Env → AHeap → Prop
  | .skip, Q, e, H => Q .normal e H
  | .region _ ops false, Q, e, H => awpOps P T n ops (Q .normal) ops.toList e H
  | .region _ ops true, Q, e, H => awpAny P T n ops (Q .normal) ops.size (Array.replicate ops.size false) e H
  | .seq a b, Q, e, H => awp a (thenA (awp b Q) Q) e H
  | .cond c x y, Q, e, H => match evO e c with
    | some (.bool b) => (b = true → awp x Q e H) ∧ (b = false → awp y Q e H)
    | _ => False
  | .block id body, Q, e, H => awp body (blockA id Q) e H
  | .loop body, Q, e, H => ∃ k, aiter (awp body) Q k e H
  | .exit id, Q, e, H => Q (.exit id) e H
  | .scope body, Q, e, H => awp body (scopeA Q) e H
  | .label _, Q, e, H => Q .normal e H
  | .ret, Q, e, H => Q .ret e H
  | .goto _, _, _, _ => False
  | .refuse _, _, _, _ => False
  | .rangeFunc _ _ _ _, _, _, _ => False
end

/-- The concrete side of an abstract post. -/
def ASat (T : TT) (n : Nat) (Q : AQ) (ρ : Rho) (lo : Nat) (H : AHeap) (w : World) : Exit → Act → World → Prop := fun x a w' =>
  a.defers = [] ∧ ∃ e' H' ρ', Q x e' H' ∧ ERel ρ' n e' a.tmps ∧ HRel T ρ' lo H' w' ∧ Step ρ H w ρ' H' w'

section
variable {P : Program} {T : TT} {n : Nat} (hT : TOk P T)

theorem eput_sound {ρ : Rho} {e e' : Env} {a : Act} {dst : Option Tmp} {x : AV} {v : Value} (he : ERel ρ n e a.tmps) (h : eput n e dst x = some e') (hx : VR ρ x v) :
    ERel ρ n e' (a.put dst v).tmps ∧ (a.put dst v).defers = a.defers := by
  cases dst with
  | none => simp only [eput, Option.some.injEq] at h; subst h; exact ⟨he, rfl⟩
  | some d =>
    simp only [eput] at h
    split at h
    · rename_i hd
      injection h with h; subst h
      exact ⟨he.put hd hx, rfl⟩
    · cases h
theorem awanted_sound {ρ : Rho} {e : Env} {a : Act} {ops : Array Oper} {o : Oper} {b : Bool} (he : ERel ρ n e a.tmps) (h : awanted ops o e = some b) : Region.wanted o (yielded ops a.tmps) = b := by
  unfold awanted at h
  unfold Region.wanted
  cases hg : o.guard with
  | none => rw [hg] at h; simpa using h
  | some jw =>
    obtain ⟨j, want⟩ := jw
    rw [hg] at h
    simp only [] at h ⊢
    unfold yielded
    cases ht : (ops[j]?).bind (·.dst) with
    | none => rw [ht] at h; simp only [Option.some.injEq] at h; subst h; simp
    | some t =>
      rw [ht] at h
      simp only [Option.bind_some]
      have val : ∀ x v, e.get t = some x → (∀ v, VR ρ x v → v = undef ∨ ∃ b, v = .bool b) → a.tmps.getD t undef = v → a.tmps[t]? = some v ∨ (a.tmps[t]? = none ∧ v = undef) := by
        intro x v _ _ hv
        cases hh : a.tmps[t]? with
        | none => right; simp [hh] at hv; exact ⟨rfl, hv.symm⟩
        | some u => left; simp [hh] at hv; rw [hv]
      simp only [] at h
      split at h
      · rename_i b' hb'
        injection h with h; subst h
        have h1 : a.tmps.getD t undef = .bool b' := he.at_ t _ hb'
        cases hh : a.tmps[t]? with
        | none => simp [hh, undef] at h1
        | some u => simp [hh] at h1; subst h1; simp
      · rename_i hb'
        injection h with h; subst h
        obtain ⟨vs, h1, h2⟩ := he.at_ t _ hb'
        rw [VRs_nil] at h2; subst h2
        cases hh : a.tmps[t]? with
        | none => simp
        | some u => simp [hh] at h1; subst h1; simp
      · cases h

include hT
theorem aopR_val {ρ : Rho} {lo : Nat} {H H' : AHeap} {w : World} {e : Env} {a : Act} {o : Oper} {z : AV} (h : HRel T ρ lo H w) (he : ERel ρ n e a.tmps) (hz : aopR T e H o.op = .val z H') :
    OpTo P T ρ lo H w (execOp a.eval o) z H' := by
  unfold aopR at hz
  split at hz
  · rename_i v hv
    injection hz with h1 h2; subst h1; subst h2
    obtain ⟨r, hr, hx⟩ := aPure_sound (w := w) hT he hv
    exact ⟨ρ, r, w, .inl hr, hx, h, Step.refl _ _ _⟩
  · exact aMem_sound hT h he hz
omit hT in
theorem aopR_call {ρ : Rho} {H : AHeap} {e : Env} {a : Act} {o : Oper} {f : FuncId} {args : List AV} (he : ERel ρ n e a.tmps) (hz : aopR T e H o.op = .call f args) :
    ∃ cargs, VRs ρ args cargs ∧ execOp a.eval o = callFunc f ⟨cargs⟩ := by
  unfold aopR at hz
  split at hz
  · cases hz
  · rename_i hnone; clear hnone
    obtain ⟨dst, op, ty, pos, after, guard⟩ := o
    cases op <;> simp only [aMem] at hz
    case call c =>
      obtain ⟨callee, ⟨cargs⟩, ⟨argTypes⟩⟩ := c
      rcases callee with g | ⟨rr, m⟩ | b
      · simp only [] at hz
        split at hz
        · rename_i g first caps l hg hl
          injection hz with h1 h2; subst h1; subst h2
          obtain ⟨vf, vc, hgv, hf, hc⟩ := he.ev hg
          refine ⟨vf ++ cargs.map a.eval ++ vc, (hf.append (he.evs hl)).append hc, ?_⟩
          simp [execOp, resolve, hgv, Deferred.ofValue, invoke]
        · cases hz
      · cases hz
      · cases b <;> simp only [] at hz <;> first | (cases hz; done) | (repeat' (split at hz)) <;> first | (cases hz; done) | exact absurd hz ORes.of_call
    all_goals first | (cases hz; done) | ((repeat' (split at hz)) <;> first | (cases hz; done) | exact absurd hz ORes.of_call)

/-- One operation. -/
theorem awpOp_sound {ρ : Rho} {lo : Nat} {H : AHeap} {w : World} {e : Env} {a : Act} {ops : Array Oper} {o : Oper} {K : Env → AHeap → Prop} {KC : Act → World → Prop} {Q : Exit → Act → World → Prop}
    (h : HRel T ρ lo H w) (he : ERel ρ n e a.tmps) (hk : awpOp P T n ops o K e H)
    (hKC : ∀ e' H' ρ' a' w', K e' H' → ERel ρ' n e' a'.tmps → HRel T ρ' lo H' w' → Step ρ H w ρ' H' w' → a'.defers = a.defers → KC a' w') :
    if Region.wanted o (yielded ops a.tmps) = true then o.wp P a w KC Q else KC (a.put o.dst undef) w := by
  unfold awpOp at hk
  split at hk
  · exact hk.elim
  · rename_i hw
    rw [awanted_sound he hw]
    split at hk
    · rename_i e' he'
      obtain ⟨h1, h2⟩ := eput_sound he he' (v := undef) ⟨[], rfl, rfl⟩
      exact hKC _ _ ρ _ _ hk h1 h (Step.refl _ _ _) h2
    · exact hk.elim
  · rename_i hw
    rw [awanted_sound he hw, if_pos rfl]
    unfold Oper.wp
    split at hk
    · rename_i v H' hv
      obtain ⟨ρ', r, w', hr, hx, hh, hst⟩ := aopR_val hT h he hv
      split at hk
      · rename_i e' he'
        have he2 : ERel ρ' n e a.tmps := he.mono hst.ext
        rcases hr with hr | ⟨hr, rfl⟩
        · rw [hr, Oper.upon_value]
          obtain ⟨h1, h2⟩ := eput_sound he2 he' hx
          exact hKC _ _ ρ' _ _ hk h1 hh hst h2
        · rw [hr, Oper.upon_skip]
          obtain ⟨h1, h2⟩ := eput_sound he2 he' hx
          exact hKC _ _ ρ' _ _ hk h1 hh hst h2
      · exact hk.elim
    · rename_i f args hc
      obtain ⟨cargs, hca, hex⟩ := aopR_call he hc
      rw [hex]
      have step : ∀ v w', (∃ r ρ' H', (match eput n e o.dst r with | some e' => K e' H' | none => False) ∧ VR ρ' r v ∧ HRel T ρ' lo H' w' ∧ Step ρ H w ρ' H' w') → KC (a.put o.dst v) w' := by
        rintro v w' ⟨r, ρ', H', hk, hx, hh, hst⟩
        split at hk
        · rename_i e' he'
          obtain ⟨h1, h2⟩ := eput_sound (he.mono hst.ext) he' hx
          exact hKC _ _ ρ' _ _ hk h1 hh hst h2
        · exact hk.elim
      rcases hk ρ lo w cargs h hca with ⟨h1, h2⟩ | ⟨v, w', h1, h2⟩
      · rw [h1, Oper.upon_enter]
        refine h2.mono fun ev w' hv => ?_
        obtain ⟨v, rfl, hv⟩ := hv
        exact step v w' hv
      · rw [h1, Oper.upon_value]
        exact step v w' h2
    · exact hk.elim

theorem awpOps_sound {lo : Nat} {ops : Array Oper} {Q : AQ} {ρ0 : Rho} {H0 : AHeap} {w0 : World} : ∀ (l : List Oper) {ρ : Rho} {H : AHeap} {w : World} {e : Env} {a : Act},
    HRel T ρ lo H w → ERel ρ n e a.tmps → a.defers = [] → Step ρ0 H0 w0 ρ H w → awpOps P T n ops (Q .normal) l e H → wpList P ops (ASat T n Q ρ0 lo H0 w0) l a w
  | [], ρ, H, w, e, a, h, he, hd, hs, hk => ⟨hd, e, H, ρ, hk, he, h, hs⟩
  | o :: l, ρ, H, w, e, a, h, he, hd, hs, hk => by
    have := awpOp_sound (KC := wpList P ops (ASat T n Q ρ0 lo H0 w0) l) (Q := ASat T n Q ρ0 lo H0 w0) hT h he hk
      (fun e' H' ρ' a' w' hk' he' hh' hst hd' => awpOps_sound l hh' he' (hd'.trans hd) (hs.trans hst) hk')
    unfold wpList
    split
    · rename_i hw; rw [if_pos hw] at this; exact .inl this
    · rename_i hw; rw [if_neg hw] at this; exact this

theorem awpAny_sound {lo : Nat} {ops : Array Oper} {Q : AQ} {ρ0 : Rho} {H0 : AHeap} {w0 : World} : ∀ (fuel : Nat) {listed : Array Bool} {ρ : Rho} {H : AHeap} {w : World} {e : Env} {a : Act},
    HRel T ρ lo H w → ERel ρ n e a.tmps → a.defers = [] → Step ρ0 H0 w0 ρ H w → awpAny P T n ops (Q .normal) fuel listed e H → wpAny P .any ops (ASat T n Q ρ0 lo H0 w0) fuel listed a w
  | 0, listed, ρ, H, w, e, a, h, he, hd, hs, hk => ⟨hk.1, hd, e, H, ρ, hk.2, he, h, hs⟩
  | fuel + 1, listed, ρ, H, w, e, a, h, he, hd, hs, hk => by
    refine ⟨fun hr => ⟨hd, e, H, ρ, hk.1 hr, he, h, hs⟩, fun i hi => ?_⟩
    have hki := hk.2 i hi
    unfold wpOp
    cases ho : ops[i]? with
    | none =>
      rw [ho] at hki
      exact awpAny_sound fuel h he hd hs hki
    | some o =>
      rw [ho] at hki
      simp only [] at hki ⊢
      have := awpOp_sound (KC := wpAny P .any ops (ASat T n Q ρ0 lo H0 w0) fuel (listed.setIfInBounds i true)) (Q := ASat T n Q ρ0 lo H0 w0) hT h he hki
        (fun e' H' ρ' a' w' hk' he' hh' hst hd' => awpAny_sound fuel hh' he' (hd'.trans hd) (hs.trans hst) hk')
      split
      · rename_i hw; rw [if_pos hw] at this; exact .inl this
      · rename_i hw; rw [if_neg hw] at this; exact this

theorem awp_sound (hm : P.follows .mixedOrders = true) : ∀ (c : Code) {Q : AQ} {lo : Nat} {ρ : Rho} {H : AHeap} {w : World} {e : Env} {a : Act},
    HRel T ρ lo H w → ERel ρ n e a.tmps → a.defers = [] → awp P T n c Q e H → c.wp P (ASat T n Q ρ lo H w) a w := by
  intro c
  induction c with
  | skip => intro Q lo ρ H w e a h he hd hk; exact wp_skip ⟨hd, e, H, ρ, hk, he, h, Step.refl _ _ _⟩
  | region id ops draw =>
    intro Q lo ρ H w e a h he hd hk
    cases draw with
    | false => exact wp_region_list (awpOps_sound hT _ h he hd (Step.refl _ _ _) hk)
    | true => exact wp_region_any hm (awpAny_sound hT _ h.drew he hd (Step.drew _ _ _) hk)
  | seq x y ihx ihy =>
    intro Q lo ρ H w e a h he hd hk
    refine wp_seq (wp_mono (ihx h he hd hk) ?_)
    intro ex a1 w1 ⟨hd1, e1, H1, ρ1, hq, he1, hh1, hs1⟩
    cases ex <;> first
      | exact ⟨hd1, e1, H1, ρ1, hq, he1, hh1, hs1⟩
      | exact wp_mono (ihy hh1 he1 hd1 hq) fun ex a2 w2 ⟨hd2, e2, H2, ρ2, hq2, he2, hh2, hs2⟩ => ⟨hd2, e2, H2, ρ2, hq2, he2, hh2, hs1.trans hs2⟩
  | cond c x y ihx ihy =>
    intro Q lo ρ H w e a h he hd hk
    unfold awp at hk
    split at hk
    · rename_i b hb
      have hev : a.eval c = .bool b := he.ev hb
      exact wp_cond_split hev (fun hb => ihx h he hd (hk.1 hb)) (fun hb => ihy h he hd (hk.2 hb))
    · exact hk.elim
  | block id body ih =>
    intro Q lo ρ H w e a h he hd hk
    refine wp_block (wp_mono (ih h he hd hk) ?_)
    intro ex a1 w1 ⟨hd1, e1, H1, ρ1, hq, he1, hh1, hs1⟩
    cases ex with
    | exit id' =>
      simp only [Exit.inBlock, blockA] at hq ⊢
      split
      · rename_i hid; rw [if_pos hid] at hq; exact ⟨hd1, e1, H1, ρ1, hq, he1, hh1, hs1⟩
      · rename_i hid; rw [if_neg hid] at hq; exact ⟨hd1, e1, H1, ρ1, hq, he1, hh1, hs1⟩
    | _ => exact ⟨hd1, e1, H1, ρ1, hq, he1, hh1, hs1⟩
  | loop body ih =>
    intro Q lo ρ H w e a h he hd hk
    obtain ⟨k, hk⟩ := hk
    refine wp_loop_rounds k ?_
    have key : ∀ (k : Nat) {ρ1 : Rho} {H1 : AHeap} {w1 : World} {e1 : Env} {a1 : Act}, HRel T ρ1 lo H1 w1 → ERel ρ1 n e1 a1.tmps → a1.defers = [] → Step ρ H w ρ1 H1 w1 → aiter (awp P T n body) Q k e1 H1 →
        Code.rounds P body (ASat T n Q ρ lo H w) k a1 w1 := by
      intro k
      induction k with
      | zero => intro ρ1 H1 w1 e1 a1 _ _ _ _ hk; exact hk.elim
      | succ k ihk =>
        intro ρ1 H1 w1 e1 a1 hh1 he1 hd1 hs1 hk
        rw [rounds_succ]
        refine wp_mono (ih hh1 he1 hd1 hk) ?_
        intro ex a2 w2 ⟨hd2, e2, H2, ρ2, hq, he2, hh2, hs2⟩
        cases ex <;> first
          | exact ⟨hd2, e2, H2, ρ2, hq, he2, hh2, hs1.trans hs2⟩
          | exact ihk hh2 he2 hd2 (hs1.trans hs2) hq
    exact key k h he hd (Step.refl _ _ _) hk
  | rangeFunc f ps asg body _ _ => intro Q lo ρ H w e a h he hd hk; exact hk.elim
  | exit id => intro Q lo ρ H w e a h he hd hk; exact wp_exit ⟨hd, e, H, ρ, hk, he, h, Step.refl _ _ _⟩
  | scope body ih =>
    intro Q lo ρ H w e a h he hd hk
    refine wp_scope_straight (wp_mono (ih h he hd hk) ?_)
    intro ex a1 w1 ⟨hd1, e1, H1, ρ1, hq, he1, hh1, hs1⟩
    cases ex with
    | goto l => exact hq.elim
    | _ => exact ⟨hd1, e1, H1, ρ1, hq, he1, hh1, hs1⟩
  | label l => intro Q lo ρ H w e a h he hd hk; exact wp_label ⟨hd, e, H, ρ, hk, he, h, Step.refl _ _ _⟩
  | goto l => intro Q lo ρ H w e a h he hd hk; exact hk.elim
  | ret => intro Q lo ρ H w e a h he hd hk; exact wp_ret ⟨hd, e, H, ρ, hk, he, h, Step.refl _ _ _⟩
  | refuse why => intro Q lo ρ H w e a h he hd hk; exact hk.elim
end
end Go.Ab
