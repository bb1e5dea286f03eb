/- The abstract layer, part Q: code made small, for walks by hand: no places, no types, no orders; guards told by their variables. -/
import Derived.Test.YtdbcndheeipmjaaAbxP
set_option linter.unusedVariables false
set_option linter.unusedSimpArgs false
namespace Go.Ab
structure ROp where
  dst : Option Tmp
  op : Op
  g : Option (Option Tmp × Bool)
def resolve1 (ops : Array Oper) (o : Oper) : ROp := ⟨o.dst, o.op, match o.guard with
  | none => none
  | some (j, w) => some ((ops[j]?).bind (·.dst), w)⟩
def rwanted (g : Option (Option Tmp × Bool)) (e : Env) : Option Bool := match g with
  | none => some true
  | some (none, _) => some false
  | some (some t, w) => match e.get t with
    | some (.bool b) => some (b == w)
    | some (.tup []) => some false
    | _ => none
theorem rwanted_eq (ops : Array Oper) (o : Oper) (e : Env) : rwanted (resolve1 ops o).g e = awanted ops o e := by
  obtain ⟨d, op, ty, pos, af, g⟩ := o
  cases g with
  | none => rfl
  | some g =>
    obtain ⟨j, w⟩ := g
    simp only [resolve1, awanted]
    cases (ops[j]?).bind (·.dst) <;> rfl
section
variable (P : Program) (T : TT) (n : Nat)
def awpR (Q : Env → AHeap → Prop) : List ROp → Env → AHeap → Prop
  | [], e, H => Q e H
  | o :: l, e, H => match rwanted o.g e with
    | none => False
    | some false => match eput n e o.dst (.tup []) with
      | some e' => awpR Q l e' H
      | none => False
    | some true => match aopR T e H o.op with
      | .val v H' => match eput n e o.dst v with
        | some e' => awpR Q l e' H'
        | none => False
      | .call f args => ASpec P T f args H fun r H' => match eput n e o.dst r with
        | some e' => awpR Q l e' H'
        | none => False
      | .bad => False
theorem awpR_eq (ops : Array Oper) (Q : Env → AHeap → Prop) : ∀ (l : List Oper) (e : Env) (H : AHeap), awpR P T n Q (l.map (resolve1 ops)) e H = awpOps P T n ops Q l e H
  | [], e, H => rfl
  | o :: l, e, H => by
    have ih : (fun e H => awpR P T n Q (l.map (resolve1 ops)) e H) = awpOps P T n ops Q l := funext fun e => funext fun H => awpR_eq ops Q l e H
    simp only [List.map_cons, awpR, rwanted_eq, awpOps, awpOp, ← ih]
    rfl
end
inductive RCode where
  | skip | ret | bad
  | reg (l : List ROp)
  | drawn (id : Nat) (ops : Array Oper)
  | seq (a b : RCode) | cond (c : Operand) (a b : RCode) | block (id : Nat) (a : RCode) | loop (a : RCode) | exit (id : Nat) | scope (a : RCode) | label (l : Nat)
def toR : Code → RCode
  | .skip => .skip
  | .ret => .ret
  | .region _ ops false => .reg (ops.toList.map (resolve1 ops))
  | .region id ops true => .drawn id ops
  | .seq a b => .seq (toR a) (toR b)
  | .cond c a b => .cond c (toR a) (toR b)
  | .block id a => .block id (toR a)
  | .loop a => .loop (toR a)
  | .exit id => .exit id
  | .scope a => .scope (toR a)
  | .label l => .label l
  | _ => .bad
section
variable (P : Program) (T : TT) (n : Nat)
def awpC : RCode → AQ → Env → AHeap → Prop
  | .skip, Q => Q .normal
  | .ret, Q => Q .ret
  | .bad, _ => fun _ _ => False
  | .reg l, Q => awpR P T n (Q .normal) l
  | .drawn id ops, Q => awp P T n (.region id ops true) Q
  | .seq a b, Q => awpC a (thenA (awpC b Q) Q)
  | .cond c a b, Q => fun e H => match evO e c with
    | some (.bool t) => (t = true → awpC a Q e H) ∧ (t = false → awpC b Q e H)
    | _ => False
  | .block id a, Q => awpC a (blockA id Q)
  | .loop a, Q => fun e H => ∃ k, aiter (awpC a) Q k e H
  | .exit id, Q => Q (.exit id)
  | .scope a, Q => awpC a (scopeA Q)
  | .label _, Q => Q .normal
theorem awpC_sound : ∀ (c : Code) {Q : AQ} {e : Env} {H : AHeap}, awpC P T n (toR c) Q e H → awp P T n c Q e H := by
  intro c
  induction c with
  | skip => intro Q e H h; exact h
  | ret => intro Q e H h; exact h
  | exit id => intro Q e H h; exact h
  | label l => intro Q e H h; exact h
  | goto l => intro Q e H h; exact h.elim
  | refuse w => intro Q e H h; exact h.elim
  | rangeFunc f ps asg body _ _ => intro Q e H h; exact h.elim
  | region id ops draw =>
    intro Q e H h
    cases draw with
    | false =>
      simp only [toR, awpC, awpR_eq] at h
      exact h
    | true => exact h
  | seq a b iha ihb =>
    intro Q e H h
    have h' : awpC P T n (toR a) (thenA (awpC P T n (toR b) Q) Q) e H := h
    have h2 := iha h'
    have h3 : awp P T n a (thenA (awp P T n b Q) Q) e H := awp_mono (thenA_mono (fun e H hb => ihb hb) (fun _ _ _ h => h)) h2
    exact h3
  | cond c a b iha ihb =>
    intro Q e H h
    simp only [toR, awpC] at h
    rw [awp_cond]
    split at h
    · rename_i t ht
      simp only [ht]
      exact ⟨fun hb => iha (h.1 hb), fun hb => ihb (h.2 hb)⟩
    · exact h.elim
  | block id a ih => intro Q e H h; exact ih h
  | scope a ih => intro Q e H h; exact ih h
  | loop a ih =>
    intro Q e H h
    obtain ⟨k, h⟩ := h
    refine ⟨k, ?_⟩
    induction k generalizing e H with
    | zero => exact h.elim
    | succ k ihk => exact awp_mono (thenA_mono (fun e H hb => ihk hb) (fun _ _ _ h => h)) (ih h)
end
/-- A slice of what no append is at work on. -/
def sliceR (T : TT) (ls : List Nat) (H : AHeap) (t : TypeId) (x : Option AV) (lo hi mx : Option (Option AV)) : Option AV :=
  match x, lo, hi, mx with
  | some (.sl a len (some c)), some l, some h, some m => aslice T H t (.sl a len (some c)) l h m
  | some (.sl a len none), some l, some h, some m => if ls.contains a.blk && (H.get a.blk).isSome then aslice T H t (.sl a len none) l h m else none
  | some .nsl, some l, some h, some m => aslice T H t .nsl l h m
  | some (.ptr a), some l, some h, some m => aslice T H t (.ptr a) l h m
  | _, _, _, _ => none
def loadR (T : TT) (ls : List Nat) (H : AHeap) (t : TypeId) (x : Option AV) : Option AV :=
  match x with
  | some (.ptr (some a)) => if ls.contains a.blk && (H.get a.blk).isSome then aload T H t a else none
  | _ => none
def steadyR (T : TT) (ls : List Nat) (o : ROp) (e : Env) (H : AHeap) : Option AV :=
  match rwanted o.g e with
  | none => none
  | some false => some (.tup [])
  | some true => match aPure T e o.op with
    | some v => some v
    | none => match o.op with
      | .load t x => loadR T ls H t (evO e x)
      | .slice t x lo hi mx => sliceR T ls H t (evO e x) (evOO e lo) (evOO e hi) (evOO e mx)
      | _ => none
theorem steadyR_eq (T : TT) (ls : List Nat) (ops : Array Oper) (o : Oper) (e : Env) (H : AHeap) : steadyR T ls (resolve1 ops o) e H = steadyB T ls ops o e H := by
  unfold steadyR steadyB
  rw [rwanted_eq]
  rfl
section
variable (P : Program) (T : TT) (n : Nat) (ls : List Nat)
def awpXR (Q : Env → AHeap → Prop) : List ROp → Env → AHeap → Prop
  | [], e, H => Q e H
  | o :: l, e, H =>
    if kindSteady o.op = true then match steadyR T ls o e H with
      | some v => match eput n e o.dst v with
        | some e' => awpXR Q l e' H
        | none => False
      | none => False
    else match rwanted o.g e with
      | none => False
      | some false => match eput n e o.dst (.tup []) with
        | some e' => awpXR Q l e' H
        | none => False
      | some true => match aopR T e H o.op with
        | .val v H' => (headOk o.op = true → H.Ext (· ∈ ls) H') ∧ match eput n e o.dst v with
          | some e' => awpXR Q l e' H'
          | none => False
        | .call f args => ASpec P T f args H fun r H' => H.Ext (· ∈ ls) H' ∧ match eput n e o.dst r with
          | some e' => awpXR Q l e' H'
          | none => False
        | .bad => False
theorem awpXR_eq (ops : Array Oper) (Q : Env → AHeap → Prop) : ∀ (l : List Oper) (e : Env) (H : AHeap), awpXR P T n ls Q (l.map (resolve1 ops)) e H = awpSeqX P T n ls ops Q l e H
  | [], e, H => rfl
  | o :: l, e, H => by
    have ih : (fun e H => awpXR P T n ls Q (l.map (resolve1 ops)) e H) = awpSeqX P T n ls ops Q l := funext fun e => funext fun H => awpXR_eq ops Q l e H
    simp only [List.map_cons, awpXR, rwanted_eq, steadyR_eq, awpSeqX, awpOpX, ← ih]
    rfl
end
section
variable {P : Program} {T : TT} {n : Nat}
theorem awpC_drawn {id : Nat} {ops : Array Oper} {Q : AQ} {e : Env} {H : AHeap} (ls : List Nat) (pl : List Nat) (hp : planOk ops pl = true)
    (h : awpXR P T n ls (Q .normal) ((pl.filterMap (ops[·]?)).map (resolve1 ops)) e H) : awpC P T n (.drawn id ops) Q e H := by
  rw [awpXR_eq] at h
  exact awp_drawn ls pl hp h
theorem cspec_body (hT : TOk P T) (hm : P.follows .mixedOrders = true) {f : FuncId} {fn : Func} {c : Code} {args : List AV} {H : AHeap} {Q : AV → AHeap → Prop} {rs : List ResultVar}
    (hf : P.funcs[f]? = some fn) (hn : fn.ntmps = n) (hb : fn.body = some c) (hr : fn.results.toList = rs) (hname : (fn.name == "runtime.NumGoroutine") = false) (hl : args.length ≤ n)
    (h : awpC P T n (toR c) (retA T rs Q) (envOf args) H) : ASpec P T f args H Q := aspec_body hT hm hf hn hb hr hname hl (awpC_sound P T n c h)
theorem awpR_mono {Q Q' : Env → AHeap → Prop} (hq : ∀ e H, Q e H → Q' e H) : ∀ {l : List ROp} {e : Env} {H : AHeap}, awpR P T n Q l e H → awpR P T n Q' l e H
  | [], e, H, h => hq _ _ h
  | o :: l, e, H, h => by
    simp only [awpR] at h ⊢
    split at h
    · exact h.elim
    · split at h
      · exact awpR_mono hq h
      · exact h.elim
    · split at h
      · split at h
        · exact awpR_mono hq h
        · exact h.elim
      · refine h.mono fun r H' hr => ?_
        split at hr
        · exact awpR_mono hq hr
        · exact hr.elim
      · exact h.elim
theorem awpC_mono : ∀ {c : RCode} {Q Q' : AQ} {e : Env} {H : AHeap}, (∀ x e H, Q x e H → Q' x e H) → awpC P T n c Q e H → awpC P T n c Q' e H := by
  intro c
  induction c with
  | skip => intro Q Q' e H hq h; exact hq _ _ _ h
  | ret => intro Q Q' e H hq h; exact hq _ _ _ h
  | bad => intro Q Q' e H hq h; exact h.elim
  | exit id => intro Q Q' e H hq h; exact hq _ _ _ h
  | label l => intro Q Q' e H hq h; exact hq _ _ _ h
  | reg l => intro Q Q' e H hq h; exact awpR_mono (hq .normal) h
  | drawn id ops => intro Q Q' e H hq h; exact awp_mono hq h
  | seq a b iha ihb => intro Q Q' e H hq h; exact iha (thenA_mono (fun e H => ihb hq) hq) h
  | cond c a b iha ihb =>
    intro Q Q' e H hq h
    simp only [awpC] at h ⊢
    split at h
    · exact ⟨fun hb => iha hq (h.1 hb), fun hb => ihb hq (h.2 hb)⟩
    · exact h.elim
  | block id body ih =>
    intro Q Q' e H hq h
    refine ih ?_ h
    intro x e H hx
    cases x with
    | exit id' =>
      simp only [blockA] at hx ⊢
      split
      · rename_i hh; rw [if_pos hh] at hx; exact hq _ _ _ hx
      · rename_i hh; rw [if_neg hh] at hx; exact hq _ _ _ hx
    | _ => exact hq _ _ _ hx
  | loop body ih =>
    intro Q Q' e H hq h
    obtain ⟨k, h⟩ := h
    refine ⟨k, ?_⟩
    induction k generalizing e H with
    | zero => exact h.elim
    | succ k ihk => exact ih (thenA_mono (fun e H => ihk) hq) h
  | scope body ih =>
    intro Q Q' e H hq h
    refine ih ?_ h
    intro x e H hx
    cases x with
    | goto l => exact hx.elim
    | _ => exact hq _ _ _ hx
theorem cloop {body : RCode} {Q : AQ} {e : Env} {H : AHeap} (I : Nat → Env → AHeap → Prop) (m : Nat) (h0 : I m e H)
    (step : ∀ m e H, I m e H → awpC P T n body (thenA (fun e' H' => ∃ m', m' < m ∧ I m' e' H') Q) e H) : awpC P T n (.loop body) Q e H := by
  have key : ∀ k m e H, m < k → I m e H → aiter (awpC P T n body) Q k e H := by
    intro k
    induction k with
    | zero => intro m e H hm; omega
    | succ k ih =>
      intro m e H hm hI
      refine awpC_mono (thenA_mono ?_ (fun _ _ _ h => h)) (step m e H hI)
      rintro e' H' ⟨m', hm', hI'⟩
      exact ih m' e' H' (by omega) hI'
  exact ⟨m + 1, key _ m e H (Nat.lt_succ_self m) h0⟩
section
variable {Q : AQ} {e : Env} {H : AHeap}
theorem awpC_skip : awpC P T n .skip Q e H = Q .normal e H := rfl
theorem awpC_reg (l : List ROp) : awpC P T n (.reg l) Q e H = awpR P T n (Q .normal) l e H := rfl
theorem awpC_seq (a b : RCode) : awpC P T n (.seq a b) Q e H = awpC P T n a (thenA (awpC P T n b Q) Q) e H := rfl
theorem awpC_cond (c : Operand) (a b : RCode) : awpC P T n (.cond c a b) Q e H = match evO e c with
    | some (.bool t) => (t = true → awpC P T n a Q e H) ∧ (t = false → awpC P T n b Q e H)
    | _ => False := rfl
theorem awpC_block (id : Nat) (a : RCode) : awpC P T n (.block id a) Q e H = awpC P T n a (blockA id Q) e H := rfl
theorem awpC_exit (id : Nat) : awpC P T n (.exit id) Q e H = Q (.exit id) e H := rfl
theorem awpC_scope (a : RCode) : awpC P T n (.scope a) Q e H = awpC P T n a (scopeA Q) e H := rfl
theorem awpC_label (l : Nat) : awpC P T n (.label l) Q e H = Q .normal e H := rfl
theorem awpC_ret : awpC P T n .ret Q e H = Q .ret e H := rfl
end
end
end Go.Ab
