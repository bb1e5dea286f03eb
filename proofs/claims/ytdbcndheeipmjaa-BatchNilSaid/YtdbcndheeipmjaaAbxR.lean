/- The abstract layer, part R: drawn regions once more: what hangs on variables alone may also be taken ahead of stores; where two may be next, both are walked. -/
import Derived.Test.YtdbcndheeipmjaaAbxQ
set_option linter.unusedVariables false
set_option linter.unusedSimpArgs false
namespace Go.Ab
/-- An order: 'st': a steady operation (b: of variables alone) is next; 'alt': each of these may be next. -/
inductive Plan where
  | done | st (i : Nat) (b : Bool) (r : Plan) | alt (i : Nat) (p q : Plan) | nil
  | grp (k : Nat) (p : Plan)
inductive XP where
  | done | st (b : Bool) (o : ROp) (r : XP) | alt (o : ROp) (p q : XP) | nil
def Plan.heads : Plan → List Nat
  | .alt i _ q => i :: q.heads
  | _ => []
def Plan.size : Plan → Nat
  | .st _ _ r => r.size + 1
  | .alt _ p _ => p.size + 1
  | .grp _ p => p.size + 1
  | _ => 0
def freeA (ops : Array Oper) (listed : Array Bool) (i : Nat) : Bool :=
  match ops[i]? with
  | none => false
  | some oi => (List.range ops.size).all fun j => j == i || listed.getD j true || match ops[j]? with
      | some oj => oj.after.any (fun e => Region.binds .any e && e.on == i) || oi.apart ops oj
      | none => true
def Plan.ok (ops : Array Oper) : Bool → Nat → Plan → Array Bool → Bool
  | false, 0, .done, listed => (Region.ready .any ops listed).isEmpty
  | false, k + 1, .st i b r, listed => (match ops[i]? with | some o => kindSteady o.op | none => false) && ((Region.ready .any ops listed).contains i && ((if b then freeA ops listed i else freeX ops listed i) && Plan.ok ops false k r (listed.setIfInBounds i true)))
  | false, k + 1, .alt i p q, listed => Region.ready .any ops listed == i :: q.heads && ((ops[i]?).isSome && (Plan.ok ops false k p (listed.setIfInBounds i true) && Plan.ok ops true (k + 1) q listed))
  | true, k + 1, .alt i p q, listed => (ops[i]?).isSome && (Plan.ok ops false k p (listed.setIfInBounds i true) && Plan.ok ops true (k + 1) q listed)
  | true, _, .nil, _ => true
  | false, k, .grp _ p, listed => Plan.ok ops false k p listed
  | _, _, _, _ => false
def toXP (ops : Array Oper) : Plan → XP
  | .done => .done
  | .nil => .nil
  | .grp _ p => toXP ops p
  | .st i b r => match ops[i]? with | some o => .st b (resolve1 ops o) (toXP ops r) | none => .nil
  | .alt i p q => match ops[i]? with | some o => .alt (resolve1 ops o) (toXP ops p) (toXP ops q) | none => .nil
/-! ### The same, quick to reckon -/
def readyOf (all : List Bool) (o : Oper) : Bool := o.after.toList.all fun e => !Region.binds .any e || all.getD e.on false
def readyF (all : List Bool) : List Oper → List Bool → Nat → List Nat
  | o :: r, b :: bs, i => match !b && readyOf all o with
    | true => i :: readyF all r bs (i + 1)
    | false => readyF all r bs (i + 1)
  | _, _, _ => []
def freeF (ops : Array Oper) (b : Bool) (i : Nat) (oi : Oper) : List Oper → List Bool → Nat → Bool
  | oj :: r, c :: cs, j => (c || (Nat.beq j i || (oj.after.toList.any (fun e => Region.binds .any e && Nat.beq e.on i) || (oi.apart ops oj && (b || headOk oj.op))))) && freeF ops b i oi r cs (j + 1)
  | [], _, _ => true
  | _ :: _, [], _ => false
def setK : List Bool → Nat → (List Bool → Bool) → Bool
  | [], _, k => k []
  | _ :: r, 0, k => k (true :: r)
  | b :: r, i + 1, k => setK r i fun r => k (b :: r)
theorem setK_eq : ∀ (l : List Bool) (i : Nat) (k : List Bool → Bool), setK l i k = k (l.set i true)
  | [], _, k => rfl
  | _ :: r, 0, k => rfl
  | b :: r, i + 1, k => by simp only [setK, setK_eq r i, List.set_cons_succ]
def natsEq : List Nat → List Nat → Bool
  | [], [] => true
  | a :: r, b :: s => Nat.beq a b && natsEq r s
  | _, _ => false
theorem natsEq_eq : ∀ {a b : List Nat}, natsEq a b = true → a = b
  | [], [], _ => rfl
  | [], _ :: _, h => by cases h
  | _ :: _, [], h => by cases h
  | a :: r, b :: s, h => by
    simp only [natsEq, Bool.and_eq_true] at h
    rw [Nat.eq_of_beq_eq_true h.1, natsEq_eq h.2]
def Plan.okF (ops : Array Oper) : Bool → Nat → Plan → List Bool → Bool
  | false, 0, .done, l => natsEq (readyF l ops.toList l 0) []
  | false, k + 1, .st i b r, l => match ops.toList[i]?, l[i]? with
    | some o, some false => kindSteady o.op && (readyOf l o && (freeF ops b i o ops.toList l 0 && setK l i fun l => Plan.okF ops false k r l))
    | _, _ => false
  | false, k + 1, .alt i p q, l => natsEq (readyF l ops.toList l 0) (i :: q.heads) && ((ops.toList[i]?).isSome && (setK l i (fun l => Plan.okF ops false k p l) && Plan.okF ops true (k + 1) q l))
  | true, k + 1, .alt i p q, l => (ops.toList[i]?).isSome && (setK l i (fun l => Plan.okF ops false k p l) && Plan.okF ops true (k + 1) q l)
  | true, _, .nil, _ => true
  | _, _, _, _ => false
theorem readyOf_eq (l : List Bool) (o : Oper) : readyOf l o = o.after.all fun e => !Region.binds .any e || (⟨l⟩ : Array Bool).getD e.on false := by
  unfold readyOf
  rw [← Array.all_toList]
  congr 1; funext e
  simp [Array.getD_eq_getD_getElem?, List.getD_eq_getElem?_getD]
theorem readyF_eq (all : List Bool) : ∀ (os : List Oper) (bs : List Bool) (i : Nat), os.length = bs.length →
    readyF all os bs i = (List.range' i os.length).filter fun j => !(bs.getD (j - i) true) && ((os[j - i]?).map (readyOf all)).getD false
  | [], bs, i, h => by cases bs <;> simp [readyF]
  | o :: r, [], i, h => by simp at h
  | o :: r, b :: bs, i, h => by
    have ih := readyF_eq all r bs (i + 1) (by simpa using h)
    simp only [readyF, List.length_cons, List.range'_succ, List.filter_cons, Nat.sub_self, List.getElem?_cons_zero, Option.map_some, Option.getD_some]
    have hrest : (List.range' (i + 1) r.length).filter (fun j => !((b :: bs).getD (j - i) true) && (((o :: r)[j - i]?).map (readyOf all)).getD false) =
        (List.range' (i + 1) r.length).filter fun j => !(bs.getD (j - (i + 1)) true) && ((r[j - (i + 1)]?).map (readyOf all)).getD false := by
      apply List.filter_congr
      intro j hj
      have hji : i + 1 ≤ j := (List.mem_range'_1.1 hj).1
      rw [show j - i = (j - (i + 1)) + 1 by omega]
      simp
    rw [hrest, ← ih]
    have h0 : (b :: bs).getD 0 true = b := rfl
    rw [h0]
    cases !b && readyOf all o <;> simp
theorem ready_readyF (ops : Array Oper) (l : List Bool) (hl : l.length = ops.size) : Region.ready .any ops ⟨l⟩ = readyF l ops.toList l 0 := by
  rw [readyF_eq l ops.toList l 0 (by simpa using hl.symm)]
  unfold Region.ready
  rw [List.range_eq_range', show ops.toList.length = ops.size by simp]
  apply List.filter_congr
  intro j hj
  have hop : (fun (x : Oper) => x.after.all fun e => !Region.binds .any e || (⟨l⟩ : Array Bool).getD e.on false) = readyOf l := by
    funext o; exact (readyOf_eq l o).symm
  simp only [Nat.sub_zero, Array.getElem?_toList, hop]
  congr 2
  simp [Array.getD_eq_getD_getElem?, List.getD_eq_getElem?_getD]
theorem freeF_spec {ops : Array Oper} {b : Bool} {i : Nat} {oi : Oper} : ∀ {os : List Oper} {cs : List Bool} {j0 : Nat}, freeF ops b i oi os cs j0 = true → ∀ d oj, os[d]? = some oj → ∃ c, cs[d]? = some c ∧
    (c = true ∨ j0 + d = i ∨ (∃ e ∈ oj.after, Region.binds .any e = true ∧ e.on = i) ∨ (oi.apart ops oj = true ∧ (b = true ∨ headOk oj.op = true)))
  | [], cs, j0, h, d, oj, hd => by simp at hd
  | o :: r, [], j0, h, d, oj, hd => by cases h
  | o :: r, c :: cs, j0, h, 0, oj, hd => by
    simp only [List.getElem?_cons_zero, Option.some.injEq] at hd; subst hd
    simp only [freeF, Bool.and_eq_true, Bool.or_eq_true] at h
    refine ⟨c, rfl, ?_⟩
    rcases h.1 with h | h | h | h
    · exact .inl h
    · exact .inr (.inl (by have := Nat.eq_of_beq_eq_true h; omega))
    · obtain ⟨e, he, hb⟩ := List.any_eq_true.1 h
      simp only [Bool.and_eq_true] at hb
      exact .inr (.inr (.inl ⟨e, by simpa using he, hb.1, Nat.eq_of_beq_eq_true hb.2⟩))
    · exact .inr (.inr (.inr h))
  | o :: r, c :: cs, j0, h, d + 1, oj, hd => by
    simp only [freeF, Bool.and_eq_true] at h
    obtain ⟨c', h1, h2⟩ := freeF_spec h.2 d oj (by simpa using hd)
    refine ⟨c', by simpa using h1, ?_⟩
    rcases h2 with h2 | h2 | h2 | h2
    · exact .inl h2
    · exact .inr (.inl (by omega))
    · exact .inr (.inr (.inl h2))
    · exact .inr (.inr (.inr h2))
theorem okF_ok {ops : Array Oper} : ∀ (p : Plan) (m : Bool) (k : Nat) (l : List Bool), l.length = ops.size → Plan.okF ops m k p l = true → Plan.ok ops m k p ⟨l⟩ = true := by
  intro p
  induction p with
  | done =>
    intro m k l hl h
    cases m <;> cases k <;> simp only [Plan.okF, Bool.false_eq_true] at h
    simp only [Plan.ok, ready_readyF ops l hl, natsEq_eq h]; rfl
  | nil => intro m k l hl h; cases m <;> cases k <;> simp only [Plan.okF, Bool.false_eq_true] at h <;> rfl
  | grp j p ih => intro m k l hl h; cases m <;> cases k <;> simp only [Plan.okF, Bool.false_eq_true] at h
  | st i b r ih =>
    intro m k l hl h
    cases m <;> cases k <;> simp only [Plan.okF, Bool.false_eq_true] at h
    rename_i k
    split at h
    · rename_i o ho hli
      rw [Array.getElem?_toList] at ho
      simp only [Bool.and_eq_true, setK_eq] at h
      obtain ⟨h1, h2, h3, h4⟩ := h
      have hset : (⟨l.set i true⟩ : Array Bool) = (⟨l⟩ : Array Bool).setIfInBounds i true := by simp
      have hrec := ih false k (l.set i true) (by simpa using hl) h4
      rw [hset] at hrec
      have hready : (Region.ready .any ops ⟨l⟩).contains i = true := by
        rw [List.contains_iff_mem, mem_ready]
        refine ⟨by simp [Array.getD_eq_getD_getElem?, hli], o, ho, ?_⟩
        rw [readyOf_eq] at h2
        intro e he hb
        have := Array.all_eq_true'.1 h2 e he
        simpa [hb] using this
      simp only [Plan.ok, ho, h1, hready, hrec, Bool.true_and, Bool.and_true]
      have spec := freeF_spec h3
      cases b with
      | true =>
        simp only [if_true, freeA, ho, List.all_eq_true, List.mem_range]
        intro j hj
        obtain ⟨c, hc, hcc⟩ := spec j ops[j] (by simp [hj])
        rcases hcc with rfl | hcc | ⟨e, he, hb, hon⟩ | hcc
        · simp [Array.getD_eq_getD_getElem?, hc]
        · have : j = i := by omega
          simp [this]
        · have : (ops[j]).after.any (fun e => Region.binds .any e && e.on == i) = true := Array.any_eq_true'.2 ⟨e, he, by simp [hb, hon]⟩
          simp [hj, this]
        · simp [hj, hcc.1]
      | false =>
        simp only [Bool.false_eq_true, if_false, freeX, ho, List.all_eq_true, List.mem_range]
        intro j hj
        obtain ⟨c, hc, hcc⟩ := spec j ops[j] (by simp [hj])
        rcases hcc with rfl | hcc | ⟨e, he, hb, hon⟩ | hcc
        · simp [Array.getD_eq_getD_getElem?, hc]
        · have : j = i := by omega
          simp [this]
        · have : (ops[j]).after.any (fun e => Region.binds .any e && e.on == i) = true := Array.any_eq_true'.2 ⟨e, he, by simp [hb, hon]⟩
          simp [hj, this]
        · simp [hj, hcc.1, hcc.2.resolve_left (by simp)]
    · cases h
  | alt i p q ihp ihq =>
    intro m k l hl h
    have hset : (⟨l.set i true⟩ : Array Bool) = (⟨l⟩ : Array Bool).setIfInBounds i true := by simp
    cases m <;> cases k <;> simp only [Plan.okF, Bool.false_eq_true] at h
    · rename_i k
      simp only [Bool.and_eq_true, setK_eq, Array.getElem?_toList] at h
      obtain ⟨h1, h2, h3, h4⟩ := h
      have hrec := ihp false k (l.set i true) (by simpa using hl) h3
      rw [hset] at hrec
      simp only [Plan.ok, ready_readyF ops l hl, natsEq_eq h1, h2, hrec, ihq true (k + 1) l hl h4]
      simp
    · rename_i k
      simp only [Bool.and_eq_true, setK_eq, Array.getElem?_toList] at h
      obtain ⟨h2, h3, h4⟩ := h
      have hrec := ihp false k (l.set i true) (by simpa using hl) h3
      rw [hset] at hrec
      simp only [Plan.ok, h2, hrec, ihq true (k + 1) l hl h4]
      simp
/-- A list of so many 'false's, made at once. -/
def falses : Nat → List Bool
  | 0 => []
  | n + 1 => false :: falses n
theorem falses_length : ∀ n, (falses n).length = n
  | 0 => rfl
  | n + 1 => by simp [falses, falses_length n]
theorem falses_eq : ∀ n, falses n = List.replicate n false
  | 0 => rfl
  | n + 1 => by simp [falses, falses_eq n, List.replicate_succ]
def Plan.okAll (ops : Array Oper) (p : Plan) : Bool := Plan.okF ops false ops.toList.length p (falses ops.toList.length)
theorem okAll_ok {ops : Array Oper} {p : Plan} (h : Plan.okAll ops p = true) : Plan.ok ops false ops.size p (Array.replicate ops.size false) = true := by
  have := okF_ok p false ops.toList.length (falses ops.toList.length) (by simp [falses_length]) h
  rw [falses_eq] at this
  simpa using this
def slice0 (T : TT) (t : TypeId) (x : Option AV) (lo hi mx : Option (Option AV)) : Option AV :=
  match x, lo, hi, mx with
  | some (.sl a len (some c)), some l, some h, some m => aslice T ⟨0, .lf⟩ t (.sl a len (some c)) l h m
  | some .nsl, some l, some h, some m => aslice T ⟨0, .lf⟩ t .nsl l h m
  | some (.ptr a), some l, some h, some m => aslice T ⟨0, .lf⟩ t (.ptr a) l h m
  | _, _, _, _ => none
/-- A value that hangs on variables alone. -/
def steady0 (T : TT) (o : ROp) (e : Env) : Option AV :=
  match rwanted o.g e with
  | none => none
  | some false => some (.tup [])
  | some true => match aPure T e o.op with
    | some v => some v
    | none => match o.op with
      | .slice t x lo hi mx => slice0 T t (evO e x) (evOO e lo) (evOO e hi) (evOO e mx)
      | _ => none
/-- In this state the operation leaves v in its temporary, whatever memory holds. -/
def Steady0 (T : TT) (ops : Array Oper) (o : Oper) (v : AV) (e : Env) : Prop :=
  (awanted ops o e = some true ∧ ∀ H', aopR T e H' o.op = .val v H') ∨ (awanted ops o e = some false ∧ v = .tup [])
theorem steady0_sound {T : TT} {ops : Array Oper} {o : Oper} {e : Env} {v : AV} (h : steady0 T (resolve1 ops o) e = some v) : Steady0 T ops o v e := by
  unfold steady0 at h
  rw [rwanted_eq] at h
  split at h
  · cases h
  · rename_i h1
    injection h with h; subst h
    exact .inr ⟨h1, rfl⟩
  · rename_i h1
    refine .inl ⟨h1, fun H' => ?_⟩
    have hop : (resolve1 ops o).op = o.op := rfl
    rw [hop] at h
    unfold aopR
    split at h
    · rename_i h2
      injection h with h; subst h
      simp only [h2]
    · rename_i h2
      simp only [h2]
      cases ho : o.op <;> rw [ho] at h <;> first | (cases h; done) | skip
      rename_i t x lo hi mx
      simp only [slice0] at h
      simp only [aMem]
      split at h
      · rename_i a len c l hh m e1 e2 e3 e4
        simp only [e1, e2, e3, e4]
        have : aslice T H' t (.sl a len (some c)) l hh m = aslice T ⟨0, .lf⟩ t (.sl a len (some c)) l hh m := aslice_congr (fun _ _ _ hh => by cases hh)
        simp only [this, h]
      · rename_i l hh m e1 e2 e3 e4
        simp only [e1, e2, e3, e4]
        have : aslice T H' t .nsl l hh m = aslice T ⟨0, .lf⟩ t .nsl l hh m := aslice_congr (fun _ _ _ hh => by cases hh)
        simp only [this, h]
      · rename_i a l hh m e1 e2 e3 e4
        simp only [e1, e2, e3, e4]
        have : aslice T H' t (.ptr a) l hh m = aslice T ⟨0, .lf⟩ t (.ptr a) l hh m := aslice_congr (fun _ _ _ hh => by cases hh)
        simp only [this, h]
      · cases h
section
variable {P : Program} {T : TT} {n : Nat} {L : Nat → Prop} {ops : Array Oper} {Q : Env → AHeap → Prop}
theorem Steady0.step {o : Oper} {v : AV} {e e' : Env} {dst : Option Tmp} {u : AV} (h : Steady0 T ops o v e) (hd : ∀ d, dst = some d → d ∉ o.looksAt ops) (he : eput n e dst u = some e') :
    Steady0 T ops o v e' := by
  cases dst with
  | none =>
    simp only [eput, Option.some.injEq] at he; subst he; exact h
  | some d =>
    simp only [eput] at he
    split at he
    · injection he with he; subst he
      have hd' := hd d rfl
      refine h.imp (fun ⟨h1, h2⟩ => ⟨by rw [awanted_ne hd']; exact h1, fun H2 => ?_⟩) (fun ⟨h1, h2⟩ => ⟨by rw [awanted_ne hd']; exact h1, h2⟩)
      rw [aopR_ne (operands_ne hd')]
      exact h2 H2
    · cases he
/-- A steady operation of variables alone may be taken first. -/
theorem awpAnyX_first0 {i : Nat} {oi : Oper} {v : AV} (hi : ops[i]? = some oi) : ∀ (fuel : Nat) (listed : Array Bool) (e e1 : Env) (H : AHeap),
    (∀ j oj, ops[j]? = some oj → j ≠ i → listed.getD j true = false → (∀ ed ∈ oj.after, Region.binds .any ed = true → ed.on ≠ i) → oi.apart ops oj = true) →
    i ∈ Region.ready .any ops listed → Steady0 T ops oi v e → eput n e oi.dst v = some e1 →
    awpAnyX P T n L ops Q fuel (listed.setIfInBounds i true) e1 H → awpAnyX P T n L ops Q (fuel + 1) listed e H := by
  have now : ∀ (K : Env → AHeap → Prop) (e e1 : Env) (H : AHeap), Steady0 T ops oi v e → eput n e oi.dst v = some e1 → K e1 H → awpOpX P T n L ops oi K e H := by
    intro K e e1 H hs he hk
    unfold awpOpX
    rcases hs with ⟨h1, h2⟩ | ⟨h1, rfl⟩
    · simp only [h1, h2 H, he]; exact ⟨fun _ => .refl _, hk⟩
    · simp only [h1, he]; exact hk
  intro fuel
  induction fuel with
  | zero =>
    intro listed e e1 H hfree hr hs he hk
    refine ⟨fun h0 => by (rw [h0] at hr; cases hr), fun j hj => ?_⟩
    by_cases hji : j = i
    · subst hji; exact ⟨oi, hi, now _ _ _ _ hs he hk⟩
    · have := ready_mono hj hji
      rw [hk.1] at this; cases this
  | succ fuel ih =>
    intro listed e e1 H hfree hr hs he hk
    refine ⟨fun h0 => by (rw [h0] at hr; cases hr), fun j hj => ?_⟩
    by_cases hji : j = i
    · subst hji; exact ⟨oi, hi, now _ _ _ _ hs he hk⟩
    · obtain ⟨oj, hoj, h1⟩ := hk.2 j (ready_mono hj hji)
      refine ⟨oj, hoj, ?_⟩
      obtain ⟨hjun, oj', hoj', hall⟩ := mem_ready.1 hj
      rw [hoj] at hoj'; injection hoj' with hoj'; subst hoj'
      have hnot : ∀ ed ∈ oj.after, Region.binds .any ed = true → ed.on ≠ i := fun ed hed hb heq => by
        have h1 := hall ed hed hb
        have h0 := (mem_ready.1 hr).1
        rw [heq] at h1
        rcases Nat.lt_or_ge i listed.size with h' | h'
        · simp [h'] at h0 h1; rw [h0] at h1; cases h1
        · simp [Array.getElem?_eq_none h'] at h1
      have hap := hfree j oj hoj hji hjun hnot
      obtain ⟨ha1, ha2, ha3⟩ := Oper.apart_spec hap
      have hfree' : ∀ k ok, ops[k]? = some ok → k ≠ i → (listed.setIfInBounds j true).getD k true = false →
          (∀ ed ∈ ok.after, Region.binds .any ed = true → ed.on ≠ i) → oi.apart ops ok = true := fun k ok hk hki hun hno => by
        refine hfree k ok hk hki ?_ hno
        by_cases hjk : j = k
        · subst hjk; exact hjun
        · rw [getD_set_ne true hjk] at hun; exact hun
      have cong1 : awanted ops oj e1 = awanted ops oj e := by
        cases hd : oi.dst with
        | none => rw [hd] at he; simp only [eput, Option.some.injEq] at he; rw [he]
        | some d =>
          rw [hd] at he; simp only [eput] at he
          split at he
          · injection he with he; subst he; exact awanted_ne (ha1 d hd)
          · cases he
      have cong2 : aopR T e1 H oj.op = aopR T e H oj.op := by
        cases hd : oi.dst with
        | none => rw [hd] at he; simp only [eput, Option.some.injEq] at he; rw [he]
        | some d =>
          rw [hd] at he; simp only [eput] at he
          split at he
          · injection he with he; subst he; exact aopR_ne (operands_ne (ha1 d hd))
          · cases he
      have fin : ∀ (u : AV) (e12 : Env) (H' : AHeap), eput n e1 oj.dst u = some e12 → awpAnyX P T n L ops Q fuel ((listed.setIfInBounds i true).setIfInBounds j true) e12 H' →
          ∃ e2, eput n e oj.dst u = some e2 ∧ awpAnyX P T n L ops Q (fuel + 1) (listed.setIfInBounds j true) e2 H' := by
        intro u e12 H' he12 hk'
        obtain ⟨e2, h2, h21⟩ := eput_comm ha2 he he12
        refine ⟨e2, h2, ih _ _ _ _ hfree' (ready_mono hr (Ne.symm hji)) (hs.step ha3 h2) h21 ?_⟩
        rw [Array.setIfInBounds_comm _ _ hji]; exact hk'
      unfold awpOpX at h1 ⊢
      rw [cong1, cong2] at h1
      split at h1
      · exact h1.elim
      · rename_i hw
        split at h1
        · rename_i e12 he12
          obtain ⟨e2, h2, h3⟩ := fin _ e12 H he12 h1
          (try simp only [hw, h2]); exact h3
        · exact h1.elim
      · rename_i hw
        (try simp only [hw])
        split at h1
        · rename_i u H' hu
          obtain ⟨hx, h1⟩ := h1
          split at h1
          · rename_i e12 he12
            obtain ⟨e2, h2, h3⟩ := fin _ e12 H' he12 h1
            (try simp only [hu, h2]); exact ⟨hx, h3⟩
          · exact h1.elim
        · rename_i f args hc
          (try simp only [hc])
          refine h1.mono fun r H' ⟨hx, hr'⟩ => ⟨hx, ?_⟩
          split at hr'
          · rename_i e12 he12
            obtain ⟨e2, h2, h3⟩ := fin _ e12 H' he12 hr'
            (try simp only [h2]); exact h3
          · exact hr'.elim
        · exact h1.elim
theorem freeA_spec {i : Nat} {oi : Oper} {listed : Array Bool} (hi : ops[i]? = some oi) (h : freeA ops listed i = true) (j : Nat) (oj : Oper)
    (hj : ops[j]? = some oj) (hne : j ≠ i) (hun : listed.getD j true = false) (hno : ∀ e ∈ oj.after, Region.binds .any e = true → e.on ≠ i) :
    oi.apart ops oj = true := by
  simp only [freeA, hi, List.all_eq_true, List.mem_range] at h
  have h1 := h j (Array.getElem?_eq_some_iff.1 hj).1
  simp only [hj, Bool.or_eq_true, beq_iff_eq, hne, false_or, hun, Bool.false_eq_true] at h1
  rcases h1 with h1 | h1
  · obtain ⟨e, he, hb⟩ := Array.any_eq_true'.1 h1
    simp only [Bool.and_eq_true, beq_iff_eq] at hb
    exact absurd hb.2 (hno e he hb.1)
  · simpa using h1
end
section
variable (P : Program) (T : TT) (n : Nat) (ls : List Nat)
/-- The operation, then K: what is read (ls) is left as it is, but by a store. -/
def awpRX (o : ROp) (K : Env → AHeap → Prop) (e : Env) (H : AHeap) : Prop :=
  match rwanted o.g e with
  | none => False
  | some false => match eput n e o.dst (.tup []) with
    | some e' => K e' H
    | none => False
  | some true => match aopR T e H o.op with
    | .val v H' => (headOk o.op = true → H.Ext (· ∈ ls) H') ∧ match eput n e o.dst v with
      | some e' => K e' H'
      | none => False
    | .call f args => ASpec P T f args H fun r H' => H.Ext (· ∈ ls) H' ∧ match eput n e o.dst r with
      | some e' => K e' H'
      | none => False
    | .bad => False
def awpXP (Q : Env → AHeap → Prop) : XP → Env → AHeap → Prop
  | .done, e, H => Q e H
  | .nil, _, _ => True
  | .st b o r, e, H => match (if b = true then steady0 T o e else steadyR T ls o e H) with
    | some v => match eput n e o.dst v with
      | some e' => awpXP Q r e' H
      | none => False
    | none => False
  | .alt o p q, e, H => awpRX P T n ls o (awpXP Q p) e H ∧ awpXP Q q e H
end
section
variable {P : Program} {T : TT} {n : Nat} {ls : List Nat} {ops : Array Oper} {Q : Env → AHeap → Prop}
theorem awpRX_eq (o : Oper) (K : Env → AHeap → Prop) (e : Env) (H : AHeap) : awpRX P T n ls (resolve1 ops o) K e H = awpOpX P T n (· ∈ ls) ops o K e H := by
  unfold awpRX awpOpX
  rw [rwanted_eq]
  rfl
theorem awpXP_sound : ∀ (p : Plan) (m : Bool) (k : Nat) (listed : Array Bool) {e : Env} {H : AHeap}, Plan.ok ops m k p listed = true → awpXP P T n ls Q (toXP ops p) e H →
    (m = false → awpAnyX P T n (· ∈ ls) ops Q k listed e H) ∧ (m = true → ∀ i ∈ p.heads, ∃ o, ops[i]? = some o ∧ ∃ k', k = k' + 1 ∧ awpOpX P T n (· ∈ ls) ops o (awpAnyX P T n (· ∈ ls) ops Q k' (listed.setIfInBounds i true)) e H) := by
  intro p
  induction p with
  | done =>
    intro m k listed e H hp h
    cases m <;> cases k <;> simp only [Plan.ok, Bool.false_eq_true, reduceCtorEq] at hp
    refine ⟨fun _ => ⟨by simpa using hp, h⟩, fun hh => by cases hh⟩
  | nil =>
    intro m k listed e H hp h
    cases m
    · cases k <;> simp [Plan.ok] at hp
    · exact ⟨fun hh => (by cases hh), fun _ i hi => by simp [Plan.heads] at hi⟩
  | grp j p ih =>
    intro m k listed e H hp h
    cases m
    · have hp' : Plan.ok ops false k p listed = true := by cases k <;> simpa only [Plan.ok] using hp
      exact ⟨fun _ => (ih false k listed hp' h).1 rfl, fun hh => (by cases hh)⟩
    · cases k <;> simp [Plan.ok] at hp
  | st i b r ih =>
    intro m k listed e H hp h
    cases m <;> cases k <;> simp only [Plan.ok, Bool.false_eq_true, reduceCtorEq] at hp
    rename_i k
    refine ⟨fun _ => ?_, fun hh => by cases hh⟩
    cases hi : ops[i]? with
    | none => rw [hi] at hp; simp at hp
    | some o =>
      rw [hi] at hp
      simp only [Bool.and_eq_true, List.contains_iff_mem] at hp
      obtain ⟨hks, hr, hf, hp⟩ := hp
      simp only [toXP, hi, awpXP] at h
      split at h
      · rename_i v hv
        split at h
        · rename_i e1 he1
          have hrest := (ih false k _ hp h).1 rfl
          cases b with
          | true =>
            simp only [if_true] at hv hf
            exact awpAnyX_first0 hi _ _ _ _ _ (freeA_spec hi hf) hr (steady0_sound hv) he1 hrest
          | false =>
            simp only [Bool.false_eq_true, if_false] at hv hf
            rw [steadyR_eq] at hv
            exact awpAnyX_first hi _ _ _ _ _ (freeX_spec hi hf) hr (steadyB_sound hv) he1 hrest
        · exact h.elim
      · exact h.elim
  | alt i p q ihp ihq =>
    intro m k listed e H hp h
    have both : (ops[i]?).isSome = true → ∀ k', k = k' + 1 → Plan.ok ops false k' p (listed.setIfInBounds i true) = true → Plan.ok ops true (k' + 1) q listed = true →
        ∀ j ∈ (Plan.alt i p q).heads, ∃ o, ops[j]? = some o ∧ ∃ k', k = k' + 1 ∧ awpOpX P T n (· ∈ ls) ops o (awpAnyX P T n (· ∈ ls) ops Q k' (listed.setIfInBounds j true)) e H := by
      intro hs k' hk h1 h2 j hj
      obtain ⟨o, ho⟩ := Option.isSome_iff_exists.1 hs
      simp only [toXP, ho, awpXP, awpRX_eq] at h
      simp only [Plan.heads, List.mem_cons] at hj
      rcases hj with rfl | hj
      · exact ⟨o, ho, k', hk, awpOpX_mono (fun e H hh => (ihp false k' _ h1 hh).1 rfl) h.1⟩
      · subst hk; exact (ihq true _ _ h2 h.2).2 rfl j hj
    cases m <;> cases k <;> simp only [Plan.ok, Bool.false_eq_true, reduceCtorEq] at hp
    · rename_i k
      simp only [Bool.and_eq_true, beq_iff_eq] at hp
      obtain ⟨hh, hs, h1, h2⟩ := hp
      refine ⟨fun _ => ⟨fun h0 => by (rw [hh] at h0; cases h0), fun j hj => ?_⟩, fun hh => by cases hh⟩
      rw [hh] at hj
      obtain ⟨o, ho, k', hk, hw⟩ := both hs k rfl h1 h2 j hj
      cases hk
      exact ⟨o, ho, hw⟩
    · rename_i k
      simp only [Bool.and_eq_true] at hp
      obtain ⟨hs, h1, h2⟩ := hp
      exact ⟨fun hh => (by cases hh), fun _ => both hs k rfl h1 h2⟩
theorem awpC_plan {id : Nat} {Q : AQ} {e : Env} {H : AHeap} (ls : List Nat) (pl : Plan) (hp : Plan.ok ops false ops.size pl (Array.replicate ops.size false) = true)
    (h : awpXP P T n ls (Q .normal) (toXP ops pl) e H) : awpC P T n (.drawn id ops) Q e H :=
  awpAny_of_X _ ((awpXP_sound pl false _ _ hp h).1 rfl)
end
end Go.Ab
