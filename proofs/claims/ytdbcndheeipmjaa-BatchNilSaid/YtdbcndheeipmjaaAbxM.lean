/- The abstract layer, part M: an evaluator. -/
import Derived.Test.YtdbcndheeipmjaaAbxL
set_option linter.unusedVariables false
set_option linter.unusedSimpArgs false
namespace Go.Ab

mutual
def AV.beq : AV → AV → Bool
  | .bool a, .bool b => a == b
  | .int k a, .int k' b => decide (k = k') && decide (a = b)
  | .str a, .str b => a.data.toList == b.data.toList
  | .ptr a, .ptr b => decide (a = b)
  | .nsl, .nsl => true
  | .sl a n c, .sl a' n' c' => decide (a = a') && decide (n = n') && decide (c = c')
  | .map a, .map b => decide (a = b)
  | .fn f u v, .fn f' u' v' => decide (f = f') && (AV.beqs u u' && AV.beqs v v')
  | .nilFn, .nilFn => true
  | .agg a, .agg b => AV.beqs a b
  | .tup a, .tup b => AV.beqs a b
  | _, _ => false
def AV.beqs : List AV → List AV → Bool
  | [], [] => true
  | a :: l, b :: r => AV.beq a b && AV.beqs l r
  | _, _ => false
end
mutual
theorem AV.beq_eq : ∀ {a b : AV}, AV.beq a b = true → a = b
  | .bool a, b, h => by cases b <;> simp [AV.beq] at h ⊢ <;> exact h
  | .int k a, b, h => by cases b <;> simp [AV.beq] at h ⊢ <;> exact h
  | .str a, b, h => by
    cases b <;> simp [AV.beq] at h ⊢
    obtain ⟨a⟩ := a
    rename_i b; obtain ⟨b⟩ := b
    simp at h; rw [h]
  | .ptr a, b, h => by cases b <;> simp [AV.beq] at h ⊢ <;> exact h
  | .nsl, b, h => by cases b <;> simp [AV.beq] at h ⊢
  | .sl a n c, b, h => by
    cases b <;> simp [AV.beq] at h ⊢
    exact ⟨h.1.1, h.1.2, h.2⟩
  | .map a, b, h => by cases b <;> simp [AV.beq] at h ⊢ <;> exact h
  | .fn f u v, b, h => by
    cases b <;> simp [AV.beq] at h ⊢
    exact ⟨h.1, AV.beqs_eq h.2.1, AV.beqs_eq h.2.2⟩
  | .nilFn, b, h => by cases b <;> simp [AV.beq] at h ⊢
  | .agg a, b, h => by cases b <;> simp [AV.beq] at h ⊢ <;> exact AV.beqs_eq h
  | .tup a, b, h => by cases b <;> simp [AV.beq] at h ⊢ <;> exact AV.beqs_eq h
theorem AV.beqs_eq : ∀ {a b : List AV}, AV.beqs a b = true → a = b
  | [], [], _ => rfl
  | [], _ :: _, h => by simp [AV.beqs] at h
  | _ :: _, [], h => by simp [AV.beqs] at h
  | a :: l, b :: r, h => by
    simp only [AV.beqs, Bool.and_eq_true] at h
    rw [AV.beq_eq h.1, AV.beqs_eq h.2]
end
def ABlk.beq : ABlk → ABlk → Bool
  | .cells a el k, .cells b el' k' => AV.beqs a b && (decide (el = el') && decide (k = k'))
  | _, _ => false
theorem ABlk.beq_eq {a b : ABlk} (h : ABlk.beq a b = true) : a = b := by
  cases a <;> cases b <;> simp [ABlk.beq] at h ⊢
  exact ⟨AV.beqs_eq h.1, h.2⟩
/-- The blocks in the list are as they were. -/
def extB (ls : List Nat) (H H' : AHeap) : Bool := ls.all fun a => match H.get a with
  | none => true
  | some b => match H'.get a with
    | some b' => ABlk.beq b b'
    | none => false
theorem extB_ext {ls : List Nat} {H H' : AHeap} (h : extB ls H H' = true) : H.Ext (· ∈ ls) H' := by
  intro a b ha hb
  have := List.all_eq_true.1 h a ha
  rw [hb] at this
  simp only [] at this
  split at this
  · rename_i b' hb'; rw [hb', ABlk.beq_eq this]
  · cases this

/-! ### To reckon at once (the kernel reckons late) -/
section
variable {α : Type}
def forceNat : Nat → (Nat → α) → α
  | 0, k => k 0
  | n + 1, k => k (Nat.succ n)
theorem forceNat_eq (n : Nat) (k : Nat → α) : forceNat n k = k n := by cases n <;> rfl
def forceInt : Int → (Int → α) → α
  | .ofNat n, k => forceNat n fun n => k (.ofNat n)
  | .negSucc n, k => forceNat n fun n => k (.negSucc n)
theorem forceInt_eq (n : Int) (k : Int → α) : forceInt n k = k n := by cases n <;> simp only [forceInt, forceNat_eq]
def forceAA : AA → (AA → α) → α
  | ⟨b, o⟩, k => forceNat b fun b => forceNat o fun o => k ⟨b, o⟩
theorem forceAA_eq (n : AA) (k : AA → α) : forceAA n k = k n := by cases n; simp only [forceAA, forceNat_eq]
mutual
def AV.force : AV → (AV → α) → α
  | .bool true, k => k (.bool true)
  | .bool false, k => k (.bool false)
  | .int kd n, k => forceInt n fun n => k (.int kd n)
  | .ptr (some a), k => forceAA a fun a => k (.ptr (some a))
  | .sl a n none, k => forceAA a fun a => forceNat n fun n => k (.sl a n none)
  | .sl a n (some c), k => forceAA a fun a => forceNat n fun n => forceNat c fun c => k (.sl a n (some c))
  | .agg l, k => AV.forces l fun l => k (.agg l)
  | .tup l, k => AV.forces l fun l => k (.tup l)
  | x, k => k x
def AV.forces : List AV → (List AV → α) → α
  | [], k => k []
  | x :: l, k => AV.force x fun x => AV.forces l fun l => k (x :: l)
end
mutual
theorem AV.force_eq : ∀ (x : AV) (k : AV → α), AV.force x k = k x
  | .bool true, k => rfl
  | .bool false, k => rfl
  | .int kd n, k => by simp only [AV.force, forceInt_eq]
  | .ptr (some a), k => by simp only [AV.force, forceAA_eq]
  | .ptr none, k => rfl
  | .sl a n none, k => by simp only [AV.force, forceAA_eq, forceNat_eq]
  | .sl a n (some c), k => by simp only [AV.force, forceAA_eq, forceNat_eq]
  | .agg l, k => by simp only [AV.force]; exact AV.forces_eq l _
  | .tup l, k => by simp only [AV.force]; exact AV.forces_eq l _
  | .str _, k | .nsl, k | .map _, k | .fn _ _ _, k | .nilFn, k => rfl
theorem AV.forces_eq : ∀ (x : List AV) (k : List AV → α), AV.forces x k = k x
  | [], k => rfl
  | x :: l, k => by simp only [AV.forces]; rw [AV.force_eq x, AV.forces_eq l]
end
def Tr.setK {β : Type} : Nat → Tr β → Nat → Option β → (Tr β → α) → α
  | 0, .lf, _, v, k => k (.nd .lf v .lf)
  | 0, .nd l _ r, _, v, k => k (.nd l v r)
  | f + 1, .lf, n, v, k => if n = 0 then k (.nd .lf v .lf) else
      if n % 2 = 1 then Tr.setK f .lf (n / 2) v fun l => k (.nd l none .lf) else Tr.setK f .lf (n / 2 - 1) v fun r => k (.nd .lf none r)
  | f + 1, .nd l o r, n, v, k => if n = 0 then k (.nd l v r) else
      if n % 2 = 1 then Tr.setK f l (n / 2) v fun l => k (.nd l o r) else Tr.setK f r (n / 2 - 1) v fun r => k (.nd l o r)
theorem Tr.setK_eq {β : Type} : ∀ (f : Nat) (t : Tr β) (n : Nat) (v : Option β) (k : Tr β → α), Tr.setK f t n v k = k (Tr.setF f t n v) := by
  intro f
  induction f with
  | zero => intro t n v k; cases t <;> rfl
  | succ f ih =>
    intro t n v k
    cases t <;> simp only [setK, setF, Tr.left, Tr.right, Tr.val] <;> (repeat' split) <;> simp only [ih]
def eputK (n : Nat) (e : Env) (dst : Option Tmp) (v : AV) (k : Env → Option α) : Option α :=
  match dst with
  | none => k e
  | some d => if d < n then AV.force v fun v => Tr.setK d e d (some v) k else none
theorem eputK_eq (n : Nat) (e : Env) (dst : Option Tmp) (v : AV) (k : Env → Option α) : eputK n e dst v k = match eput n e dst v with | some e' => k e' | none => none := by
  cases dst with
  | none => rfl
  | some d =>
    simp only [eputK, eput]
    split
    · rw [AV.force_eq, Tr.setK_eq]; rfl
    · rfl
end

section
variable (P : Program) (T : TT) (calls : FuncId → List AV → AHeap → Option (AV × AHeap)) (n : Nat)
def exOpK (ops : Array Oper) (o : Oper) (e : Env) (H : AHeap) : Option (Env × AHeap) :=
  match awanted ops o e with
  | none => none
  | some false => eputK n e o.dst (.tup []) fun e' => some (e', H)
  | some true => match aopR T e H o.op with
    | .val v H' => eputK n e o.dst v fun e' => some (e', H')
    | .call f args => AV.forces args fun args => match calls f args H with
      | some (r, H') => eputK n e o.dst r fun e' => some (e', H')
      | none => none
    | .bad => none
def exOp (ops : Array Oper) (o : Oper) (e : Env) (H : AHeap) : Option (Env × AHeap) :=
  match awanted ops o e with
  | none => none
  | some false => match eput n e o.dst (.tup []) with
    | some e' => some (e', H)
    | none => none
  | some true => match aopR T e H o.op with
    | .val v H' => match eput n e o.dst v with
      | some e' => some (e', H')
      | none => none
    | .call f args => match calls f args H with
      | some (r, H') => match eput n e o.dst r with
        | some e' => some (e', H')
        | none => none
      | none => none
    | .bad => none
theorem exOpK_eq (ops : Array Oper) (o : Oper) (e : Env) (H : AHeap) : exOpK T calls n ops o e H = exOp T calls n ops o e H := by
  unfold exOpK exOp
  simp only [eputK_eq, AV.forces_eq]
def exOps (ops : Array Oper) : List Oper → Env → AHeap → Option (Env × AHeap)
  | [], e, H => some (e, H)
  | o :: l, e, H => match exOpK T calls n ops o e H with
    | some (e', H') => exOps ops l e' H'
    | none => none
def kindSteady : Op → Bool
  | .load .. | .slice .. => true
  | .alloc .. | .box .. | .buildSlice .. | .makeSlice .. | .store .. => false
  | .call c => match c.callee with
    | .builtin .len | .builtin .cap | .builtin .min | .builtin .max => true
    | _ => false
  | _ => true
/-- A steady operation's value. -/
def steadyB (ls : List Nat) (ops : Array Oper) (o : Oper) (e : Env) (H : AHeap) : Option AV :=
  match awanted ops o e with
  | none => none
  | some false => some (.tup [])
  | some true => match aPure T e o.op with
    | some v => some v
    | none => match o.op with
      | .load t x => match evO e x with
        | some (.ptr (some a)) => if ls.contains a.blk && (H.get a.blk).isSome then aload T H t a else none
        | _ => none
      | .slice t x lo hi mx => match evO e x, evOO e lo, evOO e hi, evOO e mx with
        | some (.sl a len (some c)), some l, some h, some m => aslice T H t (.sl a len (some c)) l h m
        | some (.sl a len none), some l, some h, some m => if ls.contains a.blk && (H.get a.blk).isSome then aslice T H t (.sl a len none) l h m else none
        | some .nsl, some l, some h, some m => aslice T H t .nsl l h m
        | some (.ptr a), some l, some h, some m => aslice T H t (.ptr a) l h m
        | _, _, _, _ => none
      | _ => none
def exSeq (ls : List Nat) (ops : Array Oper) : List Nat → Env → AHeap → Option (Env × AHeap)
  | [], e, H => some (e, H)
  | i :: l, e, H => match ops[i]? with
    | none => none
    | some o =>
      if kindSteady o.op then match steadyB T ls ops o e H with
        | some v => eputK n e o.dst v fun e' => exSeq ls ops l e' H
        | none => none
      else match exOpK T calls n ops o e H with
        | some (e', H') => if !headOk o.op || extB ls H H' then exSeq ls ops l e' H' else none
        | none => none
/-- The same, where a store stands: nothing is to be kept. -/
def loadsOf (ops : Array Oper) : List Nat → Env → AHeap → List Nat
  | [], _, _ => []
  | i :: l, e, H => match ops[i]? with
    | none => []
    | some o => match exOpK T calls n ops o e H with
      | some (e', H') => (match o.op with
        | .load _ x => match evO e x with
          | some (.ptr (some a)) => [a.blk]
          | _ => []
        | .slice _ x _ _ _ => match evO e x with
          | some (.sl a _ none) => [a.blk]
          | _ => []
        | _ => []) ++ loadsOf ops l e' H'
      | none => []
def freeX (ops : Array Oper) (listed : Array Bool) (i : Nat) : Bool :=
  match ops[i]? with
  | none => false
  | some oi => (List.range ops.size).all fun j => j == i || listed.getD j true || match ops[j]? with
      | some oj => oj.after.any (fun e => Region.binds .any e && e.on == i) || (oi.apart ops oj && headOk oj.op)
      | none => true
/-- May i be taken next? -/
def stepOk (ops : Array Oper) (listed : Array Bool) (i : Nat) : Bool :=
  match ops[i]? with
  | none => false
  | some o => if kindSteady o.op then (Region.ready .any ops listed).contains i && freeX ops listed i else Region.ready .any ops listed == [i]
def planOkL (ops : Array Oper) : List Nat → Array Bool → Bool
  | [], listed => (Region.ready .any ops listed).isEmpty
  | i :: l, listed => stepOk ops listed i && planOkL ops l (listed.setIfInBounds i true)
/-- An order that stands for all. -/
def planOk (ops : Array Oper) (pl : List Nat) : Bool := pl.length == ops.size && planOkL ops pl (Array.replicate ops.size false)
def nextOf (ops : Array Oper) (listed : Array Bool) : Option Nat :=
  match (Region.ready .any ops listed).find? (fun i => match ops[i]? with
    | some o => kindSteady o.op && freeX ops listed i
    | none => false) with
  | some i => some i
  | none => (Region.ready .any ops listed).head?
def planFrom (ops : Array Oper) : Nat → Array Bool → List Nat
  | 0, _ => []
  | k + 1, listed => match nextOf ops listed with
    | some i => i :: planFrom ops k (listed.setIfInBounds i true)
    | none => []
def planOf (ops : Array Oper) : List Nat := planFrom ops ops.size (Array.replicate ops.size false)

def exIter (body : Env → AHeap → Option (Exit × Env × AHeap)) : Nat → Env → AHeap → Option (Exit × Env × AHeap)
  | 0, _, _ => none
  | k + 1, e, H => match body e H with
    | some (.normal, e', H') => exIter body k e' H'
    | r => r
def ex (fuel : Nat) : Code → Env → AHeap → Option (Exit × Env × AHeap)
  | .skip, e, H => some (.normal, e, H)
  | .region _ ops false, e, H => match exOps T calls n ops ops.toList e H with
    | some (e', H') => some (.normal, e', H')
    | none => none
  | .region _ ops true, e, H => if planOk ops (planOf ops) then match exSeq T calls n (loadsOf T calls n ops (planOf ops) e H) ops (planOf ops) e H with
      | some (e', H') => some (.normal, e', H')
      | none => none
    else none
  | .seq a b, e, H => match ex fuel a e H with
    | some (.normal, e', H') => ex fuel b e' H'
    | r => r
  | .cond c x y, e, H => match evO e c with
    | some (.bool true) => ex fuel x e H
    | some (.bool false) => ex fuel y e H
    | _ => none
  | .block id body, e, H => match ex fuel body e H with
    | some (.exit id', e', H') => some (if id' = id then .normal else .exit id', e', H')
    | r => r
  | .loop body, e, H => exIter (fun e H => ex fuel body e H) fuel e H
  | .exit id, e, H => some (.exit id, e, H)
  | .scope body, e, H => match ex fuel body e H with
    | some (.goto _, _, _) => none
    | r => r
  | .label _, e, H => some (.normal, e, H)
  | .ret, e, H => some (.ret, e, H)
  | _, _, _ => none
end

/-- Calls, so deep: by what is known of a function, else by its body. -/
def exF (P : Program) (T : TT) (prims : FuncId → List AV → AHeap → Option (Option (AV × AHeap))) (fuel : Nat) : Nat → FuncId → List AV → AHeap → Option (AV × AHeap)
  | 0, _, _, _ => none
  | d + 1, f, args, H => match prims f args H with
    | some r => r
    | none => match P.funcs[f]? with
      | none => none
      | some fn => match fn.body with
        | none => none
        | some c => if args.length ≤ fn.ntmps then match ex T (exF P T prims fuel d) fn.ntmps fuel c (envOf args) H with
            | some (.normal, e, H') => match aresults T H' e fn.results.toList with
              | some vs => some (retV vs, H')
              | none => none
            | some (.ret, e, H') => match aresults T H' e fn.results.toList with
              | some vs => some (retV vs, H')
              | none => none
            | _ => none
          else none

section
variable {P : Program} {T : TT} {calls : FuncId → List AV → AHeap → Option (AV × AHeap)} {n : Nat}
  (hcalls : ∀ f args H r H', calls f args H = some (r, H') → ASpec P T f args H fun r1 H1 => r1 = r ∧ H1 = H')
include hcalls
theorem exOp_sound {ops : Array Oper} {o : Oper} {e e' : Env} {H H' : AHeap} {K : Env → AHeap → Prop} (h : exOp T calls n ops o e H = some (e', H')) (hk : K e' H') : awpOp P T n ops o K e H := by
  unfold exOp at h
  unfold awpOp
  split at h
  · cases h
  · rename_i h1
    (try simp only [h1])
    split at h
    · rename_i h2
      (try simp only [h2])
      injection h with h; injection h with ha hb; subst ha; subst hb; exact hk
    · cases h
  · rename_i h1
    (try simp only [h1])
    split at h
    · rename_i h2
      (try simp only [h2])
      split at h
      · rename_i h3
        (try simp only [h3])
        injection h with h; injection h with ha hb; subst ha; subst hb; exact hk
      · cases h
    · rename_i h2
      (try simp only [h2])
      split at h
      · rename_i r H1 hr
        split at h
        · rename_i h3
          injection h with h; injection h with ha hb; subst ha; subst hb
          refine (hcalls _ _ _ _ _ hr).mono ?_
          rintro r1 H2 ⟨rfl, rfl⟩
          simp only [h3]; exact hk
        · cases h
      · cases h
    · cases h
theorem exOpX_sound {L : Nat → Prop} {ops : Array Oper} {o : Oper} {e e' : Env} {H H' : AHeap} {K : Env → AHeap → Prop} (h : exOp T calls n ops o e H = some (e', H')) (hx : headOk o.op = true → H.Ext L H')
    (hxc : ∀ f args, aopR T e H o.op = .call f args → H.Ext L H') (hk : K e' H') : awpOpX P T n L ops o K e H := by
  unfold exOp at h
  unfold awpOpX
  split at h
  · cases h
  · rename_i h1
    (try simp only [h1])
    split at h
    · rename_i h2
      (try simp only [h2])
      injection h with h; injection h with ha hb; subst ha; subst hb; exact hk
    · cases h
  · rename_i h1
    (try simp only [h1])
    split at h
    · rename_i h2
      (try simp only [h2])
      split at h
      · rename_i h3
        (try simp only [h3])
        injection h with h; injection h with ha hb; subst ha; subst hb; exact ⟨hx, hk⟩
      · cases h
    · rename_i h2
      (try simp only [h2])
      split at h
      · rename_i r H1 hr
        split at h
        · rename_i h3
          injection h with h; injection h with ha hb; subst ha; subst hb
          refine (hcalls _ _ _ _ _ hr).mono ?_
          rintro r1 H2 ⟨rfl, rfl⟩
          refine ⟨hxc _ _ h2, ?_⟩
          simp only [h3]; exact hk
        · cases h
      · cases h
    · cases h
theorem exOps_sound {ops : Array Oper} {Q : Env → AHeap → Prop} : ∀ {l : List Oper} {e e' : Env} {H H' : AHeap}, exOps T calls n ops l e H = some (e', H') → Q e' H' → awpOps P T n ops Q l e H
  | [], e, e', H, H', h, hq => by
    simp only [exOps, Option.some.injEq, Prod.mk.injEq] at h
    obtain ⟨rfl, rfl⟩ := h; exact hq
  | o :: l, e, e', H, H', h, hq => by
    simp only [exOps, exOpK_eq] at h
    split at h
    · rename_i e1 H1 h1
      exact exOp_sound hcalls h1 (exOps_sound h hq)
    · cases h
omit hcalls
theorem aslice_congr {H H' : AHeap} {t : TypeId} {x : AV} {l h m : Option AV} (hc : ∀ a len el, x = .sl a len none → capLB T H' el a none = capLB T H el a none) : aslice T H' t x l h m = aslice T H t x l h m := by
  unfold aslice
  cases T t with
  | none => rfl
  | some s =>
    simp only []
    cases s.k <;> cases x <;> first | rfl | (rename_i a; cases a <;> rfl) | skip
    rename_i el a len cap
    cases cap with
    | none => simp only [hc a len el rfl]
    | some c => simp only [capLB]
theorem steadyB_sound {ls : List Nat} {ops : Array Oper} {o : Oper} {e : Env} {H : AHeap} {v : AV} (h : steadyB T ls ops o e H = some v) : Steady T (· ∈ ls) ops o v e H := by
  unfold steadyB at h
  split at h
  · cases h
  · rename_i h1
    injection h with h; subst h
    exact .inr ⟨h1, rfl⟩
  · rename_i h1
    refine .inl ⟨h1, fun H' hx => ?_⟩
    unfold aopR
    split at h
    · rename_i h2
      injection h with h; subst h
      (try simp only [h2])
    · rename_i h2
      (try simp only [h2])
      split at h
      · rename_i t x ho
        rw [ho]; simp only [aMem]
        split at h
        · rename_i a ha
          split at h
          · rename_i hc
            simp only [Bool.and_eq_true, List.contains_iff_mem] at hc
            obtain ⟨b, hb⟩ := Option.isSome_iff_exists.1 hc.2
            have := hx a.blk b hc.1 hb
            have e1 : aload T H' t a = aload T H t a := by unfold aload; rw [this, hb]
            simp only [ha, e1, h]
          · cases h
        · cases h
      · rename_i t x lo hi mx ho
        rw [ho]; simp only [aMem]
        split at h
        · rename_i a len c l hh m h3 h4 h5 h6
          (try simp only [h3, h4, h5, h6])
          have e1 : aslice T H' t (.sl a len (some c)) l hh m = aslice T H t (.sl a len (some c)) l hh m := aslice_congr (fun _ _ _ hh => by simp at hh)
          simp only [e1, h]
        · rename_i a len l hh m h3 h4 h5 h6
          (try simp only [h3, h4, h5, h6])
          split at h
          · rename_i hc
            simp only [Bool.and_eq_true, List.contains_iff_mem] at hc
            obtain ⟨b, hb⟩ := Option.isSome_iff_exists.1 hc.2
            have := hx a.blk b hc.1 hb
            have e2 : ∀ el, capLB T H' el a none = capLB T H el a none := by intro el; unfold capLB; rw [this, hb]
            have e1 : aslice T H' t (.sl a len none) l hh m = aslice T H t (.sl a len none) l hh m := aslice_congr (fun _ _ el hh => by injection hh with h1 h2; subst h1; exact e2 el)
            simp only [e1, h]
          · cases h
        · rename_i l hh m h3 h4 h5 h6
          (try simp only [h3, h4, h5, h6])
          have e1 : aslice T H' t .nsl l hh m = aslice T H t .nsl l hh m := aslice_congr (fun _ _ _ hh => by cases hh)
          simp only [e1, h]
        · rename_i a l hh m h3 h4 h5 h6
          (try simp only [h3, h4, h5, h6])
          have e1 : aslice T H' t (.ptr a) l hh m = aslice T H t (.ptr a) l hh m := aslice_congr (fun _ _ _ hh => by cases hh)
          simp only [e1, h]
        · cases h
      · cases h
theorem freeX_spec {ops : Array Oper} {i : Nat} {oi : Oper} {listed : Array Bool} (hi : ops[i]? = some oi) (h : freeX ops listed i = true) (j : Nat) (oj : Oper)
    (hj : ops[j]? = some oj) (hne : j ≠ i) (hun : listed.getD j true = false) (hno : ∀ e ∈ oj.after, Region.binds .any e = true → e.on ≠ i) :
    oi.apart ops oj = true ∧ headOk oj.op = true := by
  simp only [freeX, hi, List.all_eq_true, List.mem_range] at h
  have h1 := h j (Array.getElem?_eq_some_iff.1 hj).1
  simp only [hj, Bool.or_eq_true, beq_iff_eq, hne, false_or, hun, Bool.false_eq_true] at h1
  rcases h1 with h1 | h1
  · obtain ⟨e, he, hb⟩ := Array.any_eq_true'.1 h1
    simp only [Bool.and_eq_true, beq_iff_eq] at hb
    exact absurd hb.2 (hno e he hb.1)
  · simpa using h1
theorem call_headOk {e : Env} {H : AHeap} {o : Op} {f : FuncId} {args : List AV} (h : aopR T e H o = .call f args) : headOk o = true := by
  unfold aopR at h
  split at h
  · cases h
  · cases o <;> first | rfl | skip
    rename_i hn; clear hn
    simp only [aMem] at h
    repeat' (split at h)
    all_goals first | (cases h; done) | skip
include hcalls
theorem exSeq_sound {ls : List Nat} {ops : Array Oper} {Q : Env → AHeap → Prop} : ∀ (pl : List Nat) (listed : Array Bool) {e e' : Env} {H H' : AHeap}, planOkL ops pl listed = true →
    exSeq T calls n ls ops pl e H = some (e', H') → Q e' H' → awpAnyX P T n (· ∈ ls) ops Q pl.length listed e H
  | [], listed, e, e', H, H', hp, h, hq => by
    simp only [exSeq, Option.some.injEq, Prod.mk.injEq] at h
    obtain ⟨rfl, rfl⟩ := h
    exact ⟨by simpa [planOkL] using hp, hq⟩
  | i :: l, listed, e, e', H, H', hp, h, hq => by
    simp only [planOkL, Bool.and_eq_true] at hp
    obtain ⟨hs, hp⟩ := hp
    simp only [exSeq] at h
    split at h
    · cases h
    · rename_i o hi
      simp only [stepOk, hi] at hs
      simp only [exOpK_eq, eputK_eq] at h
      simp only [List.length_cons]
      split at h
      · rename_i hks
        rw [if_pos hks] at hs
        simp only [Bool.and_eq_true, List.contains_iff_mem] at hs
        split at h
        · rename_i v hv
          split at h
          · rename_i e1 he1
            exact awpAnyX_first hi _ _ _ _ _ (freeX_spec hi hs.2) hs.1 (steadyB_sound hv) he1 (exSeq_sound l _ hp h hq)
          · cases h
        · cases h
      · rename_i hks
        rw [if_neg hks] at hs
        have hrs : Region.ready .any ops listed = [i] := by simpa using hs
        split at h
        · rename_i e1 H1 h1
          split at h
          · rename_i hx
            have ih := exSeq_sound l _ hp h hq
            refine ⟨fun h0 => by (rw [hrs] at h0; cases h0), fun j hj => ?_⟩
            rw [hrs] at hj
            obtain rfl : j = i := by simpa using hj
            have hx' : headOk o.op = true → H.Ext (· ∈ ls) H1 := fun hk => extB_ext (by simpa [hk] using hx)
            exact ⟨o, hi, exOpX_sound hcalls h1 hx' (fun f args hc => hx' (call_headOk hc)) ih⟩
          · cases h
        · cases h

theorem ex_sound {fuel : Nat} : ∀ (c : Code) {Q : AQ} {e e' : Env} {H H' : AHeap} {x : Exit}, ex T calls n fuel c e H = some (x, e', H') → Q x e' H' → awp P T n c Q e H := by
  intro c
  induction c with
  | skip => intro Q e e' H H' x h hq; simp only [ex, Option.some.injEq, Prod.mk.injEq] at h; obtain ⟨rfl, rfl, rfl⟩ := h; exact hq
  | region id ops draw =>
    intro Q e e' H H' x h hq
    cases draw with
    | false =>
      simp only [ex] at h
      split at h
      · rename_i e1 H1 h1
        simp only [Option.some.injEq, Prod.mk.injEq] at h; obtain ⟨rfl, rfl, rfl⟩ := h
        exact exOps_sound hcalls h1 hq
      · cases h
    | true =>
      simp only [ex] at h
      split at h
      · rename_i hp
        split at h
        · rename_i e1 H1 h1
          simp only [Option.some.injEq, Prod.mk.injEq] at h; obtain ⟨rfl, rfl, rfl⟩ := h
          simp only [planOk, Bool.and_eq_true, beq_iff_eq] at hp
          have := exSeq_sound hcalls (Q := Q .normal) _ _ hp.2 h1 hq
          rw [hp.1] at this
          exact awpAny_of_X _ this
        · cases h
      · cases h
  | seq a b iha ihb =>
    intro Q e e' H H' x h hq
    simp only [ex] at h
    split at h
    · rename_i e1 H1 h1
      exact iha h1 (ihb h hq)
    · rename_i r hr
      refine iha h ?_
      cases x <;> first | exact hq | exact absurd h (by intro hh; exact hr _ _ hh)
  | cond c a b iha ihb =>
    intro Q e e' H H' x h hq
    simp only [ex] at h
    unfold awp
    split at h
    · rename_i h1; simp only [h1]; exact ⟨fun _ => iha h hq, fun hh => (by cases hh)⟩
    · rename_i h1; simp only [h1]; exact ⟨fun hh => (by cases hh), fun _ => ihb h hq⟩
    · cases h
  | block id body ih =>
    intro Q e e' H H' x h hq
    simp only [ex] at h
    split at h
    · rename_i id' e1 H1 h1
      simp only [Option.some.injEq, Prod.mk.injEq] at h; obtain ⟨rfl, rfl, rfl⟩ := h
      refine ih h1 ?_
      simp only [blockA]
      split
      · rename_i hh; rw [if_pos hh] at hq; exact hq
      · rename_i hh; rw [if_neg hh] at hq; exact hq
    · rename_i r hr
      refine ih h ?_
      cases x <;> first | exact hq | exact absurd h (by intro hh; exact hr _ _ _ hh)
  | loop body ih =>
    intro Q e e' H H' x h hq
    simp only [ex] at h
    refine ⟨fuel, ?_⟩
    have key : ∀ k {e e' : Env} {H H' : AHeap} {x : Exit}, exIter (fun e H => ex T calls n fuel body e H) k e H = some (x, e', H') → Q x e' H' → aiter (awp P T n body) Q k e H := by
      intro k
      induction k with
      | zero => intro e e' H H' x h; cases h
      | succ k ihk =>
        intro e e' H H' x h hq
        simp only [exIter] at h
        split at h
        · rename_i e1 H1 h1
          exact ih h1 (ihk h hq)
        · rename_i r hr
          refine ih h ?_
          cases x <;> first | exact hq | exact absurd h (by intro hh; exact hr _ _ hh)
    exact key fuel h hq
  | rangeFunc f ps asg body _ _ => intro Q e e' H H' x h hq; cases h
  | exit id => intro Q e e' H H' x h hq; simp only [ex, Option.some.injEq, Prod.mk.injEq] at h; obtain ⟨rfl, rfl, rfl⟩ := h; exact hq
  | scope body ih =>
    intro Q e e' H H' x h hq
    simp only [ex] at h
    split at h
    · cases h
    · rename_i r hr
      refine ih h ?_
      cases x <;> first | exact hq | exact absurd h (by intro hh; exact hr _ _ _ hh)
  | label l => intro Q e e' H H' x h hq; simp only [ex, Option.some.injEq, Prod.mk.injEq] at h; obtain ⟨rfl, rfl, rfl⟩ := h; exact hq
  | goto l => intro Q e e' H H' x h hq; cases h
  | ret => intro Q e e' H H' x h hq; simp only [ex, Option.some.injEq, Prod.mk.injEq] at h; obtain ⟨rfl, rfl, rfl⟩ := h; exact hq
  | refuse why => intro Q e e' H H' x h hq; cases h
end

/-- A call evaluated: what the function does. -/
theorem exF_sound {P : Program} {T : TT} (hT : TOk P T) (hm : P.follows .mixedOrders = true) (hn : ∀ (f : FuncId) (fn : Func), P.funcs[f]? = some fn → (fn.name == "runtime.NumGoroutine") = false)
    {prims : FuncId → List AV → AHeap → Option (Option (AV × AHeap))} (hp : ∀ f args H r H', prims f args H = some (some (r, H')) → ASpec P T f args H fun r1 H1 => r1 = r ∧ H1 = H') {fuel : Nat} :
    ∀ (d : Nat) (f : FuncId) (args : List AV) (H : AHeap) (r : AV) (H' : AHeap), exF P T prims fuel d f args H = some (r, H') → ASpec P T f args H fun r1 H1 => r1 = r ∧ H1 = H' := by
  intro d
  induction d with
  | zero => intro f args H r H' h; cases h
  | succ d ih =>
    intro f args H r H' h
    simp only [exF] at h
    split at h
    · rename_i x hx
      subst h
      exact hp _ _ _ _ _ hx
    · split at h
      · cases h
      · rename_i fn hfn
        split at h
        · cases h
        · rename_i c hc
          split at h
          · rename_i hl
            split at h
            · rename_i e H1 h1
              split at h
              · rename_i vs hvs
                injection h with h; injection h with ha hb; subst ha; subst hb
                refine aspec_of_awp hT hm hfn hc (hn _ _ hfn) hl (ex_sound ih c h1 ?_)
                simp [retA, hvs]
              · cases h
            · rename_i e H1 h1
              split at h
              · rename_i vs hvs
                injection h with h; injection h with ha hb; subst ha; subst hb
                refine aspec_of_awp hT hm hfn hc (hn _ _ hfn) hl (ex_sound ih c h1 ?_)
                simp [retA, hvs]
              · cases h
            · cases h
          · cases h
end Go.Ab
