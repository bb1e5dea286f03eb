/- The abstract layer, part L: regions whose order is open. -/
import Derived.Test.YtdbcndheeipmjaaAbxK
set_option linter.unusedVariables false
set_option linter.unusedSimpArgs false
namespace Go.Ab

namespace Tr
variable {α : Type}
theorem setF_fuel : ∀ (f g : Nat) (t : Tr α) (n : Nat) (v : Option α), n ≤ f → n ≤ g → setF f t n v = setF g t n v := by
  intro f
  induction f with
  | zero =>
    intro g t n v h _
    obtain rfl : n = 0 := by omega
    cases g <;> simp [setF]
  | succ f ih =>
    intro g t n v h hg
    cases g with
    | zero => obtain rfl : n = 0 := by omega
              simp [setF]
    | succ g =>
      simp only [setF]
      by_cases hn : n = 0
      · simp [hn]
      · simp only [if_neg hn]
        by_cases ho : n % 2 = 1
        · simp only [if_pos ho]; rw [ih g _ _ _ (by omega) (by omega)]
        · simp only [if_neg ho]; rw [ih g _ _ _ (by omega) (by omega)]
theorem setF_comm : ∀ (f : Nat) (t : Tr α) (n m : Nat) (v u : Option α), n ≤ f → m ≤ f → n ≠ m → setF f (setF f t n v) m u = setF f (setF f t m u) n v := by
  intro f
  induction f with
  | zero => intro t n m v u h h' hne; omega
  | succ f ih =>
    intro t n m v u h h' hne
    simp only [setF]
    by_cases hn : n = 0
    · subst hn
      have hm : ¬ m = 0 := by omega
      by_cases hmo : m % 2 = 1 <;> simp [hm, hmo, left, right, val]
    · by_cases hm : m = 0
      · subst hm
        by_cases hno : n % 2 = 1 <;> simp [hn, hno, left, right, val]
      · by_cases hno : n % 2 = 1
        · by_cases hmo : m % 2 = 1
          · simp only [hn, hm, hno, hmo, if_false, if_true, left, right, val]
            rw [ih _ _ _ _ _ (by omega) (by omega) (by omega)]
          · simp [hn, hm, hno, hmo, left, right, val]
        · by_cases hmo : m % 2 = 1
          · simp [hn, hm, hno, hmo, left, right, val]
          · simp only [hn, hm, hno, hmo, if_false, left, right, val]
            rw [ih _ _ _ _ _ (by omega) (by omega) (by omega)]
theorem set_comm (t : Tr α) {n m : Nat} (v u : Option α) (h : n ≠ m) : (t.set n v).set m u = (t.set m u).set n v := by
  unfold set
  rw [setF_fuel n (max n m) _ _ _ (Nat.le_refl _) (by omega), setF_fuel m (max n m) _ _ _ (Nat.le_refl _) (by omega), setF_fuel m (max n m) t _ _ (Nat.le_refl _) (by omega),
    setF_fuel n (max n m) _ _ _ (Nat.le_refl _) (by omega)]
  exact setF_comm _ _ _ _ _ _ (by omega) (by omega) h
end Tr

/-! ### What an operation doesn't look at -/
section
variable {T : TT} {e : Env} {H : AHeap} {d : Nat} {v : Option AV}
theorem evO_ne {x : Operand} (h : x ≠ .tmp d) : evO (e.set d v) x = evO e x := by
  cases x with
  | tmp t => exact Tr.get_set_ne _ _ (fun hh => h (by rw [hh]))
  | _ => rfl
theorem evOs_ne : ∀ {l : List Operand}, (∀ x ∈ l, x ≠ .tmp d) → evOs (e.set d v) l = evOs e l
  | [], _ => rfl
  | x :: l, h => by
    simp only [evOs]
    rw [evO_ne (h x (by simp)), evOs_ne fun y hy => h y (by simp [hy])]
theorem aparts_ne : ∀ {l : List (Nat × Operand)}, (∀ x ∈ l.map (·.2), x ≠ .tmp d) → aparts (e.set d v) l = aparts e l
  | [], _ => rfl
  | (i, x) :: l, h => by
    simp only [aparts]
    rw [evO_ne (h x (by simp)), aparts_ne fun y hy => h y (by simp at hy ⊢; exact .inr hy)]
theorem evOO_ne {x : Option Operand} (h : ∀ y, x = some y → y ≠ .tmp d) : evOO (e.set d v) x = evOO e x := by
  cases x with
  | none => rfl
  | some x => simp only [evOO]; rw [evO_ne (h x rfl)]
theorem aopR_ne {o : Op} (h : ∀ x ∈ o.operands, x ≠ .tmp d) : aopR T (e.set d v) H o = aopR T e H o := by
  have h1 : aPure T (e.set d v) o = aPure T e o := by
    cases o <;> simp only [aPure] <;> simp only [Op.operands] at h
    case build t ps => rw [aparts_ne (by simpa using h)]
    case makeFunc f a b => rw [evOs_ne (fun x hx => h x (by simp; left; simpa using hx)), evOs_ne (fun x hx => h x (by simp; right; simpa using hx))]
    case call c =>
      obtain ⟨callee, ⟨args⟩, ⟨tys⟩⟩ := c
      have ha : ∀ x ∈ args, x ≠ .tmp d := fun x hx => h x (by simp [Call.operands, hx])
      cases callee with
      | builtin b =>
        cases b <;> simp only [] <;> first | rfl | skip
        · split
          · rename_i x t; rw [evO_ne (ha _ (by simp))]
          · rfl
        · split
          · rename_i x t; rw [evO_ne (ha _ (by simp))]
          · rfl
        · rw [evOs_ne ha]
        · rw [evOs_ne ha]
      | _ => rfl
    all_goals first
      | rfl
      | (rw [evO_ne (h _ (by simp)), evO_ne (h _ (by simp)), evO_ne (h _ (by simp))]; done)
      | (rw [evO_ne (h _ (by simp)), evO_ne (h _ (by simp))]; done)
      | (rw [evO_ne (h _ (by simp))]; done)
  have h2 : aMem T (e.set d v) H o = aMem T e H o := by
    cases o <;> simp only [aMem] <;> simp only [Op.operands] at h
    case buildSlice t n ps => rw [aparts_ne (by simpa using h)]
    case slice t x l hi mx =>
      rw [evO_ne (h _ (by simp)), evOO_ne (fun y hy => h y (by simp [hy])), evOO_ne (fun y hy => h y (by simp [hy])), evOO_ne (fun y hy => h y (by simp [hy]))]
    case call c =>
      obtain ⟨callee, ⟨args⟩, ⟨tys⟩⟩ := c
      have ha : ∀ x ∈ args, x ≠ .tmp d := fun x hx => h x (by simp [Call.operands, hx])
      cases callee with
      | value f => simp only []; rw [evO_ne (h _ (by simp [Call.operands])), evOs_ne ha]
      | invoke r m => rfl
      | builtin b =>
        cases b <;> simp only [] <;> first | rfl | skip
        all_goals
          split
          · first
              | (rw [evO_ne (ha _ (by simp)), evO_ne (ha _ (by simp))]; done)
              | (rw [evO_ne (ha _ (by simp))]; done)
          · rfl
    all_goals first
      | rfl
      | (rw [evO_ne (h _ (by simp)), evO_ne (h _ (by simp))]; done)
      | (rw [evO_ne (h _ (by simp))]; done)
  unfold aopR
  rw [h1, h2]
end

/-- The blocks in L stay as they are. -/
def AHeap.Ext (L : Nat → Prop) (H H' : AHeap) : Prop := ∀ a b, L a → H.get a = some b → H'.get a = some b
theorem AHeap.Ext.refl {L : Nat → Prop} (H : AHeap) : H.Ext L H := fun _ _ _ h => h
theorem AHeap.Ext.trans {L : Nat → Prop} {a b c : AHeap} (h : a.Ext L b) (h' : b.Ext L c) : a.Ext L c := fun x y hl hx => h' x y hl (h x y hl hx)
theorem AHeap.Ext.push {L : Nat → Prop} (H : AHeap) (b : ABlk) : H.Ext L (H.push b) := fun _ _ _ h => AHeap.get_push_old b h
/-- No store: what it does to the blocks is looked at when it is done. -/
def headOk : Op → Bool
  | .store .. => false
  | _ => true
/-- Does it leave all blocks as they are? -/
def quiet : Op → Bool
  | .store .. => false
  | .call c => match c.callee with
    | .builtin .append | .builtin .copy | .builtin .clear => false
    | _ => true
  | _ => true
theorem quiet_ext {L : Nat → Prop} {T : TT} {e : Env} {H H' : AHeap} {o : Op} {z : AV} (hk : quiet o = true) (h : aopR T e H o = .val z H') : H.Ext L H' := by
  unfold aopR at h
  split at h
  · injection h with h1 h2; subst h2; exact .refl _
  · rename_i hn; clear hn
    cases o <;> simp only [aMem] at h
    case alloc => split at h <;> first | (cases h; done) | (injection h with h1 h2; subst h2; exact .push _ _)
    case box => split at h <;> first | (cases h; done) | (injection h with h1 h2; subst h2; exact .push _ _)
    case buildSlice t n ps =>
      split at h
      · have := ORes.of_val h
        unfold abuildSlice at this
        repeat' (split at this)
        all_goals first | (cases this; done) | (simp only [Option.some.injEq, Prod.mk.injEq] at this; obtain ⟨_, rfl⟩ := this; exact .push _ _)
      · cases h
    case load => repeat' (split at h)
                 all_goals first | (cases h; done) | (injection h with h1 h2; subst h2; exact .refl _)
    case store => cases hk
    case makeSlice t l c =>
      split at h
      · have := ORes.of_val h
        unfold amake at this
        repeat' (split at this)
        all_goals first | (cases this; done) | (simp only [Option.some.injEq, Prod.mk.injEq] at this; obtain ⟨_, rfl⟩ := this; exact .push _ _)
      · cases h
    case slice => repeat' (split at h)
                  all_goals first | (cases h; done) | (injection h with h1 h2; subst h2; exact .refl _)
    case call c =>
      obtain ⟨callee, ⟨args⟩, ⟨tys⟩⟩ := c
      cases callee with
      | value f => simp only [] at h; split at h <;> cases h
      | invoke r m => cases h
      | builtin b => cases b <;> first | (cases h; done) | (cases hk; done)
    all_goals (cases h; done)

section
variable (P : Program) (T : TT) (n : Nat) (L : Nat → Prop)
/-- As awpOp, but all that is no store must leave the blocks in L as they are. -/
def awpOpX (ops : Array Oper) (o : Oper) (K : Env → AHeap → Prop) (e : Env) (H : AHeap) : Prop :=
  match awanted ops o e with
  | none => False
  | some false => match eput n e o.dst (.tup []) with
    | some e' => K e' H
    | none => False
  | some true => match aopR T e H o.op with
    | .val v H' => (headOk o.op = true → H.Ext L H') ∧ match eput n e o.dst v with
      | some e' => K e' H'
      | none => False
    | .call f args => ASpec P T f args H fun r H' => H.Ext L H' ∧ match eput n e o.dst r with
      | some e' => K e' H'
      | none => False
    | .bad => False
def awpAnyX (ops : Array Oper) (Q : Env → AHeap → Prop) : Nat → Array Bool → Env → AHeap → Prop
  | 0, listed, e, H => Region.ready .any ops listed = [] ∧ Q e H
  | fuel + 1, listed, e, H => (Region.ready .any ops listed = [] → Q e H) ∧
      ∀ i ∈ Region.ready .any ops listed, ∃ o, ops[i]? = some o ∧ awpOpX P T n L ops o (awpAnyX ops Q fuel (listed.setIfInBounds i true)) e H
end
section
variable {P : Program} {T : TT} {n : Nat} {L : Nat → Prop} {ops : Array Oper} {Q : Env → AHeap → Prop}
theorem awpOpX_mono {o : Oper} {K K' : Env → AHeap → Prop} {e : Env} {H : AHeap} (hk : ∀ e H, K e H → K' e H) (h : awpOpX P T n L ops o K e H) : awpOpX P T n L ops o K' e H := by
  unfold awpOpX at h ⊢
  split at h
  · exact h.elim
  · rename_i h1
    (try simp only [h1])
    split at h
    · rename_i h2; (try simp only [h2]); exact hk _ _ h
    · exact h.elim
  · rename_i h1
    (try simp only [h1])
    split at h
    · rename_i h2
      (try simp only [h2])
      refine ⟨h.1, ?_⟩
      replace h := h.2
      split at h
      · rename_i h3; (try simp only [h3]); exact hk _ _ h
      · exact h.elim
    · rename_i h2
      (try simp only [h2])
      refine h.mono fun r H' ⟨hx, hr⟩ => ⟨hx, ?_⟩
      split at hr
      · rename_i h3; (try simp only [h3]); exact hk _ _ hr
      · exact hr.elim
    · exact h.elim
theorem awpOp_of_X {o : Oper} {K K' : Env → AHeap → Prop} {e : Env} {H : AHeap} (hk : ∀ e H, K e H → K' e H) (h : awpOpX P T n L ops o K e H) : awpOp P T n ops o K' e H := by
  unfold awpOpX at h
  unfold awpOp
  split at h
  · exact h.elim
  · rename_i h1
    (try simp only [h1])
    split at h
    · rename_i h2; (try simp only [h2]); exact hk _ _ h
    · exact h.elim
  · rename_i h1
    (try simp only [h1])
    split at h
    · rename_i h2
      (try simp only [h2])
      replace h := h.2
      split at h
      · rename_i h3; (try simp only [h3]); exact hk _ _ h
      · exact h.elim
    · rename_i h2
      (try simp only [h2])
      refine h.mono fun r H' ⟨hx, hr⟩ => ?_
      split at hr
      · rename_i h3; (try simp only [h3]); exact hk _ _ hr
      · exact hr.elim
    · exact h.elim
theorem awpAny_of_X : ∀ (fuel : Nat) {listed : Array Bool} {e : Env} {H : AHeap}, awpAnyX P T n L ops Q fuel listed e H → awpAny P T n ops Q fuel listed e H
  | 0, _, _, _, h => h
  | fuel + 1, listed, e, H, h => ⟨h.1, fun i hi => by
      obtain ⟨o, ho, hk⟩ := h.2 i hi
      rw [ho]
      exact awpOp_of_X (fun e H => awpAny_of_X fuel) hk⟩

/-- In this state, and whatever blocks come to the heap's, the operation leaves v in its temporary and does nothing else. -/
def Steady (T : TT) (L : Nat → Prop) (ops : Array Oper) (o : Oper) (v : AV) (e : Env) (H : AHeap) : Prop :=
  (awanted ops o e = some true ∧ ∀ H', H.Ext L H' → aopR T e H' o.op = .val v H') ∨ (awanted ops o e = some false ∧ v = .tup [])

theorem awanted_ne {o : Oper} {e : Env} {d : Nat} {u : Option AV} (h : d ∉ o.looksAt ops) : awanted ops o (e.set d u) = awanted ops o e := by
  unfold awanted
  cases hg : o.guard with
  | none => rfl
  | some jw =>
    obtain ⟨j, want⟩ := jw
    simp only []
    cases ht : (ops[j]?).bind (·.dst) with
    | none => rfl
    | some t =>
      simp only []
      have : t ≠ d := by
        intro hh; subst hh
        exact h (by unfold Oper.looksAt; rw [hg]; simp [ht])
      rw [Tr.get_set_ne _ _ this]
theorem operands_ne {o : Oper} {d : Nat} (h : d ∉ o.looksAt ops) : ∀ x ∈ o.op.operands, x ≠ .tmp d := by
  intro x hx hh
  subst hh
  exact h (List.mem_append_left _ (List.mem_filterMap.2 ⟨.tmp d, by simpa using hx, rfl⟩))

theorem Steady.step {o : Oper} {v : AV} {e e' : Env} {H H' : AHeap} {dst : Option Tmp} {u : AV} (h : Steady T L ops o v e H) (hd : ∀ d, dst = some d → d ∉ o.looksAt ops) (he : eput n e dst u = some e') (hx : H.Ext L H') :
    Steady T L ops o v e' H' := by
  cases dst with
  | none =>
    simp only [eput, Option.some.injEq] at he; subst he
    exact h.imp (fun ⟨h1, h2⟩ => ⟨h1, fun H2 hx2 => h2 H2 (hx.trans hx2)⟩) id
  | some d =>
    simp only [eput] at he
    split at he
    · injection he with he; subst he
      have hd' := hd d rfl
      refine h.imp (fun ⟨h1, h2⟩ => ⟨by rw [awanted_ne hd']; exact h1, fun H2 hx2 => ?_⟩) (fun ⟨h1, h2⟩ => ⟨by rw [awanted_ne hd']; exact h1, h2⟩)
      rw [aopR_ne (operands_ne hd')]
      exact h2 H2 (hx.trans hx2)
    · cases he
theorem eput_comm {e e1 e12 : Env} {d1 d2 : Option Tmp} {v u : AV} (hne : ∀ d, d1 = some d → d2 ≠ some d) (h1 : eput n e d1 v = some e1) (h12 : eput n e1 d2 u = some e12) :
    ∃ e2, eput n e d2 u = some e2 ∧ eput n e2 d1 v = some e12 := by
  cases d1 with
  | none => simp only [eput, Option.some.injEq] at h1; subst h1; exact ⟨e12, h12, rfl⟩
  | some x =>
    cases d2 with
    | none => simp only [eput, Option.some.injEq] at h12; subst h12; exact ⟨e, rfl, h1⟩
    | some y =>
      simp only [eput] at h1 h12 ⊢
      split at h1
      · rename_i hx
        injection h1 with h1; subst h1
        split at h12
        · rename_i hy
          injection h12 with h12; subst h12
          refine ⟨e.set y (some u), by rw [if_pos hy], ?_⟩
          rw [if_pos hx, Tr.set_comm _ _ _ (fun hh => hne x rfl (by rw [hh]))]
        · cases h12
      · cases h1

/-- The steady operation i may be taken first. -/
theorem awpAnyX_first {i : Nat} {oi : Oper} {v : AV} (hi : ops[i]? = some oi) : ∀ (fuel : Nat) (listed : Array Bool) (e e1 : Env) (H : AHeap),
    (∀ j oj, ops[j]? = some oj → j ≠ i → listed.getD j true = false → (∀ ed ∈ oj.after, Region.binds .any ed = true → ed.on ≠ i) → oi.apart ops oj = true ∧ headOk oj.op = true) →
    i ∈ Region.ready .any ops listed → Steady T L ops oi v e H → eput n e oi.dst v = some e1 →
    awpAnyX P T n L ops Q fuel (listed.setIfInBounds i true) e1 H → awpAnyX P T n L ops Q (fuel + 1) listed e H := by
  have now : ∀ (K : Env → AHeap → Prop) (e e1 : Env) (H : AHeap), Steady T L ops oi v e H → eput n e oi.dst v = some e1 → K e1 H → awpOpX P T n L ops oi K e H := by
    intro K e e1 H hs he hk
    unfold awpOpX
    rcases hs with ⟨h1, h2⟩ | ⟨h1, rfl⟩
    · simp only [h1, h2 H (.refl _), he]; exact ⟨fun _ => .refl _, hk⟩
    · simp only [h1, he]; exact hk
  intro fuel
  induction fuel with
  | zero =>
    intro listed e e1 H hfree hr hs he hk
    refine ⟨fun h0 => by (rw [h0] at hr; cases hr), fun j hj => ?_⟩
    by_cases hji : j = i
    · subst hji; exact ⟨oi, hi, now _ _ _ _ hs he hk⟩
    · have := ready_mono hj hji
      rw [hk.1] at this; cases this
  | succ fuel ih =>
    intro listed e e1 H hfree hr hs he hk
    refine ⟨fun h0 => by (rw [h0] at hr; cases hr), fun j hj => ?_⟩
    by_cases hji : j = i
    · subst hji; exact ⟨oi, hi, now _ _ _ _ hs he hk⟩
    · obtain ⟨oj, hoj, h1⟩ := hk.2 j (ready_mono hj hji)
      refine ⟨oj, hoj, ?_⟩
      obtain ⟨hjun, oj', hoj', hall⟩ := mem_ready.1 hj
      rw [hoj] at hoj'; injection hoj' with hoj'; subst hoj'
      have hnot : ∀ ed ∈ oj.after, Region.binds .any ed = true → ed.on ≠ i := fun ed hed hb heq => by
        have h1 := hall ed hed hb
        have h0 := (mem_ready.1 hr).1
        rw [heq] at h1
        rcases Nat.lt_or_ge i listed.size with h' | h'
        · simp [h'] at h0 h1; rw [h0] at h1; cases h1
        · simp [Array.getElem?_eq_none h'] at h1
      obtain ⟨hap, hhead⟩ := hfree j oj hoj hji hjun hnot
      obtain ⟨ha1, ha2, ha3⟩ := Oper.apart_spec hap
      have hfree' : ∀ k ok, ops[k]? = some ok → k ≠ i → (listed.setIfInBounds j true).getD k true = false →
          (∀ ed ∈ ok.after, Region.binds .any ed = true → ed.on ≠ i) → oi.apart ops ok = true ∧ headOk ok.op = true := fun k ok hk hki hun hno => by
        refine hfree k ok hk hki ?_ hno
        by_cases hjk : j = k
        · subst hjk; exact hjun
        · rw [getD_set_ne true hjk] at hun; exact hun
      -- what j does, seen without i's value
      have cong1 : awanted ops oj e1 = awanted ops oj e := by
        cases hd : oi.dst with
        | none => rw [hd] at he; simp only [eput, Option.some.injEq] at he; rw [he]
        | some d =>
          rw [hd] at he; simp only [eput] at he
          split at he
          · injection he with he; subst he; exact awanted_ne (ha1 d hd)
          · cases he
      have cong2 : aopR T e1 H oj.op = aopR T e H oj.op := by
        cases hd : oi.dst with
        | none => rw [hd] at he; simp only [eput, Option.some.injEq] at he; rw [he]
        | some d =>
          rw [hd] at he; simp only [eput] at he
          split at he
          · injection he with he; subst he; exact aopR_ne (operands_ne (ha1 d hd))
          · cases he
      have fin : ∀ (u : AV) (e12 : Env) (H' : AHeap), H.Ext L H' → eput n e1 oj.dst u = some e12 → awpAnyX P T n L ops Q fuel ((listed.setIfInBounds i true).setIfInBounds j true) e12 H' →
          ∃ e2, eput n e oj.dst u = some e2 ∧ awpAnyX P T n L ops Q (fuel + 1) (listed.setIfInBounds j true) e2 H' := by
        intro u e12 H' hx he12 hk'
        obtain ⟨e2, h2, h21⟩ := eput_comm ha2 he he12
        refine ⟨e2, h2, ih _ _ _ _ hfree' (ready_mono hr (Ne.symm hji)) (hs.step ha3 h2 hx) h21 ?_⟩
        rw [Array.setIfInBounds_comm _ _ hji]; exact hk'
      unfold awpOpX at h1 ⊢
      rw [cong1, cong2] at h1
      split at h1
      · exact h1.elim
      · rename_i hw
        split at h1
        · rename_i e12 he12
          obtain ⟨e2, h2, h3⟩ := fin _ e12 H (.refl _) he12 h1
          (try simp only [hw, h2]); exact h3
        · exact h1.elim
      · rename_i hw
        (try simp only [hw])
        split at h1
        · rename_i u H' hu
          obtain ⟨hx, h1⟩ := h1
          have hx' := hx hhead
          split at h1
          · rename_i e12 he12
            obtain ⟨e2, h2, h3⟩ := fin _ e12 H' hx' he12 h1
            (try simp only [hu, h2]); exact ⟨fun _ => hx', h3⟩
          · exact h1.elim
        · rename_i f args hc
          (try simp only [hc])
          refine h1.mono fun r H' ⟨hx, hr'⟩ => ⟨hx, ?_⟩
          split at hr'
          · rename_i e12 he12
            obtain ⟨e2, h2, h3⟩ := fin _ e12 H' hx he12 hr'
            (try simp only [h2]); exact h3
          · exact hr'.elim
        · exact h1.elim
end
end Go.Ab
