/- The abstract layer, part O: rules for walking by hand. -/
import Derived.Test.YtdbcndheeipmjaaAbxN
set_option linter.unusedVariables false
set_option linter.unusedSimpArgs false
namespace Go.Ab
theorem wrapF_i64 {n : Int} (h : -9223372036854775808 ≤ n) (h' : n < 9223372036854775808) : wrapF .i64 n = n := by
  show (if n % 18446744073709551616 ≥ 9223372036854775808 then n % 18446744073709551616 - 18446744073709551616 else n % 18446744073709551616) = n
  split <;> omega
theorem wrapF_u64 {n : Int} (h : 0 ≤ n) (h' : n < 18446744073709551616) : wrapF .u64 n = n := by show n % 18446744073709551616 = n; omega
theorem wrapF_u32 {n : Int} (h : 0 ≤ n) (h' : n < 4294967296) : wrapF .u32 n = n := by show n % 4294967296 = n; omega
theorem wrapF_u8 {n : Int} (h : 0 ≤ n) (h' : n < 256) : wrapF .u8 n = n := by show n % 256 = n; omega
section
variable {T : TT} {H : AHeap} {t : TypeId} {a : AA} {s : TS} {cs : List AV} {el : TypeId} {k : Kind}
theorem astore_of {v : AV} (hs : T t = some s) (hg : H.get a.blk = some (.cells cs el k)) (hk : k ≠ .ro) (h1 : v.cells.length = s.size) (h2 : a.off + v.cells.length ≤ cs.length) (h3 : v.cells.all AV.one = true) :
    astore T H t a v = some (H.set a.blk (.cells (aput cs a.off v.cells) el k)) := by
  simp only [astore, hs, hg]; rw [if_neg hk, if_pos ⟨h1, h2, h3⟩]
theorem astore_one {v : AV} (hs : T t = some s) (hg : H.get a.blk = some (.cells cs el k)) (hk : k ≠ .ro) (h1 : s.size = 1) (h2 : a.off < cs.length) (h3 : v.one = true) :
    astore T H t a v = some (H.set a.blk (.cells (aput cs a.off [v]) el k)) := by
  have hc : v.cells = [v] := by cases v <;> first | rfl | cases h3
  have := astore_of (v := v) hs hg hk (by rw [hc, h1]; rfl) (by rw [hc]; simp; omega) (by rw [hc]; simp [h3])
  rw [hc] at this; exact this
theorem aload_one (hs : T t = some s) (hg : H.get a.blk = some (.cells cs el k)) (ha : s.k.isAgg = false) : aload T H t a = cs[a.off]? := by
  simp only [aload, hs, hg, ha]; rfl
theorem aload_agg (hs : T t = some s) (hg : H.get a.blk = some (.cells cs el k)) (ha : s.k.isAgg = true) (hl : a.off + s.size ≤ cs.length) : aload T H t a = some (.agg ((cs.drop a.off).take s.size)) := by
  simp only [aload, hs, hg, ha, if_true]; rw [if_pos hl]
end
section
variable {P : Program} {T : TT} {n : Nat}
theorem awpOp_mono {ops : Array Oper} {o : Oper} {K K' : Env → AHeap → Prop} {e : Env} {H : AHeap} (hk : ∀ e H, K e H → K' e H) (h : awpOp P T n ops o K e H) : awpOp P T n ops o K' e H := by
  unfold awpOp at h ⊢
  split at h
  · exact h.elim
  · rename_i h1
    (try simp only [h1])
    split at h
    · rename_i h2; (try simp only [h2]); exact hk _ _ h
    · exact h.elim
  · rename_i h1
    (try simp only [h1])
    split at h
    · rename_i h2
      (try simp only [h2])
      split at h
      · rename_i h3; (try simp only [h3]); exact hk _ _ h
      · exact h.elim
    · rename_i h2
      (try simp only [h2])
      refine h.mono fun r H' hr => ?_
      split at hr
      · rename_i h3; (try simp only [h3]); exact hk _ _ hr
      · exact hr.elim
    · exact h.elim
theorem awpOps_mono {ops : Array Oper} {Q Q' : Env → AHeap → Prop} (hq : ∀ e H, Q e H → Q' e H) : ∀ {l : List Oper} {e : Env} {H : AHeap}, awpOps P T n ops Q l e H → awpOps P T n ops Q' l e H
  | [], e, H, h => hq _ _ h
  | o :: l, e, H, h => awpOp_mono (fun e H => awpOps_mono hq) h
theorem awpAny_mono {ops : Array Oper} {Q Q' : Env → AHeap → Prop} (hq : ∀ e H, Q e H → Q' e H) : ∀ {fuel : Nat} {listed : Array Bool} {e : Env} {H : AHeap}, awpAny P T n ops Q fuel listed e H → awpAny P T n ops Q' fuel listed e H
  | 0, listed, e, H, h => ⟨h.1, hq _ _ h.2⟩
  | fuel + 1, listed, e, H, h => ⟨fun hr => hq _ _ (h.1 hr), fun i hi => by
      have := h.2 i hi
      split
      · rename_i h1; rw [h1] at this; exact awpAny_mono hq this
      · rename_i o h1; rw [h1] at this; exact awpOp_mono (fun e H => awpAny_mono hq) this⟩
theorem thenA_mono {K K' : Env → AHeap → Prop} {Q Q' : AQ} (hk : ∀ e H, K e H → K' e H) (hq : ∀ x e H, Q x e H → Q' x e H) : ∀ x e H, thenA K Q x e H → thenA K' Q' x e H := by
  intro x e H h
  cases x <;> first | exact hk _ _ h | exact hq _ _ _ h
theorem awp_mono : ∀ {c : Code} {Q Q' : AQ} {e : Env} {H : AHeap}, (∀ x e H, Q x e H → Q' x e H) → awp P T n c Q e H → awp P T n c Q' e H := by
  intro c
  induction c with
  | skip => intro Q Q' e H hq h; exact hq _ _ _ h
  | region id ops draw =>
    intro Q Q' e H hq h
    cases draw with
    | false => exact awpOps_mono (hq .normal) h
    | true => exact awpAny_mono (hq .normal) h
  | seq a b iha ihb => intro Q Q' e H hq h; exact iha (thenA_mono (fun e H => ihb hq) hq) h
  | cond c a b iha ihb =>
    intro Q Q' e H hq h
    unfold awp at h ⊢
    split at h
    · rename_i h1; (try simp only [h1]); exact ⟨fun hb => iha hq (h.1 hb), fun hb => ihb hq (h.2 hb)⟩
    · exact h.elim
  | block id body ih =>
    intro Q Q' e H hq h
    refine ih ?_ h
    intro x e H hx
    cases x with
    | exit id' =>
      simp only [blockA] at hx ⊢
      split
      · rename_i hh; rw [if_pos hh] at hx; exact hq _ _ _ hx
      · rename_i hh; rw [if_neg hh] at hx; exact hq _ _ _ hx
    | _ => exact hq _ _ _ hx
  | loop body ih =>
    intro Q Q' e H hq h
    obtain ⟨k, h⟩ := h
    refine ⟨k, ?_⟩
    induction k generalizing e H with
    | zero => exact h.elim
    | succ k ihk => exact ih (thenA_mono (fun e H => ihk) hq) h
  | rangeFunc f ps asg body _ _ => intro Q Q' e H hq h; exact h.elim
  | exit id => intro Q Q' e H hq h; exact hq _ _ _ h
  | scope body ih =>
    intro Q Q' e H hq h
    refine ih ?_ h
    intro x e H hx
    cases x with
    | goto l => exact hx.elim
    | _ => exact hq _ _ _ hx
  | label l => intro Q Q' e H hq h; exact hq _ _ _ h
  | goto l => intro Q Q' e H hq h; exact h.elim
  | ret => intro Q Q' e H hq h; exact hq _ _ _ h
  | refuse why => intro Q Q' e H hq h; exact h.elim

/-- A loop: what holds at each round's head, with a measure. -/
theorem aloop {body : Code} {Q : AQ} {e : Env} {H : AHeap} (I : Nat → Env → AHeap → Prop) (m : Nat) (h0 : I m e H)
    (step : ∀ m e H, I m e H → awp P T n body (thenA (fun e' H' => ∃ m', m' < m ∧ I m' e' H') Q) e H) : awp P T n (.loop body) Q e H := by
  have key : ∀ k m e H, m < k → I m e H → aiter (awp P T n body) Q k e H := by
    intro k
    induction k with
    | zero => intro m e H hm; omega
    | succ k ih =>
      intro m e H hm hI
      refine awp_mono (thenA_mono ?_ (fun _ _ _ h => h)) (step m e H hI)
      rintro e' H' ⟨m', hm', hI'⟩
      exact ih m' e' H' (by omega) hI'
  exact ⟨m + 1, key _ m e H (Nat.lt_succ_self m) h0⟩

section
variable {Q : AQ} {e : Env} {H : AHeap}
theorem awp_skip : awp P T n .skip Q e H = Q .normal e H := rfl
theorem awp_region (id : Nat) (ops : Array Oper) : awp P T n (.region id ops false) Q e H = awpOps P T n ops (Q .normal) ops.toList e H := rfl
theorem awp_seq (a b : Code) : awp P T n (.seq a b) Q e H = awp P T n a (thenA (awp P T n b Q) Q) e H := rfl
theorem awp_cond (c : Operand) (a b : Code) : awp P T n (.cond c a b) Q e H = match evO e c with
    | some (.bool t) => (t = true → awp P T n a Q e H) ∧ (t = false → awp P T n b Q e H)
    | _ => False := rfl
theorem awp_block (id : Nat) (a : Code) : awp P T n (.block id a) Q e H = awp P T n a (blockA id Q) e H := rfl
theorem awp_exit (id : Nat) : awp P T n (.exit id) Q e H = Q (.exit id) e H := rfl
theorem awp_scope (a : Code) : awp P T n (.scope a) Q e H = awp P T n a (scopeA Q) e H := rfl
theorem awp_label (l : Nat) : awp P T n (.label l) Q e H = Q .normal e H := rfl
theorem awp_ret : awp P T n .ret Q e H = Q .ret e H := rfl
theorem thenA_normal (K : Env → AHeap → Prop) : thenA K Q .normal e H = K e H := rfl
theorem thenA_exit (K : Env → AHeap → Prop) (id : Nat) : thenA K Q (.exit id) e H = Q (.exit id) e H := rfl
theorem thenA_ret (K : Env → AHeap → Prop) : thenA K Q .ret e H = Q .ret e H := rfl
theorem blockA_normal (id : Nat) : blockA id Q .normal e H = Q .normal e H := rfl
theorem blockA_ret (id : Nat) : blockA id Q .ret e H = Q .ret e H := rfl
theorem blockA_exit (id id' : Nat) : blockA id Q (.exit id') e H = if id' = id then Q .normal e H else Q (.exit id') e H := rfl
theorem scopeA_normal : scopeA Q .normal e H = Q .normal e H := rfl
theorem scopeA_ret : scopeA Q .ret e H = Q .ret e H := rfl
theorem scopeA_exit (id : Nat) : scopeA Q (.exit id) e H = Q (.exit id) e H := rfl
end
/-- A function's body, walked: its results and the number of its variables told. -/
theorem aspec_body (hT : TOk P T) (hm : P.follows .mixedOrders = true) {f : FuncId} {fn : Func} {c : Code} {args : List AV} {H : AHeap} {Q : AV → AHeap → Prop} {rs : List ResultVar}
    (hf : P.funcs[f]? = some fn) (hn : fn.ntmps = n) (hb : fn.body = some c) (hr : fn.results.toList = rs) (hname : (fn.name == "runtime.NumGoroutine") = false) (hl : args.length ≤ n)
    (h : awp P T n c (retA T rs Q) (envOf args) H) : ASpec P T f args H Q := by
  subst hn; subst hr
  exact aspec_of_awp hT hm hf hb hname hl h
end
end Go.Ab
