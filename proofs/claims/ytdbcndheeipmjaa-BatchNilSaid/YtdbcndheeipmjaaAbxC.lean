/- The abstract layer, part C: operations on variables alone are right. -/
import Derived.Test.YtdbcndheeipmjaaAbxB
set_option linter.unusedVariables false
set_option linter.unusedSimpArgs false
namespace Go.Ab
section
variable {P : Program} {T : TT} {ρ : Rho} {w : World}

theorem eqGuard_fine {op : BinOp} {t : TypeId} {x y : Operand} {a b : Value} (h : ∀ cs, a ≠ .agg cs) (h' : a ≠ .nilIface) : (eqGuard op t x y a b).run P w = .ok () w := by
  unfold eqGuard
  cases op <;> first | rfl | skip
  all_goals
    cases a <;> first | rfl | (exact absurd rfl h') | (exact absurd rfl (h _))

theorem aarith_sound {op : BinOp} {t : TypeId} {k : IntKind} {a b : Int} {z : AV} (hs : isShift op = false) (h : aarith op k a b = some z) :
    ∃ v, (binOp op t (.int k a) (.int k b)).run P w = .ok v w ∧ VR ρ z v := by
  cases op <;> simp only [aarith, isShift, wrapF_eq, band, bor, bxor, bclear] at h hs <;> first
    | (cases hs; done)
    | (injection h with h; subst h; refine ⟨_, ?_, rfl⟩; simp [binOp, Op.intArith, Op.intBits, Op.intCmp]; done)
    | (split at h
       · cases h
       · rename_i hb; injection h with h; subst h; refine ⟨_, ?_, rfl⟩; simp [binOp, Op.intDiv, hb])
    | (cases h; done)

theorem ashift_sound {op : BinOp} {t : TypeId} {k k' : IntKind} {a b : Int} {z : AV} (hs : isShift op = true) (h : ashift op k a b = some z) :
    ∃ v, (binOp op t (.int k a) (.int k' b)).run P w = .ok v w ∧ VR ρ z v := by
  unfold ashift at h
  split at h
  · cases h
  · rename_i hb
    cases op <;> simp only [isShift, wrapF_eq, pow2_eq] at h hs <;> first
      | (cases hs; done)
      | (injection h with h; subst h; refine ⟨_, ?_, rfl⟩; simp [binOp, Op.shift, hb]; done)

theorem eqlneq_of {t : TypeId} {u v : Value} {b : Bool} (h1 : binOp .eql t u v = do pure (.bool (← Op.equal t u v))) (h2 : binOp .neq t u v = do pure (.bool (!(← Op.equal t u v))))
    (h : ∀ d, (Op.equalIn (d + 1) t u v).run P w = .ok b w) : (binOp .eql t u v).run P w = .ok (.bool b) w ∧ (binOp .neq t u v).run P w = .ok (.bool !b) w := by
  have h' : (Op.equal t u v).run P w = .ok b w := h 9999
  rw [h1, h2]
  constructor
  · simp only [Sem.run_bind, h', Result.andThen, Sem.run_pure]
  · simp only [Sem.run_bind, h', Result.andThen, Sem.run_pure]
section
variable {t : TypeId} (d : Nat)
theorem equalIn_bool (hd : P.underlying t = some .bool) (a b : Bool) : (Op.equalIn (d + 1) t (.bool a) (.bool b)).run P w = .ok (a == b) w := by
  rw [Op.equalIn]; simp [underlying, hd]
theorem equalIn_ptr1 {e : TypeId} (hd : P.underlying t = some (.pointer e)) (b : Option Addr) : (Op.equalIn (d + 1) t (.pointer none) (.pointer b)).run P w = .ok b.isNone w := by
  rw [Op.equalIn]; simp [underlying, hd]
theorem equalIn_ptr2 {e : TypeId} (hd : P.underlying t = some (.pointer e)) (b : Addr) : (Op.equalIn (d + 1) t (.pointer (some b)) (.pointer none)).run P w = .ok false w := by
  rw [Op.equalIn]; simp [underlying, hd]
theorem equalIn_sl1 {e : TypeId} (hd : P.underlying t = some (.slice e)) (b : Option Addr) (n c : Nat) : (Op.equalIn (d + 1) t (.slice none 0 0) (.slice b n c)).run P w = .ok b.isNone w := by
  rw [Op.equalIn]; simp [underlying, hd]
theorem equalIn_sl2 {e : TypeId} (hd : P.underlying t = some (.slice e)) (b : Addr) (n c : Nat) : (Op.equalIn (d + 1) t (.slice (some b) n c) (.slice none 0 0)).run P w = .ok false w := by
  rw [Op.equalIn]; simp [underlying, hd]
theorem equalIn_map {k e : TypeId} (hd : P.underlying t = some (.map k e)) (b : Option Nat) : (Op.equalIn (d + 1) t (.map b) (.map none)).run P w = .ok b.isNone w := by
  rw [Op.equalIn]; cases b <;> simp [underlying, hd]
end
variable (hT : TOk P T)
include hT
theorem aeq_sound {t : TypeId} {x y : AV} {u v : Value} {b : Bool} (h : aeq T t x y = some b) (hx : VR ρ x u) (hy : VR ρ y v) :
    (binOp .eql t u v).run P w = .ok (.bool b) w ∧ (binOp .neq t u v).run P w = .ok (.bool !b) w ∧ (∀ cs, u ≠ .agg cs) ∧ u ≠ .nilIface := by
  unfold aeq at h
  split at h
  · cases h
  · rename_i s hs
    obtain ⟨i, d, z, hi, hd, hk, _⟩ := info_T hT hs
    rw [hk] at h
    split at h <;> first | (cases h; done) | (injection h with h; subst h)
    · rename_i a b e1; cases hx; cases hy
      have := TK.of_bool e1; subst this
      obtain ⟨e1, e2⟩ := eqlneq_of (P := P) (w := w) (t := t) (u := .bool a) (v := .bool b) rfl rfl (fun d => equalIn_bool d hd a b)
      exact ⟨e1, e2, by simp, by simp⟩
    · rename_i b e1; cases hx
      have := TK.of_ptr e1; subst this
      have : ∃ q, v = .pointer q ∧ q.isNone = b.isNone := by
        cases b with
        | none => cases hy; exact ⟨_, rfl, rfl⟩
        | some b => obtain ⟨i, _, rfl⟩ := hy; exact ⟨_, rfl, rfl⟩
      obtain ⟨q, rfl, hq⟩ := this
      obtain ⟨e1, e2⟩ := eqlneq_of (P := P) (w := w) (t := t) (u := .pointer none) (v := .pointer q) rfl rfl (fun d => equalIn_ptr1 d hd q)
      rw [hq] at e1 e2
      exact ⟨e1, e2, by simp, by simp⟩
    · rename_i a e1; obtain ⟨i, _, rfl⟩ := hx; cases hy
      have := TK.of_ptr e1; subst this
      obtain ⟨e1, e2⟩ := eqlneq_of (P := P) (w := w) (t := t) rfl rfl (fun d => equalIn_ptr2 d hd _)
      exact ⟨e1, e2, by simp, by simp⟩
    · rename_i e1; cases hx; cases hy
      have := TK.of_sl e1; subst this
      obtain ⟨e1, e2⟩ := eqlneq_of (P := P) (w := w) (t := t) rfl rfl (fun d => equalIn_sl1 d hd none 0 0)
      exact ⟨e1, e2, by simp, by simp⟩
    · rename_i a n c e1; cases hx
      have := TK.of_sl e1; subst this
      have : ∃ q n c, v = .slice (some q) n c := by
        cases c with
        | none => obtain ⟨i, c, o, _, rfl, _⟩ := hy; exact ⟨_, _, _, rfl⟩
        | some c => obtain ⟨i, o, _, rfl, _⟩ := hy; exact ⟨_, _, _, rfl⟩
      obtain ⟨q, n, c, rfl⟩ := this
      obtain ⟨e1, e2⟩ := eqlneq_of (P := P) (w := w) (t := t) rfl rfl (fun d => equalIn_sl1 d hd (some q) n c)
      exact ⟨e1, e2, by simp, by simp⟩
    · rename_i a n c e1; cases hy
      have := TK.of_sl e1; subst this
      have : ∃ q n c, u = .slice (some q) n c := by
        cases c with
        | none => obtain ⟨i, c, o, _, rfl, _⟩ := hx; exact ⟨_, _, _, rfl⟩
        | some c => obtain ⟨i, o, _, rfl, _⟩ := hx; exact ⟨_, _, _, rfl⟩
      obtain ⟨q, n, c, rfl⟩ := this
      obtain ⟨e1, e2⟩ := eqlneq_of (P := P) (w := w) (t := t) rfl rfl (fun d => equalIn_sl2 d hd q n c)
      exact ⟨e1, e2, by simp, by simp⟩
    · rename_i a e1; cases hy
      have := TK.of_map e1; subst this
      have : ∃ q, u = .map q ∧ q.isNone = a.isNone := by
        cases a with
        | none => cases hx; exact ⟨_, rfl, rfl⟩
        | some b => obtain ⟨i, _, rfl⟩ := hx; exact ⟨_, rfl, rfl⟩
      obtain ⟨q, rfl, hq⟩ := this
      obtain ⟨e1, e2⟩ := eqlneq_of (P := P) (w := w) (t := t) rfl rfl (fun d => equalIn_map d hd q)
      rw [hq] at e1 e2
      exact ⟨e1, e2, by simp, by simp⟩
    · rename_i e1; cases hx; cases hy
      simp [binOp, Op.stringOp]

theorem abin_sound {op : BinOp} {t : TypeId} {x y : AV} {ox oy : Operand} {u v : Value} {z : AV} (h : abin T op t x y = some z) (hx : VR ρ x u) (hy : VR ρ y v) :
    ∃ r, (do eqGuard op t ox oy u v; binOp op t u v : Sem Value).run P w = .ok r w ∧ VR ρ z r := by
  unfold abin at h
  split at h
  · rename_i k a k' b
    cases hx; cases hy
    have e1 := eqGuard_fine (P := P) (w := w) (op := op) (t := t) (x := ox) (y := oy) (a := .int k a) (b := .int k' b) (by simp) (by simp)
    split at h
    · rename_i hs
      obtain ⟨r, hr, hz⟩ := ashift_sound (P := P) (ρ := ρ) (w := w) (t := t) (k' := k') hs h
      exact ⟨r, by simp [e1, hr], hz⟩
    · rename_i hs
      split at h
      · rename_i hk; subst hk
        obtain ⟨r, hr, hz⟩ := aarith_sound (P := P) (ρ := ρ) (w := w) (t := t) (by simpa using hs) h
        exact ⟨r, by simp [e1, hr], hz⟩
      · cases h
  · split at h
    · split at h
      · rename_i b hb
        injection h with h; subst h
        obtain ⟨he, _, h1, h2⟩ := aeq_sound (w := w) hT hb hx hy
        have e1 := eqGuard_fine (P := P) (w := w) (op := .eql) (t := t) (x := ox) (y := oy) (a := u) (b := v) h1 h2
        exact ⟨.bool b, by simp [e1, he], rfl⟩
      · cases h
    · split at h
      · rename_i b hb
        injection h with h; subst h
        obtain ⟨_, he, h1, h2⟩ := aeq_sound (w := w) hT hb hx hy
        have e1 := eqGuard_fine (P := P) (w := w) (op := .neq) (t := t) (x := ox) (y := oy) (a := u) (b := v) h1 h2
        exact ⟨.bool !b, by simp [e1, he], rfl⟩
      · cases h
    · cases h
omit hT

theorem aun_sound {op : UnOp} {x : AV} {u : Value} {z : AV} (h : aun op x = some z) (hx : VR ρ x u) : ∃ r, (Op.unary op u).run P w = .ok r w ∧ VR ρ z r := by
  unfold aun at h
  simp only [wrapF_eq, bxor] at h
  split at h <;> first | (cases h; done) | (injection h with h; subst h; cases hx; refine ⟨_, ?_, rfl⟩; simp [Op.unary, Op.intArith, Op.intBits]; done)

def VPs (ρ : Rho) : List (Nat × AV) → List (Nat × Value) → Prop
  | [], q => q = []
  | (i, x) :: l, q => ∃ v q', q = (i, v) :: q' ∧ VR ρ x v ∧ VPs ρ l q'
theorem fill_sound {places : Nat → Option (Nat × Nat)} {parts : List (Nat × AV)} : ∀ {vparts : List (Nat × Value)} {cells : List AV} {vcells : Array Value} {out : List AV},
    VPs ρ parts vparts → VRs ρ cells vcells.toList → afill places cells parts = some out →
    ∃ vout, Instr.fill places vcells vparts = some vout ∧ VRs ρ out vout.toList := by
  induction parts with
  | nil =>
    intro vparts cells vcells out hp hc h
    cases hp
    simp only [afill, Option.some.injEq] at h; subst h
    exact ⟨vcells, rfl, hc⟩
  | cons p parts ih =>
    intro vparts cells vcells out hp hc h
    obtain ⟨i, x⟩ := p
    · obtain ⟨v, rest, rfl, hv, hrest⟩ := hp
      simp only [afill] at h
      cases hpl : places i with
      | none => rw [hpl] at h; cases h
      | some os =>
        obtain ⟨off, size⟩ := os
        rw [hpl] at h
        simp only [] at h
        split at h
        · cases h
        · rename_i hcond
          have hvc := hv.cells
          have hlen := hvc.len
          have hclen := hc.len
          simp only [not_or, Decidable.not_not, Nat.not_lt] at hcond
          have hsz : v.cells.size = x.cells.length := by simpa using hlen
          have hcs : vcells.size = cells.length := by simpa using hclen
          have key : ∀ (vs : List Value) (k : Nat) (cs : Array Value), off + k + vs.length ≤ cs.size →
              ((vs.zipIdx k).foldl (fun cs (c, j) => cs.setIfInBounds (off + j) c) cs).toList = cs.toList.take (off + k) ++ vs ++ cs.toList.drop (off + k + vs.length) := by
            intro vs
            induction vs with
            | nil => intro k cs hk; simp
            | cons c vs ih =>
              intro k cs hk
              simp only [List.length_cons] at hk
              simp only [List.zipIdx_cons, List.foldl_cons]
              rw [ih (k + 1) _ (by simp; omega)]
              have hb : off + k < cs.size := by omega
              simp only [Array.toList_setIfInBounds, List.length_cons]
              rw [List.take_set, List.drop_set]
              have : off + (k + 1) + vs.length = off + k + (vs.length + 1) := by omega
              rw [this, if_pos (by omega)]
              have h2 : off + (k + 1) = off + k + 1 := by omega
              rw [h2, List.take_succ_eq_append_getElem (by simpa using hb)]
              rw [List.set_append_right _ _ (by simp; omega)]
              have hm : min (off + k) cs.size = off + k := Nat.min_eq_left (by omega)
              simp [hm]
          have e2 : Array.foldl (fun cs (c, j) => cs.setIfInBounds (off + j) c) vcells v.cells.zipIdx = (vcells.toList.take off ++ v.cells.toList ++ vcells.toList.drop (off + v.cells.toList.length)).toArray := by
            apply Array.ext'
            rw [← Array.foldl_toList, Array.toList_zipIdx]
            have := key v.cells.toList 0 vcells (by simp; omega)
            simpa using this
          simp only [Instr.fill, hpl]
          rw [if_neg (by rw [hsz, hcs]; simp; exact ⟨hcond.1, hcond.2⟩)]
          refine ih hrest ?_ h
          have e3 := e2
          simp only [Nat.add_zero] at e3
          rw [e3]
          simp only [List.toList_toArray]
          unfold aput
          rw [hlen]
          exact ((hc.take off).append hvc).append (hc.drop _)
end
end Go.Ab
