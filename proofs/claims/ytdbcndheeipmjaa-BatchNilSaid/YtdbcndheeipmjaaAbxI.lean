/- The abstract layer, part I: every operation is right. -/
import Derived.Test.YtdbcndheeipmjaaAbxH
set_option linter.unusedVariables false
set_option linter.unusedSimpArgs false
namespace Go.Ab
section
variable {P : Program} {T : TT} {ρ : Rho} {lo : Nat} {H : AHeap} {w : World} (hT : TOk P T)

theorem abound_mono {c c' : Nat} {x : Option AV} {d n : Nat} (h : abound c x d = some n) (hc : c ≤ c') (hs : x.isSome = true) : abound c' x d = some n := by
  cases x with
  | none => cases hs
  | some x =>
    cases x <;> simp only [abound, reduceCtorEq] at h ⊢
    split at h
    · rename_i hb; rw [if_pos (by omega)]; exact h
    · cases h

include hT
theorem aslice_sound (h : HRel T ρ lo H w) {t : TypeId} {x z : AV} {v : Value} {lb hb mb : Option AV} {vl vh vm : Option Value} (hx : VR ρ x v) (h1 : VRO ρ lb vl) (h2 : VRO ρ hb vh) (h3 : VRO ρ mb vm)
    (hz : aslice T H t x lb hb mb = some z) : ∃ r, (Instr.sliceAt t v vl vh vm).run P w = .ok r w ∧ VR ρ z r := by
  unfold aslice at hz
  split at hz
  · cases hz
  rename_i ts hts
  obtain ⟨i, dd, zv, hi, hdd, hk, _⟩ := info_T hT hts
  rw [hk] at hz
  split at hz
  · -- a nil slice
    rename_i el e
    cases hx
    have := TK.of_sl e; subst this
    split at hz
    · rename_i hkn
      obtain ⟨se, hse, hee, hszr⟩ := known_T hT hkn
      split at hz
      · rename_i m hb0 hm
        split at hz
        · rename_i hh hhh
          split at hz
          · rename_i l hl
            injection hz with hz; subst hz
            have hnot : ¬ (mb.isSome = true ∧ hb.isNone = true) := by
              rintro ⟨q1, q2⟩; rw [q1, q2] at hb0; cases hb0
            obtain ⟨hr, hle, hhm, hm0⟩ := bounds_sound (P := P) (w := w) (isS := true) (len := 0) (cap := 0) h1 h2 h3 hnot hm hhh hl
            have hh0 : hh = 0 := by
              cases hb with
              | none => simp only [abound, Option.some.injEq] at hhh; omega
              | some y => have := hhm rfl; omega
            have hm00 : m = 0 := by omega
            have hl0 : l = 0 := by omega
            subst hm00; subst hh0; subst hl0
            refine ⟨.slice none 0 0, ?_, rfl⟩
            simp [Instr.sliceAt, Instr.slice, run_underlying hdd, hr, hszr]
          · cases hz
        · cases hz
      · cases hz
    · cases hz
  · -- a slice
    rename_i el a len cap e
    have := TK.of_sl e; subst this
    obtain ⟨bi, ad, cc, hbi, rfl, hex, ho0, hcapn, hgr⟩ := hx.slice
    split at hz
    · rename_i hkn
      obtain ⟨se, hse, hee, hszr⟩ := known_T hT hkn
      -- what is known of the capacity
      have lb_le : ∀ c, capLB T H el a cap = some c → c ≤ cc ∧ (∀ k0, cap = some k0 → c = cc) ∧ (cap = none → bi.esz = se.size ∧ 0 < se.size) := by
        intro c hc
        unfold capLB at hc
        cases cap with
        | some k0 =>
          simp only [Option.some.injEq] at hc; subst hc
          have := hex _ rfl; exact ⟨by omega, fun _ _ => this.symm, fun hk0 => by cases hk0⟩
        | none =>
          simp only [] at hc
          split at hc
          · rename_i cs el' k hg
            split at hc
            · cases hc
            · rename_i hsz
              simp only [not_or, Decidable.not_not] at hsz
              obtain ⟨hsz, rfl, rfl⟩ := hsz
              injection hc with hc; subst hc
              rw [hee] at hsz ⊢
              obtain ⟨i2, hi2, hb⟩ := h.dom _ _ hg
              rw [hbi] at hi2; injection hi2 with hi2; subst hi2
              obtain ⟨_, pre, c0, post, _, hp0, hc0, hkr⟩ := (BRel_rw (by simp)).1 hb
              obtain ⟨hsum, se0, hse0, hesz, _⟩ := hkr
              rw [hse] at hse0; injection hse0 with hse0; subst hse0
              have hcsz := hgr rfl
              rw [hesz] at hcsz
              have := hc0.len
              refine ⟨?_, (fun k0 hk0 => by cases hk0), fun _ => ⟨hesz, by omega⟩⟩
              exact (Nat.div_le_iff_le_mul_add_pred (by omega)).2 (by rw [Nat.mul_comm]; omega)
          · cases hc
      have run_of : ∀ (l hh m : Nat), (Instr.sliceBounds true len cc vl vh vm).run P w = .ok (l, hh, m) w →
          (Instr.sliceAt t (.slice (some ad) len cc) vl vh vm).run P w = .ok (.slice (some (if m = l then ad else ad.add (l * se.size))) (hh - l) (m - l)) w := by
        intro l hh m hr
        simp only [Instr.sliceAt, Instr.slice, Sem.run_bind, run_underlying hdd, Result.andThen, hr, hszr, Sem.run_pure]
        split <;> simp [addr_add]
      -- an exact result
      have exact_of : ∀ (l hh m : Nat), l ≤ hh → hh ≤ m → m ≤ cc →
          VR ρ (.sl (if m = l then a else a.add (l * sizeT T el)) (hh - l) (some (m - l))) (.slice (some (if m = l then ad else ad.add (l * se.size))) (hh - l) (m - l)) := by
        intro l hh m hlh hhm hmc
        by_cases hml : m = l
        · rw [if_pos hml, if_pos hml]
          exact ⟨bi, ad, hbi, rfl, by omega, .inl (by omega)⟩
        · rw [if_neg hml, if_neg hml, hee]
          refine ⟨bi, _, hbi, rfl, by omega, .inr ?_⟩
          have := ho0.resolve_left (by omega)
          subst this; rw [addr_add]; simp [AA.add, Nat.add_assoc]
      split at hz
      · rename_i y c hc
        obtain ⟨hle, heq, _⟩ := lb_le _ hc
        split at hz
        · cases hz
        · rename_i hhn
          split at hz
          · rename_i m hm
            split at hz
            · rename_i hh hhh
              split at hz
              · rename_i l hl
                injection hz with hz; subst hz
                have hm' := abound_mono hm hle rfl
                have hm2 : abound cc (some y) cc = some m := by
                  cases y <;> simp only [abound] at hm' ⊢ <;> exact hm'
                have hhh2 : abound m hb len = some hh := by
                  cases hb with
                  | none => simp at hhn
                  | some q => cases q <;> simp only [abound] at hhh ⊢ <;> exact hhh
                obtain ⟨hr, hlh, hhm, hmc⟩ := bounds_sound (P := P) (w := w) (isS := true) (len := len) (cap := cc) h1 h2 h3 (by simpa using hhn) hm2 hhh2 hl
                have hhm := hhm (by cases hb <;> simp at hhn ⊢)
                exact ⟨_, run_of _ _ _ hr, exact_of l hh m hlh hhm hmc⟩
              · cases hz
            · cases hz
          · cases hz
      · rename_i c hc
        obtain ⟨hle, heq, hnone⟩ := lb_le _ hc
        split at hz
        · rename_i hh hhh
          split at hz
          · rename_i l hl
            have hhh2 : abound cc hb len = some hh := by
              cases hb with
              | none => exact hhh
              | some q => exact abound_mono hhh hle rfl
            obtain ⟨hr, hlh, hhm, _⟩ := bounds_sound (P := P) (w := w) (isS := true) (len := len) (cap := cc) h1 h2 h3 (by simp) (m := cc) rfl hhh2 hl
            have hhm : hh ≤ cc := by
              cases hb with
              | none => simp only [abound, Option.some.injEq] at hhh; omega
              | some q => exact hhm rfl
            split at hz
            · rename_i k0
              injection hz with hz; subst hz
              have hk0 := hex k0 rfl
              subst hk0
              exact ⟨_, run_of _ _ _ hr, exact_of l hh _ hlh hhm (Nat.le_refl _)⟩
            · split at hz
              · rename_i hhc
                injection hz with hz; subst hz
                obtain ⟨hesz, hpos⟩ := hnone rfl
                refine ⟨_, run_of _ _ _ hr, ?_⟩
                have hcsz := hgr rfl
                have hmul : (cc - l) * bi.esz + l * bi.esz = cc * bi.esz := by rw [← Nat.add_mul]; congr 1; omega
                by_cases hml : cc = l
                · rw [if_pos hml]
                  refine ⟨bi, cc - l, ad, hbi, rfl, by omega, ?_, .inl (by omega)⟩
                  rw [hee, ← hesz]; simp only [AA.add]; omega
                · rw [if_neg hml]
                  refine ⟨bi, cc - l, _, hbi, rfl, by omega, ?_, .inr ?_⟩
                  · rw [hee, ← hesz]; simp only [AA.add]; omega
                  · have := ho0.resolve_left (by omega)
                    subst this; rw [addr_add, hee]; simp [AA.add, Nat.add_assoc]
              · cases hz
          · cases hz
        · cases hz
      · cases hz
    · cases hz
  · -- an array behind a pointer
    rename_i n el a e
    have := TK.of_arr e; subst this
    obtain ⟨bi, hbi, rfl⟩ := hx
    split at hz
    · rename_i hkn
      obtain ⟨se, hse, hee, hszr⟩ := known_T hT hkn
      split at hz
      · cases hz
      · split at hz
        · rename_i hh hhh
          split at hz
          · rename_i l hl
            injection hz with hz; subst hz
            obtain ⟨hr, hlh, hhm, _⟩ := bounds_sound (P := P) (w := w) (isS := false) (len := n) (cap := n) h1 h2 h3 (by simp) (m := n) rfl hhh hl
            have hhm : hh ≤ n := by
              cases hb with
              | none => simp only [abound, Option.some.injEq] at hhh; omega
              | some q => exact hhm rfl
            refine ⟨.slice (some (if n = l then ⟨bi.b, bi.s + a.off, none⟩ else ⟨bi.b, bi.s + a.off + l * se.size, none⟩)) (hh - l) (n - l), ?_, ?_⟩
            · simp only [Instr.sliceAt, Sem.run_bind, run_underlying hdd, Result.andThen, Instr.sureAddr, Sem.run_pure, hr, hszr]
              split <;> simp [addr_add]
            · by_cases hml : n = l
              · rw [if_pos hml, if_pos hml]
                exact ⟨bi, _, hbi, rfl, by omega, .inr rfl⟩
              · rw [if_neg hml, if_neg hml, hee]
                exact ⟨bi, _, hbi, rfl, by omega, .inr (by simp [AA.add, Nat.add_assoc])⟩
          · cases hz
        · cases hz
    · cases hz
  · cases hz

/-- What an operation's run comes to. -/
def OpTo (P : Program) (T : TT) (ρ : Rho) (lo : Nat) (H : AHeap) (w : World) (s : Sem Next) (z : AV) (H' : AHeap) : Prop :=
  ∃ ρ' v w', (s.run P w = .ok (.value v) w' ∨ (s.run P w = .ok .skip w' ∧ v = undef)) ∧ VR ρ' z v ∧ HRel T ρ' lo H' w' ∧ Step ρ H w ρ' H' w'

omit hT in
theorem evOO_sound {n : Nat} {e : Env} {a : Act} (he : ERel ρ n e a.tmps) {x : Option Operand} {y : Option AV} (h : evOO e x = some y) : VRO ρ y (x.map a.eval) := by
  cases x with
  | none => simp only [evOO, Option.some.injEq] at h; subst h; rfl
  | some x =>
    simp only [evOO] at h
    split at h
    · rename_i z hz
      injection h with h; subst h
      exact ⟨_, rfl, he.ev hz⟩
    · cases h
omit hT in
theorem ORes.of_val {x : Option (AV × AHeap)} {z : AV} {H' : AHeap} (h : ORes.of x = .val z H') : x = some (z, H') := by
  cases x with
  | none => cases h
  | some p => obtain ⟨a, b⟩ := p; injection h with h1 h2; subst h1; subst h2; rfl
omit hT in
theorem ORes.of_call {x : Option (AV × AHeap)} {f : FuncId} {l : List AV} : ORes.of x ≠ .call f l := by
  cases x <;> simp [ORes.of]

theorem aMem_sound (h : HRel T ρ lo H w) {n : Nat} {e : Env} {a : Act} {o : Oper} {z : AV} {H' : AHeap} (he : ERel ρ n e a.tmps) (hz : aMem T e H o.op = .val z H') :
    OpTo P T ρ lo H w (execOp a.eval o) z H' := by
  obtain ⟨dst, op, ty, pos, after, guard⟩ := o
  simp only [] at hz
  cases op <;> simp only [aMem] at hz <;> first | (cases hz; done) | skip
  case alloc el =>
    split at hz
    · rename_i s hs
      injection hz with h1 h2; subst h1; subst h2
      obtain ⟨zv, hzv, hzz⟩ := run_zeroValue_T hT hs
      obtain ⟨ρ', w', hrun, hρ, hh, hst⟩ := newRow_sound (P := P) h (hzz ρ) el
      exact ⟨ρ', _, w', .inl (by simp [execOp, Instr.alloc, hzv, newVar, hrun]), ⟨_, hρ, rfl⟩, hh, hst⟩
    · cases hz
  case box el x =>
    split at hz
    · rename_i v hv
      injection hz with h1 h2; subst h1; subst h2
      obtain ⟨ρ', w', hrun, hρ, hh, hst⟩ := newRow_sound (P := P) h (he.ev hv).cells el
      exact ⟨ρ', _, w', .inl (by simp [execOp, Instr.box, newVar, hrun]), ⟨_, hρ, rfl⟩, hh, hst⟩
    · cases hz
  case buildSlice t len ps =>
    split at hz
    · rename_i l hl
      obtain ⟨ρ', r, w', hrun, hr, hh, hst⟩ := abuildSlice_sound hT h (aparts_sound he hl) (ORes.of_val hz)
      have : (ps.map fun (i, x) => (i, a.eval x)) = ⟨ps.toList.map fun (i, x) => (i, a.eval x)⟩ := by apply Array.ext'; simp
      exact ⟨ρ', r, w', .inl (by simp [execOp, this, hrun]), hr, hh, hst⟩
    · cases hz
  case load t x =>
    split at hz
    · rename_i q hq
      split at hz
      · rename_i v hv
        injection hz with h1 h2; subst h1; subst h2
        obtain ⟨i, hi, hx⟩ := he.ev hq
        obtain ⟨r, hr, hrr⟩ := aload_sound hT h hi hv
        exact ⟨ρ, r, w, .inl (by simp [execOp, Instr.loadAt, hx, Instr.sureAddr, hr]), hrr, h, Step.refl _ _ _⟩
      · cases hz
    · cases hz
  case store t x y =>
    split at hz
    · rename_i q v hq hv
      split at hz
      · rename_i H2 hH2
        injection hz with h1 h2; subst h1; subst h2
        obtain ⟨i, hi, hx⟩ := he.ev hq
        obtain ⟨w', hr, hh, hst⟩ := astore_sound hT h hi (he.ev hv) hH2
        exact ⟨ρ, undef, w', .inr ⟨by simp [execOp, Instr.storeAt, hx, Instr.sureAddr, hr], rfl⟩, ⟨[], rfl, rfl⟩, hh, hst⟩
      · cases hz
    · cases hz
  case makeSlice t l c =>
    split at hz
    · rename_i p q hp hq
      obtain ⟨ρ', r, w', hrun, hr, hh, hst⟩ := amake_sound hT h (he.ev hp) (he.ev hq) (ORes.of_val hz)
      exact ⟨ρ', r, w', .inl (by simp [execOp, hrun]), hr, hh, hst⟩
    · cases hz
  case slice t x l hi mx =>
    split at hz
    · rename_i p ql qh qm hp hql hqh hqm
      split at hz
      · rename_i v hv
        injection hz with h1 h2; subst h1; subst h2
        obtain ⟨r, hr, hrr⟩ := aslice_sound hT h (he.ev hp) (evOO_sound he hql) (evOO_sound he hqh) (evOO_sound he hqm) hv
        exact ⟨ρ, r, w, .inl (by simp [execOp, hr]), hrr, h, Step.refl _ _ _⟩
      · cases hz
    · cases hz
  case call c =>
    obtain ⟨callee, ⟨args⟩, ⟨argTypes⟩⟩ := c
    rcases callee with f | ⟨rr, m⟩ | b
    · simp only [] at hz
      split at hz <;> cases hz
    · cases hz
    · cases b <;> first | (cases hz; done) | skip
      · simp only [] at hz
        split at hz
        · rename_i _ _ x y t t'
          split at hz
          · rename_i p q hp hq
            have hv := ORes.of_val hz
            unfold aappendAny at hv
            split at hv
            · obtain ⟨ρ', r, w', hrun, hr, hh, hst⟩ := aappendZ_sound (ty := ty) hT h (he.ev hp) (he.ev hq) hv
              exact ⟨ρ', r, w', .inl (by simp [execOp, resolve, invoke, builtin, hrun]), hr, hh, hst⟩
            · obtain ⟨ρ', r, w', hrun, hr, hh, hst⟩ := aappend_sound (ty := ty) hT h (he.ev hp) (he.ev hq) hv
              exact ⟨ρ', r, w', .inl (by simp [execOp, resolve, invoke, builtin, hrun]), hr, hh, hst⟩
          · cases hz
        · cases hz
      · simp only [] at hz
        split at hz
        · rename_i _ _ x t tl
          split at hz
          · rename_i p hp
            obtain ⟨r, w', hrun, hr, hh, hst⟩ := aclear_sound (ty := ty) (ats := ⟨t :: tl⟩) hT h rfl (he.ev hp) (ORes.of_val hz)
            exact ⟨ρ, r, w', .inl (by simp [execOp, resolve, invoke, builtin, hrun]), hr, hh, hst⟩
          · cases hz
        · cases hz
      · simp only [] at hz
        split at hz
        · rename_i _ _ x y t tl
          split at hz
          · rename_i p q hp hq
            obtain ⟨r, w', hrun, hr, hh, hst⟩ := acopy_sound (ty := ty) (ats := ⟨t :: tl⟩) hT h rfl (he.ev hp) (he.ev hq) (ORes.of_val hz)
            exact ⟨ρ, r, w', .inl (by simp [execOp, resolve, invoke, builtin, hrun]), hr, hh, hst⟩
          · cases hz
        · cases hz
end
end Go.Ab
