/- The abstract layer, part D: each operation on variables alone. -/
import Derived.Test.YtdbcndheeipmjaaAbxC
set_option linter.unusedVariables false
set_option linter.unusedSimpArgs false
namespace Go.Ab
section
variable {P : Program} {T : TT} {ρ : Rho} {w : World} (hT : TOk P T)
include hT

theorem known_T {t : TypeId} (h : known T t = true) : ∃ s, T t = some s ∧ sizeT T t = s.size ∧ ∀ w, (sizeOf t).run P w = .ok s.size w := by
  unfold known at h
  cases e : T t with
  | none => rw [e] at h; cases h
  | some s => exact ⟨s, rfl, by simp [sizeT, e], fun w => run_sizeOf_T hT e⟩

theorem apart_sound {t : TypeId} {cs : List AV} {vs : List Value} {off : Nat} {z : AV} (h : apart T t cs off = some z) (hc : VRs ρ cs vs) :
    ∃ v, (part t ⟨vs⟩ off).run P w = .ok v w ∧ VR ρ z v := by
  unfold apart at h
  split at h
  · cases h
  · rename_i s hs
    have h1 := run_isAgg_T (w := w) hT hs
    have h2 := run_sizeOf_T (w := w) hT hs
    split at h
    · rename_i ha
      injection h with h; subst h
      refine ⟨.agg ((⟨vs⟩ : Array Value).extract off (off + s.size)), by simp [part, h1, h2, ha], ⟨_, rfl, ?_⟩⟩
      have : ((⟨vs⟩ : Array Value).extract off (off + s.size)).toList = (vs.drop off).take s.size := by
        simp [List.drop_take]
      show VRs ρ _ ((⟨vs⟩ : Array Value).extract off (off + s.size)).toList
      rw [this]
      exact (hc.drop off).take s.size
    · rename_i ha
      obtain ⟨v, hv, hr⟩ := hc.get h
      exact ⟨v, by simp [part, h1, ha, hv], hr⟩

theorem places_run {fs : Array Field} (h : (fs.toList.map fun f => (f.offset, f.type)).all (fun f => known T f.2) = true) (w : World) :
    (fs.mapM (m := Sem) fun f => do pure (f.offset, ← sizeOf f.type)).run P w = .ok (fs.map fun f => (f.offset, sizeT T f.type)) w := by
  obtain ⟨l⟩ := fs
  simp only [List.mapM_toArray, Sem.run_map]
  have : ∀ l : List Field, ((l.map fun f => (f.offset, f.type)).all fun f => known T f.2) = true → (l.mapM (m := Sem) fun f => do pure (f.offset, ← sizeOf f.type)).run P w = .ok (l.map fun f => (f.offset, sizeT T f.type)) w := by
    intro l
    induction l with
    | nil => intro _; simp
    | cons f l ih =>
      intro h
      simp only [List.map_cons, List.all_cons, Bool.and_eq_true] at h
      obtain ⟨s, hs, he, hr⟩ := known_T hT h.1
      have ih' := ih h.2
      simp only [bind_pure_comp] at ih'
      simp [hr, ih', he]
  have := this l (by simpa using h)
  simp only [bind_pure_comp] at this ⊢
  simp [this]

theorem abuild_sound {t : TypeId} {parts : List (Nat × AV)} {vparts : List (Nat × Value)} {z : AV} (h : abuild T t parts = some z) (hp : VPs ρ parts vparts) :
    ∃ v, (Instr.build t ⟨vparts⟩).run P w = .ok v w ∧ VR ρ z v := by
  unfold abuild at h
  split at h
  · cases h
  · rename_i s hs
    obtain ⟨i, d, zv, hi, hd, hk, hsz, hby, hz, hzz⟩ := info_T hT hs
    have hzr : ∀ w, (zeroValue t).run P w = .ok zv w := fun w => by simp [zeroValue, typeInfo, hi, hz]
    split at h
    · rename_i fs e
      rw [hk] at e
      obtain ⟨fa, rfl, rfl⟩ := TK.of_st e
      split at h
      · rename_i hall
        have hpl := places_run hT hall w
        simp only [bind_pure_comp] at hpl
        split at h
        · rename_i cs hcs
          injection h with h; subst h
          have hplace : aplaces T (fa.toList.map fun f => (f.offset, f.type)) = ((fa.map fun f => (f.offset, sizeT T f.type))[·]?) := by
            funext i
            simp only [aplaces, List.getElem?_map, Array.getElem?_map, Array.getElem?_toList]
            cases fa[i]? <;> simp
          rw [hplace] at hcs
          obtain ⟨vout, hv, hr⟩ := fill_sound hp (hzz ρ) hcs
          refine ⟨.agg vout, ?_, ⟨vout.toList, by simp, hr⟩⟩
          simp only [Instr.build, Sem.run_bind, hzr, Result.andThen, underlying, Sem.run_pure, run_program, hd, hpl, bind_pure_comp]
          simp only [Array.getElem?_map] at hv
          simp [hv]
        · cases h
      · cases h
    · rename_i n el e
      rw [hk] at e
      have := TK.of_arr e; subst this
      split at h
      · rename_i hkn
        obtain ⟨se, hse, hee, hr⟩ := known_T hT hkn
        split at h
        · rename_i cs hcs
          injection h with h; subst h
          rw [hee] at hcs
          obtain ⟨vout, hv, hr'⟩ := fill_sound hp (hzz ρ) hcs
          refine ⟨.agg vout, ?_, ⟨vout.toList, by simp, hr'⟩⟩
          simp [Instr.build, hzr, underlying, hd, hr, hv]
        · cases h
      · cases h
    · cases h

theorem afield_sound {t : TypeId} {x : AV} {u : Value} {f : Nat} {z : AV} (h : afield T t x f = some z) (hx : VR ρ x u) :
    ∃ v, (Instr.field t u f).run P w = .ok v w ∧ VR ρ z v := by
  unfold afield at h
  split at h
  · rename_i s cs hs
    obtain ⟨i, d, zv, hi, hd, hk, _⟩ := info_T hT hs
    obtain ⟨vs, rfl, hc⟩ := hx
    split at h
    · rename_i fs e
      rw [hk] at e
      obtain ⟨fa, rfl, rfl⟩ := TK.of_st e
      split at h
      · rename_i off ft hf
        simp only [List.getElem?_map, Array.getElem?_toList, Option.map_eq_some_iff, Prod.mk.injEq] at hf
        obtain ⟨fd, hfd, rfl, rfl⟩ := hf
        obtain ⟨v, hv, hr⟩ := apart_sound (w := w) hT h hc
        exact ⟨v, by simp [Instr.field, underlying, hd, hfd, asAgg, hv], hr⟩
      · cases h
    · cases h
  · cases h

theorem aindex_sound {t : TypeId} {x y : AV} {u v : Value} {z : AV} (h : aindex T t x y = some z) (hx : VR ρ x u) (hy : VR ρ y v) :
    ∃ r, (Instr.index t u v).run P w = .ok r w ∧ VR ρ z r := by
  unfold aindex at h
  split at h
  · rename_i s cs k n hs
    obtain ⟨i, d, zv, hi, hd, hk, _⟩ := info_T hT hs
    obtain ⟨vs, rfl, hc⟩ := hx
    cases hy
    split at h
    · rename_i len el e
      rw [hk] at e
      have := TK.of_arr e; subst this
      split at h
      · rename_i hb
        split at h
        · rename_i hkn
          obtain ⟨se, hse, hee, hr⟩ := known_T hT hkn
          rw [hee] at h
          obtain ⟨r, hrr, hz⟩ := apart_sound (w := w) hT h hc
          exact ⟨r, by simp [Instr.index, asIntOf, underlying, hd, hb, hr, hrr], hz⟩
        · cases h
      · cases h
    · cases h
  · cases h

theorem afieldAddr_sound {t : TypeId} {x : AV} {u : Value} {f : Nat} {z : AV} (h : afieldAddr T t x f = some z) (hx : VR ρ x u) :
    ∃ v, (Instr.fieldAt t u f).run P w = .ok v w ∧ VR ρ z v := by
  unfold afieldAddr at h
  split at h
  · rename_i s a hs
    obtain ⟨i, d, zv, hi, hd, hk, _⟩ := info_T hT hs
    obtain ⟨bi, hbi, rfl⟩ := hx
    split at h
    · rename_i fs e
      rw [hk] at e
      obtain ⟨fa, rfl, rfl⟩ := TK.of_st e
      split at h
      · rename_i off ft hf
        simp only [List.getElem?_map, Array.getElem?_toList, Option.map_eq_some_iff, Prod.mk.injEq] at hf
        obtain ⟨fd, hfd, rfl, rfl⟩ := hf
        split at h
        · cases h
        · rename_i hne
          injection h with h; subst h
          have hkn : known T fd.type = true := by
            unfold known; cases e : T fd.type with
            | none => simp [sizeT, e] at hne
            | some s => rfl
          obtain ⟨se, hse, hee, hr⟩ := known_T hT hkn
          have hne' : ¬ se.size = 0 := by rw [← hee]; exact hne
          have hadd : (⟨bi.b, bi.s + a.off, none⟩ : Addr).add fd.offset = ⟨bi.b, bi.s + (a.add fd.offset).off, none⟩ := by
            unfold Addr.add AA.add; split
            · simp_all
            · simp [Nat.add_assoc]
          exact ⟨_, by simp [Instr.fieldAt, underlying, hd, hfd, Instr.sureAddr, fieldPlace, hr, hne']; rfl, ⟨bi, hbi, by rw [hadd]⟩⟩
      · cases h
    · cases h
  · cases h

theorem aindexAddr_sound {t : TypeId} {x y : AV} {u v : Value} {z : AV} (h : aindexAddr T t x y = some z) (hx : VR ρ x u) (hy : VR ρ y v) :
    ∃ r, (Instr.indexAt t u v).run P w = .ok r w ∧ VR ρ z r := by
  have hadd : ∀ (bi : BI) (a : AA) (n : Nat), (⟨bi.b, bi.s + a.off, none⟩ : Addr).add n = ⟨bi.b, bi.s + (a.add n).off, none⟩ := by
    intro bi a n
    unfold Addr.add AA.add; split
    · simp_all
    · simp [Nat.add_assoc]
  unfold aindexAddr at h
  split at h
  · rename_i s a k n hs
    obtain ⟨i, d, zv, hi, hd, hk, _⟩ := info_T hT hs
    obtain ⟨bi, hbi, rfl⟩ := hx
    cases hy
    split at h
    · rename_i len el e
      rw [hk] at e
      have := TK.of_arr e; subst this
      split at h
      · rename_i hkn
        obtain ⟨se, hse, hee, hr⟩ := known_T hT hkn
        split at h
        · rename_i hb
          injection h with h; subst h
          rw [hee]
          exact ⟨_, by simp [Instr.indexAt, asIntOf, underlying, hd, Instr.sureAddr, hb, hr]; rfl, ⟨bi, hbi, by rw [hadd]⟩⟩
        · cases h
      · cases h
    · cases h
  · rename_i s a len cap k n hs
    obtain ⟨i, d, zv, hi, hd, hk, _⟩ := info_T hT hs
    cases hy
    split at h
    · rename_i el e
      rw [hk] at e
      have := TK.of_sl e; subst this
      split at h
      · rename_i hkn
        obtain ⟨se, hse, hee, hr⟩ := known_T hT hkn
        split at h
        · rename_i hb
          injection h with h; subst h
          rw [hee]
          have hu : ∃ bi c, ρ a.blk = some bi ∧ u = .slice (some ⟨bi.b, bi.s + a.off, none⟩) len c := by
            cases cap with
            | some c =>
              obtain ⟨bi, o, hbi, rfl, hlc, ho⟩ := hx
              rcases ho with rfl | rfl
              · omega
              · exact ⟨bi, _, hbi, rfl⟩
            | none =>
              obtain ⟨bi, c, o, hbi, rfl, hlc, _, ho⟩ := hx
              rcases ho with rfl | rfl
              · omega
              · exact ⟨bi, _, hbi, rfl⟩
          obtain ⟨bi, c, hbi, rfl⟩ := hu
          exact ⟨_, by simp [Instr.indexAt, asIntOf, underlying, hd, Instr.sureAddr, hb, hr]; rfl, ⟨bi, hbi, by rw [hadd]⟩⟩
        · cases h
      · cases h
    · cases h
  · cases h

theorem aconv_sound {s t : TypeId} {x : AV} {u : Value} {z : AV} (h : aconv T s t x = some z) (hx : VR ρ x u) :
    ∃ v, (convert s t u).run P w = .ok v w ∧ VR ρ z v := by
  unfold aconv at h
  split at h
  · rename_i ss st hs ht
    obtain ⟨i, d, zv, hi, hd, hk, _⟩ := info_T hT hs
    obtain ⟨i', d', zv', hi', hd', hk', _⟩ := info_T hT ht
    split at h
    · rename_i k k' n e
      injection h with h; subst h; cases hx
      rw [wrapF_eq]
      rw [hk'] at e
      have := TK.of_int e; subst this
      refine ⟨_, ?_, rfl⟩
      simp [convert, underlying, hd, hd', Conv.intToInt]
    · cases h
  · cases h

theorem alen_sound {t ty : TypeId} {x : AV} {u : Value} {z : AV} (h : alen T t x = some z) (hx : VR ρ x u) :
    ∃ v, (Builtin.len_ #[t] ty #[u]).run P w = .ok v w ∧ VR ρ z v := by
  unfold alen at h
  split at h
  · cases h
  · rename_i s hs
    obtain ⟨i, d, zv, hi, hd, hk, _⟩ := info_T hT hs
    rw [hk] at h
    split at h <;> first | (cases h; done) | (injection h with h; subst h)
    · rename_i el a n c e
      have := TK.of_sl e; subst this
      have hu : ∃ q c, u = .slice q n c := by
        cases c with
        | some c => obtain ⟨bi, o, hbi, rfl, _⟩ := hx; exact ⟨_, _, rfl⟩
        | none => obtain ⟨bi, c, o, hbi, rfl, _⟩ := hx; exact ⟨_, _, rfl⟩
      obtain ⟨q, c, rfl⟩ := hu
      exact ⟨_, by simp [Builtin.len_, underlying, hd]; rfl, rfl⟩
    · rename_i el e; cases hx
      have := TK.of_sl e; subst this
      exact ⟨_, by simp [Builtin.len_, underlying, hd]; rfl, rfl⟩
    · rename_i n el e
      have := TK.of_arr e; subst this
      exact ⟨_, by simp [Builtin.len_, underlying, hd]; rfl, rfl⟩
    · rename_i b e; cases hx
      have := TK.of_str e; subst this
      exact ⟨_, by simp [Builtin.len_, underlying, hd]; rfl, rfl⟩
    · rename_i k el e; cases hx
      have := TK.of_map e; subst this
      exact ⟨_, by simp [Builtin.len_, underlying, hd]; rfl, rfl⟩
omit hT

include hT in
theorem acap_sound {t ty : TypeId} {x : AV} {u : Value} {z : AV} (h : acap T t x = some z) (hx : VR ρ x u) :
    ∃ v, (Builtin.cap_ #[t] ty #[u]).run P w = .ok v w ∧ VR ρ z v := by
  unfold acap at h
  split at h
  · cases h
  · rename_i s hs
    obtain ⟨i, d, zv, hi, hd, hk, _⟩ := info_T hT hs
    rw [hk] at h
    split at h <;> first | (cases h; done) | (injection h with h; subst h)
    · rename_i el a n c e
      have := TK.of_sl e; subst this
      obtain ⟨bi, o, hbi, rfl, _⟩ := hx
      exact ⟨_, by simp [Builtin.cap_, underlying, hd]; rfl, rfl⟩
    · rename_i el e; cases hx
      have := TK.of_sl e; subst this
      exact ⟨_, by simp [Builtin.cap_, underlying, hd]; rfl, rfl⟩

theorem afold_sound {f : AV → AV → Option AV} {g : Value → Value → Sem Value} (hfg : ∀ {x y : AV} {u v : Value} {z : AV}, f x y = some z → VR ρ x u → VR ρ y v → ∃ r, (g u v).run P w = .ok r w ∧ VR ρ z r) :
    ∀ {l : List AV} {vs : List Value} {x : AV} {u : Value} {z : AV}, afold f x l = some z → VR ρ x u → VRs ρ l vs → ∃ r, (vs.foldlM g u).run P w = .ok r w ∧ VR ρ z r
  | [], _, x, u, z, h, hx, hl => by
    rw [VRs_nil] at hl; subst hl
    simp only [afold, Option.some.injEq] at h; subst h
    exact ⟨u, by simp, hx⟩
  | y :: l, _, x, u, z, h, hx, hl => by
    obtain ⟨v, vs', rfl, h1, h2⟩ := hl
    simp only [afold] at h
    split at h
    · rename_i z' hz'
      obtain ⟨r, hr, hrr⟩ := hfg hz' hx h1
      obtain ⟨r', hr', hz⟩ := afold_sound hfg h hrr h2
      exact ⟨r', by simp [hr, hr'], hz⟩
    · cases h
theorem amin2_sound {x y : AV} {u v : Value} {z : AV} (h : amin2 x y = some z) (hx : VR ρ x u) (hy : VR ρ y v) : ∃ r, (Builtin.min2 u v).run P w = .ok r w ∧ VR ρ z r := by
  unfold amin2 at h
  split at h
  · injection h with h; subst h; cases hx; cases hy; exact ⟨_, rfl, rfl⟩
  · cases h
theorem amax2_sound {x y : AV} {u v : Value} {z : AV} (h : amax2 x y = some z) (hx : VR ρ x u) (hy : VR ρ y v) : ∃ r, (Builtin.max2 u v).run P w = .ok r w ∧ VR ρ z r := by
  unfold amax2 at h
  split at h
  · injection h with h; subst h; cases hx; cases hy; exact ⟨_, rfl, rfl⟩
  · cases h

theorem aparts_sound {n : Nat} {e : Env} {a : Act} (he : ERel ρ n e a.tmps) : ∀ {ps : List (Nat × Operand)} {l : List (Nat × AV)}, aparts e ps = some l → VPs ρ l (ps.map fun (i, x) => (i, a.eval x))
  | [], l, h => by simp only [aparts, Option.some.injEq] at h; subst h; rfl
  | (i, x) :: ps, l, h => by
    simp only [aparts] at h
    split at h
    · rename_i y l' hy hl'
      injection h with h; subst h
      exact ⟨_, _, rfl, he.ev hy, aparts_sound he hl'⟩
    · cases h
include hT

theorem aPure_sound {n : Nat} {e : Env} {a : Act} {o : Oper} {z : AV} (he : ERel ρ n e a.tmps) (h : aPure T e o.op = some z) :
    ∃ v, (execOp a.eval o).run P w = .ok (.value v) w ∧ VR ρ z v := by
  obtain ⟨dst, op, ty, pos, after, guard⟩ := o
  simp only [] at h
  cases op <;> simp only [aPure] at h <;> first | (cases h; done) | skip
  case move x => exact ⟨_, rfl, he.ev h⟩
  case assign x => exact ⟨_, rfl, he.ev h⟩
  case pick c x y =>
    split at h
    · rename_i hc
      have hcv : a.eval c = .bool true := he.ev hc
      exact ⟨_, by simp [execOp, hcv, asBool], he.ev h⟩
    · rename_i hc
      have hcv : a.eval c = .bool false := he.ev hc
      exact ⟨_, by simp [execOp, hcv, asBool], he.ev h⟩
    · cases h
  case nilCheck x =>
    split at h
    · rename_i q hq
      injection h with h; subst h
      obtain ⟨i, hi, hv⟩ := he.ev hq
      exact ⟨_, by simp only [execOp, hv]; rfl, ⟨i, hi, rfl⟩⟩
    · rename_i f u v hq
      injection h with h; subst h
      obtain ⟨vf, vc, hv, h1, h2⟩ := he.ev hq
      exact ⟨_, by simp only [execOp, hv]; rfl, ⟨vf, vc, rfl, h1, h2⟩⟩
    · cases h
  case binOp op t x y t' =>
    split at h
    · rename_i p q hp hq
      obtain ⟨r, hr, hz⟩ := abin_sound (w := w) (ox := x) (oy := y) hT h (he.ev hp) (he.ev hq)
      refine ⟨r, ?_, hz⟩
      show Sem.run P (do let z ← (do eqGuard op t x y (a.eval x) (a.eval y); binOp op t (a.eval x) (a.eval y) : Sem Value); pure (Next.value z)) w = _
      rw [Sem.run_bind, hr]; rfl
    · cases h
  case unOp op t x =>
    split at h
    · rename_i p hp
      obtain ⟨r, hr, hz⟩ := aun_sound (P := P) (w := w) h (he.ev hp)
      exact ⟨r, by simp [execOp, hr], hz⟩
    · cases h
  case convert s t x =>
    split at h
    · rename_i p hp
      obtain ⟨r, hr, hz⟩ := aconv_sound (w := w) hT h (he.ev hp)
      exact ⟨r, by simp [execOp, hr], hz⟩
    · cases h
  case makeFunc f first caps =>
    split at h
    · rename_i p q hp hq
      injection h with h; subst h
      have h1 := he.evs hp
      have h2 := he.evs hq
      exact ⟨_, by simp only [execOp, Instr.makeFunc]; rfl, ⟨_, _, by simp [← Array.toList_map], h1, h2⟩⟩
    · cases h
  case build t ps =>
    split at h
    · rename_i l hl
      obtain ⟨r, hr, hz⟩ := abuild_sound (w := w) hT h (aparts_sound he hl)
      have : (ps.map fun (i, x) => (i, a.eval x)) = ⟨ps.toList.map fun (i, x) => (i, a.eval x)⟩ := by apply Array.ext'; simp
      exact ⟨r, by simp [execOp, this, hr], hz⟩
    · cases h
  case field t x f =>
    split at h
    · rename_i p hp
      obtain ⟨r, hr, hz⟩ := afield_sound (w := w) hT h (he.ev hp)
      exact ⟨r, by simp [execOp, hr], hz⟩
    · cases h
  case index t x i =>
    split at h
    · rename_i p q hp hq
      obtain ⟨r, hr, hz⟩ := aindex_sound (w := w) hT h (he.ev hp) (he.ev hq)
      exact ⟨r, by simp [execOp, hr], hz⟩
    · cases h
  case extract x i =>
    split at h
    · rename_i p hp
      unfold aextract at h
      split at h
      · rename_i vs
        obtain ⟨us, hu, hvs⟩ := he.ev hp
        obtain ⟨r, hr, hz⟩ := hvs.get h
        exact ⟨r, by simp [execOp, Instr.extract, hu, hr], hz⟩
      · cases h
    · cases h
  case fieldAddr t x f =>
    split at h
    · rename_i p hp
      obtain ⟨r, hr, hz⟩ := afieldAddr_sound (w := w) hT h (he.ev hp)
      exact ⟨r, by simp [execOp, hr], hz⟩
    · cases h
  case indexAddr t x i =>
    split at h
    · rename_i p q hp hq
      obtain ⟨r, hr, hz⟩ := aindexAddr_sound (w := w) hT h (he.ev hp) (he.ev hq)
      exact ⟨r, by simp [execOp, hr], hz⟩
    · cases h
  case call c =>
    obtain ⟨callee, ⟨args⟩, ⟨argTypes⟩⟩ := c
    rcases callee with f | ⟨rr, m⟩ | b
    · cases h
    · cases h
    · cases b <;> first | (cases h; done) | skip
      · simp only [] at h
        split at h
        · rename_i _ _ x t
          split at h
          · rename_i p hp
            obtain ⟨r, hr, hz⟩ := acap_sound (w := w) (ty := ty) hT h (he.ev hp)
            exact ⟨r, by simp [execOp, resolve, invoke, builtin, hr], hz⟩
          · cases h
        · cases h
      · simp only [] at h
        split at h
        · rename_i _ _ x t
          split at h
          · rename_i p hp
            obtain ⟨r, hr, hz⟩ := alen_sound (w := w) (ty := ty) hT h (he.ev hp)
            exact ⟨r, by simp [execOp, resolve, invoke, builtin, hr], hz⟩
          · cases h
        · cases h
      · simp only [] at h
        split at h
        · rename_i p l hl
          have hl' := he.evs hl
          obtain ⟨u, us, hu, h1, h2⟩ := hl'
          obtain ⟨r, hr, hz⟩ := afold_sound (P := P) (w := w) (fun {x y u v z} => amax2_sound) h h1 h2
          exact ⟨r, by simp [execOp, resolve, invoke, builtin, Builtin.max_, hu, hr], hz⟩
        · cases h
      · simp only [] at h
        split at h
        · rename_i p l hl
          have hl' := he.evs hl
          obtain ⟨u, us, hu, h1, h2⟩ := hl'
          obtain ⟨r, hr, hz⟩ := afold_sound (P := P) (w := w) (fun {x y u v z} => amin2_sound) h h1 h2
          exact ⟨r, by simp [execOp, resolve, invoke, builtin, Builtin.min_, hu, hr], hz⟩
        · cases h
end
end Go.Ab
