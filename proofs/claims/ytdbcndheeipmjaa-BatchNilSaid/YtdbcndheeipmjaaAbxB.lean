/- The abstract layer, part B: how abstract values and heaps stand for the model's; operations on variables alone. -/
import Derived.Test.YtdbcndheeipmjaaAbxA
set_option linter.unusedVariables false
set_option linter.unusedSimpArgs false
namespace Go.Ab

/-- Where a named block lies: block, shift; of a grown one: its cells in all, and an element's. -/
structure BI where
  b : Nat
  s : Nat
  csz : Nat
  esz : Nat
abbrev Rho := Nat → Option BI
def Rho.Ext (ρ ρ' : Rho) : Prop := ∀ a i, ρ a = some i → ρ' a = some i
theorem Rho.Ext.refl (ρ : Rho) : ρ.Ext ρ := fun _ _ h => h
theorem Rho.Ext.trans {a b c : Rho} (h : a.Ext b) (h' : b.Ext c) : a.Ext c := fun x i hx => h' x i (h x i hx)

mutual
def VR (ρ : Rho) : AV → Value → Prop
  | .bool b, v => v = .bool b
  | .int k n, v => v = .int k n
  | .str s, v => v = .string s
  | .ptr none, v => v = .pointer none
  | .ptr (some a), v => ∃ i, ρ a.blk = some i ∧ v = .pointer (some ⟨i.b, i.s + a.off, none⟩)
  | .nsl, v => v = .slice none 0 0
  | .sl a len (some c), v => ∃ i ad, ρ a.blk = some i ∧ v = .slice (some ad) len c ∧ len ≤ c ∧ (c = 0 ∨ ad = ⟨i.b, i.s + a.off, none⟩)
  | .sl a len none, v => ∃ i c ad, ρ a.blk = some i ∧ v = .slice (some ad) len c ∧ len ≤ c ∧ i.s + a.off + c * i.esz = i.csz ∧ (c = 0 ∨ ad = ⟨i.b, i.s + a.off, none⟩)
  | .map none, v => v = .map none
  | .map (some a), v => ∃ i, ρ a = some i ∧ v = .map (some i.b)
  | .fn f first caps, v => ∃ vf vc, v = .func f ⟨vf⟩ ⟨vc⟩ ∧ VRs ρ first vf ∧ VRs ρ caps vc
  | .nilFn, v => v = .nilFunc
  | .agg cs, v => ∃ vs, v = .agg ⟨vs⟩ ∧ VRs ρ cs vs
  | .tup cs, v => ∃ vs, v = .tuple ⟨vs⟩ ∧ VRs ρ cs vs
def VRs (ρ : Rho) : List AV → List Value → Prop
  | [], vs => vs = []
  | c :: cs, vs => ∃ v vs', vs = v :: vs' ∧ VR ρ c v ∧ VRs ρ cs vs'
end

section
variable {ρ ρ' : Rho}
mutual
theorem VR.mono (h : ρ.Ext ρ') : ∀ {x : AV} {v : Value}, VR ρ x v → VR ρ' x v
  | .bool _, _, hv | .int _ _, _, hv | .str _, _, hv | .ptr none, _, hv | .nsl, _, hv | .map none, _, hv | .nilFn, _, hv => hv
  | .ptr (some a), v, hv => by obtain ⟨i, h1, h2⟩ := hv; exact ⟨i, h _ _ h1, h2⟩
  | .sl a len (some c), v, hv => by obtain ⟨i, o, h1, h2⟩ := hv; exact ⟨i, o, h _ _ h1, h2⟩
  | .sl a len none, v, hv => by obtain ⟨i, c, o, h1, h2⟩ := hv; exact ⟨i, c, o, h _ _ h1, h2⟩
  | .map (some a), v, hv => by obtain ⟨i, h1, h2⟩ := hv; exact ⟨i, h _ _ h1, h2⟩
  | .fn f first caps, v, hv => by obtain ⟨vf, vc, e, h1, h2⟩ := hv; exact ⟨vf, vc, e, VRs.mono h h1, VRs.mono h h2⟩
  | .agg cs, v, hv => by obtain ⟨vs, e, h1⟩ := hv; exact ⟨vs, e, VRs.mono h h1⟩
  | .tup cs, v, hv => by obtain ⟨vs, e, h1⟩ := hv; exact ⟨vs, e, VRs.mono h h1⟩
theorem VRs.mono (h : ρ.Ext ρ') : ∀ {xs : List AV} {vs : List Value}, VRs ρ xs vs → VRs ρ' xs vs
  | [], _, hv => hv
  | x :: xs, vs, hv => by obtain ⟨v, vs', e, h1, h2⟩ := hv; exact ⟨v, vs', e, VR.mono h h1, VRs.mono h h2⟩
end

@[simp] theorem VRs_nil {vs : List Value} : VRs ρ [] vs ↔ vs = [] := Iff.rfl
theorem VRs_cons {x : AV} {xs : List AV} {vs : List Value} : VRs ρ (x :: xs) vs ↔ ∃ v vs', vs = v :: vs' ∧ VR ρ x v ∧ VRs ρ xs vs' := Iff.rfl
theorem VRs.len : ∀ {xs : List AV} {vs : List Value}, VRs ρ xs vs → vs.length = xs.length
  | [], _, h => by rw [VRs_nil] at h; subst h; rfl
  | x :: xs, _, h => by obtain ⟨v, vs', rfl, _, h2⟩ := h; simp [VRs.len h2]
theorem VRs.append : ∀ {xs ys : List AV} {vs us : List Value}, VRs ρ xs vs → VRs ρ ys us → VRs ρ (xs ++ ys) (vs ++ us)
  | [], ys, _, us, h, h' => by rw [VRs_nil] at h; subst h; exact h'
  | x :: xs, ys, _, us, h, h' => by obtain ⟨v, vs', rfl, h1, h2⟩ := h; exact ⟨v, _, rfl, h1, VRs.append h2 h'⟩
theorem VRs.get : ∀ {xs : List AV} {vs : List Value} {j : Nat} {x : AV}, VRs ρ xs vs → xs[j]? = some x → ∃ v, vs[j]? = some v ∧ VR ρ x v
  | [], _, j, x, _, hj => by simp at hj
  | y :: xs, _, 0, x, h, hj => by
    obtain ⟨v, vs', rfl, h1, h2⟩ := h
    simp at hj; subst hj; exact ⟨v, rfl, h1⟩
  | y :: xs, _, j + 1, x, h, hj => by
    obtain ⟨v, vs', rfl, h1, h2⟩ := h
    simp at hj; obtain ⟨u, hu, hr⟩ := VRs.get h2 hj; exact ⟨u, by simpa using hu, hr⟩
theorem VRs.get' : ∀ {xs : List AV} {vs : List Value} {j : Nat} {v : Value}, VRs ρ xs vs → vs[j]? = some v → ∃ x, xs[j]? = some x ∧ VR ρ x v
  | [], _, j, v, h, hj => by rw [VRs_nil] at h; subst h; simp at hj
  | y :: xs, _, 0, x, h, hj => by
    obtain ⟨v, vs', rfl, h1, h2⟩ := h
    simp at hj; subst hj; exact ⟨y, rfl, h1⟩
  | y :: xs, _, j + 1, x, h, hj => by
    obtain ⟨v, vs', rfl, h1, h2⟩ := h
    simp at hj; obtain ⟨u, hu, hr⟩ := VRs.get' h2 hj; exact ⟨u, by simpa using hu, hr⟩
theorem VRs.take : ∀ {xs : List AV} {vs : List Value} (n : Nat), VRs ρ xs vs → VRs ρ (xs.take n) (vs.take n)
  | xs, vs, 0, h => by simp
  | [], _, n + 1, h => by rw [VRs_nil] at h; subst h; simp
  | x :: xs, _, n + 1, h => by obtain ⟨v, vs', rfl, h1, h2⟩ := h; exact ⟨v, _, rfl, h1, VRs.take n h2⟩
theorem VRs.drop : ∀ {xs : List AV} {vs : List Value} (n : Nat), VRs ρ xs vs → VRs ρ (xs.drop n) (vs.drop n)
  | xs, vs, 0, h => by simpa using h
  | [], _, n + 1, h => by rw [VRs_nil] at h; subst h; simp
  | x :: xs, _, n + 1, h => by obtain ⟨v, vs', rfl, h1, h2⟩ := h; simpa using VRs.drop n h2
theorem VR.one {x : AV} {v : Value} (h : VR ρ x v) (h1 : x.one = true) : v.oneCell' = true := by
  cases x with
  | ptr a => cases a with
    | none => cases h; rfl
    | some a => obtain ⟨i, _, rfl⟩ := h; rfl
  | sl a n c => cases c with
    | none => obtain ⟨i, c, o, _, rfl, _⟩ := h; rfl
    | some c => obtain ⟨i, o, _, rfl, _⟩ := h; rfl
  | map a => cases a with
    | none => cases h; rfl
    | some a => obtain ⟨i, _, rfl⟩ := h; rfl
  | fn f u v => obtain ⟨_, _, rfl, _⟩ := h; rfl
  | agg cs => simp [AV.one] at h1
  | tup cs => simp [AV.one] at h1
  | _ => cases h; rfl
theorem VRs.one : ∀ {xs : List AV} {vs : List Value}, VRs ρ xs vs → xs.all AV.one = true → ∀ v ∈ vs, v.oneCell' = true
  | [], _, h, _, v, hv => by rw [VRs_nil] at h; subst h; simp at hv
  | x :: xs, _, h, ha, v, hv => by
    obtain ⟨u, vs', rfl, h1, h2⟩ := h
    simp only [List.all_cons, Bool.and_eq_true] at ha
    rcases List.mem_cons.1 hv with rfl | hv
    · exact h1.one ha.1
    · exact VRs.one h2 ha.2 v hv
theorem VR.cells {x : AV} {v : Value} (h : VR ρ x v) : VRs ρ x.cells v.cells.toList := by
  have one : x.one = true → v.cells = #[v] := by
    intro h1
    have := h.one h1
    cases v <;> simp_all [Value.cells, Value.oneCell']
  cases x with
  | agg cs => obtain ⟨vs, rfl, h⟩ := h; simpa [AV.cells, Value.cells] using h
  | tup cs => obtain ⟨vs, rfl, h'⟩ := h; exact ⟨_, _, rfl, ⟨vs, rfl, h'⟩, rfl⟩
  | _ => rw [one rfl]; exact ⟨_, _, rfl, h, rfl⟩

theorem constAV_VR {v : Value} {x : AV} (h : constAV v = some x) : VR ρ x v := by
  unfold constAV at h
  split at h <;> first | (injection h with h; subst h; rfl) | skip
  · split at h
    · rename_i vs hvs
      injection h with h; subst h
      obtain ⟨l⟩ := vs
      have : l = [] := by simpa using hvs
      subst this
      exact ⟨[], rfl, rfl⟩
    · cases h
  · cases h
theorem constAVs_VRs : ∀ {vs : List Value} {xs : List AV}, constAVs vs = some xs → VRs ρ xs vs
  | [], xs, h => by simp only [constAVs, Option.some.injEq] at h; subst h; rfl
  | v :: vs, xs, h => by
    simp only [constAVs] at h
    split at h
    · rename_i a l ha hl
      injection h with h; subst h
      exact ⟨v, vs, rfl, constAV_VR ha, constAVs_VRs hl⟩
    · cases h
theorem constV_VR {v : Value} {x : AV} (h : constV v = some x) : VR ρ x v := by
  unfold constV at h
  split at h
  · rename_i cs
    split at h
    · rename_i l hl
      injection h with h; subst h
      exact ⟨cs.toList, by simp, constAVs_VRs hl⟩
    · cases h
  · exact constAV_VR h
end

/-- The variables. -/
structure ERel (ρ : Rho) (n : Nat) (e : Env) (tmps : Array Value) : Prop where
  size : tmps.size = n
  at_ : ∀ t x, e.get t = some x → VR ρ x (tmps.getD t undef)
section
variable {ρ ρ' : Rho} {n : Nat} {e : Env} {a : Act}
theorem ERel.mono (h : ρ.Ext ρ') {tmps : Array Value} (he : ERel ρ n e tmps) : ERel ρ' n e tmps := ⟨he.size, fun t x hx => (he.at_ t x hx).mono h⟩
theorem ERel.ev (he : ERel ρ n e a.tmps) {o : Operand} {x : AV} (h : evO e o = some x) : VR ρ x (a.eval o) := by
  cases o with
  | tmp t => exact he.at_ t x h
  | const v => exact constV_VR h
  | global g => cases h
  | func f => simp only [evO, Option.some.injEq] at h; subst h; exact ⟨[], [], rfl, rfl, rfl⟩
theorem ERel.evs (he : ERel ρ n e a.tmps) : ∀ {l : List Operand} {xs : List AV}, evOs e l = some xs → VRs ρ xs (l.map a.eval)
  | [], xs, h => by simp only [evOs, Option.some.injEq] at h; subst h; rfl
  | o :: l, xs, h => by
    simp only [evOs] at h
    split at h
    · rename_i x ys hx hys
      injection h with h; subst h
      exact ⟨_, _, rfl, he.ev hx, he.evs hys⟩
    · cases h
theorem ERel.put (he : ERel ρ n e a.tmps) {d : Nat} (hd : d < n) {x : AV} {v : Value} (h : VR ρ x v) : ERel ρ n (e.set d (some x)) (a.put (some d) v).tmps := by
  refine ⟨by simp [Act.put, he.size], fun t y hy => ?_⟩
  rw [Tr.get_set] at hy
  by_cases hte : t = d
  · subst hte
    rw [if_pos rfl] at hy; injection hy with hy; subst hy
    simpa [Act.put, he.size, hd] using h
  · rw [if_neg hte] at hy
    have := he.at_ t y hy
    simpa [Act.put, Array.getElem?_setIfInBounds_ne (Ne.symm hte)] using this
end

/-! ### The types -/
def TK.of : TypeDesc → TK
  | .int k => .int k
  | .bool => .bool
  | .string => .str
  | .pointer e => .ptr e
  | .slice e => .sl e
  | .array n e => .arr n e
  | .struct fs => .st (fs.toList.map fun f => (f.offset, f.type))
  | .map k e => .map k e
  | .func _ _ _ => .fn
  | _ => .other
structure TOkAt (P : Program) (t : TypeId) (s : TS) : Prop where
  ex : ∃ i d z, P.info? t = some i ∧ P.underlying t = some d ∧ s.k = TK.of d ∧ i.size = s.size ∧ i.bytes = s.bytes ∧ i.zero = some z ∧ constAVs z.cells.toList = some s.zero
def TOk (P : Program) (T : TT) : Prop := ∀ t s, T t = some s → TOkAt P t s
def tsOf (P : Program) (t : TypeId) : Option TS :=
  match P.info? t, P.underlying t with
  | some i, some d => match i.zero with
    | some z => match constAVs z.cells.toList with
      | some zs => some ⟨TK.of d, i.size, i.bytes, zs⟩
      | none => none
    | none => none
  | _, _ => none
theorem tsOf_ok (P : Program) : TOk P (tsOf P) := by
  intro t s h
  unfold tsOf at h
  split at h
  · rename_i i d hi hd
    split at h
    · rename_i z hz
      split at h
      · rename_i zs hzs
        injection h with h; subst h
        exact ⟨⟨i, d, z, hi, hd, rfl, rfl, rfl, hz, hzs⟩⟩
      · cases h
    · cases h
  · cases h

section
variable {P : Program} {T : TT} (hT : TOk P T) {t : TypeId} {s : TS} {w : World}
include hT
theorem run_sizeOf_T (h : T t = some s) : (sizeOf t).run P w = .ok s.size w := by
  obtain ⟨i, d, z, hi, hd, hk, hs, hb, hz, hc⟩ := (hT t s h).ex
  simp [sizeOf, typeInfo, hi, hs]
theorem run_typeInfo_T (h : T t = some s) : ∃ i z, (typeInfo t).run P w = .ok i w ∧ i.size = s.size ∧ i.bytes = s.bytes ∧ i.zero = some z ∧ ∀ ρ, VRs ρ s.zero z.cells.toList := by
  obtain ⟨i, d, z, hi, hd, hk, hs, hb, hz, hc⟩ := (hT t s h).ex
  exact ⟨i, z, by simp [typeInfo, hi], hs, hb, hz, fun ρ => constAVs_VRs hc⟩
theorem run_zeroValue_T (h : T t = some s) : ∃ z, (∀ w, (zeroValue t).run P w = .ok z w) ∧ ∀ ρ, VRs ρ s.zero z.cells.toList := by
  obtain ⟨i, d, z, hi, hd, hk, hs, hb, hz, hc⟩ := (hT t s h).ex
  exact ⟨z, fun w => by simp [zeroValue, typeInfo, hi, hz], fun ρ => constAVs_VRs hc⟩
theorem info_T (h : T t = some s) : ∃ i d z, P.info? t = some i ∧ P.underlying t = some d ∧ s.k = TK.of d ∧ i.size = s.size ∧ i.bytes = s.bytes ∧ i.zero = some z ∧ (∀ ρ, VRs ρ s.zero z.cells.toList) := by
  obtain ⟨i, d, z, hi, hd, hk, hs, hb, hz, hc⟩ := (hT t s h).ex
  exact ⟨i, d, z, hi, hd, hk, hs, hb, hz, fun ρ => constAVs_VRs hc⟩
theorem run_isAgg_T (h : T t = some s) : (isAgg t).run P w = .ok s.k.isAgg w := by
  obtain ⟨i, d, z, hi, hd, hk, hs, hb, hz, hc⟩ := (hT t s h).ex
  rw [hk]
  cases d <;> simp [isAgg, underlying, hd, TK.of, TK.isAgg]
end
theorem TK.of_sl {d : TypeDesc} {e : TypeId} (h : TK.of d = .sl e) : d = .slice e := by cases d <;> simp_all [TK.of]
theorem TK.of_arr {d : TypeDesc} {n : Nat} {e : TypeId} (h : TK.of d = .arr n e) : d = .array n e := by cases d <;> simp_all [TK.of]
theorem TK.of_int {d : TypeDesc} {k : IntKind} (h : TK.of d = .int k) : d = .int k := by cases d <;> simp_all [TK.of]
theorem TK.of_st {d : TypeDesc} {l : List (Nat × TypeId)} (h : TK.of d = .st l) : ∃ fs, d = .struct fs ∧ l = fs.toList.map fun f => (f.offset, f.type) := by
  cases d <;> simp_all [TK.of]
theorem TK.of_ptr {d : TypeDesc} {e : TypeId} (h : TK.of d = .ptr e) : d = .pointer e := by cases d <;> simp_all [TK.of]
theorem TK.of_bool {d : TypeDesc} (h : TK.of d = .bool) : d = .bool := by cases d <;> simp_all [TK.of]
theorem TK.of_str {d : TypeDesc} (h : TK.of d = .str) : d = .string := by cases d <;> simp_all [TK.of]
theorem TK.of_map {d : TypeDesc} {k e : TypeId} (h : TK.of d = .map k e) : d = .map k e := by cases d <;> simp_all [TK.of]
end Go.Ab
