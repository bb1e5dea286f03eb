/- The abstract layer, part N: what is forgotten, and names that change. -/
import Derived.Test.YtdbcndheeipmjaaAbxM
set_option linter.unusedVariables false
set_option linter.unusedSimpArgs false
namespace Go.Ab

section
variable {ρ ρ' : Rho}
mutual
/-- What a value's names stood for, they stand for still. -/
theorem VR.back (h : ρ.Ext ρ') : ∀ {x : AV} {v v0 : Value}, VR ρ x v0 → VR ρ' x v → VR ρ x v
  | .bool _, _, _, _, hv | .int _ _, _, _, _, hv | .str _, _, _, _, hv | .ptr none, _, _, _, hv | .nsl, _, _, _, hv | .map none, _, _, _, hv | .nilFn, _, _, _, hv => hv
  | .ptr (some a), v, v0, h0, hv => by
    obtain ⟨i0, h01, _⟩ := h0
    obtain ⟨i, h1, h2⟩ := hv
    rw [h _ _ h01] at h1; injection h1 with h1; subst h1; exact ⟨i0, h01, h2⟩
  | .sl a len (some c), v, v0, h0, hv => by
    obtain ⟨i0, o0, h01, _⟩ := h0
    obtain ⟨i, o, h1, h2⟩ := hv
    rw [h _ _ h01] at h1; injection h1 with h1; subst h1; exact ⟨i0, o, h01, h2⟩
  | .sl a len none, v, v0, h0, hv => by
    obtain ⟨i0, c0, o0, h01, _⟩ := h0
    obtain ⟨i, c, o, h1, h2⟩ := hv
    rw [h _ _ h01] at h1; injection h1 with h1; subst h1; exact ⟨i0, c, o, h01, h2⟩
  | .map (some a), v, v0, h0, hv => by
    obtain ⟨i0, h01, _⟩ := h0
    obtain ⟨i, h1, h2⟩ := hv
    rw [h _ _ h01] at h1; injection h1 with h1; subst h1; exact ⟨i0, h01, h2⟩
  | .fn f first caps, v, v0, h0, hv => by
    obtain ⟨vf0, vc0, e0, h01, h02⟩ := h0
    obtain ⟨vf, vc, e, h1, h2⟩ := hv
    exact ⟨vf, vc, e, VRs.back h h01 h1, VRs.back h h02 h2⟩
  | .agg cs, v, v0, h0, hv => by
    obtain ⟨vs0, e0, h01⟩ := h0
    obtain ⟨vs, e, h1⟩ := hv
    exact ⟨vs, e, VRs.back h h01 h1⟩
  | .tup cs, v, v0, h0, hv => by
    obtain ⟨vs0, e0, h01⟩ := h0
    obtain ⟨vs, e, h1⟩ := hv
    exact ⟨vs, e, VRs.back h h01 h1⟩
theorem VRs.back (h : ρ.Ext ρ') : ∀ {xs : List AV} {vs vs0 : List Value}, VRs ρ xs vs0 → VRs ρ' xs vs → VRs ρ xs vs
  | [], _, _, _, hv => hv
  | x :: xs, vs, vs0, h0, hv => by
    obtain ⟨v0, vs0', e0, h01, h02⟩ := h0
    obtain ⟨v, vs', e, h1, h2⟩ := hv
    exact ⟨v, vs', e, VR.back h h01 h1, VRs.back h h02 h2⟩
end
end
/-- A value without names. -/
def AV.plain : AV → Bool
  | .bool _ | .int _ _ | .str _ | .nilFn | .nsl | .ptr none | .map none | .tup [] => true
  | _ => false
def AV.plains (l : List AV) : Bool := l.all AV.plain
theorem VR.plain {ρ ρ' : Rho} {x : AV} {v : Value} (h : VR ρ x v) (hp : x.plain = true) : VR ρ' x v := by
  cases x with
  | ptr a => cases a with
    | none => exact h
    | some a => cases hp
  | map a => cases a with
    | none => exact h
    | some a => cases hp
  | tup l => cases l with
    | nil => exact h
    | cons x l => cases hp
  | bool | int | str | nilFn | nsl => exact h
  | _ => cases hp
theorem VRs.plain {ρ ρ' : Rho} : ∀ {xs : List AV} {vs : List Value}, VRs ρ xs vs → AV.plains xs = true → VRs ρ' xs vs
  | [], _, h, _ => h
  | x :: xs, _, h, hp => by
    obtain ⟨v, vs', rfl, h1, h2⟩ := h
    simp only [AV.plains, List.all_cons, Bool.and_eq_true] at hp
    exact ⟨v, vs', rfl, h1.plain hp.1, h2.plain hp.2⟩
/-- Has it no names: one value, or values? -/
def AV.plainV : AV → Bool
  | .agg l | .tup l => AV.plains l
  | x => x.plain
theorem VR.plainV {ρ ρ' : Rho} {x : AV} {v : Value} (h : VR ρ x v) (hp : x.plainV = true) : VR ρ' x v := by
  cases x with
  | agg l => obtain ⟨vs, e, h⟩ := h; exact ⟨vs, e, h.plain hp⟩
  | tup l => obtain ⟨vs, e, h⟩ := h; exact ⟨vs, e, h.plain hp⟩
  | _ => exact h.plain hp

theorem constAV_plain {v : Value} {x : AV} (h : constAV v = some x) : x.plain = true := by
  unfold constAV at h
  split at h <;> first | (injection h with h; subst h; rfl) | skip
  · split at h
    · injection h with h; subst h; rfl
    · cases h
  · cases h
theorem constAVs_plain : ∀ {vs : List Value} {xs : List AV}, constAVs vs = some xs → AV.plains xs = true
  | [], xs, h => by simp only [constAVs, Option.some.injEq] at h; subst h; rfl
  | v :: vs, xs, h => by
    simp only [constAVs] at h
    split at h
    · rename_i a l ha hl
      injection h with h; subst h
      simp only [AV.plains, List.all_cons, Bool.and_eq_true]
      exact ⟨constAV_plain ha, constAVs_plain hl⟩
    · cases h
theorem zero_plain {P : Program} {T : TT} (hT : TOk P T) {t : TypeId} {s : TS} (h : T t = some s) : AV.plains s.zero = true := by
  obtain ⟨i, d, z, _, _, _, _, _, _, hc⟩ := (hT t s h).ex
  exact constAVs_plain hc
theorem plains_mem {l : List AV} : AV.plains l = true ↔ ∀ x ∈ l, x.plain = true := by simp [AV.plains]
theorem plains_azeros {z : List AV} (h : AV.plains z = true) (n : Nat) : AV.plains (azeros n z) = true := by
  rw [plains_mem] at h ⊢
  intro x hx
  obtain ⟨l, hl, hx⟩ := List.mem_flatten.1 hx
  rw [List.eq_of_mem_replicate hl] at hx
  exact h x hx
theorem plains_drop {z : List AV} (h : AV.plains z = true) (n : Nat) : AV.plains (z.drop n) = true := by
  rw [plains_mem] at h ⊢
  exact fun x hx => h x (List.mem_of_mem_drop hx)

section
variable {P : Program} {T : TT} (hT : TOk P T) {ρ ρ' : Rho} {lo : Nat} {H H' H2 : AHeap} {w w' : World}
include hT
theorem KRel.back {el : TypeId} {i : BI} {pre c post : List Value} {k : Kind} (hk : KRel T ρ' el i pre c post k) : KRel T ρ el i pre c post k := by
  cases k with
  | ex => exact hk
  | gr =>
    obtain ⟨h1, se, h2, h3, n, d, h4⟩ := hk
    exact ⟨h1, se, h2, h3, n, d, h4.plain (plains_drop (plains_azeros (zero_plain hT h2) n) d)⟩
  | ro => exact hk
/-- A block as it was: its cells' names stand for what they stood for. -/
theorem BRel.back (he : ρ.Ext ρ') {i : BI} {blk : ABlk} (h0 : BRel T ρ lo w i blk) (h : BRel T ρ' lo w' i blk) : BRel T ρ lo w' i blk := by
  cases blk with
  | mp es mt => exact h
  | cells cs el k =>
    by_cases hk : k = .ro
    · subst hk
      obtain ⟨_, c0, hc0, _⟩ := h0
      obtain ⟨h1, c, hc, hcell⟩ := h
      exact ⟨h1, c, hc0.back he hc, hcell⟩
    · obtain ⟨_, pre0, c0, post0, _, _, hc0, _⟩ := (BRel_rw hk).1 h0
      obtain ⟨hlo, pre, c, post, hh, hp, hc, hkr⟩ := (BRel_rw hk).1 h
      exact (BRel_rw hk).2 ⟨hlo, pre, c, post, hh, hp, hc0.back he hc, hkr.back hT⟩
omit hT in
theorem VRs.back' (he : ρ.Ext ρ') {xs : List AV} {vs0 vs : List Value} (h0 : VRs ρ xs vs0) (h : VRs ρ' xs vs) : VRs ρ xs vs := VRs.back he h0 h

/-- How a heap H2 without what is no longer wanted stands to the heap H' behind a call begun at H: σ tells by which name a block of H2 goes in H'. -/
structure Keeps (H H' H2 : AHeap) (σ : Nat → Nat) : Prop where
  next : H.next ≤ H2.next
  old : ∀ a, a < H.next → σ a = a
  inj : ∀ a b, a < H2.next → b < H2.next → σ a = σ b → a = b
  blk : ∀ a b, H2.get a = some b → (H.get a = some b ∧ H'.get a = some b ∧ a < H.next) ∨ ∃ cs cs' el k, b = .cells cs el k ∧ H'.get (σ a) = some (.cells cs' el k) ∧
    ∀ (ρ' : Rho) c, VRs ρ' cs' c → VRs (fun a => if a < H2.next then ρ' (σ a) else none) cs c

theorem Keeps.sound {σ : Nat → Nat} (hk : Keeps H H' H2 σ) (h0 : HRel T ρ lo H w) (h : HRel T ρ' lo H' w') (hs : Step ρ H w ρ' H' w') :
    HRel T (fun a => if a < H2.next then ρ' (σ a) else none) lo H2 w' ∧ Step ρ H w (fun a => if a < H2.next then ρ' (σ a) else none) H2 w' := by
  have hext : ρ.Ext (fun a => if a < H2.next then ρ' (σ a) else none) := by
    intro a i hi
    have hlt : a < H.next := by
      rcases Nat.lt_or_ge a H.next with h1 | h1
      · exact h1
      · rw [h0.fresh a h1] at hi; cases hi
    have := hk.next
    simp only []
    rw [if_pos (by omega), hk.old a hlt]
    exact hs.ext a i hi
  -- a live block, and where it goes in H'
  have live : ∀ a b, H2.get a = some b → ∃ b', H'.get (σ a) = some b' ∧ b'.rw = b.rw ∧ ∃ i, ρ' (σ a) = some i ∧ BRel T (fun a => if a < H2.next then ρ' (σ a) else none) lo w' i b := by
    intro a b hb
    rcases hk.blk a b hb with ⟨h1, h2, h3⟩ | ⟨cs, cs', el, k, rfl, h2, h3⟩
    · rw [hk.old a h3]
      obtain ⟨i0, hi0, hb0⟩ := h0.dom a b h1
      obtain ⟨i, hi, hb'⟩ := h.dom a b h2
      have : i = i0 := by rw [hs.ext a i0 hi0] at hi; injection hi with hi; exact hi.symm
      subst this
      exact ⟨b, h2, rfl, i, hi, (hb0.back hT hs.ext hb').same hext rfl⟩
    · obtain ⟨i, hi, hb'⟩ := h.dom _ _ h2
      refine ⟨_, h2, by cases k <;> rfl, i, hi, ?_⟩
      by_cases hk' : k = .ro
      · subst hk'
        obtain ⟨h1, c, hc, hcell⟩ := hb'
        exact ⟨h1, c, h3 ρ' c hc, hcell⟩
      · obtain ⟨hlo, pre, c, post, hh, hp, hc, hkr⟩ := (BRel_rw hk').1 hb'
        exact (BRel_rw hk').2 ⟨hlo, pre, c, post, hh, hp, h3 ρ' c hc, hkr.back hT⟩
  refine ⟨⟨?_, ?_, ?_, h.lo⟩, ⟨hext, hs.os, hs.tape, hs.output, hs.size, ?_, hs.block⟩⟩
  · intro a b hb
    obtain ⟨b', _, _, i, hi, hr⟩ := live a b hb
    exact ⟨i, by (try dsimp only); rw [if_pos (AHeap.get_lt hb)]; exact hi, hr⟩
  · intro a ha
    (try dsimp only); rw [if_neg (by omega)]
  · intro a a' b b' i i' hb hb' hr hr' hne hi hi'
    (try dsimp only at hi hi')
    rw [if_pos (AHeap.get_lt hb)] at hi
    rw [if_pos (AHeap.get_lt hb')] at hi'
    obtain ⟨c, hc, hcr, _⟩ := live a b hb
    obtain ⟨c', hc', hcr', _⟩ := live a' b' hb'
    exact h.inj _ _ c c' i i' hc hc' (hcr.trans hr) (hcr'.trans hr') (fun e => hne (hk.inj a a' (AHeap.get_lt hb) (AHeap.get_lt hb') e)) hi hi'
  · intro k hlt ⟨a, b, i, hb, hr, hi, hik⟩
    (try dsimp only at hi)
    rw [if_pos (AHeap.get_lt hb)] at hi
    obtain ⟨c, hc, hcr, _⟩ := live a b hb
    exact hs.own k hlt ⟨σ a, c, i, hc, hcr.trans hr, hi, hik⟩

/-- What a call leaves may be told with fewer blocks, under other names. -/
theorem ASpec.keep {f : FuncId} {args : List AV} {Q Q' : AV → AHeap → Prop} (h : ASpec P T f args H Q)
    (hq : ∀ r H', Q r H' → ∃ r2 H2 σ, Keeps H H' H2 σ ∧ (∀ (ρ' : Rho) v, VR ρ' r v → VR (fun a => if a < H2.next then ρ' (σ a) else none) r2 v) ∧ Q' r2 H2) : ASpec P T f args H Q' := by
  intro ρ lo w cargs hh ha
  refine (h ρ lo w cargs hh ha).mono ?_
  rintro v w' ⟨r, ρ', H', q, hr, hh', hs⟩
  obtain ⟨r2, H2, σ, hk, hv, q'⟩ := hq r H' q
  obtain ⟨h1, h2⟩ := hk.sound hT hh hh' hs
  exact ⟨r2, _, H2, q', hv ρ' v hr, h1, h2⟩
/-- What is left of a call that only makes blocks, and hands none back: nothing. -/
theorem ASpec.forget {f : FuncId} {args : List AV} {Q Q' : AV → AHeap → Prop} (h : ASpec P T f args H Q)
    (hq : ∀ r H', Q r H' → r.plainV = true ∧ (∀ a b, H.get a = some b → H'.get a = some b) ∧ Q' r H) : ASpec P T f args H Q' := by
  refine h.keep hT fun r H' q => ?_
  obtain ⟨h1, h2, h3⟩ := hq r H' q
  exact ⟨r, H, id, ⟨Nat.le_refl _, fun _ _ => rfl, fun _ _ _ _ e => e, fun a b hb => .inl ⟨hb, h2 a b hb, AHeap.get_lt hb⟩⟩, fun ρ' v hv => hv.plainV h1, h3⟩
end
end Go.Ab
