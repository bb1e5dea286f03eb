/- The abstract layer, part E: heaps. -/
import Derived.Test.YtdbcndheeipmjaaAbxD
set_option linter.unusedVariables false
set_option linter.unusedSimpArgs false
namespace Go.Ab

theorem map_range_cyc {α : Type} [Inhabited α] (l : List α) : ∀ n, (List.range (n * l.length)).map (fun i => l[i % l.length]!) = (List.replicate n l).flatten := by
  intro n
  induction n with
  | zero => simp
  | succ n ih =>
    rw [Nat.succ_mul, List.range_add, List.map_append, ih, List.replicate_succ', List.flatten_append]
    congr 1
    simp only [List.map_map, List.flatten_cons, List.flatten_nil, List.append_nil]
    apply List.ext_getElem?
    intro j
    by_cases hj : j < l.length
    · have : (n * l.length + j) % l.length = j := by rw [Nat.mul_add_mod', Nat.mod_eq_of_lt hj]
      simp [List.getElem?_map, List.getElem?_range hj, this, hj]
    · rw [List.getElem?_eq_none (by simp; omega), List.getElem?_eq_none (by omega)]

section
variable {ρ : Rho}
theorem VRs.flat {z : List AV} {zv : List Value} (h : VRs ρ z zv) : ∀ n, VRs ρ (azeros n z) (List.replicate n zv).flatten := by
  intro n
  induction n with
  | zero => simp [azeros]
  | succ n ih => simp only [azeros, List.replicate_succ, List.flatten_cons]; exact h.append ih
theorem VRs.zeroCells {z : List AV} {zv : Array Value} (h : VRs ρ z zv.toList) (n : Nat) : VRs ρ (azeros n z) (Builtin.zeroCells zv n).toList := by
  have : (Builtin.zeroCells zv n).toList = (List.replicate n zv.toList).flatten := by
    rw [← map_range_cyc]
    obtain ⟨l⟩ := zv
    simp [Builtin.zeroCells]
  rw [this]; exact h.flat n
theorem VRs.madeCells {z : List AV} {zv : Array Value} (h : VRs ρ z zv.toList) (n k : Nat) (hk : k = n * zv.size) : VRs ρ (azeros n z) (madeCells zv k).toList := by
  subst hk; exact h.zeroCells n
theorem azeros_length (n : Nat) (z : List AV) : (azeros n z).length = n * z.length := by simp [azeros]
theorem azeros_add (n m : Nat) (z : List AV) : azeros (n + m) z = azeros n z ++ azeros m z := by
  induction n with
  | zero => simp [azeros]
  | succ n ih => rw [Nat.succ_add]; simp only [azeros, List.replicate_succ, List.flatten_cons, List.append_assoc] at ih ⊢; rw [ih]
end

def KRel (T : TT) (ρ : Rho) (el : TypeId) (i : BI) (pre c post : List Value) : Kind → Prop
  | .ex => pre = [] ∧ post = []
  | .gr => i.csz = pre.length + c.length + post.length ∧ ∃ se, T el = some se ∧ i.esz = se.size ∧ ∃ n d, VRs ρ ((azeros n se.zero).drop d) post
  | .ro => False
def RoRel (ρ : Rho) (lo : Nat) (w : World) (i : BI) (cs : List AV) : Prop :=
  i.b < lo ∧ ∃ c, VRs ρ cs c ∧ ∀ j v, c[j]? = some v → w.cell? ⟨i.b, i.s + j, none⟩ = some v
def RwRel (T : TT) (ρ : Rho) (lo : Nat) (w : World) (i : BI) (cs : List AV) (el : TypeId) (k : Kind) : Prop :=
  lo ≤ i.b ∧ ∃ pre c post, w.heap[i.b]? = some (.cells ⟨pre ++ c ++ post⟩ el (0, 0)) ∧ pre.length = i.s ∧ VRs ρ cs c ∧ KRel T ρ el i pre c post k
def BRel (T : TT) (ρ : Rho) (lo : Nat) (w : World) (i : BI) : ABlk → Prop
  | .cells cs el .ro => RoRel ρ lo w i cs
  | .cells cs el .ex => RwRel T ρ lo w i cs el .ex
  | .cells cs el .gr => RwRel T ρ lo w i cs el .gr
  | .mp _ _ => False
theorem BRel_rw {T : TT} {ρ : Rho} {lo : Nat} {w : World} {i : BI} {cs : List AV} {el : TypeId} {k : Kind} (hk : k ≠ .ro) : BRel T ρ lo w i (.cells cs el k) ↔ RwRel T ρ lo w i cs el k := by
  cases k <;> first | exact Iff.rfl | exact absurd rfl hk

/-- The concrete block k belongs to one of the heap's own blocks. -/
def Own (ρ : Rho) (H : AHeap) (k : Nat) : Prop := ∃ a blk i, H.get a = some blk ∧ blk.rw = true ∧ ρ a = some i ∧ i.b = k

structure HRel (T : TT) (ρ : Rho) (lo : Nat) (H : AHeap) (w : World) : Prop where
  dom : ∀ a blk, H.get a = some blk → ∃ i, ρ a = some i ∧ BRel T ρ lo w i blk
  fresh : ∀ a, H.next ≤ a → ρ a = none
  inj : ∀ a a' blk blk' i i', H.get a = some blk → H.get a' = some blk' → blk.rw = true → blk'.rw = true → a ≠ a' → ρ a = some i → ρ a' = some i' → i.b ≠ i'.b
  lo : lo ≤ w.heap.size

structure Step (ρ : Rho) (H : AHeap) (w : World) (ρ' : Rho) (H' : AHeap) (w' : World) : Prop where
  ext : ρ.Ext ρ'
  os : w'.os = w.os
  tape : w'.tape = w.tape
  output : w'.output = w.output
  size : w.heap.size ≤ w'.heap.size
  own : ∀ k, k < w.heap.size → Own ρ' H' k → Own ρ H k
  block : ∀ k, k < w.heap.size → ¬ Own ρ H k → w'.heap[k]? = w.heap[k]?

theorem Step.refl (ρ : Rho) (H : AHeap) (w : World) : Step ρ H w ρ H w :=
  ⟨Rho.Ext.refl _, rfl, rfl, rfl, Nat.le_refl _, fun _ _ h => h, fun _ _ _ => rfl⟩
theorem Step.trans {ρ ρ1 ρ2 : Rho} {H H1 H2 : AHeap} {w w1 w2 : World} (h : Step ρ H w ρ1 H1 w1) (h' : Step ρ1 H1 w1 ρ2 H2 w2) : Step ρ H w ρ2 H2 w2 :=
  ⟨h.ext.trans h'.ext, h'.os.trans h.os, h'.tape.trans h.tape, h'.output.trans h.output, Nat.le_trans h.size h'.size,
    fun k hk ho => h.own k hk (h'.own k (Nat.lt_of_lt_of_le hk h.size) ho),
    fun k hk hn => (h'.block k (Nat.lt_of_lt_of_le hk h.size) (fun ho => hn (h.own k hk ho))).trans (h.block k hk hn)⟩
theorem Step.drew (ρ : Rho) (H : AHeap) (w : World) : Step ρ H w ρ H w.drew :=
  ⟨Rho.Ext.refl _, rfl, rfl, rfl, Nat.le_refl _, fun _ _ h => h, fun _ _ _ => rfl⟩

section
variable {T : TT} {ρ : Rho} {lo : Nat} {H : AHeap} {w : World}
theorem KRel.mono {ρ' : Rho} (h : ρ.Ext ρ') {el : TypeId} {i : BI} {pre c post : List Value} {k : Kind} (hk : KRel T ρ el i pre c post k) : KRel T ρ' el i pre c post k := by
  cases k with
  | ex => exact hk
  | gr => obtain ⟨h1, se, h2, h3, n, d, h4⟩ := hk; exact ⟨h1, se, h2, h3, n, d, h4.mono h⟩
  | ro => exact hk
theorem KRel.len {el : TypeId} {i : BI} {pre c c' post : List Value} {k : Kind} (hk : KRel T ρ el i pre c post k) (hl : c'.length = c.length) : KRel T ρ el i pre c' post k := by
  cases k with
  | ex => exact hk
  | gr => obtain ⟨h1, h2⟩ := hk; exact ⟨by rw [hl]; exact h1, h2⟩
  | ro => exact hk
/-- The cells of a block, read. -/
theorem BRel.cells {i : BI} {cs : List AV} {el : TypeId} {k : Kind} (h : BRel T ρ lo w i (.cells cs el k)) : ∃ c, VRs ρ cs c ∧ ∀ j v, c[j]? = some v → w.cell? ⟨i.b, i.s + j, none⟩ = some v := by
  by_cases hk : k = .ro
  · subst hk; exact h.2
  · obtain ⟨_, pre, c, post, hg, hp, hc, _⟩ := (BRel_rw hk).1 h
    refine ⟨c, hc, fun j v hj => ?_⟩
    have hjl : j < c.length := (List.getElem?_eq_some_iff.1 hj).1
    rw [cell_of_row w i.b _ _ el (0, 0) hg]
    simp only [List.getElem?_toArray]
    rw [List.append_assoc, List.getElem?_append_right (by omega), List.getElem?_append_left (by omega)]
    rw [show i.s + j - pre.length = j by omega]; exact hj
/-- A block's relation hangs on the block alone (and, where it came in, on old cells). -/
theorem BRel.same {ρ' : Rho} {i : BI} {blk : ABlk} {w' : World} (h : BRel T ρ lo w i blk) (he : ρ.Ext ρ') (hb : w'.heap[i.b]? = w.heap[i.b]?) : BRel T ρ' lo w' i blk := by
  cases blk with
  | cells cs el k =>
    by_cases hk : k = .ro
    · subst hk
      obtain ⟨h1, c, hc, hcell⟩ := h
      refine ⟨h1, c, hc.mono he, fun j v hj => ?_⟩
      rw [World.cell?_of_block (by exact hb)]
      exact hcell j v hj
    · obtain ⟨h1, pre, c, post, hg, hp, hc, hkr⟩ := (BRel_rw hk).1 h
      exact (BRel_rw hk).2 ⟨h1, pre, c, post, hb.trans hg, hp, hc.mono he, hkr.mono he⟩
  | mp es mt => exact h

theorem HRel.lt (h : HRel T ρ lo H w) {a : Nat} {blk : ABlk} {i : BI} (hg : H.get a = some blk) (hr : blk.rw = true) (hi : ρ a = some i) : i.b < w.heap.size := by
  obtain ⟨i', hi', hb⟩ := h.dom a blk hg
  rw [hi] at hi'; injection hi' with hi'; subst hi'
  cases blk with
  | cells cs el k =>
    by_cases hk : k = .ro
    · subst hk; cases hr
    · obtain ⟨_, pre, c, post, hh, _⟩ := (BRel_rw hk).1 hb
      exact (Array.getElem?_eq_some_iff.1 hh).1
  | mp es mt => exact hb.elim
theorem HRel.drew (h : HRel T ρ lo H w) : HRel T ρ lo H w.drew :=
  ⟨fun a blk hg => by obtain ⟨i, hi, hb⟩ := h.dom a blk hg; exact ⟨i, hi, hb.same (Rho.Ext.refl _) rfl⟩, h.fresh, h.inj, h.lo⟩

def Rho.put (ρ : Rho) (a : Nat) (i : BI) : Rho := fun x => if x = a then some i else ρ x
theorem Rho.put_same (ρ : Rho) (a : Nat) (i : BI) : ρ.put a i a = some i := by simp [Rho.put]
theorem Rho.put_ne (ρ : Rho) {a x : Nat} (i : BI) (h : x ≠ a) : ρ.put a i x = ρ x := by simp [Rho.put, h]
theorem Rho.ext_put {ρ : Rho} {a : Nat} (i : BI) (h : ρ a = none) : ρ.Ext (ρ.put a i) := by
  intro x j hx
  by_cases e : x = a
  · subst e; rw [h] at hx; cases hx
  · rw [Rho.put_ne _ _ e]; exact hx

/-- A new block. -/
theorem HRel.push (h : HRel T ρ lo H w) {c post : List Value} {cs : List AV} {el : TypeId} {k : Kind} {i : BI} (hk : k ≠ .ro) (hib : i.b = w.heap.size) (his : i.s = 0)
    (hc : VRs ρ cs c) (hkr : KRel T ρ el i [] c post k) :
    HRel T (ρ.put H.next i) lo (H.push (.cells cs el k)) (w.alloc (.cells ⟨c ++ post⟩ el)) ∧
      Step ρ H w (ρ.put H.next i) (H.push (.cells cs el k)) (w.alloc (.cells ⟨c ++ post⟩ el)) := by
  have hnone : ρ H.next = none := h.fresh _ (Nat.le_refl _)
  have hext : ρ.Ext (ρ.put H.next i) := Rho.ext_put i hnone
  have hold : ∀ j, j < w.heap.size → (w.alloc (.cells ⟨c ++ post⟩ el)).heap[j]? = w.heap[j]? := fun j hj => heap_alloc_old w _ hj
  refine ⟨⟨?_, ?_, ?_, ?_⟩, ⟨hext, rfl, rfl, rfl, by simp, ?_, fun j hj _ => hold j hj⟩⟩
  · intro a blk hg
    rw [AHeap.get_push] at hg
    by_cases e : a = H.next
    · subst e
      rw [if_pos rfl] at hg; injection hg with hg; subst hg
      refine ⟨i, Rho.put_same _ _ _, (BRel_rw hk).2 ?_⟩
      refine ⟨by rw [hib]; exact h.lo, [], c, post, ?_, by simp [his], hc.mono hext, hkr.mono hext⟩
      rw [hib, heap_alloc_new]; rfl
    · rw [if_neg e] at hg
      obtain ⟨j, hj, hb⟩ := h.dom a blk hg
      refine ⟨j, by rw [Rho.put_ne _ _ e]; exact hj, hb.same hext ?_⟩
      by_cases hlt : j.b < w.heap.size
      · exact hold _ hlt
      · cases blk with
        | cells cs' el' k' =>
          by_cases hk' : k' = .ro
          · subst hk'; have := hb.1; have := h.lo; omega
          · obtain ⟨_, pre, c', post', hh, _⟩ := (BRel_rw hk').1 hb
            exact absurd (Array.getElem?_eq_some_iff.1 hh).1 hlt
        | mp es mt => exact hb.elim
  · intro a ha
    simp only [AHeap.next_push] at ha
    rw [Rho.put_ne _ _ (by omega)]; exact h.fresh a (by omega)
  · intro a a' blk blk' j j' hg hg' hr hr' hne hj hj'
    rw [AHeap.get_push] at hg hg'
    by_cases e : a = H.next
    · subst e
      rw [if_neg (Ne.symm hne)] at hg'
      rw [Rho.put_same] at hj; injection hj with hj; subst hj
      rw [Rho.put_ne _ _ (Ne.symm hne)] at hj'
      have := h.lt hg' hr' hj'; omega
    · rw [if_neg e] at hg; rw [Rho.put_ne _ _ e] at hj
      by_cases e' : a' = H.next
      · subst e'
        rw [Rho.put_same] at hj'; injection hj' with hj'; subst hj'
        have := h.lt hg hr hj; omega
      · rw [if_neg e'] at hg'; rw [Rho.put_ne _ _ e'] at hj'
        exact h.inj a a' blk blk' j j' hg hg' hr hr' hne hj hj'
  · have := h.lo; simp; omega
  · intro x hx ⟨a, blk, j, hg, hr, hj, hb⟩
    rw [AHeap.get_push] at hg
    by_cases e : a = H.next
    · subst e; rw [Rho.put_same] at hj; injection hj with hj; subst hj; omega
    · rw [if_neg e] at hg; rw [Rho.put_ne _ _ e] at hj
      exact ⟨a, blk, j, hg, hr, hj, hb⟩

/-- What a store to an own block does. -/
theorem HRel.update (h : HRel T ρ lo H w) {a : Nat} {cs cs' : List AV} {el : TypeId} {k : Kind} {i : BI} (hk : k ≠ .ro) (hg : H.get a = some (.cells cs el k)) (hi : ρ a = some i) :
    ∃ pre c post, w.heap[i.b]? = some (.cells ⟨pre ++ c ++ post⟩ el (0, 0)) ∧ pre.length = i.s ∧ VRs ρ cs c ∧ KRel T ρ el i pre c post k ∧
      ∀ c', VRs ρ cs' c' → c'.length = c.length → HRel T ρ lo (H.set a (.cells cs' el k)) (w.setRow i.b ⟨pre ++ c' ++ post⟩) ∧ Step ρ H w ρ (H.set a (.cells cs' el k)) (w.setRow i.b ⟨pre ++ c' ++ post⟩) := by
  obtain ⟨i', hi', hb⟩ := h.dom a _ hg
  rw [hi] at hi'; injection hi' with hi'; subst hi'
  obtain ⟨hlo, pre, c, post, hh, hp, hc, hkr⟩ := (BRel_rw hk).1 hb
  have hrw : (ABlk.cells cs el k).rw = true := by cases k <;> first | rfl | exact absurd rfl hk
  have hrw' : (ABlk.cells cs' el k).rw = true := by cases k <;> first | rfl | exact absurd rfl hk
  have halt := AHeap.get_lt hg
  refine ⟨pre, c, post, hh, hp, hc, hkr, fun c' hc' hl => ?_⟩
  refine ⟨⟨?_, ?_, ?_, ?_⟩, ⟨Rho.Ext.refl _, rfl, rfl, rfl, by simp, ?_, ?_⟩⟩
  · intro a' blk hg'
    rw [AHeap.get_set] at hg'
    by_cases e : a' = a
    · subst e
      rw [if_pos rfl, if_pos halt] at hg'; injection hg' with hg'; subst hg'
      refine ⟨i, hi, (BRel_rw hk).2 ?_⟩
      exact ⟨hlo, pre, c', post, setRow_heap w i.b _ _ el (0, 0) hh, hp, hc', hkr.len hl⟩
    · rw [if_neg e] at hg'
      obtain ⟨j, hj, hb'⟩ := h.dom a' blk hg'
      refine ⟨j, hj, hb'.same (Rho.Ext.refl _) (setRow_other w i.b j.b _ ?_)⟩
      cases hr : blk.rw with
      | true => exact h.inj a' a blk _ j i hg' hg hr hrw e hj hi
      | false =>
        cases blk with
        | cells cs2 el2 k2 =>
          cases k2 <;> simp [ABlk.rw] at hr
          have := hb'.1; omega
        | mp es mt => simp [ABlk.rw] at hr
  · exact h.fresh
  · intro x y blk blk' j j' hx hy hr hr' hne hj hj'
    rw [AHeap.get_set] at hx hy
    have gx : ∃ b0, H.get x = some b0 ∧ b0.rw = true := by
      by_cases e : x = a
      · subst e; exact ⟨_, hg, hrw⟩
      · rw [if_neg e] at hx; exact ⟨_, hx, hr⟩
    have gy : ∃ b0, H.get y = some b0 ∧ b0.rw = true := by
      by_cases e : y = a
      · subst e; exact ⟨_, hg, hrw⟩
      · rw [if_neg e] at hy; exact ⟨_, hy, hr'⟩
    obtain ⟨bx, hbx, hrx⟩ := gx
    obtain ⟨by', hby, hry⟩ := gy
    exact h.inj x y bx by' j j' hbx hby hrx hry hne hj hj'
  · simpa using h.lo
  · intro x hx ⟨y, blk, j, hy, hr, hj, hb'⟩
    rw [AHeap.get_set] at hy
    by_cases e : y = a
    · subst e; exact ⟨y, _, j, hg, hrw, hj, hb'⟩
    · rw [if_neg e] at hy; exact ⟨y, blk, j, hy, hr, hj, hb'⟩
  · intro x hx hn
    refine setRow_other w i.b x _ ?_
    intro e
    exact hn ⟨a, _, i, hg, hrw, hi, e.symm⟩
/-- A grown block under another name. -/
theorem HRel.regrow (h : HRel T ρ lo H w) {a : Nat} {cs cs2 : List AV} {c2 pre2 post2 : List Value} {el : TypeId} {i i2 : BI} (hg : H.get a = some (.cells cs el .gr)) (hi : ρ a = some i)
    (hb2 : i2.b = i.b) (hc2 : VRs ρ cs2 c2) (hp2 : pre2.length = i2.s) (hk2 : KRel T ρ el i2 pre2 c2 post2 .gr) :
    HRel T (ρ.put H.next i2) lo ((H.kill a).push (.cells cs2 el .gr)) (w.setRow i.b ⟨pre2 ++ c2 ++ post2⟩) ∧
      Step ρ H w (ρ.put H.next i2) ((H.kill a).push (.cells cs2 el .gr)) (w.setRow i.b ⟨pre2 ++ c2 ++ post2⟩) := by
  obtain ⟨i', hi', hb⟩ := h.dom a _ hg
  rw [hi] at hi'; injection hi' with hi'; subst hi'
  obtain ⟨hlo, pre, c, post, hh, hp, hc, hkr⟩ := (BRel_rw (by simp)).1 hb
  have hnone : ρ H.next = none := h.fresh _ (Nat.le_refl _)
  have hext : ρ.Ext (ρ.put H.next i2) := Rho.ext_put i2 hnone
  have getold : ∀ x blk, ((H.kill a).push (.cells cs2 el .gr)).get x = some blk → x ≠ H.next → H.get x = some blk ∧ x ≠ a := by
    intro x blk hx hne
    rw [AHeap.get_push, AHeap.next_kill, if_neg hne, AHeap.get_kill] at hx
    by_cases e : x = a
    · rw [if_pos e] at hx; cases hx
    · rw [if_neg e] at hx; exact ⟨hx, e⟩
  have getnew : ((H.kill a).push (.cells cs2 el .gr)).get H.next = some (.cells cs2 el .gr) := by
    have := AHeap.get_push_new (H.kill a) (.cells cs2 el .gr); simpa using this
  refine ⟨⟨?_, ?_, ?_, ?_⟩, ⟨hext, rfl, rfl, rfl, by simp, ?_, ?_⟩⟩
  · intro x blk hx
    by_cases e : x = H.next
    · subst e
      rw [getnew] at hx; injection hx with hx; subst hx
      refine ⟨i2, Rho.put_same _ _ _, (BRel_rw (by simp)).2 ⟨by rw [hb2]; exact hlo, pre2, c2, post2, ?_, hp2, hc2.mono hext, hk2.mono hext⟩⟩
      rw [hb2]; exact setRow_heap w i.b _ _ el (0, 0) hh
    · obtain ⟨hx', hxa⟩ := getold x blk hx e
      obtain ⟨j, hj, hb'⟩ := h.dom x blk hx'
      refine ⟨j, by rw [Rho.put_ne _ _ e]; exact hj, hb'.same hext (setRow_other w i.b j.b _ ?_)⟩
      cases hr : blk.rw with
      | true => exact h.inj x a blk _ j i hx' hg hr rfl hxa hj hi
      | false =>
        cases blk with
        | cells cs2 el2 k2 =>
          cases k2 <;> simp [ABlk.rw] at hr
          have := hb'.1; omega
        | mp es mt => simp [ABlk.rw] at hr
  · intro x hx
    simp only [AHeap.next_push, AHeap.next_kill] at hx
    rw [Rho.put_ne _ _ (by omega)]; exact h.fresh x (by omega)
  · intro x y blk blk' j j' hx hy hr hr' hne hj hj'
    by_cases e : x = H.next
    · subst e
      rw [Rho.put_same] at hj; injection hj with hj; subst hj
      obtain ⟨hy', hya⟩ := getold y blk' hy (Ne.symm hne)
      rw [Rho.put_ne _ _ (Ne.symm hne)] at hj'
      rw [hb2]; exact h.inj a y _ blk' i j' hg hy' rfl hr' (Ne.symm hya) hi hj'
    · obtain ⟨hx', hxa⟩ := getold x blk hx e
      rw [Rho.put_ne _ _ e] at hj
      by_cases e' : y = H.next
      · subst e'
        rw [Rho.put_same] at hj'; injection hj' with hj'; subst hj'
        rw [hb2]; exact h.inj x a blk _ j i hx' hg hr rfl hxa hj hi
      · obtain ⟨hy', hya⟩ := getold y blk' hy e'
        rw [Rho.put_ne _ _ e'] at hj'
        exact h.inj x y blk blk' j j' hx' hy' hr hr' hne hj hj'
  · simpa using h.lo
  · intro k hk ⟨x, blk, j, hx, hr, hj, hb'⟩
    by_cases e : x = H.next
    · subst e
      rw [Rho.put_same] at hj; injection hj with hj; subst hj
      exact ⟨a, _, i, hg, rfl, hi, by rw [← hb2]; exact hb'⟩
    · obtain ⟨hx', hxa⟩ := getold x blk hx e
      rw [Rho.put_ne _ _ e] at hj
      exact ⟨x, blk, j, hx', hr, hj, hb'⟩
  · intro k hk hn
    refine setRow_other w i.b k _ ?_
    intro e
    exact hn ⟨a, _, i, hg, rfl, hi, e.symm⟩
/-- A name is given up. -/
theorem HRel.kill (h : HRel T ρ lo H w) (a : Nat) : HRel T ρ lo (H.kill a) w ∧ Step ρ H w ρ (H.kill a) w := by
  have sub : ∀ x blk, (H.kill a).get x = some blk → H.get x = some blk := by
    intro x blk hx
    rw [AHeap.get_kill] at hx
    by_cases e : x = a
    · rw [if_pos e] at hx; cases hx
    · rwa [if_neg e] at hx
  refine ⟨⟨fun x blk hx => h.dom x blk (sub x blk hx), h.fresh, fun x y b b' j j' hx hy => h.inj x y b b' j j' (sub _ _ hx) (sub _ _ hy), h.lo⟩,
    ⟨Rho.Ext.refl _, rfl, rfl, rfl, Nat.le_refl _, ?_, fun _ _ _ => rfl⟩⟩
  intro k hk ⟨x, blk, j, hx, hr, hj, hb⟩
  exact ⟨x, blk, j, sub _ _ hx, hr, hj, hb⟩
end
end Go.Ab
