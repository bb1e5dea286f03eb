/- The abstract layer, part W: what comes in, as blocks that are only read. -/
import Derived.Test.YtdbcndheeipmjaaAbxV
import Derived.ProofKit
import Derived.Carry
import Derived.OpenShut
import Derived.Below
import Derived.ChangeSame
import Derived.HandedShaped
set_option linter.unusedVariables false
set_option linter.unusedSimpArgs false
namespace Go.Ab
open Go.RowKit Go.WideShapes Go.ChangeShapes
mutual
/-- Cells of a type, as they may come in. -/
def Inp (T : TT) : Nat → TypeId → AHeap → List AV → Prop
  | 0, _, _, _ => False
  | f + 1, t, H, cs => match T t with
    | some s => match s.k with
      | .bool => ∃ b, cs = [.bool b]
      | .int k => ∃ n, cs = [.int k n] ∧ k.min ≤ n ∧ n ≤ k.max
      | .sl e => cs = [.nsl] ∨ ∃ (a len c : Nat) (rows : List (List AV)), cs = [.sl ⟨a, 0⟩ len (some c)] ∧ len ≤ c ∧ c ≤ 9223372036854775807 ∧ H.get a = some (.cells rows.flatten e .ro) ∧ rows.length = c ∧
          ∀ row ∈ rows, row.length = sizeT T e ∧ Inp T f e H row
      | .st fs => InpF T f fs H cs
      | _ => False
    | none => False
def InpF (T : TT) : Nat → List (Nat × TypeId) → AHeap → List AV → Prop
  | _, [], _, cs => cs = []
  | f, (_, t) :: r, H, cs => ∃ c1 c2, cs = c1 ++ c2 ∧ c1.length = sizeT T t ∧ Inp T f t H c1 ∧ InpF T f r H c2
end
def tiles (T : TT) : Nat → List (Nat × TypeId) → Nat → Bool
  | o, [], n => o == n
  | o, (off, t) :: r, n => off == o && tiles T (o + sizeT T t) r n
def okIn (T : TT) : Nat → TypeId → Bool
  | 0, _ => false
  | g + 1, t => match T t with
    | some s => match s.k with
      | .bool => true
      | .int _ => true
      | .sl e => okIn T g e && decide (0 < sizeT T e) && known T e
      | .st fs => fs.all (fun f => okIn T g f.2 && known T f.2) && tiles T 0 fs s.size
      | _ => false
    | none => false
/-- A heap of what came in. -/
structure Ro (T : TT) (ρ : Rho) (H : AHeap) (w : World) : Prop where
  rel : HRel T ρ w.heap.size H w
  ro : ∀ a b, H.get a = some b → b.rw = false
structure RoExt (ρ : Rho) (H : AHeap) (ρ' : Rho) (H' : AHeap) : Prop where
  ext : ρ.Ext ρ'
  keep : ∀ a b, H.get a = some b → H'.get a = some b
theorem RoExt.refl (ρ : Rho) (H : AHeap) : RoExt ρ H ρ H := ⟨Rho.Ext.refl _, fun _ _ h => h⟩
theorem RoExt.trans {ρ ρ1 ρ2 : Rho} {H H1 H2 : AHeap} (h : RoExt ρ H ρ1 H1) (h' : RoExt ρ1 H1 ρ2 H2) : RoExt ρ H ρ2 H2 := ⟨h.ext.trans h'.ext, fun a b hg => h'.keep a b (h.keep a b hg)⟩
section
variable {T : TT} {ρ : Rho} {H : AHeap} {w : World}
theorem Ro.zero (T : TT) (w : World) : Ro T (fun _ => Option.none) ⟨0, .lf⟩ w := ⟨HRel.none w, fun a b hg => absurd (AHeap.get_lt hg) (by simp)⟩
theorem Ro.push (h : Ro T ρ H w) {b s : Nat} {cs : List AV} {c : List Value} (el : TypeId) (hb : b < w.heap.size) (hc : VRs ρ cs c) (hcell : ∀ j v, c[j]? = some v → w.cell? ⟨b, s + j, none⟩ = some v) :
    Ro T (ρ.put H.next ⟨b, s, 0, 0⟩) (H.push (.cells cs el .ro)) w ∧ RoExt ρ H (ρ.put H.next ⟨b, s, 0, 0⟩) (H.push (.cells cs el .ro)) := by
  have hfr : ρ H.next = none := h.rel.fresh _ (Nat.le_refl _)
  have hext : ρ.Ext (ρ.put H.next ⟨b, s, 0, 0⟩) := Rho.ext_put _ hfr
  refine ⟨⟨⟨fun a blk hg => ?_, fun a ha => ?_, fun a a' blk blk' i i' hg hg' hr => ?_, Nat.le_refl _⟩, fun a blk hg => ?_⟩, ⟨hext, fun a blk hg => AHeap.get_push_old _ hg⟩⟩
  · rw [AHeap.get_push] at hg
    split at hg
    · rename_i e
      subst e; injection hg with hg; subst hg
      exact ⟨_, Rho.put_same _ _ _, hb, c, hc.mono hext, hcell⟩
    · rename_i e
      obtain ⟨i, hi, hr⟩ := h.rel.dom a blk hg
      exact ⟨i, by rw [Rho.put_ne _ _ e]; exact hi, hr.same hext rfl⟩
  · rw [Rho.put_ne _ _ (by simp at ha; omega)]; exact h.rel.fresh a (by simp at ha; omega)
  · exfalso
    rw [AHeap.get_push] at hg
    split at hg
    · injection hg with hg; subst hg; cases hr
    · rw [h.ro _ _ hg] at hr; cases hr
  · rw [AHeap.get_push] at hg
    split at hg
    · injection hg with hg; subst hg; rfl
    · exact h.ro _ _ hg
mutual
theorem Inp.mono {H' : AHeap} (hk : ∀ a b, H.get a = some b → H'.get a = some b) : ∀ {f : Nat} {t : TypeId} {cs : List AV}, Inp T f t H cs → Inp T f t H' cs
  | 0, _, _, h => by unfold Inp at h; exact h.elim
  | f + 1, t, cs, h => by
    unfold Inp at h ⊢
    split at h
    · split at h
      · exact h
      · exact h
      · rcases h with h | ⟨a, len, c, rows, h1, h2, h3, h4, h5, h6⟩
        · exact .inl h
        · exact .inr ⟨a, len, c, rows, h1, h2, h3, hk _ _ h4, h5, fun row hr => ⟨(h6 row hr).1, Inp.mono hk (h6 row hr).2⟩⟩
      · exact InpF.mono hk h
      · exact h.elim
    · exact h.elim
theorem InpF.mono {H' : AHeap} (hk : ∀ a b, H.get a = some b → H'.get a = some b) : ∀ {f : Nat} {fs : List (Nat × TypeId)} {cs : List AV}, InpF T f fs H cs → InpF T f fs H' cs
  | f, [], cs, h => by unfold InpF at h ⊢; exact h
  | f, (_, t) :: r, cs, h => by
    unfold InpF at h ⊢
    obtain ⟨c1, c2, h1, h2, h3, h4⟩ := h
    exact ⟨c1, c2, h1, h2, Inp.mono hk h3, InpF.mono hk h4⟩
end
end
theorem addr_add' (b o n : Nat) : (⟨b, o, none⟩ : Addr).add n = ⟨b, o + n, none⟩ := by
  unfold Addr.add; split
  · rename_i h; subst h; rfl
  · rfl
theorem mapM_get {α β : Type} {f : α → Option β} : ∀ {l : List α} {r : List β}, l.mapM f = some r → r.length = l.length ∧ ∀ (j : Nat) (x : α), l[j]? = some x → ∃ b, r[j]? = some b ∧ f x = some b
  | [], r, h => by simp at h; subst h; exact ⟨rfl, fun j x hx => by simp at hx⟩
  | a :: l, r, h => by
    rw [List.mapM_cons] at h
    cases ha : f a with
    | none => rw [ha] at h; simp at h
    | some b =>
      cases hl : l.mapM f with
      | none => rw [ha, hl] at h; simp at h
      | some bs =>
        rw [ha, hl] at h; simp at h; subst h
        obtain ⟨h3, h4⟩ := mapM_get hl
        refine ⟨by simp [h3], fun j x hx => ?_⟩
        cases j with
        | zero => simp at hx; subst hx; exact ⟨b, rfl, ha⟩
        | succ j => simp at hx; obtain ⟨b', h5, h6⟩ := h4 j x hx; exact ⟨b', by simpa using h5, h6⟩
section
variable {P : Program} {T : TT} (hT : TOk P T) {X : Type} {enc : TypeId × Value → X} {w : World}
include hT
theorem cellsOf_T {t : TypeId} {s : TS} (h : T t = some s) : P.cellsOf t = s.size := by
  obtain ⟨i, d, z, hi, hd, hk, hs, hb, hz, hc⟩ := (hT t s h).ex
  simp [Program.cellsOf, hi, hs]
theorem und_T {t : TypeId} {s : TS} (h : T t = some s) : ∃ d, P.underlying t = some d ∧ s.k = TK.of d := by
  obtain ⟨i, d, z, hi, hd, hk, hs, hb, hz, hc⟩ := (hT t s h).ex
  exact ⟨d, hd, hk⟩
omit hT in
theorem cells?_read {base n : Nat} {a : Addr} {row : List Value} (h : w.cells? base a n = some row) : row.length = n ∧ ∀ j v, row[j]? = some v → w.cell? (a.add j) = some v := by
  unfold World.cells? at h
  split at h
  · obtain ⟨h1, h2⟩ := mapM_get h
    refine ⟨by simpa using h1, fun j v hj => ?_⟩
    have hjl : j < n := by have := (List.getElem?_eq_some_iff.1 hj).1; simp at h1; omega
    obtain ⟨b, hb, hf⟩ := h2 j j (by simp [hjl])
    rw [hj] at hb; injection hb with hb; subst hb; exact hf
  · cases h
omit hT in
theorem cell?_lt {a : Addr} {v : Value} (h : w.cell? a = some v) : a.block < w.heap.size ∧ a.spot = none := by
  unfold World.cell? at h
  split at h
  · rename_i c el fr hg
    refine ⟨(Array.getElem?_eq_some_iff.1 hg).1, ?_⟩
    cases hs : a.spot with
    | none => rfl
    | some k => rw [hs] at h; simp at h
  · cases h
/-- The rows of a slice, one by one. -/
theorem open_rows {f g : Nat} {e : TypeId} (ih : ∀ {cs : List Value} {d : DataW X} {ps : List MemPlace} {ρ : Rho} {H : AHeap}, DataW.trod enc P w 0 (fun _ => true) true f e cs = some (d, ps) → Ro T ρ H w →
      ∃ ρ' H' acs, RoExt ρ H ρ' H' ∧ Ro T ρ' H' w ∧ VRs ρ' acs cs ∧ Inp T g e H' acs ∧ acs.all AV.one = true) {a : Addr} {size : Nat} :
    ∀ (l : List Nat) {ρ : Rho} {H : AHeap}, (∀ i ∈ l, ∃ x, (w.cells? 0 (a.add (i * size)) size).bind (DataW.trod enc P w 0 (fun _ => true) true f e) = some x) → Ro T ρ H w →
      ∃ (ρ' : Rho) (H' : AHeap) (rows : List (List AV)) (vrows : List (List Value)), RoExt ρ H ρ' H' ∧ Ro T ρ' H' w ∧ rows.length = l.length ∧ vrows.length = l.length ∧ VRs ρ' rows.flatten vrows.flatten ∧
        (∀ row ∈ rows, row.length = size ∧ Inp T g e H' row) ∧ (∀ (k : Nat) (i : Nat), l[k]? = some i → ∃ vr, vrows[k]? = some vr ∧ vr.length = size ∧ ∀ j v, vr[j]? = some v → w.cell? ((a.add (i * size)).add j) = some v)
  | [], ρ, H, h, hr => have _hT := hT; ⟨ρ, H, [], [], RoExt.refl _ _, hr, rfl, rfl, rfl, (by simp), (by simp)⟩
  | i :: l, ρ, H, h, hr => by
    obtain ⟨b, h1⟩ := h i List.mem_cons_self
    cases hc : w.cells? 0 (a.add (i * size)) size with
    | none => rw [hc] at h1; cases h1
    | some row =>
      rw [hc] at h1
      obtain ⟨hl, hcell⟩ := cells?_read hc
      obtain ⟨ρ1, H1, acs, e1, r1, v1, i1, o1⟩ := ih (d := b.1) (ps := b.2) h1 hr
      obtain ⟨ρ2, H2, rows, vrows, e2, r2, l2, l2', v2, i2, c2⟩ := open_rows ih l (fun i hi => h i (List.mem_cons_of_mem _ hi)) r1
      refine ⟨ρ2, H2, acs :: rows, row :: vrows, e1.trans e2, r2, by simp [l2], by simp [l2'], ?_, ?_, ?_⟩
      · simp only [List.flatten_cons]; exact (v1.mono e2.ext).append v2
      · intro row' hm
        rcases List.mem_cons.1 hm with rfl | hm
        · exact ⟨by have := v1.len; omega, i1.mono e2.keep⟩
        · exact i2 row' hm
      · intro k i' hk
        cases k with
        | zero => simp at hk; subst hk; exact ⟨row, rfl, hl, hcell⟩
        | succ k => simp at hk; obtain ⟨vr, h3, h4⟩ := c2 k i' hk; exact ⟨vr, by simpa using h3, h4⟩
omit hT in
theorem flatten_get {α : Type} {size : Nat} : ∀ {rows : List (List α)} {j : Nat} {v : α}, (∀ row ∈ rows, row.length = size) → 0 < size → rows.flatten[j]? = some v → ∃ row, rows[j / size]? = some row ∧ row[j % size]? = some v
  | [], j, v, h, hs, hj => by simp at hj
  | row :: rows, j, v, h, hs, hj => by
    have hl := h row List.mem_cons_self
    simp only [List.flatten_cons] at hj
    by_cases hlt : j < size
    · rw [List.getElem?_append_left (by omega)] at hj
      rw [Nat.div_eq_of_lt hlt, Nat.mod_eq_of_lt hlt]
      exact ⟨row, rfl, hj⟩
    · rw [List.getElem?_append_right (by omega)] at hj
      obtain ⟨r', h1, h2⟩ := flatten_get (fun r hr => h r (List.mem_cons_of_mem _ hr)) hs hj
      rw [hl] at h1 h2
      refine ⟨r', ?_, ?_⟩
      · rw [show j / size = (j - size) / size + 1 by rw [← Nat.add_div_right _ hs]; congr 1; omega]
        simpa using h1
      · rw [show j % size = (j - size) % size by rw [← Nat.add_mod_right (j - size) size]; congr 1; omega]
        exact h2
theorem open_fields {f g : Nat} (ih : ∀ {t : TypeId} {cs : List Value} {d : DataW X} {ps : List MemPlace} {ρ : Rho} {H : AHeap}, okIn T g t = true → DataW.trod enc P w 0 (fun _ => true) true f t cs = some (d, ps) → Ro T ρ H w →
      ∃ ρ' H' acs, RoExt ρ H ρ' H' ∧ Ro T ρ' H' w ∧ VRs ρ' acs cs ∧ Inp T g t H' acs ∧ acs.all AV.one = true) {cs : List Value} :
    ∀ (fs : List Field) {o : Nat} {ρ : Rho} {H : AHeap},
      (∀ x ∈ fs, okIn T g x.type = true ∧ known T x.type = true) → tiles T o (fs.map fun x => (x.offset, x.type)) cs.length = true →
      (∀ x ∈ fs, ∃ y, DataW.trod enc P w 0 (fun _ => true) true f x.type ((cs.drop x.offset).take (P.cellsOf x.type)) = some y) → Ro T ρ H w →
      ∃ ρ' H' acs, RoExt ρ H ρ' H' ∧ Ro T ρ' H' w ∧ VRs ρ' acs (cs.drop o) ∧ InpF T g (fs.map fun x => (x.offset, x.type)) H' acs ∧ acs.all AV.one = true
  | [], o, ρ, H, hok, ht, h, hr => by
    simp only [List.map_nil, tiles, beq_iff_eq] at ht
    subst ht
    exact ⟨ρ, H, [], RoExt.refl _ _, hr, by simp, by unfold InpF; rfl, rfl⟩
  | x :: fs, o, ρ, H, hok, ht, h, hr => by
    obtain ⟨b, h1⟩ := h x List.mem_cons_self
    simp only [List.map_cons, tiles, Bool.and_eq_true, beq_iff_eq] at ht
    obtain ⟨ho, ht⟩ := ht
    obtain ⟨hx1, hx2⟩ := hok x List.mem_cons_self
    obtain ⟨s, hs⟩ := Option.isSome_iff_exists.1 hx2
    have hsz : sizeT T x.type = s.size := by simp [sizeT, hs]
    have hco := cellsOf_T hT hs
    rw [hco, ho] at h1
    obtain ⟨ρ1, H1, a1, e1, r1, v1, i1, o1⟩ := ih (d := b.1) (ps := b.2) hx1 h1 hr
    obtain ⟨ρ2, H2, a2, e2, r2, v2, i2, o2⟩ := open_fields ih fs (fun y hy => hok y (List.mem_cons_of_mem _ hy)) ht (fun y hy => h y (List.mem_cons_of_mem _ hy)) r1
    have hle : o + s.size ≤ cs.length := by
      rw [← hsz]
      -- the rest's offsets only grow
      have : ∀ (l : List (Nat × TypeId)) (o n : Nat), tiles T o l n = true → o ≤ n := by
        intro l
        induction l with
        | nil => intro o n h; simp only [tiles, beq_iff_eq] at h; omega
        | cons y l ihl => intro o n h; obtain ⟨off, t⟩ := y; simp only [tiles, Bool.and_eq_true] at h; have := ihl _ _ h.2; omega
      exact this _ _ _ ht
    refine ⟨ρ2, H2, a1 ++ a2, e1.trans e2, r2, ?_, ?_, by simp [o1, o2]⟩
    · have := (v1.mono e2.ext).append v2
      rw [hsz, ← List.drop_drop, List.take_append_drop] at this
      exact this
    · simp only [List.map_cons]
      unfold InpF
      refine ⟨a1, a2, rfl, ?_, i1.mono e2.keep, i2⟩
      have := v1.len
      rw [hsz]; simp at this; omega
theorem open_cells (hw : 0 < w.heap.size) : ∀ (f g : Nat) {t : TypeId} {cs : List Value} {d : DataW X} {ps : List MemPlace} {ρ : Rho} {H : AHeap}, okIn T g t = true →
    DataW.trod enc P w 0 (fun _ => true) true f t cs = some (d, ps) → Ro T ρ H w → ∃ ρ' H' acs, RoExt ρ H ρ' H' ∧ Ro T ρ' H' w ∧ VRs ρ' acs cs ∧ Inp T g t H' acs ∧ acs.all AV.one = true := by
  intro f
  induction f with
  | zero => intro g t cs d ps ρ H hok h; simp [DataW.trod] at h
  | succ f ih =>
    intro g t cs d ps ρ H hok h hr
    cases g with
    | zero => simp [okIn] at hok
    | succ g =>
      unfold okIn at hok
      split at hok
      · rename_i s hs
        obtain ⟨ud, hud, hk⟩ := und_T hT hs
        split at hok
        · rename_i hkb
          have := TK.of_bool (by rw [← hk]; exact hkb); subst this
          obtain ⟨b, rfl, _⟩ := DataW.trod_bool hud h
          exact ⟨ρ, H, [.bool b], RoExt.refl _ _, hr, ⟨_, _, rfl, rfl, rfl⟩, by unfold Inp; simp only [hs, hkb]; exact ⟨b, rfl⟩, rfl⟩
        · rename_i k hkb
          have := TK.of_int (by rw [← hk]; exact hkb); subst this
          obtain ⟨n, rfl, _, hwf⟩ := DataW.trod_int hud h
          simp only [Lit.wf, Bool.and_eq_true, decide_eq_true_eq] at hwf
          exact ⟨ρ, H, [.int k n], RoExt.refl _ _, hr, ⟨_, _, rfl, rfl, rfl⟩, by unfold Inp; simp only [hs, hkb]; exact ⟨n, rfl, hwf⟩, rfl⟩
        · rename_i e hke
          have := TK.of_sl (by rw [← hk]; exact hke); subst this
          simp only [Bool.and_eq_true, decide_eq_true_eq] at hok
          obtain ⟨⟨hoke, hsz⟩, hkn⟩ := hok
          obtain ⟨se, hse⟩ := Option.isSome_iff_exists.1 hkn
          have hszE : sizeT T e = se.size := by simp [sizeT, hse]
          have hco := cellsOf_T hT hse
          rcases DataW.trod_slice hud h with ⟨rfl, _⟩ | ⟨a, len, cap, elems, rest, n, hn, rfl, _, _, hlc, hcm, hel, h1, h2, _⟩
          · exact ⟨ρ, H, [.nsl], RoExt.refl _ _, hr, ⟨_, _, rfl, rfl, rfl⟩, by unfold Inp; simp only [hs, hke]; exact .inl trivial, rfl⟩
          · cases hn
            obtain ⟨hrl, h2⟩ := h2 rfl
            have hall : ∀ i ∈ List.range cap, ∃ x, (w.cells? 0 (a.add (i * se.size)) se.size).bind (DataW.trod enc P w 0 (fun _ => true) true f e) = some x := by
              intro i hi
              simp only [List.mem_range] at hi
              rw [hco] at h1 h2
              by_cases hil : i < len
              · exact ⟨elems[i]'(by omega), by rw [h1 i hil, List.getElem?_eq_getElem]⟩
              · have := h2 (i - len) (by omega)
                rw [show len + (i - len) = i by omega] at this
                exact ⟨rest[i - len]'(by omega), by rw [this, List.getElem?_eq_getElem]⟩
            obtain ⟨ρ1, H1, rows, vrows, e1, r1, l1, l1', v1, i1, c1⟩ := open_rows hT (size := se.size) (fun {cs d ps ρ H} h hr => ih g hoke h hr) (List.range cap) hall hr
            simp only [List.length_range] at l1 l1'
            have hvl : ∀ row ∈ vrows, row.length = se.size := by
              intro row hrow
              obtain ⟨k, hk1, hk2⟩ := List.getElem_of_mem hrow
              obtain ⟨vr, h3, h4, _⟩ := c1 k k (List.getElem?_range (by omega))
              rw [List.getElem?_eq_getElem hk1, hk2] at h3
              injection h3 with h3; subst h3; exact h4
            -- the block itself
            have hblk : ∃ b s, b < w.heap.size ∧ (cap = 0 ∨ a = ⟨b, s, none⟩) ∧ ∀ j v, vrows.flatten[j]? = some v → w.cell? ⟨b, s + j, none⟩ = some v := by
              by_cases hc0 : cap = 0
              · subst hc0
                have : vrows = [] := List.length_eq_zero_iff.1 l1'
                subst this
                exact ⟨0, 0, hw, .inl rfl, by simp⟩
              · obtain ⟨vr, h3, h4, h5⟩ := c1 0 0 (List.getElem?_range (by omega))
                obtain ⟨v0, hv0⟩ : ∃ v0, vr[0]? = some v0 := ⟨vr[0]'(by omega), by rw [List.getElem?_eq_getElem]⟩
                have h6 := h5 0 v0 hv0
                have ha : (a.add (0 * se.size)).add 0 = a := by simp [Addr.add]
                rw [ha] at h6
                obtain ⟨hb, hsp⟩ := cell?_lt h6
                obtain ⟨ab, ao, asp⟩ := a
                simp only [] at hb hsp; subst hsp
                refine ⟨ab, ao, hb, .inr rfl, fun j v hj => ?_⟩
                obtain ⟨row, hr1, hr2⟩ := flatten_get hvl (by omega) hj
                have hlt : j / se.size < cap := by have := (List.getElem?_eq_some_iff.1 hr1).1; omega
                obtain ⟨vr', h7, _, h8⟩ := c1 (j / se.size) (j / se.size) (List.getElem?_range hlt)
                rw [hr1] at h7; injection h7 with h7; subst h7
                have := h8 _ _ hr2
                rw [addr_add', addr_add', Nat.add_assoc] at this
                rwa [show j / se.size * se.size + j % se.size = j by rw [Nat.mul_comm]; exact Nat.div_add_mod _ _] at this
            obtain ⟨b, s0, hb, haddr, hcells⟩ := hblk
            obtain ⟨r2, e2⟩ := r1.push (T := T) e hb v1 hcells
            refine ⟨_, _, [.sl ⟨H1.next, 0⟩ len (some cap)], e1.trans e2, r2, ⟨_, _, rfl, ?_, rfl⟩, ?_, rfl⟩
            · exact ⟨_, a, Rho.put_same _ _ _, rfl, hlc, haddr⟩
            · unfold Inp
              simp only [hs, hke]
              refine .inr ⟨H1.next, len, cap, rows, rfl, hlc, by unfold maxLen at hcm; omega, AHeap.get_push_new _ _, l1, fun row hrow => ?_⟩
              have := i1 row hrow
              exact ⟨by rw [hszE]; exact this.1, this.2.mono e2.keep⟩
        · rename_i fs hkf
          obtain ⟨fs', hfs, rfl⟩ := TK.of_st (by rw [← hk]; exact hkf)
          subst hfs
          simp only [Bool.and_eq_true, List.all_eq_true, List.mem_map, forall_exists_index, and_imp, forall_apply_eq_imp_iff₂] at hok
          obtain ⟨hok1, hok2⟩ := hok
          obtain ⟨xs, n, hn, _, hlen, hxl, hf⟩ := DataW.trod_struct hud h
          cases hn
          rw [cellsOf_T hT hs] at hlen
          obtain ⟨ρ', H', acs, e1, r1, v1, i1, o1⟩ := open_fields hT (fun {t cs d ps ρ H} hok h hr => ih g hok h hr) fs'.toList (o := 0) (fun x hx => hok1 x hx) (by rw [hlen]; exact hok2) (fun x hx => by
            obtain ⟨i, hi, rfl⟩ := List.getElem_of_mem hx
            have := hf i fs'.toList[i] (by simp)
            simp at hi
            exact ⟨xs[i]'(by omega), by rw [this, List.getElem?_eq_getElem]⟩) hr
          refine ⟨ρ', H', acs, e1, r1, by simpa using v1, ?_, o1⟩
          unfold Inp
          simp only [hs, hkf]
          exact i1
        · cases hok
      · cases hok
end
/-! ### A law -/
/-- Arguments of these types. -/
def InpA (T : TT) : List TypeId → AHeap → List AV → Prop
  | [], _, vs => vs = []
  | t :: ts, H, vs => ∃ v vs' cs, vs = v :: vs' ∧ Inp T 12 t H cs ∧ (v = .agg cs ∧ (T t).any (fun s => s.k.isAgg) = true ∨ cs = [v] ∧ (T t).any (fun s => s.k.isAgg) = false) ∧ InpA T ts H vs'
theorem InpA.mono {T : TT} {H H' : AHeap} (hk : ∀ a b, H.get a = some b → H'.get a = some b) : ∀ {ts : List TypeId} {vs : List AV}, InpA T ts H vs → InpA T ts H' vs
  | [], vs, h => h
  | t :: ts, vs, ⟨v, vs', cs, h1, h2, h3, h4⟩ => ⟨v, vs', cs, h1, h2.mono hk, h3, InpA.mono hk h4⟩
section
variable {P : Program} {T : TT} {X : Type} {enc : TypeId × Value → X} {w : World}
theorem open_args (hT : TOk P T) (hw : 0 < w.heap.size) : ∀ (ts : List TypeId) {base : Nat} {vs : List Value} {ds : List (DataW X)} {ps : List MemPlace} {ρ : Rho} {H : AHeap}, ts.all (okIn T 12) = true →
    (∀ (j : Nat) t v, ts[j]? = some t → vs[j]? = some v → Value.okWide P w .any base t v) → DataW.TrodAll enc P w 0 (fun _ => true) true ts vs ds ps → Ro T ρ H w →
    ∃ ρ' H' avs, RoExt ρ H ρ' H' ∧ Ro T ρ' H' w ∧ VRs ρ' avs vs ∧ InpA T ts H' avs
  | [], base, vs, ds, ps, ρ, H, hok, hval, h, hr => by
    obtain ⟨rfl, _, _⟩ := trodAll_nil h
    exact ⟨ρ, H, [], RoExt.refl _ _, hr, rfl, rfl⟩
  | t :: ts, base, vs, ds, ps, ρ, H, hok, hval, h, hr => by
    obtain ⟨v, vs', d, ds', p, q, rfl, rfl, rfl, ⟨fu, hd⟩, hrest⟩ := trodAll_cons h
    simp only [List.all_cons, Bool.and_eq_true] at hok
    obtain ⟨ρ1, H1, acs, e1, r1, v1, i1, o1⟩ := open_cells hT hw fu 12 hok.1 hd hr
    obtain ⟨ρ2, H2, avs, e2, r2, v2, i2⟩ := open_args hT hw ts hok.2 (fun j t' v' h1 h2 => hval (j + 1) t' v' (by simpa using h1) (by simpa using h2)) hrest r1
    have hv := hval 0 t v rfl rfl
    have hkn : ∃ s, T t = some s := by
      cases hs : T t with
      | none => have := hok.1; unfold okIn at this; rw [hs] at this; cases this
      | some s => exact ⟨s, rfl⟩
    obtain ⟨s, hs⟩ := hkn
    obtain ⟨ud, hud, hk⟩ := und_T hT hs
    have hany : (T t).any (fun s => s.k.isAgg) = s.k.isAgg := by rw [hs]; rfl
    cases hag : s.k.isAgg with
    | true =>
      have hvagg : ∃ cs, v = .agg cs := by
        rw [hk] at hag
        cases ud <;> simp [TK.of, TK.isAgg] at hag
        all_goals
          simp only [Value.okWide, hud] at hv
          obtain ⟨cs, h1, _⟩ := hv
          exact ⟨cs, h1⟩
      obtain ⟨⟨cs⟩, rfl⟩ := hvagg
      refine ⟨ρ2, H2, .agg acs :: avs, e1.trans e2, r2, ⟨_, _, rfl, ⟨cs, rfl, ?_⟩, v2⟩, _, _, acs, rfl, i1.mono e2.keep, .inl ⟨rfl, by rw [hany]; exact hag⟩, i2⟩
      have := v1.mono e2.ext
      simpa [Value.cells] using this
    | false =>
      have hone : ∃ a, acs = [a] := by
        unfold Inp at i1
        rw [hs] at i1
        simp only [] at i1
        split at i1
        · obtain ⟨b, rfl⟩ := i1; exact ⟨_, rfl⟩
        · obtain ⟨n, rfl, _⟩ := i1; exact ⟨_, rfl⟩
        · rcases i1 with rfl | ⟨a, len, c, rows, rfl, _⟩ <;> exact ⟨_, rfl⟩
        · rename_i hst; rw [hst] at hag; cases hag
        · exact i1.elim
      obtain ⟨a, rfl⟩ := hone
      have hvc : v.cells = #[v] := by
        have := hv
        rw [hk] at hag
        have hno : ∀ cs, v ≠ .agg cs := by
          intro cs hh
          subst hh
          cases ud <;> simp [TK.of, TK.isAgg] at hag <;> simp [Value.okWide, hud, Cell.okWide, Cell.ok] at hv
        cases v <;> first | rfl | exact absurd rfl (hno _)
      refine ⟨ρ2, H2, a :: avs, e1.trans e2, r2, ⟨_, _, rfl, ?_, v2⟩, _, _, [a], rfl, i1.mono e2.keep, .inr ⟨rfl, by rw [hany]; exact hag⟩, i2⟩
      have := v1.mono e2.ext
      rw [hvc] at this
      obtain ⟨v', vs'', h1, h2, h3⟩ := this
      simp at h1
      rw [h1.1]; exact h2
theorem trodAll_stays (hl : laidOutB P = true) {w' : World} {sp : Nat → Bool} (hb : Below w.heap.size w w') : ∀ {ts : List TypeId} {vs : List Value} {ds : List (DataW X)} {ps : List MemPlace},
    ts.all (fun t => P.readableRec t && decide (t < P.types.size)) = true → DataW.TrodAll enc P w 0 (fun _ => true) true ts vs ds ps → (∀ x ∈ ps, x.block < w.heap.size) → (∀ x ∈ ps, sp x.block = true) → DataW.TrodAll enc P w' 0 sp true ts vs ds ps
  | [], vs, ds, ps, hok, h, hlt, hsp => by
    obtain ⟨rfl, rfl, rfl⟩ := trodAll_nil h
    rfl
  | t :: ts, vs, ds, ps, hok, h, hlt, hsp => by
    obtain ⟨v, vs', d, ds', p, q, rfl, rfl, rfl, hd, hrest⟩ := trodAll_cons h
    simp only [List.all_cons, Bool.and_eq_true, decide_eq_true_eq] at hok
    refine ⟨p, q, ?_, trodAll_stays hl hb hok.2 hrest (fun x hx => hlt x (by simp [hx])) (fun x hx => hsp x (by simp [hx])), rfl⟩
    exact WideElems.Trod_stays hl hok.1.1 hok.1.2 hd (fun x hx => hb.same (hlt x (by simp [hx]))) (fun x hx => hsp x (by simp [hx]))
/-- What a call leaves, where below the heap's old size nothing has turned. -/
theorem post_below {f : Func} {s : ChangeSpec} {apart fresh handsOn again : Bool} {W W' : World} {args : Array Value} {v : Value} {ds gs : List (DataW X)} {before : List MemPlace}
    (hl : laidOutB P = true) (hW : DataW.Whole enc P f.params.toList s.vars apart W args.toList ds gs before) (hv : s.vars = []) (hsa : (s.fn X (ds ++ gs)).args = ds) (hsv : (s.fn X (ds ++ gs)).vars = [])
    (hrd : f.params.toList.all (fun t => P.readableRec t && decide (t < P.types.size)) = true)
    (hres : ∀ (b : Nat) (sp : Nat → Bool) (hd : Bool), DataW.TrodAll enc P W' b sp hd f.resultTypes.toList (v.resultList f.resultTypes.size) (s.fn X (ds ++ gs)).results [])
    (hb : Below W.heap.size W W')
    (hok : ∀ (j : Nat) (t : TypeId) (r : Value), f.resultTypes[j]? = some t → (v.resultList f.resultTypes.size)[j]? = some r → Value.okWide P W' .any 0 t r) :
    s.post enc P f apart fresh handsOn again W args v W' := by
  have hlt : ∀ p ∈ before, p.block < W.heap.size := fun p hp => hW.lt p hp
  obtain ⟨p, q, hA, hV, rfl, hz, hn⟩ := id hW
  have hq : q = [] ∧ gs = [] := by
    rw [hv] at hV
    cases gs with
    | nil => exact ⟨hV, rfl⟩
    | cons g gs => exact hV.elim
  obtain ⟨rfl, rfl⟩ := hq
  have hargs : ∀ sp : Nat → Bool, (∀ x ∈ p ++ [], sp x.block = true) → DataW.TrodAll enc P W' 0 sp true f.params.toList args.toList (s.fn X (ds ++ [])).args p := fun sp hsp => by
    rw [hsa]; exact trodAll_stays hl hb hrd hA (fun x hx => hlt x (by simp [hx])) (fun x hx => hsp x (by simp [hx]))
  have hvars : ∀ sp : Nat → Bool, DataW.TrodVars enc P W' sp s.vars (s.fn X (ds ++ [])).vars [] := fun sp => by rw [hv, hsv]; rfl
  have hold : ∀ x ∈ p ++ [], (fun b => decide (b < W.heap.size)) x.block = true := fun x hx => by simpa using hlt x hx
  refine ⟨ds, [], p ++ [], [], p, [], hW, hres _ _ _, hargs _ hold, hvars _, World.keptBut_mono (fun x hx => ⟨hx, by simpa using hx⟩) (hb.frame (· ∈ p ++ [])), fun _ => ?_⟩
  refine ⟨hok, _, _, ([] ++ p) ++ [], ⟨[] ++ p, [], trodAll_append (hargs _ (fun _ _ => rfl)) (hres _ _ _), hvars _, rfl, ?_, ?_⟩, ?_⟩
  · intro b off hp
    have hin : MemPlace.cell b off ∈ p ++ [] := by simpa using hp
    rw [hb.frozen (hlt _ hin)]
    exact hz b off hin
  · intro ha
    simpa using hn ha
  · intro x hx _
    simpa using hx
theorem pos_of_shaped (hpos : P.globals.size < (begin P (fun _ _ => 0) default).world.heap.size) (h : w.ShapedOpen P) : 0 < w.heap.size := by
  obtain ⟨o, o0, ho, _⟩ := h.2 P.globals.size (Nat.le_refl _) hpos
  have := (Array.getElem?_eq_some_iff.1 ho).1
  omega
/-- A law's contract, from what it does with whatever comes in. -/
theorem law_contract (hT : TOk P T) (hl : laidOutB P = true) (hpos : P.globals.size < (begin P (fun _ _ => 0) default).world.heap.size) {f : FuncId} {fn : Func} {c : Code} {tb : TypeId} {s : ChangeSpec}
    (hf : P.funcs[f]? = some fn) (hb : fn.body = some c) (hname : (fn.name == "runtime.NumGoroutine") = false) (hv : s.vars = []) (hs : ∀ ds : List (DataW X), ds.length = fn.params.size → s.fn X ds = { results := [.lit (.bool true)], args := ds })
    (hres : fn.resultTypes = #[tb]) (htb : P.underlying tb = some .bool) (hok : fn.params.toList.all (okIn T 12) = true) (hrd : fn.params.toList.all (fun t => P.readableRec t && decide (t < P.types.size)) = true)
    (law : ∀ (H : AHeap) (avs : List AV), InpA T fn.params.toList H avs → (∀ a b, H.get a = some b → b.rw = false) → ASpec P T f avs H fun r _ => r = .bool true)
    {apart fresh handsOn again : Bool} {W : World} {base : Nat} {args : Array Value} {ds gs : List (DataW X)} {before : List MemPlace}
    (hval : ∀ (j : Nat) t v, fn.params[j]? = some t → args[j]? = some v → Value.okWide P W .any base t v)
    (hW : DataW.Whole enc P fn.params.toList s.vars apart W args.toList ds gs before) (hsh : W.ShapedOpen P) :
    Calls P f args W fun e W' => ∃ v, e = .returned v ∧ s.post enc P fn apart fresh handsOn again W args v W' := by
  have hW' := hW
  obtain ⟨p, q, hA, hV, _, _, _⟩ := hW
  have hgs : gs = [] := by
    rw [hv] at hV
    cases gs with
    | nil => rfl
    | cons g gs => exact hV.elim
  subst hgs
  have hlen : ds.length = fn.params.size := by
    have : ∀ {ts : List TypeId} {vs : List Value} {ds : List (DataW X)} {ps : List MemPlace}, DataW.TrodAll enc P W 0 (fun _ => true) true ts vs ds ps → ds.length = ts.length := by
      intro ts
      induction ts with
      | nil => intro vs ds ps h; obtain ⟨_, rfl, _⟩ := trodAll_nil h; rfl
      | cons t ts ih => intro vs ds ps h; obtain ⟨v, vs', d, ds', p, q, rfl, rfl, rfl, _, hr⟩ := trodAll_cons h; simp [ih hr]
    simpa using this hA
  have hspec := hs ds hlen
  obtain ⟨ρ, H, avs, _, hro, hvs, hin⟩ := open_args (enc := enc) hT (pos_of_shaped hpos hsh) fn.params.toList (vs := args.toList) hok (fun j t v h1 h2 => hval j t v (by simpa using h1) (by simpa using h2)) hA (Ro.zero T W)
  have hargs : args = ⟨args.toList⟩ := rfl
  rw [hargs]
  refine (ASpec.top (law H avs hin hro.ro) hf hb hname hro.rel hvs hro.ro).mono ?_
  rintro e W' ⟨v, rfl, ⟨r, ρ', _, hq, hr⟩, hbelow⟩
  subst hq
  have hv' : v = .bool true := hr
  subst hv'
  refine ⟨_, rfl, post_below hl hW' hv (by simp [hspec]) (by simp [hspec]) hrd ?_ hbelow ?_⟩
  · intro b sp hd
    rw [hres]
    simp only [List.append_nil, hspec]
    exact trodAll_mk1 (shut_bool htb _)
  · exact ok_one hres rfl (okWide_bool_mk htb _)
end
end Go.Ab
