/- The abstract layer, part F: operations that read or write memory. -/
import Derived.Test.YtdbcndheeipmjaaAbxE
set_option linter.unusedVariables false
set_option linter.unusedSimpArgs false
namespace Go.Ab
theorem addr_add (i : BI) (o n : Nat) : (⟨i.b, o, none⟩ : Addr).add n = ⟨i.b, o + n, none⟩ := by
  unfold Addr.add; split
  · simp_all
  · rfl
section
variable {P : Program} {T : TT} {ρ : Rho} {lo : Nat} {H : AHeap} {w : World} (hT : TOk P T)

theorem HRel.cellsAt (h : HRel T ρ lo H w) {a : Nat} {cs : List AV} {el : TypeId} {k : Kind} {i : BI} (hg : H.get a = some (.cells cs el k)) (hi : ρ a = some i) :
    ∃ c, VRs ρ cs c ∧ ∀ j v, c[j]? = some v → w.cell? ⟨i.b, i.s + j, none⟩ = some v := by
  obtain ⟨i', hi', hb⟩ := h.dom a _ hg
  rw [hi] at hi'; injection hi' with hi'; subst hi'
  exact hb.cells

include hT
theorem aload_sound (h : HRel T ρ lo H w) {t : TypeId} {a : AA} {i : BI} (hi : ρ a.blk = some i) {z : AV} (hz : aload T H t a = some z) :
    ∃ v, (loadVar t ⟨i.b, i.s + a.off, none⟩).run P w = .ok v w ∧ VR ρ z v := by
  unfold aload at hz
  split at hz
  · rename_i s cs el k hs hg
    have h1 := run_isAgg_T (w := w) hT hs
    have h2 := run_sizeOf_T (w := w) hT hs
    obtain ⟨c, hc, hcell⟩ := h.cellsAt hg hi
    split at hz
    · rename_i ha
      split at hz
      · rename_i hfit
        injection hz with hz; subst hz
        have hlen : ((c.drop a.off).take s.size).length = s.size := by have := hc.len; simp; omega
        have := run_loadCells_list (P := P) w ⟨i.b, i.s + a.off, none⟩ ((c.drop a.off).take s.size) (by
          intro j v hj
          rw [List.getElem?_take] at hj
          split at hj
          · rw [List.getElem?_drop] at hj
            rw [addr_add, Nat.add_assoc]; exact hcell _ _ hj
          · cases hj)
        rw [hlen] at this
        exact ⟨.agg ⟨(c.drop a.off).take s.size⟩, by simp [loadVar, h1, h2, ha, this], ⟨_, rfl, (hc.drop _).take _⟩⟩
      · cases hz
    · rename_i ha
      obtain ⟨v, hv, hr⟩ := hc.get hz
      exact ⟨v, by simp [loadVar, h1, ha, hcell _ _ hv], hr⟩
  · cases hz

theorem astore_sound (h : HRel T ρ lo H w) {t : TypeId} {a : AA} {i : BI} (hi : ρ a.blk = some i) {x : AV} {v : Value} (hx : VR ρ x v) {H' : AHeap} (hz : astore T H t a x = some H') :
    ∃ w', (storeVar t ⟨i.b, i.s + a.off, none⟩ v).run P w = .ok () w' ∧ HRel T ρ lo H' w' ∧ Step ρ H w ρ H' w' := by
  unfold astore at hz
  split at hz
  · rename_i s cs el k hs hg
    split at hz
    · cases hz
    · rename_i hk
      split at hz
      · rename_i hc0
        obtain ⟨hsz, hfit, hone⟩ := hc0
        injection hz with hz; subst hz
        have h2 := run_sizeOf_T (w := w) hT hs
        obtain ⟨pre, c, post, hh, hp, hc, hkr, upd⟩ := h.update (cs' := aput cs a.off x.cells) hk hg hi
        have hxc := hx.cells
        have hxl := hxc.len
        have hcl := hc.len
        have hsize : v.cells.size = s.size := by rw [← hsz, ← hxl]; simp
        obtain ⟨hh', hst⟩ := upd (c.take a.off ++ v.cells.toList ++ c.drop (a.off + v.cells.toList.length))
          (by unfold aput; rw [hxl]; exact ((hc.take _).append hxc).append (hc.drop _)) (by simp; simp at hxl; omega)
        have hrun := run_storeCells_at P i.b (i.s + a.off) el v.cells.toList 0 _ w hh (by simp; simp at hxl; omega) (hxc.one hone)
        refine ⟨_, ?_, hh', hst⟩
        simp only [storeVar, Sem.run_bind, h2, Result.andThen, Sem.run_ite, hsize, ne_eq, not_true, if_false, hrun]
        congr 2
        apply Array.ext'
        simp only [Nat.add_zero, List.toList_toArray]
        rw [← hp]
        have e1 : (pre ++ c ++ post).take (pre.length + a.off) = pre ++ c.take a.off := by
          rw [List.append_assoc, List.take_length_add_append, List.take_append_of_le_length (by omega)]
        have e2 : (pre ++ c ++ post).drop (pre.length + a.off + v.cells.toList.length) = c.drop (a.off + v.cells.toList.length) ++ post := by
          rw [List.append_assoc, Nat.add_assoc, List.drop_length_add_append, List.drop_append_of_le_length (by omega)]
        rw [e1, e2]; simp [List.append_assoc]
      · cases hz
  · cases hz

omit hT in
/-- A new block by 'newRow'. -/
theorem newRow_sound (h : HRel T ρ lo H w) {cs : List AV} {c : Array Value} (hc : VRs ρ cs c.toList) (el : TypeId) :
    ∃ ρ' w', (newRow el c).run P w = .ok ⟨w.heap.size, 0, none⟩ w' ∧ ρ' H.next = some ⟨w.heap.size, 0, 0, 0⟩ ∧ HRel T ρ' lo (H.push (.cells cs el .ex)) w' ∧ Step ρ H w ρ' (H.push (.cells cs el .ex)) w' := by
  have := h.push (c := c.toList) (post := []) (cs := cs) (el := el) (k := .ex) (i := ⟨w.heap.size, 0, 0, 0⟩) (by simp) rfl rfl hc ⟨rfl, rfl⟩
  simp only [List.append_nil] at this
  exact ⟨_, _, by simp [newRow], Rho.put_same _ _ _, this.1, this.2⟩

omit hT in
theorem asLen_sound {x : AV} {v : Value} {m : Nat} (hx : VR ρ x v) (h : asLen x = some m) : ∀ w, (Builtin.lenOf v).run P w = .ok m w := by
  intro w
  cases x with
  | nsl => cases hx; simp only [asLen, Option.some.injEq] at h; subst h; rfl
  | sl a n c =>
    simp only [asLen, Option.some.injEq] at h; subst h
    cases c with
    | some c => obtain ⟨i, o, _, rfl, _⟩ := hx; rfl
    | none => obtain ⟨i, c, o, _, rfl, _⟩ := hx; rfl
  | _ => simp [asLen] at h

omit hT in
theorem acells_sound (h : HRel T ρ lo H w) {size n : Nat} {x : AV} {v : Value} {news : List AV} (hx : VR ρ x v) (hn : n = 0 ∨ ∃ m, asLen x = some m ∧ n ≤ m) (hz : acells H size n x = some news) :
    ∃ ns, VRs ρ news ns ∧ (x ≠ .nsl → ns.length = n * size) ∧ ∀ w', (∀ a, w'.cell? a = w.cell? a) → (Builtin.firstCells size n v).run P w' = .ok ⟨ns⟩ w' := by
  cases x with
  | nsl =>
    cases hx
    simp only [acells, Option.some.injEq] at hz; subst hz
    exact ⟨[], rfl, by simp, fun w' _ => by simp [Builtin.firstCells]⟩
  | sl a m c =>
    simp only [acells] at hz
    split at hz
    · rename_i h0
      subst h0
      injection hz with hz; subst hz
      have : ∃ q m c, v = .slice (some q) m c := by
        cases c with
        | some c => obtain ⟨i, o, _, rfl, _⟩ := hx; exact ⟨_, _, _, rfl⟩
        | none => obtain ⟨i, c, o, _, rfl, _⟩ := hx; exact ⟨_, _, _, rfl⟩
      obtain ⟨q, m, c, rfl⟩ := this
      exact ⟨[], rfl, by simp, fun w' _ => by simp [Builtin.firstCells, loadCells, loadCellsFrom]⟩
    · rename_i h0
      have hnm : n ≤ m := by
        rcases hn with hn | ⟨m', hm', hle⟩
        · exact absurd hn h0
        · simp only [asLen, Option.some.injEq] at hm'; omega
      split at hz
      · rename_i cs el k hg
        split at hz
        · rename_i hfit
          injection hz with hz; subst hz
          have : ∃ i c, ρ a.blk = some i ∧ v = .slice (some ⟨i.b, i.s + a.off, none⟩) m c := by
            cases c with
            | some c =>
              obtain ⟨i, o, hi, rfl, hle, ho⟩ := hx
              rcases ho with rfl | rfl
              · omega
              · exact ⟨i, c, hi, rfl⟩
            | none =>
              obtain ⟨i, c, o, hi, rfl, hle, _, ho⟩ := hx
              rcases ho with rfl | rfl
              · omega
              · exact ⟨i, c, hi, rfl⟩
          obtain ⟨i, c, hi, rfl⟩ := this
          obtain ⟨cc, hc, hcell⟩ := h.cellsAt hg hi
          have hlen : ((cc.drop a.off).take (n * size)).length = n * size := by have := hc.len; simp; omega
          refine ⟨(cc.drop a.off).take (n * size), (hc.drop _).take _, fun _ => hlen, fun w' hw' => ?_⟩
          have := run_loadCells_list (P := P) w' ⟨i.b, i.s + a.off, none⟩ ((cc.drop a.off).take (n * size)) (by
            intro j v hj
            rw [List.getElem?_take] at hj
            split at hj
            · rw [List.getElem?_drop] at hj
              rw [addr_add, Nat.add_assoc, hw']; exact hcell _ _ hj
            · cases hj)
          rw [hlen] at this
          simp [Builtin.firstCells, this]
        · cases hz
      · cases hz
  | _ => simp [acells] at hz

omit hT in
/-- A slice with elements: its address, and what is known of its capacity. -/
theorem VR.slice {a : AA} {n : Nat} {c : Option Nat} {v : Value} (hx : VR ρ (.sl a n c) v) :
    ∃ i ad cap, ρ a.blk = some i ∧ v = .slice (some ad) n cap ∧ (∀ k, c = some k → cap = k) ∧ (cap = 0 ∨ ad = ⟨i.b, i.s + a.off, none⟩) ∧ n ≤ cap ∧ (c = none → i.s + a.off + cap * i.esz = i.csz) := by
  cases c with
  | some c => obtain ⟨i, o, hi, rfl, hle, ho⟩ := hx; exact ⟨i, o, c, hi, rfl, fun k hk => (by injection hk), ho, hle, fun hk => by cases hk⟩
  | none =>
    obtain ⟨i, c, o, hi, rfl, hle, h, ho⟩ := hx
    exact ⟨i, _, c, hi, rfl, (fun k hk => by cases hk), ho, hle, fun _ => h⟩

theorem amake_sound (h : HRel T ρ lo H w) {t : TypeId} {x y z : AV} {u v : Value} {H' : AHeap} (hx : VR ρ x u) (hy : VR ρ y v) (hz : amake T H t x y = some (z, H')) :
    ∃ ρ' r w', (Instr.makeSlice t u v).run P w = .ok r w' ∧ VR ρ' z r ∧ HRel T ρ' lo H' w' ∧ Step ρ H w ρ' H' w' := by
  unfold amake at hz
  split at hz
  · rename_i s k l k' c hs
    cases hx; cases hy
    split at hz
    · rename_i el e
      split at hz
      · rename_i se hse
        split at hz
        · rename_i hcond
          obtain ⟨h0, hlc, hb, hc48, hzl, hsz⟩ := hcond
          simp only [Option.some.injEq, Prod.mk.injEq] at hz
          obtain ⟨rfl, rfl⟩ := hz
          obtain ⟨i, d, zv, hi, hd, hk, _⟩ := info_T hT hs
          rw [hk] at e
          have := TK.of_sl e; subst this
          obtain ⟨i', d', zv', hi', hd', hk', hsz', hby', hzr', hzz'⟩ := info_T hT hse
          have hrun := run_make (P := P) w t el i' zv' hd hi' hzr' k k' l c h0 hlc (by rw [hby', Int.mul_comm]; exact hb) (by omega)
          have hcells : VRs ρ (azeros c.toNat se.zero) (madeCells zv'.cells (c.toNat * i'.size)).toList :=
            (hzz' ρ).madeCells _ _ (by have := (hzz' ρ).len; simp at this; rw [hsz', this, hzl])
          have := h.push (c := (madeCells zv'.cells (c.toNat * i'.size)).toList) (post := []) (cs := azeros c.toNat se.zero) (el := el) (k := .ex) (i := ⟨w.heap.size, 0, 0, 0⟩) (by simp) rfl rfl hcells ⟨rfl, rfl⟩
          simp only [List.append_nil] at this
          exact ⟨_, _, _, hrun, ⟨_, _, Rho.put_same _ _ _, rfl, by omega, .inr rfl⟩, this.1, this.2⟩
        · cases hz
      · cases hz
    · cases hz
  · cases hz

theorem abuildSlice_sound (h : HRel T ρ lo H w) {t : TypeId} {len : Nat} {parts : List (Nat × AV)} {vparts : List (Nat × Value)} {z : AV} {H' : AHeap} (hp : VPs ρ parts vparts)
    (hz : abuildSlice T H t len parts = some (z, H')) :
    ∃ ρ' r w', (Instr.buildSlice t len ⟨vparts⟩).run P w = .ok r w' ∧ VR ρ' z r ∧ HRel T ρ' lo H' w' ∧ Step ρ H w ρ' H' w' := by
  unfold abuildSlice at hz
  split at hz
  · rename_i s hs
    split at hz
    · rename_i el e
      split at hz
      · rename_i se hse
        split at hz
        · rename_i hcond
          obtain ⟨hlim, hsz, hzl⟩ := hcond
          split at hz
          · rename_i cs hcs
            simp only [Option.some.injEq, Prod.mk.injEq] at hz
            obtain ⟨rfl, rfl⟩ := hz
            obtain ⟨i, d, zv, hi, hd, hk, _⟩ := info_T hT hs
            rw [hk] at e
            have := TK.of_sl e; subst this
            obtain ⟨i', d', zv', hi', hd', hk', hsz', hby', hzr', hzz'⟩ := info_T hT hse
            have hzc : zv'.cells.size = se.size := by have := (hzz' ρ).len; simp at this; omega
            have hbase : ∀ zz : Array Value, (zz = if len * se.size = 0 then #[] else zv'.cells) → VRs ρ (azeros len se.zero) ((Array.range (len * se.size)).map (zz[· % zz.size]!)).toList := by
              intro zz hzz
              by_cases h0 : len * se.size = 0
              · have : len = 0 := by rcases Nat.mul_eq_zero.1 h0 with h | h <;> omega
                subst this; simp [azeros]
              · rw [if_neg h0] at hzz; subst hzz
                exact (hzz' ρ).madeCells len _ (by rw [hzc])
            obtain ⟨vout, hv, hr⟩ := fill_sound hp (hbase _ rfl) hcs
            obtain ⟨ρ', w', hrun, hρ, hh, hst⟩ := newRow_sound (P := P) h hr el
            refine ⟨ρ', _, w', ?_, ⟨_, _, hρ, rfl, Nat.le_refl _, .inr rfl⟩, hh, hst⟩
            have hlim' : ¬ (len * se.size > 16777216) := by omega
            rcases Nat.eq_zero_or_pos len with h0 | h0
            · subst h0
              simp only [Nat.zero_mul, Array.range_zero', Array.map_empty] at hv
              simp [Instr.buildSlice, underlying, hd, sizeOf, typeInfo, hi', hsz', Array.range_zero']
              simp [hv, hrun]
            · have h0' : ¬ (len * se.size = 0) := by
                intro h; rcases Nat.mul_eq_zero.1 h with h | h <;> omega
              rw [if_neg h0'] at hv
              simp [Instr.buildSlice, underlying, hd, sizeOf, typeInfo, hi', hsz', hlim', zeroValue, hzr', h0'] at hv ⊢
              simp [hv, hrun]
          · cases hz
        · cases hz
      · cases hz
    · cases hz
  · cases hz
end
end Go.Ab
