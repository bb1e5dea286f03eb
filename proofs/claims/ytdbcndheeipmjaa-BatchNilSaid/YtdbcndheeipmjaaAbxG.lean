/- The abstract layer, part G: append, copy, clear, slices of slices. -/
import Derived.Test.YtdbcndheeipmjaaAbxF
set_option linter.unusedVariables false
set_option linter.unusedSimpArgs false
namespace Go.Ab
section
variable {P : Program} {T : TT} {ρ : Rho} {lo : Nat} {H : AHeap} {w : World} (hT : TOk P T)

theorem VRs.put {cs : List AV} {c : List Value} {xs : List AV} {vs : List Value} (hc : VRs ρ cs c) (hx : VRs ρ xs vs) (o : Nat) :
    VRs ρ (aput cs o xs) (c.take o ++ vs ++ c.drop (o + vs.length)) := by
  unfold aput; rw [hx.len]; exact ((hc.take _).append hx).append (hc.drop _)

theorem seg_eq (pre c post vs : List Value) (o : Nat) (h : o + vs.length ≤ c.length) :
    (pre ++ c ++ post).take (pre.length + o) ++ vs ++ (pre ++ c ++ post).drop (pre.length + o + vs.length) = pre ++ (c.take o ++ vs ++ c.drop (o + vs.length)) ++ post := by
  have e1 : (pre ++ c ++ post).take (pre.length + o) = pre ++ c.take o := by
    rw [List.append_assoc, List.take_length_add_append, List.take_append_of_le_length (by omega)]
  have e2 : (pre ++ c ++ post).drop (pre.length + o + vs.length) = c.drop (o + vs.length) ++ post := by
    rw [List.append_assoc, Nat.add_assoc, List.drop_length_add_append, List.drop_append_of_le_length (by omega)]
  rw [e1, e2]; simp [List.append_assoc]

/-- Cells stored into an own block. -/
theorem storeCells_sound (h : HRel T ρ lo H w) {a : AA} {i : BI} (hi : ρ a.blk = some i) {cs : List AV} {el : TypeId} {k : Kind} (hk : k ≠ .ro) (hg : H.get a.blk = some (.cells cs el k))
    {o : Nat} {xs : List AV} {vs : List Value} (hx : VRs ρ xs vs) (hone : xs.all AV.one = true) (hfit : o + xs.length ≤ cs.length) :
    ∃ w', (storeCells ⟨i.b, i.s + o, none⟩ vs).run P w = .ok () w' ∧ HRel T ρ lo (H.set a.blk (.cells (aput cs o xs) el k)) w' ∧ Step ρ H w ρ (H.set a.blk (.cells (aput cs o xs) el k)) w' := by
  obtain ⟨pre, c, post, hh, hp, hc, hkr, upd⟩ := h.update (cs' := aput cs o xs) hk hg hi
  have hxl := hx.len
  have hcl := hc.len
  obtain ⟨hh', hst⟩ := upd (c.take o ++ vs ++ c.drop (o + vs.length)) (hc.put hx o) (by simp; omega)
  have hrun := run_storeCells_at P i.b (i.s + o) el vs 0 _ w hh (by simp; omega) (hx.one hone)
  refine ⟨_, ?_, hh', hst⟩
  rw [hrun]
  congr 2
  apply Array.ext'
  simp only [Nat.add_zero, List.toList_toArray]
  rw [← hp]
  exact seg_eq pre c post vs o (by omega)

theorem aput_length (cs : List AV) (o : Nat) (xs : List AV) (h : o + xs.length ≤ cs.length) : (aput cs o xs).length = cs.length := by
  unfold aput; simp; omega

/-- What an append makes: there is room. -/
theorem append_room {t ty el : TypeId} {se : TS} (hu : P.underlying t = some (.slice el)) (hsz : ∀ w, (sizeOf el).run P w = .ok se.size w) {q : Option Addr} {n cap m : Nat} {v : Value} {ns : List Value}
    (hl : ∀ w, (Builtin.lenOf v).run P w = .ok m w) (hf : (Builtin.firstCells se.size m v).run P w = .ok ⟨ns⟩ w) (hroom : n + m ≤ cap) {w' : World}
    (hst : ∀ a, q = some a → (storeCells (a.add (n * se.size)) ns).run P w = .ok () w') (hq : q = none → w' = w) :
    (Builtin.append_ #[t, t] ty #[.slice q n cap, v]).run P w = .ok (.slice q (n + m) cap) w' := by
  cases q with
  | none =>
    obtain rfl := hq rfl
    simp [Builtin.append_, run_underlying hu, hsz, hl, hroom, hf]
  | some a =>
    have := hst a rfl
    simp [Builtin.append_, run_underlying hu, hsz, hl, hroom, hf, this]
/-- What an append makes: there is no room. -/
theorem append_grow {t ty el : TypeId} {i : TypeInfo} {z : Value} (hu : P.underlying t = some (.slice el)) (hi : P.info? el = some i) (hz : i.zero = some z) {q : Option Addr} {n cap m : Nat} {v : Value} {os ns : List Value}
    (hl : ∀ w, (Builtin.lenOf v).run P w = .ok m w) (hfo : (Builtin.firstCells i.size n (.slice q n cap)).run P w.drew = .ok ⟨os⟩ w.drew) (hf : (Builtin.firstCells i.size m v).run P w.drew = .ok ⟨ns⟩ w.drew) (hroom : cap < n + m)
    (h63 : n + m ≤ 9223372036854775807) (hb : (n + m) * i.bytes ≤ 140737488355328) :
    (Builtin.append_ #[t, t] ty #[.slice q n cap, v]).run P w = .ok (.slice (some ⟨w.heap.size, 0, none⟩) (n + m) (grownCap w (n + m) cap el))
      (w.drew.alloc (.cells ⟨os ++ (ns ++ (Builtin.zeroCells z.cells (grownCap w (n + m) cap el - (n + m))).toList)⟩ el)) := by
  have hn : ¬ (n + m ≤ cap) := by omega
  have h63' : ¬ (9223372036854775807 < ((n : Int) + (m : Int))) := by omega
  have hfit := growslice_fits (bytes := i.bytes) hroom hb
  have h48' : ¬ (281474976710656 < Builtin.nextslicecap (n + m) cap * i.bytes) := by omega
  simp [Builtin.append_, run_underlying hu, sizeOf, typeInfo, hi, hz, hl, hn, h63', h48', Question.forced, hf, hfo, newRow, grownCap, zeroValue]
  congr 2
  apply Array.ext'
  simp [List.append_assoc]

theorem firstCells_nil_slice (size n cap : Nat) : (Builtin.firstCells size n (.slice none 0 0)).run P w = .ok ⟨[]⟩ w := by simp [Builtin.firstCells]

include hT
theorem aappend_sound (h : HRel T ρ lo H w) {t t' ty : TypeId} {s x z : AV} {u v : Value} {H' : AHeap} (hs : VR ρ s u) (hx : VR ρ x v) (hz : aappend T H t t' s x = some (z, H')) :
    ∃ ρ' r w', (Builtin.append_ #[t, t'] ty #[u, v]).run P w = .ok r w' ∧ VR ρ' z r ∧ HRel T ρ' lo H' w' ∧ Step ρ H w ρ' H' w' := by
  unfold aappend at hz
  split at hz
  · cases hz
  rename_i ts hts
  split at hz
  · rename_i el e
    split at hz
    · rename_i se m hse hm
      split at hz
      · cases hz
      rename_i hcond
      simp only [not_or, Decidable.not_not] at hcond
      obtain ⟨rfl, hsz0, hzl⟩ := hcond
      split at hz
      · cases hz
      rename_i news hnews
      split at hz
      · cases hz
      rename_i hone
      have hone : news.all AV.one = true := by cases hh : news.all AV.one <;> simp_all
      obtain ⟨i, d, zv, hi, hd, hk, _⟩ := info_T hT hts
      rw [hk] at e
      have := TK.of_sl e; subst this
      obtain ⟨i', d', zv', hi', hd', hk', hsz', hby', hzr', hzz'⟩ := info_T hT hse
      have hszr := fun w => run_sizeOf_T (w := w) hT hse
      have hlen := asLen_sound (P := P) (ρ := ρ) hx hm
      obtain ⟨ns, hns, hnl, hfirst⟩ := acells_sound (P := P) h hx (.inr ⟨m, hm, Nat.le_refl _⟩) hnews
      have hzc : zv'.cells.size = se.size := by have := (hzz' ρ).len; simp at this; omega
      have nsl : m ≠ 0 → ns.length = m * se.size := by
        intro h0
        refine hnl ?_
        rintro rfl
        simp only [asLen, Option.some.injEq] at hm; omega
      have ns0 : m = 0 → ns = [] := by
        intro h0
        subst h0
        cases x with
        | nsl => simp only [acells, Option.some.injEq] at hnews; subst hnews; exact hns
        | _ =>
          have := hnl (by simp)
          rw [Nat.zero_mul] at this
          exact List.eq_nil_of_length_eq_zero this
      have hnewl : news.length = ns.length := hns.len.symm
      -- growing
      have grow : ∀ (q : Option Addr) (n cap : Nat) (os : List Value) (cs : List AV), VRs ρ cs os → os.length = n * se.size → (Builtin.firstCells se.size n (.slice q n cap)).run P w.drew = .ok ⟨os⟩ w.drew → cap < n + m → m ≠ 0 →
          n + m ≤ 9223372036854775807 → (n + m) * se.bytes ≤ 140737488355328 → u = .slice q n cap → ∀ (H1 : AHeap), HRel T ρ lo H1 w → Step ρ H w ρ H1 w →
          ∃ ρ' r w', (Builtin.append_ #[t, t] ty #[u, v]).run P w = .ok r w' ∧ VR ρ' (.sl ⟨H1.next, 0⟩ (n + m) none) r ∧ HRel T ρ' lo (H1.push (.cells (cs ++ news) el .gr)) w' ∧ Step ρ H w ρ' (H1.push (.cells (cs ++ news) el .gr)) w' := by
        intro q n cap os cs hos hol hfo hroom hm0 h63 hb hu H1 h1 hst1
        subst hu
        have hrun := append_grow (P := P) (w := w) (ty := ty) (n := n) (cap := cap) (m := m) hd hi' hzr' hlen (by rw [hsz']; exact hfo) (by rw [hsz']; exact hfirst w.drew (fun _ => rfl)) hroom h63 (by rw [hby']; exact hb)
        have hge := grownCap_ge w (n + m) cap el
        have hpost := (hzz' ρ).zeroCells (grownCap w (n + m) cap el - (n + m))
        have hpl : (Builtin.zeroCells zv'.cells (grownCap w (n + m) cap el - (n + m))).toList.length = (grownCap w (n + m) cap el - (n + m)) * se.size := by
          have := hpost.len; rw [azeros_length, hzl] at this; exact this
        have := h1.drew.push (c := os ++ ns) (post := (Builtin.zeroCells zv'.cells (grownCap w (n + m) cap el - (n + m))).toList) (cs := cs ++ news) (el := el) (k := .gr)
          (i := ⟨w.heap.size, 0, grownCap w (n + m) cap el * se.size, se.size⟩) (by simp) rfl rfl (hos.append hns)
          ⟨by simp only [List.length_nil, List.length_append, hol, nsl hm0, hpl, ← Nat.add_mul, Nat.zero_add]; congr 1; omega, se, hse, rfl, _, 0, by simpa using hpost⟩
        rw [List.append_assoc] at this
        refine ⟨_, _, _, hrun, ?_, this.1, hst1.trans ((Step.drew ρ H1 w).trans this.2)⟩
        exact ⟨⟨w.heap.size, 0, grownCap w (n + m) cap el * se.size, se.size⟩, grownCap w (n + m) cap el, ⟨w.heap.size, 0, none⟩, Rho.put_same _ _ _, rfl, hge, by simp, .inr rfl⟩
      split at hz
      · cases hs
        split at hz
        · rename_i h0
          simp only [Option.some.injEq, Prod.mk.injEq] at hz
          obtain ⟨rfl, rfl⟩ := hz
          subst h0
          have hns0 := ns0 rfl; subst hns0
          refine ⟨ρ, _, w, append_room (w' := w) hd hszr hlen (hfirst w (fun _ => rfl)) (by omega) (by simp) (fun _ => rfl), rfl, h, Step.refl _ _ _⟩
        · rename_i h0
          split at hz
          · rename_i hb
            simp only [Option.some.injEq, Prod.mk.injEq] at hz
            obtain ⟨rfl, rfl⟩ := hz
            have := grow none 0 0 [] [] rfl (by simp) (firstCells_nil_slice _ _ 0) (by omega) h0 (by omega) (by simpa using hb.1) rfl H h (Step.refl _ _ _)
            simpa using this
          · cases hz
      · rename_i a n cap
        obtain ⟨bi, ad, cc, hbi, rfl, hex, ho0, hcapn, hgr⟩ := hs.slice
        split at hz
        · rename_i h0
          simp only [Option.some.injEq, Prod.mk.injEq] at hz
          obtain ⟨rfl, rfl⟩ := hz
          subst h0
          have hns0 := ns0 rfl; subst hns0
          refine ⟨ρ, _, w, append_room (w' := w) hd hszr hlen (hfirst w (fun _ => rfl)) (by simpa using hcapn) ?_ (fun hq => by cases hq), hs, h, Step.refl _ _ _⟩
          intro a' _; simp [storeCells]
        · rename_i h0
          split at hz
          · rename_i cs el' k hg
            obtain ⟨c, hc, hcell⟩ := h.cellsAt hg hbi
            have hcl := hc.len
            have hfirstO : ∀ (no : n = 0 ∨ ad = ⟨bi.b, bi.s + a.off, none⟩), a.off + n * se.size ≤ cs.length → (Builtin.firstCells se.size n (.slice (some ad) n cc)).run P w.drew = .ok ⟨(c.drop a.off).take (n * se.size)⟩ w.drew := by
              intro no hfit
              have hl : ((c.drop a.off).take (n * se.size)).length = n * se.size := by simp; omega
              have := run_loadCells_list (P := P) w.drew ad ((c.drop a.off).take (n * se.size)) (by
                intro j v hj
                have hjl := (List.getElem?_eq_some_iff.1 hj).1
                rw [List.getElem?_take] at hj
                split at hj
                · rw [List.getElem?_drop] at hj
                  rcases no with no | no
                  · subst no; simp at hjl
                  · subst no; rw [addr_add, Nat.add_assoc]; exact hcell _ _ hj
                · cases hj)
              rw [hl] at this
              simp only [Builtin.firstCells]; exact this
            have hol : a.off + n * se.size ≤ cs.length → ((c.drop a.off).take (n * se.size)).length = n * se.size := by intro hfit; simp; omega
            have hsub : (n + m) * se.size = n * se.size + m * se.size := Nat.add_mul _ _ _
            have hmul : ∀ x y : Nat, x * se.size ≤ y * se.size → x ≤ y := fun x y hxy => Nat.le_of_mul_le_mul_right hxy (Nat.pos_of_ne_zero hsz0)
            have hmpos : m * se.size ≠ 0 := by intro hh; rcases Nat.mul_eq_zero.1 hh with hh | hh <;> omega
            have hnsl := nsl h0
            split at hz
            · rename_i hfits
              split at hz
              · cases hz
              rename_i hbad
              simp only [not_or, Nat.not_lt] at hbad
              obtain ⟨hro, hlen', hgrk⟩ := hbad
              simp only [Option.some.injEq, Prod.mk.injEq] at hz
              obtain ⟨rfl, rfl⟩ := hz
              have hroom : n + m ≤ cc ∧ ad = ⟨bi.b, bi.s + a.off, none⟩ := by
                cases cap with
                | some k0 =>
                  have hk0 := hex k0 rfl
                  simp only [afits, decide_eq_true_eq] at hfits
                  exact ⟨by omega, ho0.resolve_left (by omega)⟩
                | none =>
                  simp only [true_and, Decidable.not_not] at hgrk
                  obtain ⟨rfl, rfl⟩ := hgrk
                  have hcsz := hgr rfl
                  obtain ⟨i2, hi2, hb⟩ := h.dom _ _ hg
                  rw [hbi] at hi2; injection hi2 with hi2; subst hi2
                  obtain ⟨_, pre, c0, post, _, hp0, hc0, hkr⟩ := (BRel_rw (by simp)).1 hb
                  obtain ⟨hsum, se0, hse0, hesz, _⟩ := hkr
                  rw [hse] at hse0; injection hse0 with hse0; subst hse0
                  rw [hesz] at hcsz
                  have := hc0.len
                  have h1 : n + m ≤ cc := hmul _ _ (by omega)
                  exact ⟨h1, ho0.resolve_left (by omega)⟩
              obtain ⟨hroom, rfl⟩ := hroom
              obtain ⟨w', hst, hh', hs'⟩ := storeCells_sound (P := P) h hbi hro hg (o := a.off + n * se.size) hns hone (by rw [hnewl]; omega)
              refine ⟨ρ, _, w', append_room (w' := w') hd hszr hlen (hfirst w (fun _ => rfl)) hroom ?_ (fun hq => by cases hq), ?_, hh', hs'⟩
              · intro a' ha'
                injection ha' with ha'; subst ha'
                rw [addr_add, Nat.add_assoc]; exact hst
              · cases cap with
                | some k0 =>
                  have hk0 := hex k0 rfl
                  exact ⟨bi, _, hbi, by rw [hk0], by rw [← hk0]; exact hroom, .inr rfl⟩
                | none =>
                  have hcsz := hgr rfl
                  exact ⟨bi, cc, _, hbi, rfl, hroom, hcsz, .inr rfl⟩
            · rename_i hfits
              split at hz
              · rename_i hb
                obtain ⟨hbytes, h63, hfit⟩ := hb
                split at hz
                · rename_i k0
                  simp only [Option.some.injEq, Prod.mk.injEq] at hz
                  obtain ⟨rfl, rfl⟩ := hz
                  have hk0 := hex k0 rfl
                  simp only [afits, decide_eq_true_eq] at hfits
                  have hno : n = 0 ∨ ad = ⟨bi.b, bi.s + a.off, none⟩ := by
                    rcases ho0 with ho | ho
                    · left; omega
                    · exact .inr ho
                  exact grow _ n cc _ _ ((hc.drop _).take _) (hol hfit) (hfirstO hno hfit) (by omega) h0 h63 hbytes rfl H h (Step.refl _ _ _)
                · split at hz
                  · rename_i hk
                    obtain ⟨rfl, rfl⟩ := hk
                    simp only [Option.some.injEq, Prod.mk.injEq] at hz
                    obtain ⟨rfl, rfl⟩ := hz
                    have hcsz := hgr rfl
                    have hno : n = 0 ∨ ad = ⟨bi.b, bi.s + a.off, none⟩ := by
                      rcases ho0 with ho | ho
                      · left; omega
                      · exact .inr ho
                    by_cases hroom : n + m ≤ cc
                    · -- in place
                      have ho' : ad = ⟨bi.b, bi.s + a.off, none⟩ := ho0.resolve_left (by omega)
                      subst ho'
                      simp only [afits, decide_eq_true_eq] at hfits
                      obtain ⟨i2, hi2, hb⟩ := h.dom _ _ hg
                      rw [hbi] at hi2; injection hi2 with hi2; subst hi2
                      obtain ⟨_, pre, c0, post, hh0, hp0, hc0, hkr⟩ := (BRel_rw (by simp)).1 hb
                      obtain ⟨hsum, se0, hse0, hesz, nz, dz, hpost⟩ := hkr
                      rw [hse] at hse0; injection hse0 with hse0; subst hse0
                      have hc0l := hc0.len
                      have hcsz' : bi.s + a.off + cc * se.size = bi.csz := by rw [← hesz]; exact hcsz
                      have hcc : (n + m) * se.size ≤ cc * se.size := Nat.mul_le_mul_right _ hroom
                      have hrun := run_storeCells_at P bi.b (bi.s + (a.off + n * se.size)) el ns 0 _ w hh0 (by simp; omega) (hns.one hone)
                      have key := h.regrow (cs2 := (cs.drop a.off).take (n * se.size) ++ news) (c2 := (c0.drop a.off).take (n * se.size) ++ ns) (pre2 := pre ++ c0.take a.off)
                        (post2 := post.drop (a.off + (n + m) * se.size - c0.length)) (i2 := ⟨bi.b, bi.s + a.off, bi.csz, bi.esz⟩) hg hbi rfl (((hc0.drop _).take _).append hns) (by simp; omega)
                        ⟨by simp; omega, se, hse, hesz, nz, dz + (a.off + (n + m) * se.size - c0.length), by rw [← List.drop_drop]; exact hpost.drop _⟩
                      have heq : ((pre ++ c0 ++ post).take (bi.s + (a.off + n * se.size)) ++ ns ++ (pre ++ c0 ++ post).drop (bi.s + (a.off + n * se.size) + ns.length)) =
                          (pre ++ c0.take a.off) ++ ((c0.drop a.off).take (n * se.size) ++ ns) ++ post.drop (a.off + (n + m) * se.size - c0.length) := by
                        rw [← hp0]
                        have e1 : (pre ++ c0 ++ post).take (pre.length + (a.off + n * se.size)) = pre ++ c0.take a.off ++ (c0.drop a.off).take (n * se.size) := by
                          rw [List.append_assoc, List.take_length_add_append, List.take_append_of_le_length (by omega), List.take_add, List.append_assoc]
                        have e2 : (pre ++ c0 ++ post).drop (pre.length + (a.off + n * se.size) + ns.length) = post.drop (a.off + (n + m) * se.size - c0.length) := by
                          rw [List.append_assoc, Nat.add_assoc, List.drop_length_add_append, List.drop_append]
                          rw [List.drop_eq_nil_of_le (by omega), List.nil_append]; congr 1; omega
                        rw [e1, e2]; simp [List.append_assoc]
                      refine ⟨_, _, _, append_room (w' := w.setRow bi.b ⟨(pre ++ c0.take a.off) ++ ((c0.drop a.off).take (n * se.size) ++ ns) ++ post.drop (a.off + (n + m) * se.size - c0.length)⟩) hd hszr hlen (hfirst w (fun _ => rfl)) hroom ?_ (fun hq => by cases hq), ?_, key.1, key.2⟩
                      · intro a' ha'
                        injection ha' with ha'; subst ha'
                        rw [addr_add, Nat.add_assoc, hrun]
                        simp only [Nat.add_zero]
                        rw [heq]
                      · exact ⟨_, cc, _, Rho.put_same _ _ _, rfl, hroom, by simpa using hcsz, .inr (by simp)⟩
                    · have hkill := h.kill a.blk
                      have := grow _ n cc _ _ ((hc.drop _).take _) (hol hfit) (hfirstO hno hfit) (by omega) h0 h63 hbytes rfl _ hkill.1 hkill.2
                      exact this
                  · cases hz
              · cases hz
          · cases hz
      · cases hz
    · cases hz
  · cases hz
theorem aappendZ_sound (h : HRel T ρ lo H w) {t t' ty : TypeId} {s x z : AV} {u v : Value} {H' : AHeap} (hs : VR ρ s u) (hx : VR ρ x v) (hz : aappendZ T H t t' s x = some (z, H')) :
    ∃ ρ' r w', (Builtin.append_ #[t, t'] ty #[u, v]).run P w = .ok r w' ∧ VR ρ' z r ∧ HRel T ρ' lo H' w' ∧ Step ρ H w ρ' H' w' := by
  unfold aappendZ at hz
  split at hz
  · rename_i ts ts' n hts hts'
    cases hs; cases hx
    split at hz
    · rename_i el k e e'
      split at hz
      · rename_i se hse
        split at hz
        · rename_i hc
          obtain ⟨hn0, hb, h63, hsz, hzl⟩ := hc
          simp only [Option.some.injEq, Prod.mk.injEq] at hz
          obtain ⟨rfl, rfl⟩ := hz
          obtain ⟨i, d, zv, hi, hd, hk, _⟩ := info_T hT hts
          rw [hk] at e
          have := TK.of_sl e; subst this
          obtain ⟨i2, d2, zv2, hi2, hd2, hk2, _⟩ := info_T hT hts'
          rw [hk2] at e'
          have := TK.of_int e'; subst this
          obtain ⟨i', d', zv', hi', hd', hk', hsz', hby', hzr', hzz'⟩ := info_T hT hse
          obtain ⟨m, rfl⟩ := Int.eq_ofNat_of_zero_le (show 0 ≤ n by omega)
          have hzc : zv'.cells.size = se.size := by have := (hzz' ρ).len; simp at this; omega
          have wr : IntKind.i64.wrap (m : Int) = m := by rw [IntKind.wrap_i64]; omega
          have hm0 : m ≠ 0 := by omega
          have hb' : m * se.bytes ≤ 140737488355328 := by
            have : ((m * se.bytes : Nat) : Int) = (m : Int) * (se.bytes : Int) := Int.natCast_mul m se.bytes
            omega
          have n1 : ¬ ((m : Int) < 0) := by omega
          have n2 : ¬ (281474976710656 < (m : Int) * (i'.bytes : Int)) := by
            rw [hby']; have : (m : Int) * (se.bytes : Int) = ((m * se.bytes : Nat) : Int) := (Int.natCast_mul m se.bytes).symm
            rw [this]; omega
          have n3 : ¬ (m * i'.size = 0) := by rw [hsz']; intro hh; rcases Nat.mul_eq_zero.1 hh with hh | hh <;> omega
          have n4 : ¬ (9223372036854775807 < (m : Int)) := by omega
          have hfit := growslice_fits (bytes := i'.bytes) (show 0 < m by omega) (by rw [hby']; exact hb')
          have n5 : ¬ (281474976710656 < Builtin.nextslicecap m 0 * i'.bytes) := by omega
          have hge := grownCap_ge w m 0 el
          have hrun : (Builtin.append_ #[t, t'] ty #[.slice none 0 0, .int .i64 (m : Int)]).run P w = .ok (.slice (some ⟨w.heap.size, 0, none⟩) m (grownCap w m 0 el))
              (w.drew.alloc (.cells ⟨(Builtin.zeroCells zv'.cells m).toList ++ (Builtin.zeroCells zv'.cells (grownCap w m 0 el - m)).toList⟩ el)) := by
            simp [Builtin.append_, run_underlying hd, run_underlying hd2, sizeOf, typeInfo, hi', hzr', asInt, asIntOf, wr, n1, n2, n3, n4, n5, hm0, Question.forced, run_firstCells_none, newRow, grownCap, zeroValue]
            congr 2
            apply Array.ext'
            simp
          have hpost := (hzz' ρ).zeroCells (grownCap w m 0 el - m)
          have hcont := (hzz' ρ).zeroCells m
          have l1 : (Builtin.zeroCells zv'.cells m).toList.length = m * se.size := by have := hcont.len; rw [azeros_length, hzl] at this; exact this
          have l2 : (Builtin.zeroCells zv'.cells (grownCap w m 0 el - m)).toList.length = (grownCap w m 0 el - m) * se.size := by have := hpost.len; rw [azeros_length, hzl] at this; exact this
          have := h.drew.push (c := (Builtin.zeroCells zv'.cells m).toList) (post := (Builtin.zeroCells zv'.cells (grownCap w m 0 el - m)).toList) (cs := azeros m se.zero) (el := el) (k := .gr)
            (i := ⟨w.heap.size, 0, grownCap w m 0 el * se.size, se.size⟩) (by simp) rfl rfl hcont
            ⟨by simp only [List.length_nil, l1, l2, ← Nat.add_mul, Nat.zero_add]; congr 1; omega, se, hse, rfl, _, 0, by simpa using hpost⟩
          refine ⟨_, _, _, hrun, ?_, this.1, (Step.drew ρ H w).trans this.2⟩
          exact ⟨⟨w.heap.size, 0, grownCap w m 0 el * se.size, se.size⟩, grownCap w m 0 el, ⟨w.heap.size, 0, none⟩, Rho.put_same _ _ _, rfl, hge, by simp, .inr rfl⟩
        · cases hz
      · cases hz
    · cases hz
  · cases hz
end
end Go.Ab
