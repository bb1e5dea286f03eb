/- The abstract layer, part K: from a body to what its function does. -/
import Derived.Test.YtdbcndheeipmjaaAbxJ
set_option linter.unusedVariables false
set_option linter.unusedSimpArgs false
namespace Go.Ab

def envAux : Nat → List AV → Env → Env
  | _, [], e => e
  | i, x :: xs, e => envAux (i + 1) xs (e.set i (some x))
def envOf (args : List AV) : Env := envAux 0 args .lf
theorem envAux_get : ∀ (xs : List AV) (i : Nat) (e : Env) (t : Nat), (envAux i xs e).get t = if i ≤ t ∧ t < i + xs.length then xs[t - i]? else e.get t
  | [], i, e, t => by simp [envAux]; omega
  | x :: xs, i, e, t => by
    simp only [envAux, List.length_cons]
    rw [envAux_get xs (i + 1), Tr.get_set]
    by_cases h1 : i + 1 ≤ t ∧ t < i + 1 + xs.length
    · rw [if_pos h1, if_pos (by omega)]
      have : t - i = (t - (i + 1)) + 1 := by omega
      rw [this, List.getElem?_cons_succ]
    · rw [if_neg h1]
      by_cases h2 : t = i
      · subst h2; simp
      · rw [if_neg h2, if_neg (by omega)]
theorem envOf_get (args : List AV) (t : Nat) : (envOf args).get t = args[t]? := by
  unfold envOf
  rw [envAux_get]
  by_cases h : t < args.length
  · rw [if_pos (by omega)]; simp
  · rw [if_neg (by omega)]; simp; omega

def aresult (T : TT) (H : AHeap) (e : Env) : ResultVar → Option AV
  | .tmp t => e.get t
  | .cell t ty => match e.get t with
    | some (.ptr (some a)) => aload T H ty a
    | _ => none
def aresults (T : TT) (H : AHeap) (e : Env) : List ResultVar → Option (List AV)
  | [] => some []
  | r :: rs => match aresult T H e r, aresults T H e rs with
    | some v, some vs => some (v :: vs)
    | _, _ => none
def retV : List AV → AV
  | [v] => v
  | vs => .tup vs
def retA (T : TT) (rs : List ResultVar) (Q : AV → AHeap → Prop) : AQ
  | .normal, e, H => match aresults T H e rs with | some vs => Q (retV vs) H | none => False
  | .ret, e, H => match aresults T H e rs with | some vs => Q (retV vs) H | none => False
  | _, _, _ => False

def resOne (tmps : Array Value) : ResultVar → Sem Value
  | .tmp t => pure (tmps.getD t undef)
  | .cell a t => do loadVar t (← asAddr (tmps.getD a undef))
theorem results_eq (fn : Func) (tmps : Array Value) : results fn tmps = (fn.results.mapM (resOne tmps) >>= fun vs => (pure (if h : vs.size = 1 then vs[0] else .tuple vs) : Sem Value)) := by
  unfold results
  congr 1
section
variable {P : Program} {T : TT} (hT : TOk P T)
include hT
theorem aresults_sound {ρ : Rho} {lo n : Nat} {H : AHeap} {w : World} {e : Env} {tmps : Array Value} (h : HRel T ρ lo H w) (he : ERel ρ n e tmps) : ∀ {rs : List ResultVar} {vs : List AV}, aresults T H e rs = some vs →
    ∃ us, (rs.mapM (m := Sem) (resOne tmps)).run P w = .ok us w ∧ VRs ρ vs us
  | [], vs, hz => by
    simp only [aresults, Option.some.injEq] at hz; subst hz
    exact ⟨[], by simp, rfl⟩
  | r :: rs, vs, hz => by
    simp only [aresults] at hz
    split at hz
    · rename_i v vs' hv hvs
      injection hz with hz; subst hz
      obtain ⟨us, hu, hus⟩ := aresults_sound h he hvs
      cases r with
      | tmp t =>
        refine ⟨_, ?_, ⟨tmps.getD t undef, us, rfl, he.at_ t v hv, hus⟩⟩
        rw [List.mapM_cons]
        simp only [resOne, Sem.run_bind, hu, Result.andThen, Sem.run_pure]
      | cell t ty =>
        simp only [aresult] at hv
        split at hv
        · rename_i a ha
          obtain ⟨i, hi, hx⟩ := he.at_ t _ ha
          obtain ⟨r, hr, hrr⟩ := aload_sound hT h hi hv
          refine ⟨_, ?_, ⟨r, us, rfl, hrr, hus⟩⟩
          have hx' : (asAddr (tmps.getD t undef)).run P w = .ok ⟨i.b, i.s + a.off, none⟩ w := by rw [hx]; rfl
          rw [List.mapM_cons]
          simp only [resOne, Sem.run_bind, hu, Result.andThen, Sem.run_pure, hx', hr]
        · cases hv
    · cases hz

theorem results_sound {ρ : Rho} {lo n : Nat} {H : AHeap} {w : World} {e : Env} {tmps : Array Value} {fn : Func} (h : HRel T ρ lo H w) (he : ERel ρ n e tmps) {vs : List AV} (hz : aresults T H e fn.results.toList = some vs) :
    ∃ v, (results fn tmps).run P w = .ok v w ∧ VR ρ (retV vs) v := by
  obtain ⟨us, hu, hus⟩ := aresults_sound hT h he hz
  have hl := hus.len
  have hrun : (results fn tmps).run P w = .ok (if h : us.toArray.size = 1 then us.toArray[0] else .tuple us.toArray) w := by
    have : fn.results = ⟨fn.results.toList⟩ := rfl
    rw [results_eq, this, List.mapM_toArray]
    simp only [Sem.run_bind, Sem.run_map, hu, Result.andThen, Sem.run_pure]
  refine ⟨_, hrun, ?_⟩
  match vs, us, hus with
  | [], _, hus => rw [VRs_nil] at hus; subst hus; exact ⟨[], rfl, rfl⟩
  | [x], _, hus =>
    obtain ⟨v, vs', rfl, h1, h2⟩ := hus
    rw [VRs_nil] at h2; subst h2
    simpa [retV] using h1
  | x :: y :: r, _, hus =>
    obtain ⟨v, vs', rfl, h1, h2⟩ := hus
    obtain ⟨v2, vs2, rfl, h3, h4⟩ := h2
    simp only [List.size_toArray, List.length_cons]
    rw [dif_neg (by omega)]
    exact ⟨_, rfl, ⟨v, _, rfl, h1, ⟨v2, vs2, rfl, h3, h4⟩⟩⟩

/-- A function's body, walked. -/
theorem aspec_of_awp (hm : P.follows .mixedOrders = true) {f : FuncId} {fn : Func} {c : Code} {args : List AV} {H : AHeap} {Q : AV → AHeap → Prop}
    (hf : P.funcs[f]? = some fn) (hb : fn.body = some c) (hn : (fn.name == "runtime.NumGoroutine") = false) (hl : args.length ≤ fn.ntmps)
    (h : awp P T fn.ntmps c (retA T fn.results.toList Q) (envOf args) H) : ASpec P T f args H Q := by
  intro ρ lo w cargs hh ha
  have hal := ha.len
  refine .inl ⟨by simp [callFunc, hf, hb]; simpa using hn, ?_⟩
  refine calls_of_wp hf hb ?_
  have he : ERel ρ fn.ntmps (envOf args) ((⟨cargs⟩ : Array Value) ++ Array.replicate (fn.ntmps - (⟨cargs⟩ : Array Value).size) undef) := by
    refine ⟨by simp; omega, fun t x hx => ?_⟩
    rw [envOf_get] at hx
    obtain ⟨v, hv, hr⟩ := ha.get hx
    have hlt : t < cargs.length := (List.getElem?_eq_some_iff.1 hv).1
    have : ((⟨cargs⟩ : Array Value) ++ Array.replicate (fn.ntmps - (⟨cargs⟩ : Array Value).size) undef).getD t undef = v := by
      rw [Array.getD_eq_getD_getElem?, Array.getElem?_append_left (by simpa using hlt)]
      simp [hv]
    rw [this]; exact hr
  refine wp_mono (awp_sound hT hm c hh he rfl h) ?_
  intro ex a w' ⟨hd, e', H', ρ', hq, he', hh', hs⟩
  have fin : (match aresults T H' e' fn.results.toList with | some vs => Q (retV vs) H' | none => False) →
      a.defers = [] ∧ ∃ v, (results fn a.tmps).run P w' = .ok v w' ∧ ∃ v', Ending.returned v = Ending.returned v' ∧ ∃ r ρ' H', Q r H' ∧ VR ρ' r v' ∧ HRel T ρ' lo H' w' ∧ Step ρ H w ρ' H' w' := by
    intro hq
    split at hq
    · rename_i vs hvs
      obtain ⟨v, hv, hr⟩ := results_sound hT hh' he' hvs
      exact ⟨hd, v, hv, v, rfl, _, ρ', H', hq, hr, hh', hs⟩
    · exact hq.elim
  cases ex <;> first
    | exact fin hq
    | exact hq.elim
end
end Go.Ab
