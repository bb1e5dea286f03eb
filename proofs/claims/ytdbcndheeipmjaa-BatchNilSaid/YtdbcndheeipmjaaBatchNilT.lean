/- BatchNil: what comes in is opened, and the law. -/
import Derived.Test.YtdbcndheeipmjaaBatchNil
import Derived.Test.YtdbcndheeipmjaaRows
import Derived.Stop.Joined
set_option linter.unusedVariables false
set_option linter.unusedSimpArgs false
namespace Go.Proofs.Ytdbcndheeipmjaa
open Go.Ab Go.ChangeShapes Go.WideShapes Go.ChangeAt Go.RowKit
theorem own' : ownKnob Try.prog.godebug = none := by kernel_rfl
theorem laidOut' : laidOutB Try.prog = true := by kernel_rfl
theorem inp_bytes {H : AHeap} {f : Nat} {cs : List AV} (h : Inp T (f + 2) 22 H cs) : ∃ d, cs = [d] ∧ DataOk H d := by
  have t1 : T 22 = some ts22 := by kernel_rfl
  have t2 : T 5 = some ts5 := by kernel_rfl
  unfold Inp at h
  rw [t1] at h
  rcases h with rfl | ⟨a, len, c, rows, rfl, hl, hc, hg, hr, hrow⟩
  · exact ⟨_, rfl, .inl rfl⟩
  · have h1 : ∀ row ∈ rows, ∃ n, row = [.int .u8 n] := by
      intro row hm
      have := (hrow row hm).2
      unfold Inp at this
      rw [t2] at this
      obtain ⟨n, h, _⟩ := this
      exact ⟨n, h⟩
    have h2 : ∀ {rows : List (List AV)}, (∀ row ∈ rows, ∃ n, row = [.int .u8 n]) → rows.flatten.length = rows.length ∧ rows.flatten.all AV.one = true := by
      intro rows
      induction rows with
      | nil => intro _; exact ⟨rfl, rfl⟩
      | cons r rs ih =>
        intro h
        obtain ⟨n, rfl⟩ := h r (List.mem_cons_self ..)
        obtain ⟨h1, h2⟩ := ih fun x hx => h x (List.mem_cons_of_mem _ hx)
        exact ⟨by simp [h1], by simp only [List.flatten_cons, List.cons_append, List.nil_append, List.all_cons, h2]; rfl⟩
    exact ⟨_, rfl, .inr ⟨a, len, c, _, _, rfl, hg, hl, hc, by rw [(h2 h1).1, hr], (h2 h1).2⟩⟩
theorem inp_op {H : AHeap} {avs : List AV} (h : InpA T [24] H avs) : ∃ k at' d, avs = [.agg [.bool k, .int .i64 at', d]] ∧ DataOk H d := by
  obtain ⟨v, vs', cs, rfl, hin, hv, rfl⟩ := h
  have t0 : T 24 = some ts24 := by kernel_rfl
  have t1 : T 4 = some ts4 := by kernel_rfl
  have t2 : T 3 = some ts3 := by kernel_rfl
  have hagg : (T 24).any (fun s => s.k.isAgg) = true := by kernel_rfl
  rw [hagg] at hv
  rcases hv with ⟨rfl, _⟩ | ⟨_, h⟩
  · unfold Inp at hin
    rw [t0] at hin
    replace hin : InpF T 11 [(0, 4), (1, 3), (2, 22)] H cs := hin
    unfold InpF at hin
    obtain ⟨c1, c2, rfl, _, h1, hin⟩ := hin
    unfold InpF at hin
    obtain ⟨d1, d2, rfl, _, h2, hin⟩ := hin
    unfold InpF at hin
    obtain ⟨e1, e2, rfl, _, h3, he⟩ := hin
    unfold InpF at he
    subst he
    unfold Inp at h1 h2
    rw [t1] at h1
    rw [t2] at h2
    obtain ⟨b, rfl⟩ := h1
    obtain ⟨n, rfl, _⟩ := h2
    obtain ⟨d, rfl, hd⟩ := inp_bytes h3
    exact ⟨b, n, d, rfl, hd⟩
  · cases h
set_option maxRecDepth 100000 in
theorem batchNil_lifted (os : Os) (started : os.Started) (X : Type) (enc : TypeId × Value → X) :
    ReturnsInHanded {} Try.checked os 3 .any (Rows.batchNilSpec.pre6 enc Try.prog Try.f3 [] false) (Rows.batchNilSpec.post enc Try.prog Try.f3 false true false false) := by
  refine returnsInHanded_of_change_shaped (C := Try.checked) own' started (by kernel_rfl) Try.func3
    (ChangeSpec.witness6 (enc := enc) (C := Try.checked) false ⟨#[], #[.agg #[.bool false, .int .i64 0, .slice none 0 0]], []⟩ 8 (by kernel_rfl) (by kernel_rfl) (by kernel_rfl) (by kernel_rfl)) ?_
  intro W base args ds gs before hval hW _ _ hsh _
  refine law_contract tOk laidOut' (of_decide_eq_true (by kernel_rfl)) Try.func3 (by kernel_rfl : _ = some (bodyOf Try.f3)) (by kernel_rfl) rfl ?_ (tb := 4) (by kernel_rfl) (by kernel_rfl) (by kernel_rfl) (by kernel_rfl) ?_ hval hW hsh
  · intro ds hl
    match ds, hl with
    | [d], _ => rfl
  · intro H avs hin _
    obtain ⟨k, a, d, rfl, hd⟩ := inp_op hin
    exact batchNil_walk hd
theorem batchNil_holds : Rows.BatchNilSaid :=
  OpenClaim.holds_of_wide 3 Try.f3 rfl rfl rfl rfl rfl rfl rfl ⟨rfl, rfl, rfl, rfl, rfl⟩ rfl rfl rfl rfl rfl (by kernel_rfl) Try.func3 (by kernel_rfl)
    (of_decide_eq_true (by kernel_rfl)) (by unfold Func.isWrapper; first | (rw [if_pos (by decide +kernel)]; kernel_rfl) | (rw [if_neg (by decide +kernel)]; exact ⟨rfl, rfl⟩))
    (fun os started X enc _ => batchNil_lifted os started X enc)
#print axioms batchNil_holds
end Go.Proofs.Ytdbcndheeipmjaa
