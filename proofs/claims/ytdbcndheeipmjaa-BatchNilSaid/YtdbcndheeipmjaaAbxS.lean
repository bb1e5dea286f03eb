/- The abstract layer, part S: shallow forms of code, and their link to it. -/
import Derived.Test.YtdbcndheeipmjaaAbxR
set_option linter.unusedVariables false
set_option linter.unusedSimpArgs false
namespace Go.Ab
/-! ### Variables that are known -/
def lk : List (Nat × AV) → Nat → Option AV
  | [], _ => none
  | (i, v) :: r, t => match Nat.beq i t with | true => some v | false => lk r t
def Lives (e : Env) (l : List (Nat × AV)) : Prop := ∀ t v, lk l t = some v → e.get t = some v
theorem Lives.put {e : Env} {l : List (Nat × AV)} {d : Nat} {v : AV} (h : Lives e l) : Lives (e.set d (some v)) ((d, v) :: l) := by
  intro t u hu
  rw [Tr.get_set]
  simp only [lk] at hu
  split at hu
  · rename_i hb
    have : d = t := Nat.eq_of_beq_eq_true hb
    subst this; rw [if_pos rfl]; exact hu
  · rename_i hb
    rw [if_neg (fun e => by subst e; rw [Nat.beq_refl] at hb; cases hb)]
    exact h t u hu
def Sub (l : List (Nat × AV)) : List (Nat × AV) → Prop
  | [] => True
  | (t, v) :: r => lk l t = some v ∧ Sub l r
theorem Lives.sub {e : Env} {l : List (Nat × AV)} : ∀ {l' : List (Nat × AV)}, Lives e l → Sub l l' → Lives e l'
  | [], _, _ => fun t v hv => by cases hv
  | (i, u) :: r, h, hs => by
    intro t v hv
    simp only [lk] at hv
    split at hv
    · rename_i hb
      have : i = t := Nat.eq_of_beq_eq_true hb
      subst this; injection hv with hv; subst hv
      exact h _ _ hs.1
    · exact Lives.sub (l' := r) h hs.2 t v hv
theorem lives_envAux : ∀ (args : List AV) (i : Nat) (e : Env) {l : List (Nat × AV)}, (∀ t v, lk l t = some v → (envAux i args e).get t = some v) → Lives (envAux i args e) l := fun _ _ _ _ h => h

abbrev W := AHeap → Prop
/-- What this layer does not take. -/
def wBot : W := fun _ => False
/-- d < n, reckoned. -/
theorem kd {a b : Nat} (h : Nat.ble (a + 1) b = true) : a < b := Nat.le_of_ble_eq_true h
/-- A value reckoned of variables alone. -/
def wP (o : Option AV) (K : AV → W) : W := fun H => match o with | some v => K v H | none => False
/-- What reads or writes memory. -/
def wO (f : AHeap → Option (AV × AHeap)) (K : AV → W) : W := fun H => match f H with | some (v, H') => K v H' | none => False
def wOX (ls : List Nat) (f : AHeap → Option (AV × AHeap)) (K : AV → W) : W := fun H => match f H with | some (v, H') => H.Ext (· ∈ ls) H' ∧ K v H' | none => False
def wC (P : Program) (T : TT) (f : FuncId) (args : List AV) (K : AV → W) : W := fun H => ASpec P T f args H K
def wCX (ls : List Nat) (P : Program) (T : TT) (f : FuncId) (args : List AV) (K : AV → W) : W := fun H => ASpec P T f args H fun v H' => H.Ext (· ∈ ls) H' ∧ K v H'
def wV (P : Program) (T : TT) (x : AV) (args : List AV) (K : AV → W) : W := fun H => match x with | .fn (.func g) first caps => ASpec P T g (first ++ args ++ caps) H K | _ => False
def wVX (ls : List Nat) (P : Program) (T : TT) (x : AV) (args : List AV) (K : AV → W) : W := fun H => match x with
  | .fn (.func g) first caps => ASpec P T g (first ++ args ++ caps) H fun v H' => H.Ext (· ∈ ls) H' ∧ K v H'
  | _ => False
def wIf (c : AV) (A B : W) : W := fun H => match c with | .bool b => (b = true → A H) ∧ (b = false → B H) | _ => False
/-- Under a guard. -/
def wG (g : AV) (want : Bool) (A : (AV → W) → W) (K : AV → W) : W := fun H => match g with
  | .bool b => if (b == want) = true then A K H else K (.tup []) H
  | .tup [] => K (.tup []) H
  | _ => False
/-- In any order; ls: the blocks that are read. -/
def wD (A : List Nat → W) : W := fun H => ∃ ls, A ls H
def wIter {S : Type} (body : (S → W) → S → W) : Nat → S → W
  | 0, _, _ => False
  | k + 1, s, H => body (wIter body k) s H
def wLoop {S : Type} (body : (S → W) → S → W) (s : S) : W := fun H => ∃ k, wIter body k s H
theorem wLoop_rule {S : Type} {body : (S → W) → S → W} {s : S} {H : AHeap} (I : Nat → S → AHeap → Prop) (m : Nat) (h0 : I m s H)
    (step : ∀ (m : Nat) (s : S) (H : AHeap) (K : S → W), I m s H → (∀ m' s' H', m' < m → I m' s' H' → K s' H') → body K s H) : wLoop body s H := by
  have key : ∀ k m s H, m < k → I m s H → wIter body k s H := by
    intro k
    induction k with
    | zero => intro m s H hm; omega
    | succ k ih => intro m s H hm hI; exact step m s H _ hI fun m' s' H' hm' hI' => ih m' s' H' (by omega) hI'
  exact ⟨m + 1, key _ m s H (Nat.lt_succ_self m) h0⟩

def aPick (c a b : AV) : Option AV := match c with | .bool true => some a | .bool false => some b | _ => none
def aNil (x : AV) : Option AV := match x with
  | .ptr (some a) => some (.ptr (some a))
  | .fn (.func f) u v => some (.fn (.func f) u v)
  | _ => none
def aMin (l : List AV) : Option AV := match l with | a :: l => afold amin2 a l | [] => none
def aMax (l : List AV) : Option AV := match l with | a :: l => afold amax2 a l | [] => none
def mLoad (T : TT) (t : TypeId) (x : AV) (H : AHeap) : Option (AV × AHeap) := match x with | .ptr (some a) => (match aload T H t a with | some v => some (v, H) | none => none) | _ => none
def mStore (T : TT) (t : TypeId) (x y : AV) (H : AHeap) : Option (AV × AHeap) := match x with | .ptr (some a) => (match astore T H t a y with | some H' => some (.tup [], H') | none => none) | _ => none
def mAlloc (T : TT) (el : TypeId) (H : AHeap) : Option (AV × AHeap) := match T el with | some s => some (.ptr (some ⟨H.next, 0⟩), H.push (.cells s.zero el .ex)) | none => none
def mBox (el : TypeId) (v : AV) (H : AHeap) : Option (AV × AHeap) := some (.ptr (some ⟨H.next, 0⟩), H.push (.cells v.cells el .ex))
def mList (T : TT) (t : TypeId) (len : Nat) (parts : List (Nat × AV)) (H : AHeap) : Option (AV × AHeap) := abuildSlice T H t len parts
def mMake (T : TT) (t : TypeId) (l c : AV) (H : AHeap) : Option (AV × AHeap) := amake T H t l c
def mSlice (T : TT) (t : TypeId) (x : AV) (lo hi mx : Option AV) (H : AHeap) : Option (AV × AHeap) := match aslice T H t x lo hi mx with | some v => some (v, H) | none => none
def mAppend (T : TT) (t t' : TypeId) (x y : AV) (H : AHeap) : Option (AV × AHeap) := aappendAny T H t t' x y
def mCopy (T : TT) (t : TypeId) (x y : AV) (H : AHeap) : Option (AV × AHeap) := acopy T H t x y
def mClear (T : TT) (t : TypeId) (x : AV) (H : AHeap) : Option (AV × AHeap) := aclear T H t x
/-- A read of the blocks in ls. -/
def mLoadX (ls : List Nat) (T : TT) (t : TypeId) (x : AV) (H : AHeap) : Option (AV × AHeap) := match loadR T ls H t (some x) with | some v => some (v, H) | none => none
def mSliceX (ls : List Nat) (T : TT) (t : TypeId) (x : AV) (lo hi mx : Option AV) (H : AHeap) : Option (AV × AHeap) := match sliceR T ls H t (some x) (some lo) (some hi) (some mx) with | some v => some (v, H) | none => none

/-! ### What an operation is -/
section
variable {T : TT} {e : Env} {H : AHeap} {a b c : Operand} {x y z : AV}
theorem ev {l : List (Nat × AV)} (hl : Lives e l) (t : Nat) {v : AV} (h : lk l t = some v) : evO e (.tmp t) = some v := hl t v h
theorem evOs_nil : evOs e [] = some [] := rfl
theorem evOs_cons {r : List Operand} {l : List AV} (hx : evO e a = some x) (hr : evOs e r = some l) : evOs e (a :: r) = some (x :: l) := by simp only [evOs, hx, hr]
theorem aparts_nil : aparts e [] = some [] := rfl
theorem aparts_cons {i : Nat} {r : List (Nat × Operand)} {l : List (Nat × AV)} (hx : evO e a = some x) (hr : aparts e r = some l) : aparts e ((i, a) :: r) = some ((i, x) :: l) := by simp only [aparts, hx, hr]
theorem evOO_none : evOO e none = some none := rfl
theorem evOO_some (hx : evO e a = some x) : evOO e (some a) = some (some x) := by simp only [evOO, hx]
theorem pPick (hc : evO e c = some z) (ha : evO e a = some x) (hb : evO e b = some y) : aPure T e (.pick c a b) = aPick z x y := by
  simp only [aPure, hc, ha, hb, aPick]; split <;> simp_all
theorem pNil (ha : evO e a = some x) : aPure T e (.nilCheck a) = aNil x := by simp only [aPure, ha, aNil]; split <;> simp_all
theorem pBin {op : BinOp} {t t' : TypeId} (ha : evO e a = some x) (hb : evO e b = some y) : aPure T e (.binOp op t a b t') = abin T op t x y := by simp only [aPure, ha, hb]
theorem pUn {op : UnOp} {t : TypeId} (ha : evO e a = some x) : aPure T e (.unOp op t a) = aun op x := by simp only [aPure, ha]
theorem pConv {s d : TypeId} (ha : evO e a = some x) : aPure T e (.convert s d a) = aconv T s d x := by simp only [aPure, ha]
theorem pFn {f : Fn} {l r : Array Operand} {u v : List AV} (h1 : evOs e l.toList = some u) (h2 : evOs e r.toList = some v) : aPure T e (.makeFunc f l r) = some (.fn f u v) := by simp only [aPure, h1, h2]
theorem pBuild {t : TypeId} {ps : Array (Nat × Operand)} {l : List (Nat × AV)} (h : aparts e ps.toList = some l) : aPure T e (.build t ps) = abuild T t l := by simp only [aPure, h]
theorem pField {t : TypeId} {f : Nat} (ha : evO e a = some x) : aPure T e (.field t a f) = afield T t x f := by simp only [aPure, ha]
theorem pIndex {t : TypeId} (ha : evO e a = some x) (hb : evO e b = some y) : aPure T e (.index t a b) = aindex T t x y := by simp only [aPure, ha, hb]
theorem pExtract {i : Nat} (ha : evO e a = some x) : aPure T e (.extract a i) = aextract x i := by simp only [aPure, ha]
theorem pFieldAddr {t : TypeId} {f : Nat} (ha : evO e a = some x) : aPure T e (.fieldAddr t a f) = afieldAddr T t x f := by simp only [aPure, ha]
theorem pIndexAddr {t : TypeId} (ha : evO e a = some x) (hb : evO e b = some y) : aPure T e (.indexAddr t a b) = aindexAddr T t x y := by simp only [aPure, ha, hb]
theorem pLen {t : TypeId} (ha : evO e a = some x) : aPure T e (.call ⟨.builtin .len, #[a], #[t]⟩) = alen T t x := by simp only [aPure, ha]
theorem pCap {t : TypeId} (ha : evO e a = some x) : aPure T e (.call ⟨.builtin .cap, #[a], #[t]⟩) = acap T t x := by simp only [aPure, ha]
theorem pMin {l : Array Operand} {ts : Array TypeId} {u : List AV} (h : evOs e l.toList = some u) : aPure T e (.call ⟨.builtin .min, l, ts⟩) = aMin u := by
  simp only [aPure, h, aMin]; cases u <;> rfl
theorem pMax {l : Array Operand} {ts : Array TypeId} {u : List AV} (h : evOs e l.toList = some u) : aPure T e (.call ⟨.builtin .max, l, ts⟩) = aMax u := by
  simp only [aPure, h, aMax]; cases u <;> rfl
/-- A memory operation. -/
def isM (T : TT) (e : Env) (o : Op) (f : AHeap → Option (AV × AHeap)) : Prop := aPure T e o = none ∧ ∀ H v H', f H = some (v, H') → aMem T e H o = .val v H'
theorem qLoad {t : TypeId} (ha : evO e a = some x) : isM T e (.load t a) (mLoad T t x) := ⟨rfl, fun H v H' h => by
  simp only [aMem, ha]; unfold mLoad at h; (repeat' split at h) <;> simp_all⟩
theorem qStore {t : TypeId} (ha : evO e a = some x) (hb : evO e b = some y) : isM T e (.store t a b) (mStore T t x y) := ⟨rfl, fun H v H' h => by
  simp only [aMem, ha, hb]; unfold mStore at h; (repeat' split at h) <;> simp_all⟩
theorem qAlloc {el : TypeId} : isM T e (.alloc el) (mAlloc T el) := ⟨rfl, fun H v H' h => by
  simp only [aMem]; unfold mAlloc at h; (repeat' split at h) <;> simp_all⟩
theorem qBox {el : TypeId} (ha : evO e a = some x) : isM T e (.box el a) (mBox el x) := ⟨rfl, fun H v H' h => by
  simp only [aMem, ha]; unfold mBox at h; simp_all⟩
theorem of_some {r : Option (AV × AHeap)} {v : AV} {H' : AHeap} (h : r = some (v, H')) : ORes.of r = .val v H' := by rw [h]; rfl
theorem qList {t : TypeId} {n : Nat} {ps : Array (Nat × Operand)} {l : List (Nat × AV)} (hp : aparts e ps.toList = some l) : isM T e (.buildSlice t n ps) (mList T t n l) := ⟨rfl, fun H v H' h => by
  simp only [aMem, hp]; exact of_some h⟩
theorem qMake {t : TypeId} (ha : evO e a = some x) (hb : evO e b = some y) : isM T e (.makeSlice t a b) (mMake T t x y) := ⟨rfl, fun H v H' h => by
  simp only [aMem, ha, hb]; exact of_some h⟩
theorem qSlice {t : TypeId} {l h m : Option Operand} {l' h' m' : Option AV} (ha : evO e a = some x) (h1 : evOO e l = some l') (h2 : evOO e h = some h') (h3 : evOO e m = some m') : isM T e (.slice t a l h m) (mSlice T t x l' h' m') :=
  ⟨rfl, fun H v H' h => by simp only [aMem, ha, h1, h2, h3]; unfold mSlice at h; (repeat' split at h) <;> simp_all⟩
theorem qAppend {t t' : TypeId} (ha : evO e a = some x) (hb : evO e b = some y) : isM T e (.call ⟨.builtin .append, #[a, b], #[t, t']⟩) (mAppend T t t' x y) := ⟨rfl, fun H v H' h => by
  simp only [aMem, ha, hb]; exact of_some h⟩
theorem qCopy {t : TypeId} {ts : List TypeId} (ha : evO e a = some x) (hb : evO e b = some y) : isM T e (.call ⟨.builtin .copy, #[a, b], ⟨t :: ts⟩⟩) (mCopy T t x y) := ⟨rfl, fun H v H' h => by
  simp only [aMem, ha, hb]; exact of_some h⟩
theorem qClear {t : TypeId} {ts : List TypeId} (ha : evO e a = some x) : isM T e (.call ⟨.builtin .clear, #[a], ⟨t :: ts⟩⟩) (mClear T t x) := ⟨rfl, fun H v H' h => by
  simp only [aMem, ha]; exact of_some h⟩
end

/-! ### The link, operation by operation -/
section
variable {P : Program} {T : TT} {n : Nat} {Q : Env → AHeap → Prop} {rest : List ROp} {e : Env} {H : AHeap} {l : List (Nat × AV)} {K : AV → W}
section
variable {d : Nat} {o : Op}
theorem lMv {a : Operand} {v : AV} (hl : Lives e l) (hx : evO e a = some v) (hd : d < n) (hk : ∀ e', Lives e' ((d, v) :: l) → awpR P T n Q rest e' H) : awpR P T n Q (⟨some d, .move a, none⟩ :: rest) e H := by
  simp only [awpR, rwanted, aopR, aPure, hx, eput, if_pos hd]; exact hk _ hl.put
theorem lAs {a : Operand} {v : AV} (hl : Lives e l) (hx : evO e a = some v) (hd : d < n) (hk : ∀ e', Lives e' ((d, v) :: l) → awpR P T n Q rest e' H) : awpR P T n Q (⟨some d, .assign a, none⟩ :: rest) e H := by
  simp only [awpR, rwanted, aopR, aPure, hx, eput, if_pos hd]; exact hk _ hl.put
theorem lP {r : Option AV} (hl : Lives e l) (hr : aPure T e o = r) (hd : d < n) (h : wP r K H) (hk : ∀ v H e', Lives e' ((d, v) :: l) → K v H → awpR P T n Q rest e' H) : awpR P T n Q (⟨some d, o, none⟩ :: rest) e H := by
  cases r with
  | none => exact h.elim
  | some v => simp only [awpR, rwanted, aopR, hr, eput, if_pos hd]; exact hk v H _ hl.put h
theorem lP0 {r : Option AV} (hl : Lives e l) (hr : aPure T e o = r) (h : wP r K H) (hk : ∀ v H, K v H → awpR P T n Q rest e H) : awpR P T n Q (⟨none, o, none⟩ :: rest) e H := by
  cases r with
  | none => exact h.elim
  | some v => simp only [awpR, rwanted, aopR, hr, eput]; exact hk v H h
theorem lO {f : AHeap → Option (AV × AHeap)} (hl : Lives e l) (hr : isM T e o f) (hd : d < n) (h : wO f K H) (hk : ∀ v H e', Lives e' ((d, v) :: l) → K v H → awpR P T n Q rest e' H) : awpR P T n Q (⟨some d, o, none⟩ :: rest) e H := by
  unfold wO at h
  split at h
  · rename_i v H' hf
    simp only [awpR, rwanted, aopR, hr.1, hr.2 _ _ _ hf, eput, if_pos hd]; exact hk v H' _ hl.put h
  · exact h.elim
theorem lO0 {f : AHeap → Option (AV × AHeap)} (hl : Lives e l) (hr : isM T e o f) (h : wO f K H) (hk : ∀ v H, K v H → awpR P T n Q rest e H) : awpR P T n Q (⟨none, o, none⟩ :: rest) e H := by
  unfold wO at h
  split at h
  · rename_i v H' hf
    simp only [awpR, rwanted, aopR, hr.1, hr.2 _ _ _ hf, eput]; exact hk v H' h
  · exact h.elim
theorem call_res {g : Operand} {args : Array Operand} {ts : Array TypeId} {f : FuncId} {first caps u : List AV} (hg : evO e g = some (.fn (.func f) first caps)) (ha : evOs e args.toList = some u) :
    aopR T e H (.call ⟨.value g, args, ts⟩) = .call f (first ++ u ++ caps) := by
  simp only [aopR, aPure, aMem, hg, ha]
theorem lC {f : FuncId} {args : Array Operand} {ts : Array TypeId} {u : List AV} (hl : Lives e l) (ha : evOs e args.toList = some u) (hd : d < n) (h : wC P T f u K H)
    (hk : ∀ v H e', Lives e' ((d, v) :: l) → K v H → awpR P T n Q rest e' H) : awpR P T n Q (⟨some d, .call ⟨.value (.func f), args, ts⟩, none⟩ :: rest) e H := by
  have hc : aopR T e H (.call ⟨.value (.func f), args, ts⟩) = .call f u := by
    rw [call_res (first := []) (caps := []) (f := f) rfl ha]; simp
  simp only [awpR, rwanted, hc, eput, if_pos hd]
  exact ASpec.mono h fun r H' hr => hk r H' _ hl.put hr
theorem lC0 {f : FuncId} {args : Array Operand} {ts : Array TypeId} {u : List AV} (hl : Lives e l) (ha : evOs e args.toList = some u) (h : wC P T f u K H)
    (hk : ∀ v H, K v H → awpR P T n Q rest e H) : awpR P T n Q (⟨none, .call ⟨.value (.func f), args, ts⟩, none⟩ :: rest) e H := by
  have hc : aopR T e H (.call ⟨.value (.func f), args, ts⟩) = .call f u := by
    rw [call_res (first := []) (caps := []) (f := f) rfl ha]; simp
  simp only [awpR, rwanted, hc, eput]
  exact ASpec.mono h fun r H' hr => hk r H' hr
theorem lV {g : Operand} {x : AV} {args : Array Operand} {ts : Array TypeId} {u : List AV} (hl : Lives e l) (hg : evO e g = some x) (ha : evOs e args.toList = some u) (hd : d < n) (h : wV P T x u K H)
    (hk : ∀ v H e', Lives e' ((d, v) :: l) → K v H → awpR P T n Q rest e' H) : awpR P T n Q (⟨some d, .call ⟨.value g, args, ts⟩, none⟩ :: rest) e H := by
  unfold wV at h
  split at h
  · simp only [awpR, rwanted, call_res hg ha, eput, if_pos hd]
    exact ASpec.mono h fun r H' hr => hk r H' _ hl.put hr
  · exact h.elim
theorem lV0 {g : Operand} {x : AV} {args : Array Operand} {ts : Array TypeId} {u : List AV} (hl : Lives e l) (hg : evO e g = some x) (ha : evOs e args.toList = some u) (h : wV P T x u K H)
    (hk : ∀ v H, K v H → awpR P T n Q rest e H) : awpR P T n Q (⟨none, .call ⟨.value g, args, ts⟩, none⟩ :: rest) e H := by
  unfold wV at h
  split at h
  · simp only [awpR, rwanted, call_res hg ha, eput]
    exact ASpec.mono h fun r H' hr => hk r H' hr
  · exact h.elim
end
/-! ### Guards over several operations -/
def Skips (g : AV) (want : Bool) : Prop := g = .tup [] ∨ ∃ b, g = .bool b ∧ (b == want) = false
theorem wG_cases {g : AV} {want : Bool} {A : (AV → W) → W} (h : wG g want A K H) : (∃ b, g = .bool b ∧ (b == want) = true ∧ A K H) ∨ (Skips g want ∧ K (.tup []) H) := by
  unfold wG at h
  split at h
  · rename_i b
    split at h
    · rename_i hb; exact .inl ⟨b, rfl, hb, h⟩
    · rename_i hb; exact .inr ⟨.inr ⟨b, rfl, Bool.eq_false_iff.2 hb⟩, h⟩
  · exact .inr ⟨.inl rfl, h⟩
  · exact h.elim
theorem Skips.wanted {g : AV} {want : Bool} (h : Skips g want) {t : Nat} (hg : evO e (.tmp t) = some g) : rwanted (some (some t, want)) e = some false := by
  have hg' : e.get t = some g := hg
  rcases h with rfl | ⟨b, rfl, hb⟩
  · simp only [rwanted, hg']
  · simp only [rwanted, hg', hb]
theorem wantedT {b want : Bool} {t : Nat} (hg : evO e (.tmp t) = some (.bool b)) (hb : (b == want) = true) : rwanted (some (some t, want)) e = some true := by
  have hg' : e.get t = some (.bool b) := hg
  simp only [rwanted, hg', hb]
theorem gT {d : Option Nat} {o : Op} {t : Nat} {b want : Bool} (hg : evO e (.tmp t) = some (.bool b)) (hb : (b == want) = true) (h : awpR P T n Q (⟨d, o, none⟩ :: rest) e H) : awpR P T n Q (⟨d, o, some (some t, want)⟩ :: rest) e H := by
  simp only [awpR, wantedT hg hb]
  simp only [awpR, rwanted] at h
  exact h
theorem gF {d : Nat} {o : Op} {t : Nat} {g : AV} {want : Bool} (hl : Lives e l) (hs : Skips g want) (hg : evO e (.tmp t) = some g) (hd : d < n) (hk : ∀ e', Lives e' ((d, .tup []) :: l) → awpR P T n Q rest e' H) :
    awpR P T n Q (⟨some d, o, some (some t, want)⟩ :: rest) e H := by
  simp only [awpR, hs.wanted hg, eput, if_pos hd]; exact hk _ hl.put
theorem gF0 {o : Op} {t : Nat} {g : AV} {want : Bool} (hs : Skips g want) (hg : evO e (.tmp t) = some g) (hk : awpR P T n Q rest e H) : awpR P T n Q (⟨none, o, some (some t, want)⟩ :: rest) e H := by
  simp only [awpR, hs.wanted hg, eput]; exact hk

theorem gGo {full : List ROp} (rest : List ROp) (L : AV → List (Nat × AV)) (K : AV → W) (hk : ∀ v H e, Lives e (L v) → K v H → awpR P T n Q rest e H) (h : (∀ v H e, Lives e (L v) → K v H → awpR P T n Q rest e H) → awpR P T n Q full e H) :
    awpR P T n Q full e H := h hk
theorem gGoX {ls : List Nat} {full : XP} (rest : XP) (L : AV → List (Nat × AV)) (K : AV → W) (hk : ∀ v H e, Lives e (L v) → K v H → awpXP P T n ls Q rest e H) (h : (∀ v H e, Lives e (L v) → K v H → awpXP P T n ls Q rest e H) → awpXP P T n ls Q full e H) :
    awpXP P T n ls Q full e H := h hk
/-! ### The same where the order is open -/
section
variable {ls : List Nat} {d : Nat} {o : Op} {b : Bool} {R : Env → AHeap → Prop} {p q : XP}
def mSlice0 (T : TT) (t : TypeId) (x : AV) (lo hi mx : Option AV) (H : AHeap) : Option (AV × AHeap) := match slice0 T t (some x) (some lo) (some hi) (some mx) with | some v => some (v, H) | none => none
theorem xEnd (h : Q e H) : awpXP P T n ls Q .done e H := h
theorem xMv {a : Operand} {v : AV} (hl : Lives e l) (hx : evO e a = some v) (hd : d < n) (hk : ∀ e', Lives e' ((d, v) :: l) → awpXP P T n ls Q p e' H) : awpXP P T n ls Q (.st b ⟨some d, .move a, none⟩ p) e H := by
  cases b <;> simp only [awpXP, if_true, Bool.false_eq_true, if_false, steadyR, steady0, rwanted, aPure, hx, eput, if_pos hd] <;> exact hk _ hl.put
theorem xAs {a : Operand} {v : AV} (hl : Lives e l) (hx : evO e a = some v) (hd : d < n) (hk : ∀ e', Lives e' ((d, v) :: l) → awpXP P T n ls Q p e' H) : awpXP P T n ls Q (.st b ⟨some d, .assign a, none⟩ p) e H := by
  cases b <;> simp only [awpXP, if_true, Bool.false_eq_true, if_false, steadyR, steady0, rwanted, aPure, hx, eput, if_pos hd] <;> exact hk _ hl.put
theorem xP {r : Option AV} (hl : Lives e l) (hr : aPure T e o = r) (hd : d < n) (h : wP r K H) (hk : ∀ v H e', Lives e' ((d, v) :: l) → K v H → awpXP P T n ls Q p e' H) :
    awpXP P T n ls Q (.st b ⟨some d, o, none⟩ p) e H := by
  cases r with
  | none => exact h.elim
  | some v => cases b <;> simp only [awpXP, if_true, Bool.false_eq_true, if_false, steadyR, steady0, rwanted, hr, eput, if_pos hd] <;> exact hk v H _ hl.put h
theorem xP0 {r : Option AV} (hl : Lives e l) (hr : aPure T e o = r) (h : wP r K H) (hk : ∀ v H, K v H → awpXP P T n ls Q p e H) : awpXP P T n ls Q (.st b ⟨none, o, none⟩ p) e H := by
  cases r with
  | none => exact h.elim
  | some v => cases b <;> simp only [awpXP, if_true, Bool.false_eq_true, if_false, steadyR, steady0, rwanted, hr, eput] <;> exact hk v H h
theorem xLoad {t : TypeId} {a : Operand} {x : AV} (hl : Lives e l) (ha : evO e a = some x) (hd : d < n) (h : wO (mLoadX ls T t x) K H) (hk : ∀ v H e', Lives e' ((d, v) :: l) → K v H → awpXP P T n ls Q p e' H) :
    awpXP P T n ls Q (.st false ⟨some d, .load t a, none⟩ p) e H := by
  simp only [wO, mLoadX] at h
  cases hr : loadR T ls H t (some x) with
  | none => rw [hr] at h; exact h.elim
  | some v =>
    rw [hr] at h
    simp only [awpXP, Bool.false_eq_true, if_false, steadyR, rwanted, aPure, ha, hr, eput, if_pos hd]; exact hk v H _ hl.put h
theorem xSlice {t : TypeId} {a : Operand} {x : AV} {lo hi mx : Option Operand} {l' h' m' : Option AV} (hl : Lives e l) (ha : evO e a = some x) (h1 : evOO e lo = some l') (h2 : evOO e hi = some h') (h3 : evOO e mx = some m') (hd : d < n)
    (h : wO (mSliceX ls T t x l' h' m') K H) (hk : ∀ v H e', Lives e' ((d, v) :: l) → K v H → awpXP P T n ls Q p e' H) :
    awpXP P T n ls Q (.st false ⟨some d, .slice t a lo hi mx, none⟩ p) e H := by
  simp only [wO, mSliceX] at h
  cases hr : sliceR T ls H t (some x) (some l') (some h') (some m') with
  | none => rw [hr] at h; exact h.elim
  | some v =>
    rw [hr] at h
    simp only [awpXP, Bool.false_eq_true, if_false, steadyR, rwanted, aPure, ha, h1, h2, h3, hr, eput, if_pos hd]; exact hk v H _ hl.put h
theorem xSlice0 {t : TypeId} {a : Operand} {x : AV} {lo hi mx : Option Operand} {l' h' m' : Option AV} (hl : Lives e l) (ha : evO e a = some x) (h1 : evOO e lo = some l') (h2 : evOO e hi = some h') (h3 : evOO e mx = some m') (hd : d < n)
    (h : wO (mSlice0 T t x l' h' m') K H) (hk : ∀ v H e', Lives e' ((d, v) :: l) → K v H → awpXP P T n ls Q p e' H) :
    awpXP P T n ls Q (.st true ⟨some d, .slice t a lo hi mx, none⟩ p) e H := by
  simp only [wO, mSlice0] at h
  cases hr : slice0 T t (some x) (some l') (some h') (some m') with
  | none => rw [hr] at h; exact h.elim
  | some v =>
    rw [hr] at h
    simp only [awpXP, if_true, steady0, rwanted, aPure, ha, h1, h2, h3, hr, eput, if_pos hd]; exact hk v H _ hl.put h
theorem xGT {d : Option Nat} {t : Nat} {c want : Bool} (hg : evO e (.tmp t) = some (.bool c)) (hb : (c == want) = true) (h : awpXP P T n ls Q (.st b ⟨d, o, none⟩ p) e H) : awpXP P T n ls Q (.st b ⟨d, o, some (some t, want)⟩ p) e H := by
  cases b <;> simp only [awpXP, if_true, Bool.false_eq_true, if_false, steadyR, steady0, wantedT hg hb] <;> simp only [awpXP, if_true, Bool.false_eq_true, if_false, steadyR, steady0, rwanted] at h <;> exact h
theorem xGF {t : Nat} {g : AV} {want : Bool} (hl : Lives e l) (hs : Skips g want) (hg : evO e (.tmp t) = some g) (hd : d < n) (hk : ∀ e', Lives e' ((d, .tup []) :: l) → awpXP P T n ls Q p e' H) :
    awpXP P T n ls Q (.st b ⟨some d, o, some (some t, want)⟩ p) e H := by
  cases b <;> simp only [awpXP, if_true, Bool.false_eq_true, if_false, steadyR, steady0, hs.wanted hg, eput, if_pos hd] <;> exact hk _ hl.put
/-- Two that may be next. -/
def wAnd (A B : W) : W := fun H => A H ∧ B H
theorem xA1 (h : awpRX P T n ls ⟨some d, o, none⟩ (awpXP P T n ls Q p) e H) : awpXP P T n ls Q (.alt ⟨some d, o, none⟩ p .nil) e H := ⟨h, trivial⟩
theorem xAlt1 {r : ROp} (h : awpRX P T n ls r (awpXP P T n ls Q p) e H) : awpXP P T n ls Q (.alt r p .nil) e H := ⟨h, trivial⟩
theorem xAlt {r : ROp} {A B : W} (h : wAnd A B H) (ha : A H → awpRX P T n ls r (awpXP P T n ls Q p) e H) (hb : B H → awpXP P T n ls Q q e H) : awpXP P T n ls Q (.alt r p q) e H := ⟨ha h.1, hb h.2⟩
theorem xO {f : AHeap → Option (AV × AHeap)} (hl : Lives e l) (hr : isM T e o f) (hd : d < n) (h : wOX ls f K H) (hk : ∀ v H e', Lives e' ((d, v) :: l) → K v H → R e' H) :
    awpRX P T n ls ⟨some d, o, none⟩ R e H := by
  unfold wOX at h
  split at h
  · rename_i v H' hf
    simp only [awpRX, rwanted, aopR, hr.1, hr.2 _ _ _ hf, eput, if_pos hd]; exact ⟨fun _ => h.1, hk v H' _ hl.put h.2⟩
  · exact h.elim
theorem xO0 {f : AHeap → Option (AV × AHeap)} (hl : Lives e l) (hr : isM T e o f) (h : wOX ls f K H) (hk : ∀ v H, K v H → R e H) :
    awpRX P T n ls ⟨none, o, none⟩ R e H := by
  unfold wOX at h
  split at h
  · rename_i v H' hf
    simp only [awpRX, rwanted, aopR, hr.1, hr.2 _ _ _ hf, eput]; exact ⟨fun _ => h.1, hk v H' h.2⟩
  · exact h.elim
/-- A store needs no more than itself. -/
theorem xSt {f : AHeap → Option (AV × AHeap)} {t : TypeId} {a b : Operand} (hl : Lives e l) (hr : isM T e (.store t a b) f) (h : wO f K H) (hk : ∀ v H, K v H → R e H) :
    awpRX P T n ls ⟨none, .store t a b, none⟩ R e H := by
  unfold wO at h
  split at h
  · rename_i v H' hf
    simp only [awpRX, rwanted, aopR, hr.1, hr.2 _ _ _ hf, eput]; exact ⟨fun hh => (by simp [headOk] at hh), hk v H' h⟩
  · exact h.elim
/-- What only makes a block. -/
theorem xN {f : AHeap → Option (AV × AHeap)} (hq : quiet o = true) (hl : Lives e l) (hr : isM T e o f) (hd : d < n) (h : wO f K H) (hk : ∀ v H e', Lives e' ((d, v) :: l) → K v H → R e' H) :
    awpRX P T n ls ⟨some d, o, none⟩ R e H := by
  unfold wO at h
  split at h
  · rename_i v H' hf
    have hv : aopR T e H o = .val v H' := by simp only [aopR, hr.1, hr.2 _ _ _ hf]
    simp only [awpRX, rwanted, hv, eput, if_pos hd]; exact ⟨fun _ => quiet_ext hq hv, hk v H' _ hl.put h⟩
  · exact h.elim
theorem xC {f : FuncId} {args : Array Operand} {ts : Array TypeId} {u : List AV} (hl : Lives e l) (ha : evOs e args.toList = some u) (hd : d < n) (h : wCX ls P T f u K H)
    (hk : ∀ v H e', Lives e' ((d, v) :: l) → K v H → R e' H) : awpRX P T n ls ⟨some d, .call ⟨.value (.func f), args, ts⟩, none⟩ R e H := by
  have hc : aopR T e H (.call ⟨.value (.func f), args, ts⟩) = .call f u := by
    rw [call_res (first := []) (caps := []) (f := f) rfl ha]; simp
  simp only [awpRX, rwanted, hc, eput, if_pos hd]
  exact ASpec.mono h fun r H' hr => ⟨hr.1, hk r H' _ hl.put hr.2⟩
theorem xC0 {f : FuncId} {args : Array Operand} {ts : Array TypeId} {u : List AV} (hl : Lives e l) (ha : evOs e args.toList = some u) (h : wCX ls P T f u K H)
    (hk : ∀ v H, K v H → R e H) : awpRX P T n ls ⟨none, .call ⟨.value (.func f), args, ts⟩, none⟩ R e H := by
  have hc : aopR T e H (.call ⟨.value (.func f), args, ts⟩) = .call f u := by
    rw [call_res (first := []) (caps := []) (f := f) rfl ha]; simp
  simp only [awpRX, rwanted, hc, eput]
  exact ASpec.mono h fun r H' hr => ⟨hr.1, hk r H' hr.2⟩
theorem xV {g : Operand} {x : AV} {args : Array Operand} {ts : Array TypeId} {u : List AV} (hl : Lives e l) (hg : evO e g = some x) (ha : evOs e args.toList = some u) (hd : d < n) (h : wVX ls P T x u K H)
    (hk : ∀ v H e', Lives e' ((d, v) :: l) → K v H → R e' H) : awpRX P T n ls ⟨some d, .call ⟨.value g, args, ts⟩, none⟩ R e H := by
  unfold wVX at h
  split at h
  · simp only [awpRX, rwanted, call_res hg ha, eput, if_pos hd]
    exact ASpec.mono h fun r H' hr => ⟨hr.1, hk r H' _ hl.put hr.2⟩
  · exact h.elim
theorem xV0 {g : Operand} {x : AV} {args : Array Operand} {ts : Array TypeId} {u : List AV} (hl : Lives e l) (hg : evO e g = some x) (ha : evOs e args.toList = some u) (h : wVX ls P T x u K H)
    (hk : ∀ v H, K v H → R e H) : awpRX P T n ls ⟨none, .call ⟨.value g, args, ts⟩, none⟩ R e H := by
  unfold wVX at h
  split at h
  · simp only [awpRX, rwanted, call_res hg ha, eput]
    exact ASpec.mono h fun r H' hr => ⟨hr.1, hk r H' hr.2⟩
  · exact h.elim
theorem xRT {d : Option Nat} {t : Nat} {c want : Bool} (hg : evO e (.tmp t) = some (.bool c)) (hb : (c == want) = true) (h : awpRX P T n ls ⟨d, o, none⟩ R e H) : awpRX P T n ls ⟨d, o, some (some t, want)⟩ R e H := by
  simp only [awpRX, wantedT hg hb]
  simp only [awpRX, rwanted] at h
  exact h
theorem xRF {t : Nat} {g : AV} {want : Bool} (hl : Lives e l) (hs : Skips g want) (hg : evO e (.tmp t) = some g) (hd : d < n) (hk : ∀ e', Lives e' ((d, .tup []) :: l) → R e' H) :
    awpRX P T n ls ⟨some d, o, some (some t, want)⟩ R e H := by
  simp only [awpRX, hs.wanted hg, eput, if_pos hd]; exact hk _ hl.put
theorem xRF0 {t : Nat} {g : AV} {want : Bool} (hs : Skips g want) (hg : evO e (.tmp t) = some g) (hk : R e H) : awpRX P T n ls ⟨none, o, some (some t, want)⟩ R e H := by
  simp only [awpRX, hs.wanted hg, eput]; exact hk
end

/-! ### The link, code by code -/
variable {AQ : AQ}
theorem lReg {r : List ROp} (h : awpR P T n (AQ .normal) r e H) : awpC P T n (.reg r) AQ e H := h
theorem lDrawn {id : Nat} {ops : Array Oper} {A : List Nat → W} (pl : Plan) (hp : Plan.ok ops false ops.size pl (Array.replicate ops.size false) = true) {r : XP} (hr : toXP ops pl = r) (h : wD A H)
    (hk : ∀ ls, A ls H → awpXP P T n ls (AQ .normal) r e H) : awpC P T n (.drawn id ops) AQ e H := by
  obtain ⟨ls, h⟩ := h
  subst hr
  exact awpC_plan ls pl hp (hk ls h)
theorem lDrawn0 {id : Nat} {ops : Array Oper} (pl : Plan) (hp : Plan.ok ops false ops.size pl (Array.replicate ops.size false) = true) {r : XP} (hr : toXP ops pl = r)
    (hk : awpXP P T n [] (AQ .normal) r e H) : awpC P T n (.drawn id ops) AQ e H := by
  subst hr
  exact awpC_plan [] pl hp hk
theorem ext_nil {H H' : AHeap} : H.Ext (· ∈ ([] : List Nat)) H' := fun _ _ h => by cases h
theorem wCX_nil {f : FuncId} {args : List AV} {K : AV → W} {H : AHeap} (h : wC P T f args K H) : wCX [] P T f args K H := ASpec.mono h fun _ _ h => ⟨ext_nil, h⟩
theorem wVX_nil {x : AV} {args : List AV} {K : AV → W} {H : AHeap} (h : wV P T x args K H) : wVX [] P T x args K H := by
  unfold wV at h; unfold wVX; split at h
  · exact ASpec.mono h fun _ _ h => ⟨ext_nil, h⟩
  · exact h.elim
theorem wOX_nil {f : AHeap → Option (AV × AHeap)} {K : AV → W} {H : AHeap} (h : wO f K H) : wOX [] f K H := by
  unfold wO at h; unfold wOX; split at h
  · exact ⟨ext_nil, h⟩
  · exact h.elim
theorem rEnd (h : Q e H) : awpR P T n Q [] e H := h
theorem toSeq {b : RCode} (h : awpC P T n b AQ e H) : thenA (awpC P T n b AQ) AQ .normal e H := h
theorem thN {B : Env → AHeap → Prop} (h : B e H) : thenA B AQ .normal e H := h
theorem thX {B : Env → AHeap → Prop} {i : Nat} (h : AQ (.exit i) e H) : thenA B AQ (.exit i) e H := h
theorem thR {B : Env → AHeap → Prop} (h : AQ .ret e H) : thenA B AQ .ret e H := h
theorem blN {i : Nat} (h : AQ .normal e H) : blockA i AQ .normal e H := h
theorem blR {i : Nat} (h : AQ .ret e H) : blockA i AQ .ret e H := h
theorem scN (h : AQ .normal e H) : scopeA AQ .normal e H := h
theorem scR (h : AQ .ret e H) : scopeA AQ .ret e H := h
theorem scX {i : Nat} (h : AQ (.exit i) e H) : scopeA AQ (.exit i) e H := h
theorem lSkip (h : AQ .normal e H) : awpC P T n .skip AQ e H := h
theorem lLabel {i : Nat} (h : AQ .normal e H) : awpC P T n (.label i) AQ e H := h
theorem lExit {i : Nat} (h : AQ (.exit i) e H) : awpC P T n (.exit i) AQ e H := h
theorem lRet (h : AQ .ret e H) : awpC P T n .ret AQ e H := h
theorem lSeq {a b : RCode} (h : awpC P T n a (thenA (awpC P T n b AQ) AQ) e H) : awpC P T n (.seq a b) AQ e H := h
theorem lBlock {id : Nat} {a : RCode} (h : awpC P T n a (blockA id AQ) e H) : awpC P T n (.block id a) AQ e H := h
theorem lScope {a : RCode} (h : awpC P T n a (scopeA AQ) e H) : awpC P T n (.scope a) AQ e H := h
theorem lCond {c : Operand} {x : AV} {A B : W} {a b : RCode} (hc : evO e c = some x) (h : wIf x A B H) (ha : A H → awpC P T n a AQ e H) (hb : B H → awpC P T n b AQ e H) : awpC P T n (.cond c a b) AQ e H := by
  unfold wIf at h
  split at h
  · simp only [awpC, hc]; exact ⟨fun t => ha (h.1 t), fun t => hb (h.2 t)⟩
  · exact h.elim
theorem lLoop {S : Type} {c : RCode} {body : (S → W) → S → W} {s : S} (R : S → List (Nat × AV)) (h : wLoop body s H) (hl : Lives e (R s))
    (step : ∀ (back : S → W) (B : Env → AHeap → Prop), (∀ s e H, Lives e (R s) → back s H → B e H) → ∀ (s : S) (e : Env) (H : AHeap), Lives e (R s) → body back s H → awpC P T n c (thenA B AQ) e H) :
    awpC P T n (.loop c) AQ e H := by
  obtain ⟨k, h⟩ := h
  refine ⟨k, ?_⟩
  induction k generalizing s e H with
  | zero => exact h.elim
  | succ k ih => exact step (wIter body k) (aiter (awpC P T n c) AQ k) (fun s e H hl hb => ih hl hb) s e H hl h
theorem blockA_same {id : Nat} (h : AQ .normal e H) : blockA id AQ (.exit id) e H := by simp only [blockA, if_true]; exact h
theorem blockA_other {id id' : Nat} (hne : Nat.beq id' id = false) (h : AQ (.exit id') e H) : blockA id AQ (.exit id') e H := by
  have : id' ≠ id := fun hh => by subst hh; rw [Nat.beq_refl] at hne; cases hne
  simp only [blockA, if_neg this]; exact h
/-- The results, told. -/
theorem retA_of {T : TT} {rs : List ResultVar} {F : AV → AHeap → Prop} {vs : List AV} (hr : aresults T H e rs = some vs) (h : F (retV vs) H) : retA T rs F .ret e H := by
  simp only [retA, hr]; exact h
theorem retA_of' {T : TT} {rs : List ResultVar} {F : AV → AHeap → Prop} {vs : List AV} (hr : aresults T H e rs = some vs) (h : F (retV vs) H) : retA T rs F .normal e H := by
  simp only [retA, hr]; exact h
theorem res_nil : aresults T H e [] = some [] := rfl
theorem res_tmp {t : Nat} {rs : List ResultVar} {v : AV} {vs : List AV} (hv : evO e (.tmp t) = some v) (hr : aresults T H e rs = some vs) : aresults T H e (.tmp t :: rs) = some (v :: vs) := by
  have hv' : e.get t = some v := hv
  simp only [aresults, aresult, hv', hr]
theorem res_cell {t : Nat} {ty : TypeId} {rs : List ResultVar} {x v : AV} {vs : List AV} (hx : evO e (.tmp t) = some x) (hv : mLoad T ty x H = some (v, H)) (hr : aresults T H e rs = some vs) : aresults T H e (.cell t ty :: rs) = some (v :: vs) := by
  have hx' : e.get t = some x := hx
  unfold mLoad at hv
  split at hv
  · split at hv
    · rename_i hl; injection hv with hv; injection hv with hv _; subst hv; simp only [aresults, aresult, hx', hl, hr]
    · cases hv
  · cases hv
theorem wO_load {t : TypeId} {x : AV} {K : AV → W} {H : AHeap} (h : wO (mLoad T t x) K H) : ∃ v, mLoad T t x H = some (v, H) ∧ K v H := by
  unfold wO at h
  split at h
  · rename_i v H' hf
    have : H' = H := by
      unfold mLoad at hf
      split at hf
      · split at hf
        · injection hf with hf; injection hf with _ hf; exact hf.symm
        · cases hf
      · cases hf
    subst this
    exact ⟨v, hf, h⟩
  · exact h.elim
end
/-! ### A function -/
def argsL : Nat → List AV → List (Nat × AV)
  | _, [] => []
  | i, a :: r => (i, a) :: argsL (i + 1) r
theorem lk_argsL : ∀ (args : List AV) (i t : Nat) {v : AV}, lk (argsL i args) t = some v → i ≤ t ∧ args[t - i]? = some v
  | [], _, _, _, h => by cases h
  | a :: r, i, t, v, h => by
    simp only [argsL, lk] at h
    split at h
    · rename_i hb
      have : i = t := Nat.eq_of_beq_eq_true hb
      subst this; injection h with h; subst h; simp
    · obtain ⟨h1, h2⟩ := lk_argsL r (i + 1) t h
      refine ⟨by omega, ?_⟩
      rw [show t - i = (t - (i + 1)) + 1 by omega, List.getElem?_cons_succ]; exact h2
theorem livesArgs (args : List AV) : Lives (envOf args) (argsL 0 args) := by
  intro t v h
  rw [envOf_get]
  exact (lk_argsL args 0 t h).2
def regOf (id : Nat) : Code → Option (Array Oper)
  | .region i ops _ => if Nat.beq i id then some ops else none
  | .seq a b => (regOf id a).or (regOf id b)
  | .cond _ a b => (regOf id a).or (regOf id b)
  | .block _ a => regOf id a
  | .loop a => regOf id a
  | .scope a => regOf id a
  | .rangeFunc _ _ a b => (regOf id a).or (regOf id b)
  | _ => none
def findReg (id : Nat) (f : Func) : Array Oper := match f.body with | some c => (regOf id c).getD #[] | none => #[]
theorem cspec_body2 {P : Program} {T : TT} {n : Nat} (hT : TOk P T) (hm : P.follows .mixedOrders = true) {f : FuncId} {fn : Func} {c : Code} {r : RCode} {args : List AV} {H : AHeap} {Q : AV → AHeap → Prop} {rs : List ResultVar}
    (hf : P.funcs[f]? = some fn) (hn : fn.ntmps = n) (hb : fn.body = some c) (hr : fn.results.toList = rs) (hname : (fn.name == "runtime.NumGoroutine") = false) (hl : args.length ≤ n) (hR : toR c = r)
    (h : awpC P T n r (retA T rs Q) (envOf args) H) : ASpec P T f args H Q := by subst hR; exact cspec_body hT hm hf hn hb hr hname hl h
def wLoop0 (body : (W) → W) : W := wLoop (S := Unit) (fun back s => body (back ()) ) ()
theorem wLoop0_rule {body : (W) → W} {H : AHeap} (I : Nat → AHeap → Prop) (m : Nat) (h0 : I m H)
    (step : ∀ (m : Nat) (H : AHeap) (K : W), I m H → (∀ (m' : Nat) (H' : AHeap), m' < m → I m'  H' → K  H') → body K H) : wLoop0 body H :=
  wLoop_rule (fun m s H => I m  H) m h0 fun m s H K hI hK => step m  H _ hI fun m'  H' hm hI' => hK m' () H' hm hI'
theorem lLoop0 {P : Program} {T : TT} {n : Nat} {e : Env} {H : AHeap} {AQ : AQ} {c : RCode} {body : (W) → W} (R : List (Nat × AV)) (h : wLoop0 body H) (hl : Lives e R)
    (step : ∀ (back : W) (B : Env → AHeap → Prop), (∀ {e : Env} {H : AHeap}, Lives e R → back H → B e H) → ∀ (e : Env) (H : AHeap), Lives e R → body back H → awpC P T n c (thenA B AQ) e H) : awpC P T n (.loop c) AQ e H :=
  lLoop (S := Unit) (fun s => R) h hl fun back B hb s e H hl hk => step (back ()) B (fun {e} {H} hl hx => hb () e H hl hx)  e H hl hk
def wLoop1 (body : (AV → W) → AV → W) (x1 : AV) : W := wLoop (S := AV) (fun back s => body (fun x1 => back x1) s) x1
theorem wLoop1_rule {body : (AV → W) → AV → W} {x1 : AV} {H : AHeap} (I : Nat → AV → AHeap → Prop) (m : Nat) (h0 : I m x1 H)
    (step : ∀ (m : Nat) (x1 : AV) (H : AHeap) (K : AV → W), I m x1 H → (∀ (m' : Nat) (x1' : AV) (H' : AHeap), m' < m → I m' x1' H' → K x1' H') → body K x1 H) : wLoop1 body x1 H :=
  wLoop_rule (fun m s H => I m s H) m h0 fun m s H K hI hK => step m s H _ hI fun m' x1' H' hm hI' => hK m' x1' H' hm hI'
theorem lLoop1 {P : Program} {T : TT} {n : Nat} {e : Env} {H : AHeap} {AQ : AQ} {c : RCode} {body : (AV → W) → AV → W} {x1 : AV} (R : AV → List (Nat × AV)) (h : wLoop1 body x1 H) (hl : Lives e (R x1))
    (step : ∀ (back : AV → W) (B : Env → AHeap → Prop), (∀ {x1 : AV} {e : Env} {H : AHeap}, Lives e (R x1) → back x1 H → B e H) → ∀ (x1 : AV) (e : Env) (H : AHeap), Lives e (R x1) → body back x1 H → awpC P T n c (thenA B AQ) e H) : awpC P T n (.loop c) AQ e H :=
  lLoop (S := AV) (fun s => R s) h hl fun back B hb s e H hl hk => step (fun x1 => back x1) B (fun {x1} {e} {H} hl hx => hb x1 e H hl hx) s e H hl hk
def wLoop2 (body : (AV → AV → W) → AV → AV → W) (x1 x2 : AV) : W := wLoop (S := AV × AV) (fun back s => body (fun x1 x2 => back (x1, x2)) s.1 s.2) (x1, x2)
theorem wLoop2_rule {body : (AV → AV → W) → AV → AV → W} {x1 x2 : AV} {H : AHeap} (I : Nat → AV → AV → AHeap → Prop) (m : Nat) (h0 : I m x1 x2 H)
    (step : ∀ (m : Nat) (x1 x2 : AV) (H : AHeap) (K : AV → AV → W), I m x1 x2 H → (∀ (m' : Nat) (x1' x2' : AV) (H' : AHeap), m' < m → I m' x1' x2' H' → K x1' x2' H') → body K x1 x2 H) : wLoop2 body x1 x2 H :=
  wLoop_rule (fun m s H => I m s.1 s.2 H) m h0 fun m s H K hI hK => step m s.1 s.2 H _ hI fun m' x1' x2' H' hm hI' => hK m' (x1', x2') H' hm hI'
theorem lLoop2 {P : Program} {T : TT} {n : Nat} {e : Env} {H : AHeap} {AQ : AQ} {c : RCode} {body : (AV → AV → W) → AV → AV → W} {x1 x2 : AV} (R : AV → AV → List (Nat × AV)) (h : wLoop2 body x1 x2 H) (hl : Lives e (R x1 x2))
    (step : ∀ (back : AV → AV → W) (B : Env → AHeap → Prop), (∀ {x1 x2 : AV} {e : Env} {H : AHeap}, Lives e (R x1 x2) → back x1 x2 H → B e H) → ∀ (x1 x2 : AV) (e : Env) (H : AHeap), Lives e (R x1 x2) → body back x1 x2 H → awpC P T n c (thenA B AQ) e H) : awpC P T n (.loop c) AQ e H :=
  lLoop (S := AV × AV) (fun s => R s.1 s.2) h hl fun back B hb s e H hl hk => step (fun x1 x2 => back (x1, x2)) B (fun {x1 x2} {e} {H} hl hx => hb (x1, x2) e H hl hx) s.1 s.2 e H hl hk
def wLoop3 (body : (AV → AV → AV → W) → AV → AV → AV → W) (x1 x2 x3 : AV) : W := wLoop (S := AV × AV × AV) (fun back s => body (fun x1 x2 x3 => back (x1, x2, x3)) s.1 s.2.1 s.2.2) (x1, x2, x3)
theorem wLoop3_rule {body : (AV → AV → AV → W) → AV → AV → AV → W} {x1 x2 x3 : AV} {H : AHeap} (I : Nat → AV → AV → AV → AHeap → Prop) (m : Nat) (h0 : I m x1 x2 x3 H)
    (step : ∀ (m : Nat) (x1 x2 x3 : AV) (H : AHeap) (K : AV → AV → AV → W), I m x1 x2 x3 H → (∀ (m' : Nat) (x1' x2' x3' : AV) (H' : AHeap), m' < m → I m' x1' x2' x3' H' → K x1' x2' x3' H') → body K x1 x2 x3 H) : wLoop3 body x1 x2 x3 H :=
  wLoop_rule (fun m s H => I m s.1 s.2.1 s.2.2 H) m h0 fun m s H K hI hK => step m s.1 s.2.1 s.2.2 H _ hI fun m' x1' x2' x3' H' hm hI' => hK m' (x1', x2', x3') H' hm hI'
theorem lLoop3 {P : Program} {T : TT} {n : Nat} {e : Env} {H : AHeap} {AQ : AQ} {c : RCode} {body : (AV → AV → AV → W) → AV → AV → AV → W} {x1 x2 x3 : AV} (R : AV → AV → AV → List (Nat × AV)) (h : wLoop3 body x1 x2 x3 H) (hl : Lives e (R x1 x2 x3))
    (step : ∀ (back : AV → AV → AV → W) (B : Env → AHeap → Prop), (∀ {x1 x2 x3 : AV} {e : Env} {H : AHeap}, Lives e (R x1 x2 x3) → back x1 x2 x3 H → B e H) → ∀ (x1 x2 x3 : AV) (e : Env) (H : AHeap), Lives e (R x1 x2 x3) → body back x1 x2 x3 H → awpC P T n c (thenA B AQ) e H) : awpC P T n (.loop c) AQ e H :=
  lLoop (S := AV × AV × AV) (fun s => R s.1 s.2.1 s.2.2) h hl fun back B hb s e H hl hk => step (fun x1 x2 x3 => back (x1, x2, x3)) B (fun {x1 x2 x3} {e} {H} hl hx => hb (x1, x2, x3) e H hl hx) s.1 s.2.1 s.2.2 e H hl hk
def wLoop4 (body : (AV → AV → AV → AV → W) → AV → AV → AV → AV → W) (x1 x2 x3 x4 : AV) : W := wLoop (S := AV × AV × AV × AV) (fun back s => body (fun x1 x2 x3 x4 => back (x1, x2, x3, x4)) s.1 s.2.1 s.2.2.1 s.2.2.2) (x1, x2, x3, x4)
theorem wLoop4_rule {body : (AV → AV → AV → AV → W) → AV → AV → AV → AV → W} {x1 x2 x3 x4 : AV} {H : AHeap} (I : Nat → AV → AV → AV → AV → AHeap → Prop) (m : Nat) (h0 : I m x1 x2 x3 x4 H)
    (step : ∀ (m : Nat) (x1 x2 x3 x4 : AV) (H : AHeap) (K : AV → AV → AV → AV → W), I m x1 x2 x3 x4 H → (∀ (m' : Nat) (x1' x2' x3' x4' : AV) (H' : AHeap), m' < m → I m' x1' x2' x3' x4' H' → K x1' x2' x3' x4' H') → body K x1 x2 x3 x4 H) : wLoop4 body x1 x2 x3 x4 H :=
  wLoop_rule (fun m s H => I m s.1 s.2.1 s.2.2.1 s.2.2.2 H) m h0 fun m s H K hI hK => step m s.1 s.2.1 s.2.2.1 s.2.2.2 H _ hI fun m' x1' x2' x3' x4' H' hm hI' => hK m' (x1', x2', x3', x4') H' hm hI'
theorem lLoop4 {P : Program} {T : TT} {n : Nat} {e : Env} {H : AHeap} {AQ : AQ} {c : RCode} {body : (AV → AV → AV → AV → W) → AV → AV → AV → AV → W} {x1 x2 x3 x4 : AV} (R : AV → AV → AV → AV → List (Nat × AV)) (h : wLoop4 body x1 x2 x3 x4 H) (hl : Lives e (R x1 x2 x3 x4))
    (step : ∀ (back : AV → AV → AV → AV → W) (B : Env → AHeap → Prop), (∀ {x1 x2 x3 x4 : AV} {e : Env} {H : AHeap}, Lives e (R x1 x2 x3 x4) → back x1 x2 x3 x4 H → B e H) → ∀ (x1 x2 x3 x4 : AV) (e : Env) (H : AHeap), Lives e (R x1 x2 x3 x4) → body back x1 x2 x3 x4 H → awpC P T n c (thenA B AQ) e H) : awpC P T n (.loop c) AQ e H :=
  lLoop (S := AV × AV × AV × AV) (fun s => R s.1 s.2.1 s.2.2.1 s.2.2.2) h hl fun back B hb s e H hl hk => step (fun x1 x2 x3 x4 => back (x1, x2, x3, x4)) B (fun {x1 x2 x3 x4} {e} {H} hl hx => hb (x1, x2, x3, x4) e H hl hx) s.1 s.2.1 s.2.2.1 s.2.2.2 e H hl hk
def wLoop5 (body : (AV → AV → AV → AV → AV → W) → AV → AV → AV → AV → AV → W) (x1 x2 x3 x4 x5 : AV) : W := wLoop (S := AV × AV × AV × AV × AV) (fun back s => body (fun x1 x2 x3 x4 x5 => back (x1, x2, x3, x4, x5)) s.1 s.2.1 s.2.2.1 s.2.2.2.1 s.2.2.2.2) (x1, x2, x3, x4, x5)
theorem wLoop5_rule {body : (AV → AV → AV → AV → AV → W) → AV → AV → AV → AV → AV → W} {x1 x2 x3 x4 x5 : AV} {H : AHeap} (I : Nat → AV → AV → AV → AV → AV → AHeap → Prop) (m : Nat) (h0 : I m x1 x2 x3 x4 x5 H)
    (step : ∀ (m : Nat) (x1 x2 x3 x4 x5 : AV) (H : AHeap) (K : AV → AV → AV → AV → AV → W), I m x1 x2 x3 x4 x5 H → (∀ (m' : Nat) (x1' x2' x3' x4' x5' : AV) (H' : AHeap), m' < m → I m' x1' x2' x3' x4' x5' H' → K x1' x2' x3' x4' x5' H') → body K x1 x2 x3 x4 x5 H) : wLoop5 body x1 x2 x3 x4 x5 H :=
  wLoop_rule (fun m s H => I m s.1 s.2.1 s.2.2.1 s.2.2.2.1 s.2.2.2.2 H) m h0 fun m s H K hI hK => step m s.1 s.2.1 s.2.2.1 s.2.2.2.1 s.2.2.2.2 H _ hI fun m' x1' x2' x3' x4' x5' H' hm hI' => hK m' (x1', x2', x3', x4', x5') H' hm hI'
theorem lLoop5 {P : Program} {T : TT} {n : Nat} {e : Env} {H : AHeap} {AQ : AQ} {c : RCode} {body : (AV → AV → AV → AV → AV → W) → AV → AV → AV → AV → AV → W} {x1 x2 x3 x4 x5 : AV} (R : AV → AV → AV → AV → AV → List (Nat × AV)) (h : wLoop5 body x1 x2 x3 x4 x5 H) (hl : Lives e (R x1 x2 x3 x4 x5))
    (step : ∀ (back : AV → AV → AV → AV → AV → W) (B : Env → AHeap → Prop), (∀ {x1 x2 x3 x4 x5 : AV} {e : Env} {H : AHeap}, Lives e (R x1 x2 x3 x4 x5) → back x1 x2 x3 x4 x5 H → B e H) → ∀ (x1 x2 x3 x4 x5 : AV) (e : Env) (H : AHeap), Lives e (R x1 x2 x3 x4 x5) → body back x1 x2 x3 x4 x5 H → awpC P T n c (thenA B AQ) e H) : awpC P T n (.loop c) AQ e H :=
  lLoop (S := AV × AV × AV × AV × AV) (fun s => R s.1 s.2.1 s.2.2.1 s.2.2.2.1 s.2.2.2.2) h hl fun back B hb s e H hl hk => step (fun x1 x2 x3 x4 x5 => back (x1, x2, x3, x4, x5)) B (fun {x1 x2 x3 x4 x5} {e} {H} hl hx => hb (x1, x2, x3, x4, x5) e H hl hx) s.1 s.2.1 s.2.2.1 s.2.2.2.1 s.2.2.2.2 e H hl hk
def wLoop6 (body : (AV → AV → AV → AV → AV → AV → W) → AV → AV → AV → AV → AV → AV → W) (x1 x2 x3 x4 x5 x6 : AV) : W := wLoop (S := AV × AV × AV × AV × AV × AV) (fun back s => body (fun x1 x2 x3 x4 x5 x6 => back (x1, x2, x3, x4, x5, x6)) s.1 s.2.1 s.2.2.1 s.2.2.2.1 s.2.2.2.2.1 s.2.2.2.2.2) (x1, x2, x3, x4, x5, x6)
theorem wLoop6_rule {body : (AV → AV → AV → AV → AV → AV → W) → AV → AV → AV → AV → AV → AV → W} {x1 x2 x3 x4 x5 x6 : AV} {H : AHeap} (I : Nat → AV → AV → AV → AV → AV → AV → AHeap → Prop) (m : Nat) (h0 : I m x1 x2 x3 x4 x5 x6 H)
    (step : ∀ (m : Nat) (x1 x2 x3 x4 x5 x6 : AV) (H : AHeap) (K : AV → AV → AV → AV → AV → AV → W), I m x1 x2 x3 x4 x5 x6 H → (∀ (m' : Nat) (x1' x2' x3' x4' x5' x6' : AV) (H' : AHeap), m' < m → I m' x1' x2' x3' x4' x5' x6' H' → K x1' x2' x3' x4' x5' x6' H') → body K x1 x2 x3 x4 x5 x6 H) : wLoop6 body x1 x2 x3 x4 x5 x6 H :=
  wLoop_rule (fun m s H => I m s.1 s.2.1 s.2.2.1 s.2.2.2.1 s.2.2.2.2.1 s.2.2.2.2.2 H) m h0 fun m s H K hI hK => step m s.1 s.2.1 s.2.2.1 s.2.2.2.1 s.2.2.2.2.1 s.2.2.2.2.2 H _ hI fun m' x1' x2' x3' x4' x5' x6' H' hm hI' => hK m' (x1', x2', x3', x4', x5', x6') H' hm hI'
theorem lLoop6 {P : Program} {T : TT} {n : Nat} {e : Env} {H : AHeap} {AQ : AQ} {c : RCode} {body : (AV → AV → AV → AV → AV → AV → W) → AV → AV → AV → AV → AV → AV → W} {x1 x2 x3 x4 x5 x6 : AV} (R : AV → AV → AV → AV → AV → AV → List (Nat × AV)) (h : wLoop6 body x1 x2 x3 x4 x5 x6 H) (hl : Lives e (R x1 x2 x3 x4 x5 x6))
    (step : ∀ (back : AV → AV → AV → AV → AV → AV → W) (B : Env → AHeap → Prop), (∀ {x1 x2 x3 x4 x5 x6 : AV} {e : Env} {H : AHeap}, Lives e (R x1 x2 x3 x4 x5 x6) → back x1 x2 x3 x4 x5 x6 H → B e H) → ∀ (x1 x2 x3 x4 x5 x6 : AV) (e : Env) (H : AHeap), Lives e (R x1 x2 x3 x4 x5 x6) → body back x1 x2 x3 x4 x5 x6 H → awpC P T n c (thenA B AQ) e H) : awpC P T n (.loop c) AQ e H :=
  lLoop (S := AV × AV × AV × AV × AV × AV) (fun s => R s.1 s.2.1 s.2.2.1 s.2.2.2.1 s.2.2.2.2.1 s.2.2.2.2.2) h hl fun back B hb s e H hl hk => step (fun x1 x2 x3 x4 x5 x6 => back (x1, x2, x3, x4, x5, x6)) B (fun {x1 x2 x3 x4 x5 x6} {e} {H} hl hx => hb (x1, x2, x3, x4, x5, x6) e H hl hx) s.1 s.2.1 s.2.2.1 s.2.2.2.1 s.2.2.2.2.1 s.2.2.2.2.2 e H hl hk
def wLoop7 (body : (AV → AV → AV → AV → AV → AV → AV → W) → AV → AV → AV → AV → AV → AV → AV → W) (x1 x2 x3 x4 x5 x6 x7 : AV) : W := wLoop (S := AV × AV × AV × AV × AV × AV × AV) (fun back s => body (fun x1 x2 x3 x4 x5 x6 x7 => back (x1, x2, x3, x4, x5, x6, x7)) s.1 s.2.1 s.2.2.1 s.2.2.2.1 s.2.2.2.2.1 s.2.2.2.2.2.1 s.2.2.2.2.2.2) (x1, x2, x3, x4, x5, x6, x7)
theorem wLoop7_rule {body : (AV → AV → AV → AV → AV → AV → AV → W) → AV → AV → AV → AV → AV → AV → AV → W} {x1 x2 x3 x4 x5 x6 x7 : AV} {H : AHeap} (I : Nat → AV → AV → AV → AV → AV → AV → AV → AHeap → Prop) (m : Nat) (h0 : I m x1 x2 x3 x4 x5 x6 x7 H)
    (step : ∀ (m : Nat) (x1 x2 x3 x4 x5 x6 x7 : AV) (H : AHeap) (K : AV → AV → AV → AV → AV → AV → AV → W), I m x1 x2 x3 x4 x5 x6 x7 H → (∀ (m' : Nat) (x1' x2' x3' x4' x5' x6' x7' : AV) (H' : AHeap), m' < m → I m' x1' x2' x3' x4' x5' x6' x7' H' → K x1' x2' x3' x4' x5' x6' x7' H') → body K x1 x2 x3 x4 x5 x6 x7 H) : wLoop7 body x1 x2 x3 x4 x5 x6 x7 H :=
  wLoop_rule (fun m s H => I m s.1 s.2.1 s.2.2.1 s.2.2.2.1 s.2.2.2.2.1 s.2.2.2.2.2.1 s.2.2.2.2.2.2 H) m h0 fun m s H K hI hK => step m s.1 s.2.1 s.2.2.1 s.2.2.2.1 s.2.2.2.2.1 s.2.2.2.2.2.1 s.2.2.2.2.2.2 H _ hI fun m' x1' x2' x3' x4' x5' x6' x7' H' hm hI' => hK m' (x1', x2', x3', x4', x5', x6', x7') H' hm hI'
theorem lLoop7 {P : Program} {T : TT} {n : Nat} {e : Env} {H : AHeap} {AQ : AQ} {c : RCode} {body : (AV → AV → AV → AV → AV → AV → AV → W) → AV → AV → AV → AV → AV → AV → AV → W} {x1 x2 x3 x4 x5 x6 x7 : AV} (R : AV → AV → AV → AV → AV → AV → AV → List (Nat × AV)) (h : wLoop7 body x1 x2 x3 x4 x5 x6 x7 H) (hl : Lives e (R x1 x2 x3 x4 x5 x6 x7))
    (step : ∀ (back : AV → AV → AV → AV → AV → AV → AV → W) (B : Env → AHeap → Prop), (∀ {x1 x2 x3 x4 x5 x6 x7 : AV} {e : Env} {H : AHeap}, Lives e (R x1 x2 x3 x4 x5 x6 x7) → back x1 x2 x3 x4 x5 x6 x7 H → B e H) → ∀ (x1 x2 x3 x4 x5 x6 x7 : AV) (e : Env) (H : AHeap), Lives e (R x1 x2 x3 x4 x5 x6 x7) → body back x1 x2 x3 x4 x5 x6 x7 H → awpC P T n c (thenA B AQ) e H) : awpC P T n (.loop c) AQ e H :=
  lLoop (S := AV × AV × AV × AV × AV × AV × AV) (fun s => R s.1 s.2.1 s.2.2.1 s.2.2.2.1 s.2.2.2.2.1 s.2.2.2.2.2.1 s.2.2.2.2.2.2) h hl fun back B hb s e H hl hk => step (fun x1 x2 x3 x4 x5 x6 x7 => back (x1, x2, x3, x4, x5, x6, x7)) B (fun {x1 x2 x3 x4 x5 x6 x7} {e} {H} hl hx => hb (x1, x2, x3, x4, x5, x6, x7) e H hl hx) s.1 s.2.1 s.2.2.1 s.2.2.2.1 s.2.2.2.2.1 s.2.2.2.2.2.1 s.2.2.2.2.2.2 e H hl hk
def wLoop8 (body : (AV → AV → AV → AV → AV → AV → AV → AV → W) → AV → AV → AV → AV → AV → AV → AV → AV → W) (x1 x2 x3 x4 x5 x6 x7 x8 : AV) : W := wLoop (S := AV × AV × AV × AV × AV × AV × AV × AV) (fun back s => body (fun x1 x2 x3 x4 x5 x6 x7 x8 => back (x1, x2, x3, x4, x5, x6, x7, x8)) s.1 s.2.1 s.2.2.1 s.2.2.2.1 s.2.2.2.2.1 s.2.2.2.2.2.1 s.2.2.2.2.2.2.1 s.2.2.2.2.2.2.2) (x1, x2, x3, x4, x5, x6, x7, x8)
theorem wLoop8_rule {body : (AV → AV → AV → AV → AV → AV → AV → AV → W) → AV → AV → AV → AV → AV → AV → AV → AV → W} {x1 x2 x3 x4 x5 x6 x7 x8 : AV} {H : AHeap} (I : Nat → AV → AV → AV → AV → AV → AV → AV → AV → AHeap → Prop) (m : Nat) (h0 : I m x1 x2 x3 x4 x5 x6 x7 x8 H)
    (step : ∀ (m : Nat) (x1 x2 x3 x4 x5 x6 x7 x8 : AV) (H : AHeap) (K : AV → AV → AV → AV → AV → AV → AV → AV → W), I m x1 x2 x3 x4 x5 x6 x7 x8 H → (∀ (m' : Nat) (x1' x2' x3' x4' x5' x6' x7' x8' : AV) (H' : AHeap), m' < m → I m' x1' x2' x3' x4' x5' x6' x7' x8' H' → K x1' x2' x3' x4' x5' x6' x7' x8' H') → body K x1 x2 x3 x4 x5 x6 x7 x8 H) : wLoop8 body x1 x2 x3 x4 x5 x6 x7 x8 H :=
  wLoop_rule (fun m s H => I m s.1 s.2.1 s.2.2.1 s.2.2.2.1 s.2.2.2.2.1 s.2.2.2.2.2.1 s.2.2.2.2.2.2.1 s.2.2.2.2.2.2.2 H) m h0 fun m s H K hI hK => step m s.1 s.2.1 s.2.2.1 s.2.2.2.1 s.2.2.2.2.1 s.2.2.2.2.2.1 s.2.2.2.2.2.2.1 s.2.2.2.2.2.2.2 H _ hI fun m' x1' x2' x3' x4' x5' x6' x7' x8' H' hm hI' => hK m' (x1', x2', x3', x4', x5', x6', x7', x8') H' hm hI'
theorem lLoop8 {P : Program} {T : TT} {n : Nat} {e : Env} {H : AHeap} {AQ : AQ} {c : RCode} {body : (AV → AV → AV → AV → AV → AV → AV → AV → W) → AV → AV → AV → AV → AV → AV → AV → AV → W} {x1 x2 x3 x4 x5 x6 x7 x8 : AV} (R : AV → AV → AV → AV → AV → AV → AV → AV → List (Nat × AV)) (h : wLoop8 body x1 x2 x3 x4 x5 x6 x7 x8 H) (hl : Lives e (R x1 x2 x3 x4 x5 x6 x7 x8))
    (step : ∀ (back : AV → AV → AV → AV → AV → AV → AV → AV → W) (B : Env → AHeap → Prop), (∀ {x1 x2 x3 x4 x5 x6 x7 x8 : AV} {e : Env} {H : AHeap}, Lives e (R x1 x2 x3 x4 x5 x6 x7 x8) → back x1 x2 x3 x4 x5 x6 x7 x8 H → B e H) → ∀ (x1 x2 x3 x4 x5 x6 x7 x8 : AV) (e : Env) (H : AHeap), Lives e (R x1 x2 x3 x4 x5 x6 x7 x8) → body back x1 x2 x3 x4 x5 x6 x7 x8 H → awpC P T n c (thenA B AQ) e H) : awpC P T n (.loop c) AQ e H :=
  lLoop (S := AV × AV × AV × AV × AV × AV × AV × AV) (fun s => R s.1 s.2.1 s.2.2.1 s.2.2.2.1 s.2.2.2.2.1 s.2.2.2.2.2.1 s.2.2.2.2.2.2.1 s.2.2.2.2.2.2.2) h hl fun back B hb s e H hl hk => step (fun x1 x2 x3 x4 x5 x6 x7 x8 => back (x1, x2, x3, x4, x5, x6, x7, x8)) B (fun {x1 x2 x3 x4 x5 x6 x7 x8} {e} {H} hl hx => hb (x1, x2, x3, x4, x5, x6, x7, x8) e H hl hx) s.1 s.2.1 s.2.2.1 s.2.2.2.1 s.2.2.2.2.1 s.2.2.2.2.2.1 s.2.2.2.2.2.2.1 s.2.2.2.2.2.2.2 e H hl hk
end Go.Ab
