/- The abstract layer, part V: operations with their types told. -/
import Derived.Test.YtdbcndheeipmjaaAbxU
set_option linter.unusedVariables false
set_option linter.unusedSimpArgs false
namespace Go.Ab
def ldA (H : AHeap) (a : AA) : Option AV := match H.get a.blk with
  | some (.cells cs _ _) => cs[a.off]?
  | _ => none
def ldN (n : Nat) (H : AHeap) (a : AA) : Option AV := match H.get a.blk with
  | some (.cells cs _ _) => if a.off + n ≤ cs.length then some (.agg ((cs.drop a.off).take n)) else none
  | _ => none
def stA (n : Nat) (H : AHeap) (a : AA) (v : AV) : Option AHeap := match H.get a.blk with
  | some (.cells cs el k) => if k = .ro then none else
    if v.cells.length = n ∧ a.off + v.cells.length ≤ cs.length ∧ v.cells.all AV.one = true then some (H.set a.blk (.cells (aput cs a.off v.cells) el k)) else none
  | _ => none
/-- A cell, read. -/
def ld (x : AV) (H : AHeap) : Option (AV × AHeap) := match x with | .ptr (some a) => (match ldA H a with | some v => some (v, H) | none => none) | _ => none
/-- n cells, read. -/
def ldn (n : Nat) (x : AV) (H : AHeap) : Option (AV × AHeap) := match x with | .ptr (some a) => (match ldN n H a with | some v => some (v, H) | none => none) | _ => none
/-- n cells, written. -/
def st (n : Nat) (x y : AV) (H : AHeap) : Option (AV × AHeap) := match x with | .ptr (some a) => (match stA n H a y with | some H' => some (.tup [], H') | none => none) | _ => none
def ldRX (ls : List Nat) (H : AHeap) (x : Option AV) : Option AV :=
  match x with
  | some (.ptr (some a)) => if ls.contains a.blk && (H.get a.blk).isSome then ldA H a else none
  | _ => none
def ldRXn (n : Nat) (ls : List Nat) (H : AHeap) (x : Option AV) : Option AV :=
  match x with
  | some (.ptr (some a)) => if ls.contains a.blk && (H.get a.blk).isSome then ldN n H a else none
  | _ => none
def ldX (ls : List Nat) (x : AV) (H : AHeap) : Option (AV × AHeap) := match ldRX ls H (some x) with | some v => some (v, H) | none => none
def ldnX (ls : List Nat) (n : Nat) (x : AV) (H : AHeap) : Option (AV × AHeap) := match ldRXn n ls H (some x) with | some v => some (v, H) | none => none
/-- A field's address. -/
def po (k : Nat) (x : AV) : Option AV := match x with | .ptr (some a) => some (.ptr (some (a.add k))) | _ => none
/-- A field of one cell, of n cells. -/
def fd (k : Nat) (x : AV) : Option AV := match x with | .agg cs => cs[k]? | _ => none
def fdn (k n : Nat) (x : AV) : Option AV := match x with | .agg cs => some (.agg ((cs.drop k).take n)) | _ => none
/-- An element's address: of a slice, of an array. -/
def ix (size : Nat) (x i : AV) : Option AV := match x, i with
  | .ptr (some _), .int _ _ => none
  | .sl a len cap, .int _ n => if 0 ≤ n ∧ n < len then some (.ptr (some (a.add (n.toNat * size)))) else none
  | _, _ => none
def ixp (len size : Nat) (x i : AV) : Option AV := match x, i with
  | .ptr (some a), .int _ n => if 0 ≤ n ∧ n < len then some (.ptr (some (a.add (n.toNat * size)))) else none
  | .sl a len cap, .int _ n => none
  | _, _ => none
def lenS (x : AV) : Option AV := match x with
  | .sl _ n _ => some (.int .i64 n)
  | .nsl => some (.int .i64 0)
  | _ => none
def cvI (k : IntKind) (x : AV) : Option AV := match x with | .int _ n => some (.int k (wrapF k n)) | _ => none
/-- A new block. -/
def new (el : TypeId) (zs : List AV) (H : AHeap) : Option (AV × AHeap) := some (.ptr (some ⟨H.next, 0⟩), H.push (.cells zs el .ex))
def capS (el : TypeId) (size : Nat) (H : AHeap) (a : AA) (cap : Option Nat) : Option Nat :=
  match cap with
  | some c => some c
  | none => match H.get a.blk with
    | some (.cells cs el' k) => if size = 0 ∨ ¬ (k = .gr ∧ el = el') then none else some ((cs.length - a.off) / size)
    | _ => none
def sliceS (el : TypeId) (size : Nat) (H : AHeap) (x : AV) (lo hi mx : Option AV) : Option AV :=
  match x with
  | .nsl => (match mx.isSome && hi.isNone, abound 0 mx 0 with
        | false, some m => match abound m hi 0 with
          | some h => match abound h lo 0 with
            | some _ => some .nsl
            | none => none
          | none => none
        | _, _ => none)
  | .sl a len cap => (match mx, capS el size H a cap with
      | some _, some c => if hi.isNone then none else match abound c mx 0 with
        | some m => match abound m hi 0 with
          | some h => match abound h lo 0 with
            | some l => some (.sl (if m = l then a else a.add (l * size)) (h - l) (some (m - l)))
            | none => none
          | none => none
        | none => none
      | none, some c => match abound c hi len with
        | some h => match abound h lo 0 with
          | some l => match cap with
            | some c => some (.sl (if c = l then a else a.add (l * size)) (h - l) (some (c - l)))
            | none => if h ≤ c then some (.sl (a.add (l * size)) (h - l) none) else none
          | none => none
        | none => none
      | _, none => none)
  | _ => none
def sliceP (n size : Nat) (x : AV) (lo hi mx : Option AV) : Option AV :=
  match x with
  | .ptr (some a) => (match mx with
      | some _ => none
      | none => match abound n hi n with
        | some h => match abound h lo 0 with
          | some l => some (.sl (if n = l then a else a.add (l * size)) (h - l) (some (n - l)))
          | none => none
        | none => none)
  | _ => none
def slS (el : TypeId) (size : Nat) (x : AV) (lo hi mx : Option AV) (H : AHeap) : Option (AV × AHeap) := match sliceS el size H x lo hi mx with | some v => some (v, H) | none => none
def slP (n size : Nat) (x : AV) (lo hi mx : Option AV) (H : AHeap) : Option (AV × AHeap) := match sliceP n size x lo hi mx with | some v => some (v, H) | none => none
def apA (el : TypeId) (size bytes : Nat) (H : AHeap) (s x : AV) : Option (AV × AHeap) :=
  match asLen x with
  | some m =>
        match acells H size m x with
        | none => none
        | some news =>
          if news.all AV.one = false then none else
          match s with
          | .nsl => if m = 0 then some (.nsl, H) else
              if m * bytes ≤ 140737488355328 ∧ m ≤ 9223372036854775807 then some (.sl ⟨H.next, 0⟩ m none, H.push (.cells news el .gr)) else none
          | .sl a len cap =>
            if m = 0 then some (.sl a len cap, H) else
            match H.get a.blk with
            | some (.cells cs el' k) =>
              if afits cap a.off len m size cs.length = true then
                (if k = .ro ∨ a.off + (len + m) * size > cs.length ∨ (cap = none ∧ ¬ (k = .gr ∧ el = el')) then none else
                  some (.sl a (len + m) cap, H.set a.blk (.cells (aput cs (a.off + len * size) news) el' k)))
              else
                if (len + m) * bytes ≤ 140737488355328 ∧ len + m ≤ 9223372036854775807 ∧ a.off + len * size ≤ cs.length then
                  match cap with
                  | some _ => some (.sl ⟨H.next, 0⟩ (len + m) none, H.push (.cells ((cs.drop a.off).take (len * size) ++ news) el .gr))
                  | none => if el = el' ∧ k = .gr then some (.sl ⟨H.next, 0⟩ (len + m) none, (H.kill a.blk).push (.cells ((cs.drop a.off).take (len * size) ++ news) el .gr)) else none
                else none
            | _ => none
          | _ => none
  | none => none
theorem append_apA {T : TT} {t el : TypeId} {ts se : TS} (h1 : T t = some ts) (h2 : ts.k = .sl el) (h3 : T el = some se) (h4 : se.size ≠ 0) (h5 : se.zero.length = se.size) {s x : AV} {H : AHeap} (hx : x.isInt = false) :
    mAppend T t t s x H = apA el se.size se.bytes H s x := by
  simp only [mAppend, aappendAny, hx, Bool.false_eq_true, if_false, aappend, h1, h2, h3, apA]
  cases hm : asLen x with
  | none => rfl
  | some m =>
    simp only []
    rw [if_neg (by simp [h4, h5])]
    rfl
def cpA (size : Nat) (H : AHeap) (d x : AV) : Option (AV × AHeap) :=
  match asLen x, d with
  | some m, .nsl => some (.int .i64 0, H)
  | some m, .sl a len _ =>
    if min m len = 0 then some (.int .i64 0, H) else
    match acells H size (min m len) x, H.get a.blk with
    | some news, some (.cells cs el' k) =>
      if k = .ro ∨ a.off + news.length > cs.length ∨ news.all AV.one = false then none else
        some (.int .i64 (min m len : Nat), H.set a.blk (.cells (aput cs a.off news) el' k))
    | _, _ => none
  | _, _ => none
def cpS (size : Nat) (d x : AV) (H : AHeap) : Option (AV × AHeap) := cpA size H d x
def mkS (el : TypeId) (bytes : Nat) (zs : List AV) (l c : AV) (H : AHeap) : Option (AV × AHeap) :=
  match l, c with
  | .int _ l, .int _ c =>
        if 0 ≤ l ∧ l ≤ c ∧ c * bytes ≤ 281474976710656 ∧ c ≤ 281474976710656 ∧ zs.length = zs.length ∧ 0 < zs.length then
          some (.sl ⟨H.next, 0⟩ l.toNat (some c.toNat), H.push (.cells (azeros c.toNat zs) el .ex)) else none
  | _, _ => none

/-- A list's block. -/
def lstA (el : TypeId) (size : Nat) (zs : List AV) (len : Nat) (parts : List (Nat × AV)) (H : AHeap) : Option (AV × AHeap) :=
  if len * size ≤ 16777216 then (match afill (fun i => some (i * size, size)) (azeros len zs) parts with
    | some cs => some (.sl ⟨H.next, 0⟩ len (some len), H.push (.cells cs el .ex))
    | none => none) else none
section
variable {T : TT} {t el : TypeId} {ts se : TS} {H : AHeap}
theorem list_lstA (h1 : T t = some ts) (h2 : ts.k = .sl el) (h3 : T el = some se) (h4 : 0 < se.size) (h5 : se.zero.length = se.size) {n : Nat} {parts : List (Nat × AV)} : mList T t n parts H = lstA el se.size se.zero n parts H := by
  simp only [mList, abuildSlice, h1, h2, h3, lstA, h4, h5, and_self, and_true]
  rfl
theorem slice_sliceS (h1 : T t = some ts) (h2 : ts.k = .sl el) (h3 : T el = some se) {x : AV} {lo hi mx : Option AV} : aslice T H t x lo hi mx = sliceS el se.size H x lo hi mx := by
  have hk : known T el = true := by simp [known, h3]
  have hz : sizeT T el = se.size := by simp [sizeT, h3]
  have hc : ∀ a cap, capLB T H el a cap = capS el se.size H a cap := by
    intro a cap
    cases cap with
    | some c => rfl
    | none => simp only [capLB, capS, hz]; rfl
  cases x <;> simp only [aslice, h1, h2, sliceS, hk, if_true, hz, hc] <;> rfl
theorem eq_ptr {e : TypeId} (h1 : T t = some ts) (h2 : ts.k = .ptr e) (a : Option AA) : abin T .eql t (.ptr a) (.ptr none) = some (.bool a.isNone) := by
  cases a <;> simp [abin, aeq, h1, h2]
theorem neq_ptr {e : TypeId} (h1 : T t = some ts) (h2 : ts.k = .ptr e) (a : Option AA) : abin T .neq t (.ptr a) (.ptr none) = some (.bool (!a.isNone)) := by
  cases a <;> simp [abin, aeq, h1, h2]
theorem eq_nsl {e : TypeId} (h1 : T t = some ts) (h2 : ts.k = .sl e) : abin T .eql t .nsl .nsl = some (.bool true) := by simp [abin, aeq, h1, h2]
theorem neq_nsl {e : TypeId} (h1 : T t = some ts) (h2 : ts.k = .sl e) : abin T .neq t .nsl .nsl = some (.bool false) := by simp [abin, aeq, h1, h2]
theorem eq_sl {e : TypeId} (h1 : T t = some ts) (h2 : ts.k = .sl e) (a : AA) (n : Nat) (c : Option Nat) : abin T .eql t (.sl a n c) .nsl = some (.bool false) := by simp [abin, aeq, h1, h2]
theorem neq_sl {e : TypeId} (h1 : T t = some ts) (h2 : ts.k = .sl e) (a : AA) (n : Nat) (c : Option Nat) : abin T .neq t (.sl a n c) .nsl = some (.bool true) := by simp [abin, aeq, h1, h2]
theorem eq_bool (h1 : T t = some ts) (h2 : ts.k = .bool) (a b : Bool) : abin T .eql t (.bool a) (.bool b) = some (.bool (a == b)) := by simp [abin, aeq, h1, h2]
theorem neq_bool (h1 : T t = some ts) (h2 : ts.k = .bool) (a b : Bool) : abin T .neq t (.bool a) (.bool b) = some (.bool (!(a == b))) := by simp [abin, aeq, h1, h2]
end
section
variable {el : TypeId} {H : AHeap} {z u v w : AV}
theorem lst_0 {size : Nat} {zs : List AV} : lstA el size zs 0 [] H = some (.sl ⟨H.next, 0⟩ 0 (some 0), H.push (.cells [] el .ex)) := by
  simp [lstA, afill, azeros]
theorem one_cells (h : v.one = true) : v.cells = [v] := by cases v <;> first | rfl | cases h
theorem lst_1 (hu : u.one = true) : lstA el 1 [z] 1 [(0, u)] H = some (.sl ⟨H.next, 0⟩ 1 (some 1), H.push (.cells [u] el .ex)) := by
  simp [lstA, afill, azeros, one_cells hu, aput]
theorem lst_2 (hu : u.one = true) (hv : v.one = true) : lstA el 1 [z] 2 [(0, u), (1, v)] H = some (.sl ⟨H.next, 0⟩ 2 (some 2), H.push (.cells [u, v] el .ex)) := by
  simp [lstA, afill, azeros, one_cells hu, one_cells hv, aput]
theorem lst_3 (hu : u.one = true) (hv : v.one = true) (hw : w.one = true) : lstA el 1 [z] 3 [(0, u), (1, v), (2, w)] H = some (.sl ⟨H.next, 0⟩ 3 (some 3), H.push (.cells [u, v, w] el .ex)) := by
  simp [lstA, afill, azeros, one_cells hu, one_cells hv, one_cells hw, aput]
theorem lst_agg {zs cs : List AV} (hz : zs.length = cs.length) (hs : cs.length ≤ 16777216) : lstA el cs.length zs 1 [(0, .agg cs)] H = some (.sl ⟨H.next, 0⟩ 1 (some 1), H.push (.cells cs el .ex)) := by
  simp [lstA, afill, azeros, AV.cells, aput, hz, hs]
  rw [List.drop_of_length_le (by omega), List.append_nil]
end

/-! ### Rules of the walk -/
section
variable {K : AV → W} {H : AHeap} {a : AA} {v x y : AV}
theorem wP_some : wP (some v) K H = K v H := rfl
theorem wO_ld {a : AA} : wO (ld (.ptr (some a))) K H = match ldA H a with | some v => K v H | none => False := by
  simp only [wO, ld]; cases ldA H a <;> rfl
theorem wO_ldn {n : Nat} : wO (ldn n (.ptr (some a))) K H = match ldN n H a with | some v => K v H | none => False := by
  simp only [wO, ldn]; cases ldN n H a <;> rfl
theorem wO_st {n : Nat} : wO (st n (.ptr (some a)) y) K H = match stA n H a y with | some H' => K (.tup []) H' | none => False := by
  simp only [wO, st]; cases stA n H a y <;> rfl
theorem wO_ldX {ls : List Nat} : wO (ldX ls (.ptr (some a))) K H = if ls.contains a.blk && (H.get a.blk).isSome then (match ldA H a with | some v => K v H | none => False) else False := by
  unfold wO ldX ldRX
  split
  · rename_i v H' h
    split at h
    · rename_i v' h'
      injection h with h; injection h with h1 h2; subst h1; subst h2
      simp only [] at h'
      split at h'
      · rename_i hc; rw [if_pos hc, h']
      · cases h'
    · cases h
  · rename_i h
    split at h
    · cases h
    · rename_i h'
      simp only [] at h'
      split at h'
      · rename_i hc; rw [if_pos hc, h']
      · rename_i hc; rw [if_neg hc]
theorem wO_new {el : TypeId} {zs : List AV} : wO (new el zs) K H = K (.ptr (some ⟨H.next, 0⟩)) (H.push (.cells zs el .ex)) := rfl
theorem wO_box {el : TypeId} : wO (mBox el v) K H = K (.ptr (some ⟨H.next, 0⟩)) (H.push (.cells v.cells el .ex)) := rfl
theorem wIf_true {A B : W} : wIf (.bool true) A B H = A H := by simp [wIf]
theorem wIf_false {A B : W} : wIf (.bool false) A B H = B H := by simp [wIf]
theorem wIf_bool {A B : W} {b : Bool} : wIf (.bool b) A B H = ((b = true → A H) ∧ (b = false → B H)) := rfl
theorem wG_true {A : (AV → W) → W} {want : Bool} {b : Bool} (h : (b == want) = true) : wG (.bool b) want A K H = A K H := by simp only [wG]; rw [if_pos h]
theorem wG_false {A : (AV → W) → W} {want : Bool} {b : Bool} (h : (b == want) = false) : wG (.bool b) want A K H = K (.tup []) H := by simp only [wG]; rw [if_neg (by rw [h]; decide)]
theorem wG_tt {A : (AV → W) → W} : wG (.bool true) true A K H = A K H := rfl
theorem wG_ff {A : (AV → W) → W} : wG (.bool false) false A K H = A K H := rfl
theorem wG_tf {A : (AV → W) → W} : wG (.bool true) false A K H = K (.tup []) H := rfl
theorem wG_ft {A : (AV → W) → W} : wG (.bool false) true A K H = K (.tup []) H := rfl
theorem wG_tup {A : (AV → W) → W} {want : Bool} : wG (.tup []) want A K H = K (.tup []) H := rfl
theorem po_ptr {k : Nat} : po k (.ptr (some a)) = some (.ptr (some (a.add k))) := rfl
theorem lenS_sl {len : Nat} {c : Option Nat} : lenS (.sl a len c) = some (.int .i64 len) := rfl
theorem lenS_nsl : lenS .nsl = some (.int .i64 0) := rfl
theorem fd_agg {k : Nat} {cs : List AV} : fd k (.agg cs) = cs[k]? := rfl
theorem fdn_agg {k n : Nat} {cs : List AV} : fdn k n (.agg cs) = some (.agg ((cs.drop k).take n)) := rfl
theorem cvI_int {k k' : IntKind} {n : Int} : cvI k (.int k' n) = some (.int k (wrapF k n)) := rfl
theorem ix_sl {size len : Nat} {c : Option Nat} {k : IntKind} {n : Int} : ix size (.sl a len c) (.int k n) = if 0 ≤ n ∧ n < len then some (.ptr (some (a.add (n.toNat * size)))) else none := rfl
theorem ixp_ptr {size len : Nat} {k : IntKind} {n : Int} : ixp len size (.ptr (some a)) (.int k n) = if 0 ≤ n ∧ n < len then some (.ptr (some (a.add (n.toNat * size)))) else none := rfl
theorem add_mk {b o k : Nat} : AA.add ⟨b, o⟩ k = ⟨b, o + k⟩ := rfl
theorem ldA_of {b o : Nat} {cs : List AV} {el : TypeId} {k : Kind} (h : H.get b = some (.cells cs el k)) : ldA H ⟨b, o⟩ = cs[o]? := by simp only [ldA, h]
theorem ldN_of {b o n : Nat} {cs : List AV} {el : TypeId} {k : Kind} (h : H.get b = some (.cells cs el k)) : ldN n H ⟨b, o⟩ = if o + n ≤ cs.length then some (.agg ((cs.drop o).take n)) else none := by simp only [ldN, h]
theorem stA_of {b o n : Nat} {cs : List AV} {el : TypeId} {k : Kind} (h : H.get b = some (.cells cs el k)) (hk : k ≠ .ro) (h1 : v.cells.length = n) (h2 : o + n ≤ cs.length) (h3 : v.cells.all AV.one = true) :
    stA n H ⟨b, o⟩ v = some (H.set b (.cells (aput cs o v.cells) el k)) := by
  simp only [stA, h]; rw [if_neg hk, if_pos ⟨h1, by rw [h1]; exact h2, h3⟩]
theorem cells_one (h : v.one = true) : v.cells = [v] := by cases v <;> first | rfl | cases h
theorem stA_one {b o : Nat} {cs : List AV} {el : TypeId} {k : Kind} (h : H.get b = some (.cells cs el k)) (hk : k ≠ .ro) (h2 : o < cs.length) (h3 : v.one = true) :
    stA 1 H ⟨b, o⟩ v = some (H.set b (.cells (cs.set o v) el k)) := by
  rw [stA_of h hk (by rw [cells_one h3]; rfl) (by omega) (by rw [cells_one h3]; simp [h3])]
  rw [cells_one h3]
  congr 3
  rw [List.set_eq_take_append_cons_drop, if_pos h2]
  simp [aput]
end
end Go.Ab
