/- The abstract layer, part A: abstract values with named blocks, abstract heaps, operations. -/
import Derived.WalkKit
set_option linter.unusedVariables false
set_option linter.unusedSimpArgs false
namespace Go.Ab

/-- A binary trie over the naturals: entry 0 here, 2k+1 to the left, 2k+2 to the right. -/
inductive Tr (α : Type) where
  | lf
  | nd (l : Tr α) (v : Option α) (r : Tr α)

namespace Tr
variable {α : Type}
def left : Tr α → Tr α | lf => lf | nd l _ _ => l
def val : Tr α → Option α | lf => none | nd _ v _ => v
def right : Tr α → Tr α | lf => lf | nd _ _ r => r
def get : Tr α → Nat → Option α
  | lf, _ => none
  | nd l v r, n => if n = 0 then v else if n % 2 = 1 then l.get (n / 2) else r.get (n / 2 - 1)
def setF : Nat → Tr α → Nat → Option α → Tr α
  | 0, t, _, v => nd t.left v t.right
  | f + 1, t, n, v => if n = 0 then nd t.left v t.right else
      if n % 2 = 1 then nd (setF f t.left (n / 2) v) t.val t.right else nd t.left t.val (setF f t.right (n / 2 - 1) v)
def set (t : Tr α) (n : Nat) (v : Option α) : Tr α := setF n t n v
theorem get_eq (t : Tr α) (n : Nat) : t.get n = if n = 0 then t.val else if n % 2 = 1 then t.left.get (n / 2) else t.right.get (n / 2 - 1) := by
  cases t with
  | lf => simp [get, left, val, right]
  | nd l v r => rfl
theorem get_setF : ∀ (f : Nat) (t : Tr α) (n : Nat) (v : Option α) (m : Nat), n ≤ f → (setF f t n v).get m = if m = n then v else t.get m := by
  intro f
  induction f with
  | zero =>
    intro t n v m h
    obtain rfl : n = 0 := by omega
    by_cases hm : m = 0
    · subst hm; simp [setF, get]
    · simp only [setF, get, if_neg hm]; rw [get_eq t m, if_neg hm]
  | succ f ih =>
    intro t n v m h
    by_cases hn : n = 0
    · subst hn
      by_cases hm : m = 0
      · subst hm; simp [setF, get]
      · simp only [setF, get, if_neg hm, if_true]; rw [get_eq t m, if_neg hm]
    · by_cases ho : n % 2 = 1
      · simp only [setF, if_neg hn, if_pos ho]
        by_cases hm : m = 0
        · subst hm; rw [get_eq t 0]; simp [get]; omega
        · rw [get_eq t m, if_neg hm]
          simp only [get, if_neg hm]
          by_cases hmo : m % 2 = 1
          · simp only [if_pos hmo]; rw [ih _ _ _ _ (by omega)]
            by_cases e : m = n
            · subst e; simp
            · rw [if_neg e, if_neg (by omega)]
          · simp only [if_neg hmo]; rw [if_neg (by omega)]
      · simp only [setF, if_neg hn, if_neg ho]
        by_cases hm : m = 0
        · subst hm; rw [get_eq t 0]; simp [get]; omega
        · rw [get_eq t m, if_neg hm]
          simp only [get, if_neg hm]
          by_cases hmo : m % 2 = 1
          · simp only [if_pos hmo]; rw [if_neg (by omega)]
          · simp only [if_neg hmo]; rw [ih _ _ _ _ (by omega)]
            by_cases e : m = n
            · subst e; simp
            · rw [if_neg e, if_neg (by omega)]
theorem get_set (t : Tr α) (n : Nat) (v : Option α) (m : Nat) : (t.set n v).get m = if m = n then v else t.get m := get_setF _ _ _ _ _ (Nat.le_refl _)
theorem get_set_same (t : Tr α) (n : Nat) (v : Option α) : (t.set n v).get n = v := by rw [get_set, if_pos rfl]
theorem get_set_ne (t : Tr α) {n m : Nat} (v : Option α) (h : m ≠ n) : (t.set n v).get m = t.get m := by rw [get_set, if_neg h]
def keysF : Tr α → (Nat → Nat) → List Nat
  | lf, _ => []
  | nd l v r, f => (match v with | some _ => [f 0] | none => []) ++ (l.keysF (fun n => f (2 * n + 1)) ++ r.keysF (fun n => f (2 * n + 2)))
def keys (t : Tr α) : List Nat := t.keysF id
theorem mem_keysF : ∀ (t : Tr α) (f : Nat → Nat) {n : Nat} {v : α}, t.get n = some v → f n ∈ t.keysF f
  | lf, f, n, v, h => by cases h
  | nd l o r, f, n, v, h => by
    simp only [get] at h
    simp only [keysF, List.mem_append]
    by_cases hn : n = 0
    · rw [if_pos hn] at h; subst h; subst hn; left; simp
    · rw [if_neg hn] at h
      right
      by_cases ho : n % 2 = 1
      · rw [if_pos ho] at h
        left
        have := mem_keysF l (fun n => f (2 * n + 1)) h
        rwa [show 2 * (n / 2) + 1 = n by omega] at this
      · rw [if_neg ho] at h
        right
        have := mem_keysF r (fun n => f (2 * n + 2)) h
        rwa [show 2 * (n / 2 - 1) + 2 = n by omega] at this
theorem mem_keys {t : Tr α} {n : Nat} {v : α} (h : t.get n = some v) : n ∈ t.keys := mem_keysF t id h
@[simp] theorem get_lf (n : Nat) : (lf : Tr α).get n = none := rfl
end Tr

/-- An address: a block's name, a place in it. -/
structure AA where
  blk : Nat
  off : Nat
  deriving DecidableEq

/-- Values with named blocks. 'nsl': a nil slice. A slice's 'cap': known, or 'none': up to the end of its block, however long that is. -/
inductive AV where
  | bool (b : Bool)
  | int (k : IntKind) (n : Int)
  | str (s : ByteArray)
  | ptr (a : Option AA)
  | nsl
  | sl (a : AA) (len : Nat) (cap : Option Nat)
  | map (r : Option Nat)
  | fn (f : Fn) (first caps : List AV)
  | nilFn
  | agg (cs : List AV)
  | tup (vs : List AV)

instance : Inhabited AV := ⟨.nilFn⟩

def AV.cells : AV → List AV
  | .agg cs => cs
  | v => [v]
/-- Does it fill one cell? -/
def AV.one : AV → Bool
  | .agg _ | .tup _ => false
  | _ => true

/-- ex: made whole, of just these cells; gr: made by an append, zeros behind its cells; ro: what came in, only read. -/
inductive Kind where | ex | gr | ro
  deriving DecidableEq

inductive ABlk where
  | cells (cs : List AV) (el : TypeId) (k : Kind)
  | mp (es : List (Int × AV)) (mt : TypeId)

def ABlk.rw : ABlk → Bool
  | .cells _ _ .ro => false
  | _ => true

structure AHeap where
  next : Nat
  t : Tr ABlk
namespace AHeap
def get (H : AHeap) (a : Nat) : Option ABlk := if a < H.next then H.t.get a else none
def set (H : AHeap) (a : Nat) (b : ABlk) : AHeap := ⟨H.next, H.t.set a (some b)⟩
def push (H : AHeap) (b : ABlk) : AHeap := ⟨H.next + 1, H.t.set H.next (some b)⟩
def kill (H : AHeap) (a : Nat) : AHeap := ⟨H.next, H.t.set a none⟩
@[simp] theorem next_set (H : AHeap) (a : Nat) (b : ABlk) : (H.set a b).next = H.next := rfl
@[simp] theorem next_push (H : AHeap) (b : ABlk) : (H.push b).next = H.next + 1 := rfl
@[simp] theorem next_kill (H : AHeap) (a : Nat) : (H.kill a).next = H.next := rfl
theorem get_lt {H : AHeap} {a : Nat} {b : ABlk} (h : H.get a = some b) : a < H.next := by
  unfold get at h; split at h
  · assumption
  · cases h
theorem get_set (H : AHeap) (a c : Nat) (b : ABlk) : (H.set a b).get c = if c = a then (if a < H.next then some b else none) else H.get c := by
  unfold get set; simp only []
  by_cases e : c = a
  · subst e; simp [Tr.get_set_same]
  · rw [Tr.get_set_ne _ _ e, if_neg e]
theorem get_set_same {H : AHeap} {a : Nat} (b : ABlk) (h : a < H.next) : (H.set a b).get a = some b := by rw [get_set, if_pos rfl, if_pos h]
theorem get_set_ne (H : AHeap) {a c : Nat} (b : ABlk) (h : c ≠ a) : (H.set a b).get c = H.get c := by rw [get_set, if_neg h]
theorem get_push (H : AHeap) (c : Nat) (b : ABlk) : (H.push b).get c = if c = H.next then some b else H.get c := by
  unfold get push; simp only []
  by_cases e : c = H.next
  · subst e; simp [Tr.get_set_same]
  · rw [Tr.get_set_ne _ _ e, if_neg e]
    by_cases h : c < H.next
    · rw [if_pos h, if_pos (by omega)]
    · rw [if_neg h, if_neg (by omega)]
theorem get_push_new (H : AHeap) (b : ABlk) : (H.push b).get H.next = some b := by rw [get_push, if_pos rfl]
theorem get_push_old {H : AHeap} {c : Nat} (b : ABlk) {x : ABlk} (h : H.get c = some x) : (H.push b).get c = some x := by
  rw [get_push, if_neg (by have := get_lt h; omega), h]
theorem get_push_lt {H : AHeap} {c : Nat} (b : ABlk) (h : c < H.next) : (H.push b).get c = H.get c := by rw [get_push, if_neg (by omega)]
theorem get_kill (H : AHeap) (a c : Nat) : (H.kill a).get c = if c = a then none else H.get c := by
  unfold get kill; simp only []
  by_cases e : c = a
  · subst e; simp [Tr.get_set_same]
  · rw [Tr.get_set_ne _ _ e, if_neg e]
theorem get_kill_ne (H : AHeap) {a c : Nat} (h : c ≠ a) : (H.kill a).get c = H.get c := by rw [get_kill, if_neg h]
theorem get_next (H : AHeap) {c : Nat} (h : H.next ≤ c) : H.get c = none := by unfold get; rw [if_neg (by omega)]
end AHeap

/-! ### Types, told once -/
inductive TK where
  | int (k : IntKind) | bool | str | ptr (e : TypeId) | sl (e : TypeId) | arr (n : Nat) (e : TypeId) | st (fs : List (Nat × TypeId)) | map (k e : TypeId) | fn | other
  deriving DecidableEq
structure TS where
  k : TK
  size : Nat
  bytes : Nat
  zero : List AV
def TK.isAgg : TK → Bool
  | .arr _ _ | .st _ => true
  | _ => false
abbrev TT := TypeId → Option TS

abbrev Env := Tr AV

def constAV : Value → Option AV
  | .bool b => some (.bool b)
  | .int k n => some (.int k n)
  | .string s => some (.str s)
  | .pointer none => some (.ptr none)
  | .slice none 0 0 => some .nsl
  | .map none => some (.map none)
  | .nilFunc => some .nilFn
  | .tuple vs => if vs.size = 0 then some (.tup []) else none
  | _ => none
/-- A list of constants. -/
def constAVs : List Value → Option (List AV)
  | [] => some []
  | v :: vs => match constAV v, constAVs vs with
    | some a, some l => some (a :: l)
    | _, _ => none
def constV : Value → Option AV
  | .agg cs => match constAVs cs.toList with | some l => some (.agg l) | none => none
  | v => constAV v

def evO (e : Env) : Operand → Option AV
  | .tmp t => e.get t
  | .const v => constV v
  | .func f => some (.fn (.func f) [] [])
  | .global _ => none

def evOs (e : Env) : List Operand → Option (List AV)
  | [] => some []
  | x :: xs => match evO e x, evOs e xs with
    | some a, some l => some (a :: l)
    | _, _ => none

/-! ### Arithmetic -/
/-- 'IntKind.wrap', quick to reckon with. -/
def wrapF (k : IntKind) (n : Int) : Int :=
  match k with
  | .u8 => n % 256
  | .u16 => n % 65536
  | .u32 => n % 4294967296
  | .u64 => n % 18446744073709551616
  | .i8 => if n % 256 ≥ 128 then n % 256 - 256 else n % 256
  | .i16 => if n % 65536 ≥ 32768 then n % 65536 - 65536 else n % 65536
  | .i32 => if n % 4294967296 ≥ 2147483648 then n % 4294967296 - 4294967296 else n % 4294967296
  | .i64 => if n % 18446744073709551616 ≥ 9223372036854775808 then n % 18446744073709551616 - 18446744073709551616 else n % 18446744073709551616
theorem wrapF_eq (k : IntKind) (n : Int) : wrapF k n = k.wrap n := by
  cases k <;> simp [wrapF, IntKind.wrap, IntKind.bits, IntKind.signed]
def pow2 (n : Nat) : Int := Int.ofNat (Nat.pow 2 n)
theorem pow2_eq (n : Nat) : pow2 n = 2 ^ n := by
  show ((2 ^ n : Nat) : Int) = 2 ^ n
  simp
/-- Bit by bit. -/
def band (k : IntKind) (x y : Int) : Int := (BitVec.ofInt k.bits x &&& BitVec.ofInt k.bits y).toNat
def bor (k : IntKind) (x y : Int) : Int := (BitVec.ofInt k.bits x ||| BitVec.ofInt k.bits y).toNat
def bxor (k : IntKind) (x y : Int) : Int := (BitVec.ofInt k.bits x ^^^ BitVec.ofInt k.bits y).toNat
def bclear (k : IntKind) (x y : Int) : Int := (BitVec.ofInt k.bits x &&& ~~~ BitVec.ofInt k.bits y).toNat
def aarith (op : BinOp) (k : IntKind) (x y : Int) : Option AV :=
  match op with
  | .add => some (.int k (wrapF k (x + y)))
  | .sub => some (.int k (wrapF k (x - y)))
  | .mul => some (.int k (wrapF k (x * y)))
  | .quo => if y = 0 then none else some (.int k (wrapF k (x.tdiv y)))
  | .rem => if y = 0 then none else some (.int k (x.tmod y))
  | .and => some (.int k (wrapF k (band k x y)))
  | .or => some (.int k (wrapF k (bor k x y)))
  | .xor => some (.int k (wrapF k (bxor k x y)))
  | .andNot => some (.int k (wrapF k (bclear k x y)))
  | .eql => some (.bool (x == y))
  | .neq => some (.bool (x != y))
  | .lss => some (.bool (x < y))
  | .leq => some (.bool (x ≤ y))
  | .gtr => some (.bool (x > y))
  | .geq => some (.bool (x ≥ y))
  | _ => none
def ashift (op : BinOp) (k : IntKind) (x y : Int) : Option AV :=
  if y < 0 then none else
  match op with
  | .shl => some (.int k (wrapF k (x * pow2 (min y.toNat k.bits))))
  | .shr => some (.int k (x.fdiv (pow2 (min y.toNat k.bits))))
  | _ => none
def isShift : BinOp → Bool
  | .shl | .shr => true
  | _ => false
/-- Equality of plain cells: whole numbers and bools. -/
def aeqs : List AV → List AV → Option Bool
  | [], [] => some true
  | .int _ x :: l, .int _ y :: r => match aeqs l r with | some b => some (x == y && b) | none => none
  | .bool x :: l, .bool y :: r => match aeqs l r with | some b => some (x == y && b) | none => none
  | _, _ => none
def aeq (T : TT) (t : TypeId) (x y : AV) : Option Bool :=
  match T t with
  | none => none
  | some s =>
    match s.k, x, y with
    | .bool, .bool a, .bool b => some (a == b)
    | .ptr _, .ptr none, .ptr b => some b.isNone
    | .ptr _, .ptr (some _), .ptr none => some false
    | .sl _, .nsl, .nsl => some true
    | .sl _, .nsl, .sl _ _ _ => some false
    | .sl _, .sl _ _ _, .nsl => some false
    | .map _ _, .map a, .map none => some a.isNone
    | .str, .str a, .str b => some (a.toList == b.toList)
    | _, _, _ => none
def abin (T : TT) (op : BinOp) (t : TypeId) (x y : AV) : Option AV :=
  match x, y with
  | .int k a, .int k' b => if isShift op then ashift op k a b else if k = k' then aarith op k a b else none
  | x, y => match op with
    | .eql => match aeq T t x y with | some b => some (.bool b) | none => none
    | .neq => match aeq T t x y with | some b => some (.bool !b) | none => none
    | _ => none
def aun (op : UnOp) (x : AV) : Option AV :=
  match op, x with
  | .neg, .int k n => some (.int k (wrapF k (0 - n)))
  | .xor, .int k n => some (.int k (wrapF k (bxor k (if k.signed then -1 else k.max) n)))
  | .not, .bool b => some (.bool !b)
  | _, _ => none

/-! ### Structs, arrays, addresses -/
def aput (cells : List AV) (off : Nat) (vs : List AV) : List AV := cells.take off ++ vs ++ cells.drop (off + vs.length)
def afill (place : Nat → Option (Nat × Nat)) (cells : List AV) : List (Nat × AV) → Option (List AV)
  | [] => some cells
  | (i, v) :: rest =>
    match place i with
    | none => none
    | some (off, size) => if v.cells.length ≠ size ∨ off + v.cells.length > cells.length then none else afill place (aput cells off v.cells) rest
def aparts (e : Env) : List (Nat × Operand) → Option (List (Nat × AV))
  | [] => some []
  | (i, x) :: xs => match evO e x, aparts e xs with
    | some a, some l => some ((i, a) :: l)
    | _, _ => none
def sizeT (T : TT) (t : TypeId) : Nat := match T t with | some s => s.size | none => 0
def known (T : TT) (t : TypeId) : Bool := (T t).isSome
def aplaces (T : TT) (fs : List (Nat × TypeId)) (i : Nat) : Option (Nat × Nat) :=
  match fs[i]? with
  | some (off, t) => some (off, sizeT T t)
  | none => none
def abuild (T : TT) (t : TypeId) (parts : List (Nat × AV)) : Option AV :=
  match T t with
  | none => none
  | some s =>
    match s.k with
    | .st fs => if fs.all (fun f => known T f.2) then (match afill (aplaces T fs) s.zero parts with | some cs => some (.agg cs) | none => none) else none
    | .arr _ el => if known T el then (match afill (fun i => some (i * sizeT T el, sizeT T el)) s.zero parts with | some cs => some (.agg cs) | none => none) else none
    | _ => none
def apart (T : TT) (t : TypeId) (cs : List AV) (off : Nat) : Option AV :=
  match T t with
  | none => none
  | some s => if s.k.isAgg then some (.agg ((cs.drop off).take s.size)) else cs[off]?
def afield (T : TT) (t : TypeId) (x : AV) (f : Nat) : Option AV :=
  match T t, x with
  | some s, .agg cs => match s.k with
    | .st fs => match fs[f]? with
      | some (off, ft) => apart T ft cs off
      | none => none
    | _ => none
  | _, _ => none
def aindex (T : TT) (t : TypeId) (x i : AV) : Option AV :=
  match T t, x, i with
  | some s, .agg cs, .int _ n => match s.k with
    | .arr len el => if 0 ≤ n ∧ n < len then (if known T el then apart T el cs (n.toNat * sizeT T el) else none) else none
    | _ => none
  | _, _, _ => none
def AA.add (a : AA) (n : Nat) : AA := ⟨a.blk, a.off + n⟩
def afieldAddr (T : TT) (t : TypeId) (x : AV) (f : Nat) : Option AV :=
  match T t, x with
  | some s, .ptr (some a) => match s.k with
    | .st fs => match fs[f]? with
      | some (off, ft) => if sizeT T ft = 0 then none else some (.ptr (some (a.add off)))
      | none => none
    | _ => none
  | _, _ => none
def aindexAddr (T : TT) (t : TypeId) (x i : AV) : Option AV :=
  match T t, x, i with
  | some s, .ptr (some a), .int _ n => match s.k with
    | .arr len el => if known T el then (if 0 ≤ n ∧ n < len then some (.ptr (some (a.add (n.toNat * sizeT T el)))) else none) else none
    | _ => none
  | some s, .sl a len cap, .int _ n => match s.k with
    | .sl el => if known T el then (if 0 ≤ n ∧ n < len then some (.ptr (some (a.add (n.toNat * sizeT T el)))) else none) else none
    | _ => none
  | _, _, _ => none
def aextract (x : AV) (i : Nat) : Option AV :=
  match x with
  | .tup vs => vs[i]?
  | _ => none
def aconv (T : TT) (src dst : TypeId) (x : AV) : Option AV :=
  match T src, T dst with
  | some _, some s => match s.k, x with
    | .int k, .int _ n => some (.int k (wrapF k n))
    | _, _ => none
  | _, _ => none
def alen (T : TT) (t : TypeId) (x : AV) : Option AV :=
  match T t with
  | none => none
  | some s => match s.k, x with
    | .sl _, .sl _ n _ => some (.int .i64 n)
    | .sl _, .nsl => some (.int .i64 0)
    | .arr n _, _ => some (.int .i64 n)
    | .str, .str s => some (.int .i64 s.size)
    | .map _ _, .map none => some (.int .i64 0)
    | _, _ => none
def acap (T : TT) (t : TypeId) (x : AV) : Option AV :=
  match T t with
  | none => none
  | some s => match s.k, x with
    | .sl _, .sl _ _ (some c) => some (.int .i64 c)
    | .sl _, .nsl => some (.int .i64 0)
    | _, _ => none
def amin2 (x y : AV) : Option AV :=
  match x, y with
  | .int k x, .int _ y => some (.int k (if y < x then y else x))
  | _, _ => none
def amax2 (x y : AV) : Option AV :=
  match x, y with
  | .int k x, .int _ y => some (.int k (if y > x then y else x))
  | _, _ => none
def afold (f : AV → AV → Option AV) : AV → List AV → Option AV
  | x, [] => some x
  | x, y :: r => match f x y with | some z => afold f z r | none => none

/-- What hangs on the variables alone. -/
def aPure (T : TT) (e : Env) : Op → Option AV
  | .move x | .assign x => evO e x
  | .pick c a b => match evO e c with
    | some (.bool true) => evO e a
    | some (.bool false) => evO e b
    | _ => none
  | .nilCheck x => match evO e x with
    | some (.ptr (some a)) => some (.ptr (some a))
    | some (.fn (.func f) u v) => some (.fn (.func f) u v)
    | _ => none
  | .binOp op t x y _ => match evO e x, evO e y with | some a, some b => abin T op t a b | _, _ => none
  | .unOp op _ x => match evO e x with | some a => aun op a | none => none
  | .convert src dst x => match evO e x with | some a => aconv T src dst a | none => none
  | .makeFunc fn first caps => match evOs e first.toList, evOs e caps.toList with | some a, some b => some (.fn fn a b) | _, _ => none
  | .build t parts => match aparts e parts.toList with | some l => abuild T t l | none => none
  | .field t x f => match evO e x with | some a => afield T t a f | none => none
  | .index t x i => match evO e x, evO e i with | some a, some b => aindex T t a b | _, _ => none
  | .extract x i => match evO e x with | some a => aextract a i | none => none
  | .fieldAddr t x f => match evO e x with | some a => afieldAddr T t a f | none => none
  | .indexAddr t x i => match evO e x, evO e i with | some a, some b => aindexAddr T t a b | _, _ => none
  | .call c => match c.callee with
    | .builtin .len => match c.args.toList, c.argTypes.toList with
      | [x], [t] => match evO e x with | some a => alen T t a | none => none
      | _, _ => none
    | .builtin .cap => match c.args.toList, c.argTypes.toList with
      | [x], [t] => match evO e x with | some a => acap T t a | none => none
      | _, _ => none
    | .builtin .min => match evOs e c.args.toList with | some (a :: l) => afold amin2 a l | _ => none
    | .builtin .max => match evOs e c.args.toList with | some (a :: l) => afold amax2 a l | _ => none
    | _ => none
  | _ => none

/-! ### What reads or writes memory -/
def aload (T : TT) (H : AHeap) (t : TypeId) (a : AA) : Option AV :=
  match T t, H.get a.blk with
  | some s, some (.cells cs _ _) =>
    if s.k.isAgg then (if a.off + s.size ≤ cs.length then some (.agg ((cs.drop a.off).take s.size)) else none) else cs[a.off]?
  | _, _ => none
def astore (T : TT) (H : AHeap) (t : TypeId) (a : AA) (v : AV) : Option AHeap :=
  match T t, H.get a.blk with
  | some s, some (.cells cs el k) =>
    if k = .ro then none else
    if v.cells.length = s.size ∧ a.off + v.cells.length ≤ cs.length ∧ v.cells.all AV.one = true then some (H.set a.blk (.cells (aput cs a.off v.cells) el k)) else none
  | _, _ => none
/-- A slice's capacity, as far as it is known: at least so many. -/
def capLB (T : TT) (H : AHeap) (el : TypeId) (a : AA) (cap : Option Nat) : Option Nat :=
  match cap with
  | some c => some c
  | none => match H.get a.blk with
    | some (.cells cs el' k) => if sizeT T el = 0 ∨ ¬ (k = .gr ∧ el = el') then none else some ((cs.length - a.off) / sizeT T el)
    | _ => none
def abound (hi : Nat) (v : Option AV) (dflt : Nat) : Option Nat :=
  match v with
  | none => some dflt
  | some (.int _ i) => if 0 ≤ i ∧ i ≤ hi then some i.toNat else none
  | _ => none
def evOO (e : Env) : Option Operand → Option (Option AV)
  | none => some none
  | some x => match evO e x with | some a => some (some a) | none => none
def aslice (T : TT) (H : AHeap) (t : TypeId) (x : AV) (lo hi mx : Option AV) : Option AV :=
  match T t with
  | none => none
  | some s => match s.k, x with
    | .sl el, .nsl =>
      if known T el then (match mx.isSome && hi.isNone, abound 0 mx 0 with
        | false, some m => match abound m hi 0 with
          | some h => match abound h lo 0 with
            | some _ => some .nsl
            | none => none
          | none => none
        | _, _ => none) else none
    | .sl el, .sl a len cap =>
      if known T el then (match mx, capLB T H el a cap with
      | some _, some c => if hi.isNone then none else match abound c mx 0 with
        | some m => match abound m hi 0 with
          | some h => match abound h lo 0 with
            | some l => some (.sl (if m = l then a else a.add (l * sizeT T el)) (h - l) (some (m - l)))
            | none => none
          | none => none
        | none => none
      | none, some c => match abound c hi len with
        | some h => match abound h lo 0 with
          | some l => match cap with
            | some c => some (.sl (if c = l then a else a.add (l * sizeT T el)) (h - l) (some (c - l)))
            | none => if h ≤ c then some (.sl (a.add (l * sizeT T el)) (h - l) none) else none
          | none => none
        | none => none
      | _, none => none) else none
    | .arr n el, .ptr (some a) =>
      if known T el then (match mx with
      | some _ => none
      | none => match abound n hi n with
        | some h => match abound h lo 0 with
          | some l => some (.sl (if n = l then a else a.add (l * sizeT T el)) (h - l) (some (n - l)))
          | none => none
        | none => none) else none
    | _, _ => none
def azeros (n : Nat) (z : List AV) : List AV := (List.replicate n z).flatten
def amake (T : TT) (H : AHeap) (t : TypeId) (l c : AV) : Option (AV × AHeap) :=
  match T t, l, c with
  | some s, .int _ l, .int _ c => match s.k with
    | .sl el => match T el with
      | some se => if 0 ≤ l ∧ l ≤ c ∧ c * se.bytes ≤ 281474976710656 ∧ c ≤ 281474976710656 ∧ se.zero.length = se.size ∧ 0 < se.size then
          some (.sl ⟨H.next, 0⟩ l.toNat (some c.toNat), H.push (.cells (azeros c.toNat se.zero) el .ex)) else none
      | none => none
    | _ => none
  | _, _, _ => none
def abuildSlice (T : TT) (H : AHeap) (t : TypeId) (len : Nat) (parts : List (Nat × AV)) : Option (AV × AHeap) :=
  match T t with
  | some s => match s.k with
    | .sl el => match T el with
      | some se => if len * se.size ≤ 16777216 ∧ 0 < se.size ∧ se.zero.length = se.size then
          (match afill (fun i => some (i * se.size, se.size)) (azeros len se.zero) parts with
            | some cs => some (.sl ⟨H.next, 0⟩ len (some len), H.push (.cells cs el .ex))
            | none => none) else none
      | none => none
    | _ => none
  | none => none
/-- The cells of a slice's first n elements. -/
def acells (H : AHeap) (size n : Nat) : AV → Option (List AV)
  | .nsl => some []
  | .sl a _ _ => if n = 0 then some [] else match H.get a.blk with
    | some (.cells cs _ _) => if a.off + n * size ≤ cs.length then some ((cs.drop a.off).take (n * size)) else none
    | _ => none
  | _ => none
def asLen : AV → Option Nat
  | .nsl => some 0
  | .sl _ n _ => some n
  | _ => none
/-- Is there room behind a slice's elements? -/
def afits (cap : Option Nat) (off len m size all : Nat) : Bool :=
  match cap with
  | some c => decide (len + m ≤ c)
  | none => decide (off + (len + m) * size ≤ all)
def aappend (T : TT) (H : AHeap) (t t' : TypeId) (s x : AV) : Option (AV × AHeap) :=
  match T t with
  | none => none
  | some ts => match ts.k with
    | .sl el => match T el, asLen x with
      | some se, some m =>
        if t ≠ t' ∨ se.size = 0 ∨ se.zero.length ≠ se.size then none else
        match acells H se.size m x with
        | none => none
        | some news =>
          if news.all AV.one = false then none else
          match s with
          | .nsl => if m = 0 then some (.nsl, H) else
              if m * se.bytes ≤ 140737488355328 ∧ m ≤ 9223372036854775807 then some (.sl ⟨H.next, 0⟩ m none, H.push (.cells news el .gr)) else none
          | .sl a len cap =>
            if m = 0 then some (.sl a len cap, H) else
            match H.get a.blk with
            | some (.cells cs el' k) =>
              if afits cap a.off len m se.size cs.length = true then
                (if k = .ro ∨ a.off + (len + m) * se.size > cs.length ∨ (cap = none ∧ ¬ (k = .gr ∧ el = el')) then none else
                  some (.sl a (len + m) cap, H.set a.blk (.cells (aput cs (a.off + len * se.size) news) el' k)))
              else
                if (len + m) * se.bytes ≤ 140737488355328 ∧ len + m ≤ 9223372036854775807 ∧ a.off + len * se.size ≤ cs.length then
                  match cap with
                  | some _ => some (.sl ⟨H.next, 0⟩ (len + m) none, H.push (.cells ((cs.drop a.off).take (len * se.size) ++ news) el .gr))
                  | none => if el = el' ∧ k = .gr then some (.sl ⟨H.next, 0⟩ (len + m) none, (H.kill a.blk).push (.cells ((cs.drop a.off).take (len * se.size) ++ news) el .gr)) else none
                else none
            | _ => none
          | _ => none
      | _, _ => none
    | _ => none
/-- 'append(nil, make([]E, n)...)'. -/
def aappendZ (T : TT) (H : AHeap) (t t' : TypeId) (s x : AV) : Option (AV × AHeap) :=
  match T t, T t', s, x with
  | some ts, some ts', .nsl, .int .i64 n => match ts.k, ts'.k with
    | .sl el, .int _ => match T el with
      | some se => if 0 < n ∧ n * se.bytes ≤ 140737488355328 ∧ n ≤ 9223372036854775807 ∧ se.size ≠ 0 ∧ se.zero.length = se.size then
          some (.sl ⟨H.next, 0⟩ n.toNat none, H.push (.cells (azeros n.toNat se.zero) el .gr)) else none
      | none => none
    | _, _ => none
  | _, _, _, _ => none
def acopy (T : TT) (H : AHeap) (t : TypeId) (d x : AV) : Option (AV × AHeap) :=
  match T t with
  | none => none
  | some ts => match ts.k with
    | .sl el => match T el, asLen x, d with
      | some se, some m, .nsl => some (.int .i64 0, H)
      | some se, some m, .sl a len _ =>
        if min m len = 0 then some (.int .i64 0, H) else
        match acells H se.size (min m len) x, H.get a.blk with
        | some news, some (.cells cs el' k) =>
          if k = .ro ∨ a.off + news.length > cs.length ∨ news.all AV.one = false then none else
            some (.int .i64 (min m len : Nat), H.set a.blk (.cells (aput cs a.off news) el' k))
        | _, _ => none
      | _, _, _ => none
    | _ => none
def aclear (T : TT) (H : AHeap) (t : TypeId) (x : AV) : Option (AV × AHeap) :=
  match T t with
  | none => none
  | some ts => match ts.k, x with
    | .sl _, .nsl => some (.tup [], H)
    | .sl el, .sl a len _ => if len = 0 then some (.tup [], H) else
      match T el, H.get a.blk with
      | some se, some (.cells cs el' k) =>
        if k = .ro ∨ a.off + (azeros len se.zero).length > cs.length ∨ se.zero.all AV.one = false ∨ se.zero.length ≠ se.size then none else
          some (.tup [], H.set a.blk (.cells (aput cs a.off (azeros len se.zero)) el' k))
      | _, _ => none
    | _, _ => none

def AV.isInt : AV → Bool
  | .int _ _ => true
  | _ => false
def aappendAny (T : TT) (H : AHeap) (t t' : TypeId) (s x : AV) : Option (AV × AHeap) := if x.isInt then aappendZ T H t t' s x else aappend T H t t' s x
/-- What an operation comes to. -/
inductive ORes where
  | val (v : AV) (H : AHeap)
  | call (f : FuncId) (args : List AV)
  | bad

def ORes.of : Option (AV × AHeap) → ORes
  | some (v, H) => .val v H
  | none => .bad

def aMem (T : TT) (e : Env) (H : AHeap) : Op → ORes
  | .alloc el => match T el with
    | some s => .val (.ptr (some ⟨H.next, 0⟩)) (H.push (.cells s.zero el .ex))
    | none => .bad
  | .box el x => match evO e x with
    | some v => .val (.ptr (some ⟨H.next, 0⟩)) (H.push (.cells v.cells el .ex))
    | none => .bad
  | .buildSlice t len parts => match aparts e parts.toList with
    | some l => .of (abuildSlice T H t len l)
    | none => .bad
  | .load t x => match evO e x with
    | some (.ptr (some a)) => match aload T H t a with | some v => .val v H | none => .bad
    | _ => .bad
  | .store t x y => match evO e x, evO e y with
    | some (.ptr (some a)), some v => match astore T H t a v with | some H' => .val (.tup []) H' | none => .bad
    | _, _ => .bad
  | .makeSlice t l c => match evO e l, evO e c with
    | some a, some b => .of (amake T H t a b)
    | _, _ => .bad
  | .slice t x lo hi mx => match evO e x, evOO e lo, evOO e hi, evOO e mx with
    | some a, some l, some h, some m => match aslice T H t a l h m with | some v => .val v H | none => .bad
    | _, _, _, _ => .bad
  | .call c => match c.callee with
    | .value f => match evO e f, evOs e c.args.toList with
      | some (.fn (.func g) first caps), some l => .call g (first ++ l ++ caps)
      | _, _ => .bad
    | .builtin .append => match c.args.toList, c.argTypes.toList with
      | [x, y], [t, t'] => match evO e x, evO e y with
        | some a, some b => .of (aappendAny T H t t' a b)
        | _, _ => .bad
      | _, _ => .bad
    | .builtin .copy => match c.args.toList, c.argTypes.toList with
      | [x, y], t :: _ => match evO e x, evO e y with
        | some a, some b => .of (acopy T H t a b)
        | _, _ => .bad
      | _, _ => .bad
    | .builtin .clear => match c.args.toList, c.argTypes.toList with
      | [x], t :: _ => match evO e x with
        | some a => .of (aclear T H t a)
        | _ => .bad
      | _, _ => .bad
    | _ => .bad
  | _ => .bad
def aopR (T : TT) (e : Env) (H : AHeap) (o : Op) : ORes :=
  match aPure T e o with
  | some v => .val v H
  | none => aMem T e H o
end Go.Ab
