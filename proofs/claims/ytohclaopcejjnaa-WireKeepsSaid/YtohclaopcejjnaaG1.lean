/- The plain reading of the program: values, a heap of blocks, compiled code (SC) and its run. Definitions alone; nothing is claimed here. -/
import Derived.Calls
import Derived.Orders
namespace Go.Proofs.Ytohclaopcejjnaa.G
open Go

/-! ### equality of values, decided -/
mutual
def veq : Value → Value → Bool
  | .bool a, .bool b => a == b
  | .int k a, .int l b => decide (k = l) && decide (a = b)
  | .float k a, .float l b => decide (k = l) && decide (a = b)
  | .complex k a c, .complex l b d => decide (k = l) && decide (a = b) && decide (c = d)
  | .string s, .string t => decide (s = t)
  | .pointer a, .pointer b => decide (a = b)
  | .slice a l c, .slice b m d => decide (a = b) && decide (l = m) && decide (c = d)
  | .map a, .map b => decide (a = b)
  | .chan a, .chan b => decide (a = b)
  | .func f a b, .func g c d => decide (f = g) && veqA a c && veqA b d
  | .nilFunc, .nilFunc => true
  | .iface t v, .iface u w => decide (t = u) && veq v w
  | .nilIface, .nilIface => true
  | .agg a, .agg b => veqA a b
  | .tuple a, .tuple b => veqA a b
  | _, _ => false
def veqA : Array Value → Array Value → Bool
  | ⟨a⟩, ⟨b⟩ => veqL a b
def veqL : List Value → List Value → Bool
  | [], [] => true
  | a :: x, b :: y => veq a b && veqL x y
  | _, _ => false
end
mutual
theorem veq_refl : (v : Value) → veq v v = true
  | .bool a => by simp [veq]
  | .int k a => by simp [veq]
  | .float k a => by simp [veq]
  | .complex k a c => by simp [veq]
  | .string s => by simp [veq]
  | .pointer a => by simp [veq]
  | .slice a l c => by simp [veq]
  | .map a => by simp [veq]
  | .chan a => by simp [veq]
  | .func f a b => by simp [veq, veqA_refl a, veqA_refl b]
  | .nilFunc => by simp [veq]
  | .iface t v => by simp [veq, veq_refl v]
  | .nilIface => by simp [veq]
  | .agg a => by simp [veq, veqA_refl a]
  | .tuple a => by simp [veq, veqA_refl a]
theorem veqA_refl : (a : Array Value) → veqA a a = true
  | ⟨a⟩ => by simp [veqA, veqL_refl a]
theorem veqL_refl : (a : List Value) → veqL a a = true
  | [] => by simp [veqL]
  | a :: x => by simp [veqL, veq_refl a, veqL_refl x]
end
mutual
theorem eq_of_veq : (v w : Value) → veq v w = true → v = w
  | .bool a, w, h => by cases w <;> simp_all [veq]
  | .int k a, w, h => by cases w <;> simp_all [veq]
  | .float k a, w, h => by cases w <;> simp_all [veq]
  | .complex k a c, w, h => by cases w <;> simp_all [veq]
  | .string s, w, h => by cases w <;> simp_all [veq]
  | .pointer a, w, h => by cases w <;> simp_all [veq]
  | .slice a l c, w, h => by cases w <;> simp_all [veq]
  | .map a, w, h => by cases w <;> simp_all [veq]
  | .chan a, w, h => by cases w <;> simp_all [veq]
  | .func f a b, w, h => by
    cases w <;> simp [veq] at h
    rename_i g c d
    obtain ⟨⟨rfl, h1⟩, h2⟩ := h
    rw [eq_of_veqA a c h1, eq_of_veqA b d h2]
  | .nilFunc, w, h => by cases w <;> simp_all [veq]
  | .iface t v, w, h => by
    cases w <;> simp [veq] at h
    obtain ⟨rfl, h1⟩ := h
    rw [eq_of_veq v _ h1]
  | .nilIface, w, h => by cases w <;> simp_all [veq]
  | .agg a, w, h => by
    cases w <;> simp [veq] at h
    rw [eq_of_veqA a _ h]
  | .tuple a, w, h => by
    cases w <;> simp [veq] at h
    rw [eq_of_veqA a _ h]
theorem eq_of_veqA : (a b : Array Value) → veqA a b = true → a = b
  | ⟨a⟩, ⟨b⟩, h => by
    simp [veqA] at h
    rw [eq_of_veqL a b h]
theorem eq_of_veqL : (a b : List Value) → veqL a b = true → a = b
  | [], [], _ => rfl
  | [], b :: y, h => by simp [veqL] at h
  | a :: x, [], h => by simp [veqL] at h
  | a :: x, b :: y, h => by
    simp [veqL] at h
    rw [eq_of_veq a b h.1, eq_of_veqL x y h.2]
end
instance : DecidableEq Value := fun v w => if h : veq v w = true then isTrue (eq_of_veq v w h) else isFalse fun e => h (e ▸ veq_refl v)

/-! ### the heap -/
/-- From here on a capacity is not known: UNK + z is that of a slice of elements of z cells. -/
def UNK : Nat := 18446744073709551616

structure Ent where
  key : Value
  val : Value
  born : Nat
  deriving DecidableEq, Inhabited

/-- A block: cells (may they only be read?), a map, or one that may not be looked at any more. -/
inductive Blk where
  | cells (cs : List Value) (ro : Bool)
  | map (es : List Ent) (clock : Nat)
  | dead
  deriving DecidableEq, Inhabited

abbrev Heap := Array Blk
abbrev M (α : Type) := Heap → Option (α × Heap)

/-- A value of one cell. -/
def one : Value → Bool
  | .agg _ | .tuple _ | .chan (some _) => false
  | _ => true

/-- What stands where an operation wasn't wanted. -/
def skipV : Value := .chan (some 0)

/-- A value's cells. -/
def cellsL : Value → List Value
  | .agg cs => cs.toList
  | v => [v]

/-- The cells of a block in a range. -/
def rd (H : Heap) (b off n : Nat) : Option (List Value) :=
  match H[b]? with
  | some (.cells cs _) => if off + n ≤ cs.length then some ((cs.drop off).take n) else none
  | _ => none

/-- Some cells take others' places. -/
def splice (cs : List Value) (off : Nat) (vs : List Value) : List Value := cs.take off ++ vs ++ cs.drop (off + vs.length)

/-- A range of a block is written. -/
def wr (H : Heap) (b off : Nat) (vs : List Value) : Option Heap :=
  match H[b]? with
  | some (.cells cs false) => if off + vs.length ≤ cs.length && vs.all one then some (H.setIfInBounds b (.cells (splice cs off vs) false)) else none
  | _ => none

def aload (agg : Bool) (sz : Nat) (p : Value) : M Value := fun H =>
  match p with
  | .pointer (some ⟨b, off, none⟩) =>
    match rd H b off (if agg then sz else 1) with
    | some vs => if agg then some (.agg vs.toArray, H) else (match vs with | [v] => some (v, H) | _ => none)
    | none => none
  | _ => none

def astore (sz : Nat) (p v : Value) : M Value := fun H =>
  match p with
  | .pointer (some ⟨b, off, none⟩) =>
    if (cellsL v).length = sz then (match wr H b off (cellsL v) with | some H' => some (undef, H') | none => none) else none
  | _ => none

def anew (cs : List Value) : M Value := fun H =>
  if cs.all one then some (.pointer (some ⟨H.size, 0, none⟩), H.push (.cells cs false)) else none

/-! ### numbers -/
def abin (op : BinOp) (x y : Value) : Option Value :=
  match x, y with
  | .int k a, .int l b =>
    match op with
    | .shl => if b < 0 then none else some (.int k (k.wrap (a * 2 ^ (min b.toNat k.bits))))
    | .shr => if b < 0 then none else some (.int k (a.fdiv (2 ^ (min b.toNat k.bits))))
    | _ =>
      if k = l then
        match op with
        | .add => some (.int k (k.wrap (a + b)))
        | .sub => some (.int k (k.wrap (a - b)))
        | .mul => some (.int k (k.wrap (a * b)))
        | .quo => if b = 0 then none else some (.int k (k.wrap (a.tdiv b)))
        | .rem => if b = 0 then none else some (.int k (a.tmod b))
        | .and => some (.int k (k.wrap (BitVec.ofInt k.bits a &&& BitVec.ofInt k.bits b).toNat))
        | .or => some (.int k (k.wrap (BitVec.ofInt k.bits a ||| BitVec.ofInt k.bits b).toNat))
        | .xor => some (.int k (k.wrap (BitVec.ofInt k.bits a ^^^ BitVec.ofInt k.bits b).toNat))
        | .andNot => some (.int k (k.wrap (BitVec.ofInt k.bits a &&& ~~~(BitVec.ofInt k.bits b)).toNat))
        | .eql => some (.bool (a == b))
        | .neq => some (.bool (a != b))
        | .lss => some (.bool (a < b))
        | .leq => some (.bool (a ≤ b))
        | .gtr => some (.bool (a > b))
        | .geq => some (.bool (a ≥ b))
        | _ => none
      else none
  | _, _ => none

/-- What a type's nil is. -/
inductive NilKind where
  | ptr | slc | mp | fn
  deriving DecidableEq, Inhabited
/-- Is it nil? (of what can be) -/
def isNil : NilKind → Value → Option Bool
  | .ptr, .pointer a => some a.isNone
  | .slc, .slice a _ _ => some a.isNone
  | .mp, .map a => some a.isNone
  | .fn, .nilFunc => some true
  | .fn, .func _ _ _ => some false
  | _, _ => none

/-- Two lists of numbers: are they alike? -/
def aggEq : List Value → List Value → Option Bool
  | [], [] => some true
  | .int k a :: x, .int l b :: y => if k = l then (match aggEq x y with | some r => some (a == b && r) | none => none) else none
  | _, _ => none

def aun (op : UnOp) (x : Value) : Option Value :=
  match op, x with
  | .neg, .int k a => some (.int k (k.wrap (0 - a)))
  | .xor, .int k a => some (.int k (k.wrap (BitVec.ofInt k.bits (if k.signed then -1 else k.max) ^^^ BitVec.ofInt k.bits a).toNat))
  | .not, .bool b => some (.bool !b)
  | _, _ => none

def asNat : Value → Option Nat
  | .int _ i => if 0 ≤ i then some i.toNat else none
  | _ => none

def alen : Value → Option Nat
  | .slice _ n _ => some n
  | .string s => some s.size
  | _ => none

/-! ### slices -/
/-- The first cells of a slice. -/
def sliceCells (H : Heap) (sz : Nat) (s : Value) : Option (List Value) :=
  match s with
  | .slice none 0 _ => some []
  | .slice (some ⟨b, off, none⟩) n _ => rd H b off (n * sz)
  | _ => none

/-- A bound that is told, or not. -/
def bnd (o : Option Value) (d : Nat) : Option Nat :=
  match o with
  | some v => asNat v
  | none => some d

/-- The capacity that is sure. -/
def capOf (len cap : Nat) : Nat := if UNK ≤ cap then len else cap

/-- x[l:h:m]: the bounds that are told; of a slice whose capacity isn't known no bound lies above its length. -/
def aslice (sz : Nat) (s : Value) (lo hi mx : Option Value) : Option Value :=
  match s with
  | .slice a len cap =>
    if mx.isSome && hi.isNone then none else
    match bnd mx (capOf len cap), bnd hi len, bnd lo 0 with
    | some m, some h, some l =>
      if l ≤ h ∧ h ≤ m ∧ m ≤ capOf len cap then
        match a with
        | none => some (.slice none 0 0)
        | some ⟨b, off, none⟩ =>
          if UNK ≤ cap ∧ mx = none then
            (if cap = UNK + sz then some (.slice (some ⟨b, off + l * sz, none⟩) (h - l) cap) else none)
          else if m = l then some (.slice (some ⟨b, off, none⟩) 0 0)
          else some (.slice (some ⟨b, off + l * sz, none⟩) (h - l) (m - l))
        | some _ => none
      else none
    | _, _, _ => none
  | _ => none

/-- The place of an element: of a slice, of an array. -/
def aiaddr (sz : Nat) (x i : Value) : Option Value :=
  match x with
  | .slice (some ⟨b, o, none⟩) n _ => (match asNat i with | some j => if j < n then some (.pointer (some ⟨b, o + j * sz, none⟩)) else none | none => none)
  | _ => none
def aiaddrA (n sz : Nat) (x i : Value) : Option Value :=
  match x with
  | .pointer (some ⟨b, o, none⟩) => (match asNat i with | some j => if j < n then some (.pointer (some ⟨b, o + j * sz, none⟩)) else none | none => none)
  | _ => none

def fits (n bytes : Nat) : Bool := decide (n ≤ 9223372036854775807) && decide (n * bytes ≤ 140737488355328)

/-- append. -/
def aappend (sz bytes : Nat) (s x : Value) : M Value := fun H =>
  match sliceCells H sz x, alen x with
  | some xs, some n =>
    match s with
    | .slice none 0 0 =>
      if n = 0 then some (.slice none 0 0, H)
      else if fits n bytes && xs.all one then some (.slice (some ⟨H.size, 0, none⟩) n (UNK + sz), H.push (.cells xs false)) else none
    | .slice (some ⟨b, off, none⟩) len cap =>
      if n = 0 then some (s, H)
      else if fits (len + n) bytes && xs.all one then
        if UNK ≤ cap then
          if cap = UNK + sz then
            match H[b]? with
            | some (.cells cs false) =>
              if off + len * sz ≤ cs.length then
                some (.slice (some ⟨H.size, 0, none⟩) (len + n) cap, (H.setIfInBounds b .dead).push (.cells ((cs.drop off).take (len * sz) ++ xs) false))
              else none
            | _ => none
          else none
        else if len + n ≤ cap then
          match wr H b (off + len * sz) xs with
          | some H' => some (.slice (some ⟨b, off, none⟩) (len + n) cap, H')
          | none => none
        else
          match rd H b off (len * sz) with
          | some old => some (.slice (some ⟨H.size, 0, none⟩) (len + n) (UNK + sz), H.push (.cells (old ++ xs) false))
          | none => none
      else none
    | _ => none
  | _, _ => none

def acopy (sz : Nat) (d s : Value) : M Value := fun H =>
  match d, s with
  | .slice base dl _, .slice a n c =>
    if min n dl = 0 then some (.int .i64 0, H) else
    match sliceCells H sz (.slice a (min n dl) c), base with
    | some vs, some ⟨b, off, none⟩ => (match wr H b off vs with | some H' => some (.int .i64 (min n dl : Nat), H') | none => none)
    | _, _ => none
  | _, _ => none

def reps (n : Nat) (z : List Value) : List Value := (List.replicate n z).flatten

def aclearS (z : List Value) (x : Value) : M Value := fun H =>
  match x with
  | .slice a n _ =>
    if n = 0 then some (.tuple #[], H) else
    match a with
    | some ⟨b, off, none⟩ => (match wr H b off (reps n z) with | some H' => some (.tuple #[], H') | none => none)
    | _ => none
  | _ => none

/-! ### maps -/
/-- Plain keys: numbers, bools, strings, or made of such. -/
def plainKey : Value → Bool
  | .int _ _ | .bool _ | .string _ => true
  | .agg cs => cs.toList.all fun v => match v with | .int _ _ | .bool _ => true | _ => false
  | _ => false

def findE (k : Value) : List Ent → Option Ent
  | [] => none
  | e :: l => if k = e.key then some e else findE k l
def setE (k v : Value) : List Ent → List Ent
  | [] => []
  | e :: l => if k = e.key then { e with val := v } :: l else e :: setE k v l
def delE (k : Value) : List Ent → List Ent
  | [] => []
  | e :: l => if k = e.key then l else e :: delE k l
/-- Are the keys of one make? -/
def sameMake : Value → Value → Bool
  | .int k _, .int l _ => decide (k = l)
  | .bool _, .bool _ => true
  | .string _, .string _ => true
  | .agg a, .agg b => a.size == b.size && (a.toList.zip b.toList).all fun (x, y) => match x, y with | .int k _, .int l _ => decide (k = l) | .bool _, .bool _ => true | _, _ => false
  | _, _ => false
def goodKeys (k : Value) (es : List Ent) : Bool := plainKey k && es.all fun e => plainKey e.key && sameMake k e.key

def alookup (zero : Value) (ok : Bool) (m k : Value) : M Value := fun H =>
  match m with
  | .map none => if plainKey k then some (if ok then .tuple #[zero, .bool false] else zero, H) else none
  | .map (some b) =>
    match H[b]? with
    | some (.map es _) =>
      if goodKeys k es then
        match findE k es with
        | some e => some (if ok then .tuple #[e.val, .bool true] else e.val, H)
        | none => some (if ok then .tuple #[zero, .bool false] else zero, H)
      else none
    | _ => none
  | _ => none

def amapUpdate (m k v : Value) : M Value := fun H =>
  match m with
  | .map (some b) =>
    match H[b]? with
    | some (.map es c) =>
      if goodKeys k es then
        match findE k es with
        | some _ => some (undef, H.setIfInBounds b (.map (setE k v es) c))
        | none => some (undef, H.setIfInBounds b (.map (es ++ [⟨k, v, c⟩]) (c + 1)))
      else none
    | _ => none
  | _ => none

def adelete (m k : Value) : M Value := fun H =>
  match m with
  | .map none => if plainKey k then some (.tuple #[], H) else none
  | .map (some b) =>
    match H[b]? with
    | some (.map es c) => if goodKeys k es then some (.tuple #[], H.setIfInBounds b (.map (delE k es) c)) else none
    | _ => none
  | _ => none

/-! ### code -/
/-- An operation, with all that the types say written out. -/
inductive SOp where
  | mv (x : Operand)
  | pick (c a b : Operand)
  | new (t : TypeId)
  | box (t : TypeId) (x : Operand)
  | build (t : TypeId) (parts : List (Nat × Nat × Operand))
  | bslice (e : TypeId) (n : Nat) (parts : List (Nat × Nat × Operand))
  | load (agg : Bool) (sz : Nat) (x : Operand)
  | store (sz : Nat) (x v : Operand)
  | nilck (x : Operand)
  | bin (op : BinOp) (x y : Operand)
  | eqNil (neg : Bool) (k : NilKind) (x : Operand)
  | eqB (neg : Bool) (x y : Operand)
  | eqS (neg : Bool) (x y : Operand)
  | eqAgg (neg : Bool) (t : TypeId) (x y : Operand)
  | un (op : UnOp) (x : Operand)
  | conv (k : IntKind) (x : Operand)
  | fn (f : Fn) (first captured : List Operand)
  | newmap
  | mkslice (e : TypeId) (bytes : Nat) (l c : Operand)
  | slice (sz : Nat) (x : Operand) (lo hi mx : Option Operand)
  | sliceArr (n sz : Nat) (x : Operand) (lo hi mx : Option Operand)
  | faddr (off : Nat) (x : Operand)
  | field (agg : Bool) (off sz : Nat) (x : Operand)
  | iaddr (sz : Nat) (x i : Operand)
  | iaddrA (n sz : Nat) (x i : Operand)
  | ext (x : Operand) (i : Nat)
  | len (str : Bool) (x : Operand)
  | lenM (x : Operand)
  | minmax (mx : Bool) (l : List Operand)
  | append (sz bytes : Nat) (s x : Operand)
  | copy (sz : Nat) (d s : Operand)
  | clearS (e : TypeId) (x : Operand)
  | clearM (x : Operand)
  | lookup (elem : TypeId) (ok : Bool) (m k : Operand)
  | mapset (m k v : Operand)
  | del (m k : Operand)
  | call (f : FuncId) (args : List Operand)
  | callv (f : Operand) (args : List Operand)
  deriving Inhabited

/-- An instruction: where its value goes, on what it hangs, and (in a region of open order) which loads ahead of it it must leave as they were. -/
structure SI where
  dst : Option Nat
  op : SOp
  guard : Option (Nat × Bool) := none
  chk : List Nat := []
  deriving Inhabited

inductive SC where
  | skip
  | reg (l : List SI)
  | drw (l : List SI)
  | seq (a b : SC)
  | cond (c : Operand) (a b : SC)
  | blk (id : Nat) (b : SC)
  | loop (b : SC)
  | exit (id : Nat)
  | ret
  deriving Inhabited

/-- How a call leaves the heap: as it comes; or it must leave it as it was, and what it made is forgotten. -/
inductive Mode where
  | raw | clean
  deriving DecidableEq, Inhabited

structure SFn where
  nt : Nat
  res : List ResultVar
  body : SC
  deriving Inhabited

abbrev Env := List (Nat × Value)
def get (e : Env) (t : Nat) : Value :=
  match e with
  | [] => undef
  | (k, v) :: r => if t = k then v else get r t
def put (e : Env) (d : Option Nat) (v : Value) : Env :=
  match d with
  | some d => (d, v) :: e
  | none => e
/-- Of each place the last value alone. -/
def prune : Env → Env
  | [] => []
  | (k, v) :: r => (k, v) :: (prune r).filter fun x => !(k == x.1)

def ev (e : Env) : Operand → Value
  | .tmp t => get e t
  | .const v => v
  | .global _ => undef
  | .func f => .func (.func f) #[] #[]

/-- Cells of nought. -/
def zc (P : Program) (t : TypeId) : List Value := ((P.info? t).bind (·.zero)).elim [] fun z => z.cells.toList
def zv (P : Program) (t : TypeId) : Value := ((P.info? t).bind (·.zero)).getD undef

/-- Parts are laid into cells. -/
def fillL (cells : List Value) : List (Nat × Nat × Value) → Option (List Value)
  | [] => some cells
  | (off, sz, v) :: rest =>
    if (cellsL v).length = sz ∧ off + sz ≤ cells.length ∧ (cellsL v).all one = true then fillL (splice cells off (cellsL v)) rest else none

def evs (e : Env) (ps : List (Nat × Nat × Operand)) : List (Nat × Nat × Value) := ps.map fun p => (p.1, p.2.1, ev e p.2.2)

def lift (o : Option Value) : M Value := fun H => match o with | some v => some (v, H) | none => none

structure Ctx where
  P : Program
  call : FuncId → List Value → M Value

def min2 (mx : Bool) : Value → Value → Option Value
  | .int k a, .int l b => if k = l then some (.int k (if mx then (if b > a then b else a) else (if b < a then b else a))) else none
  | _, _ => none
def minF (mx : Bool) (x : Value) : List Value → Option Value
  | [] => some x
  | y :: r => match min2 mx x y with | some z => minF mx z r | none => none
def minI (mx : Bool) : List Value → Option Value
  | [] => none
  | .int k a :: r => minF mx (.int k a) r
  | _ => none

def exec (C : Ctx) (e : Env) (o : SOp) : M Value :=
  match o with
  | .mv x => lift (some (ev e x))
  | .pick c a b => match ev e c with | .bool t => lift (some (if t then ev e a else ev e b)) | _ => lift none
  | .new t => anew (zc C.P t)
  | .box _ x => anew (cellsL (ev e x))
  | .build t ps => lift ((fillL (zc C.P t) (evs e ps)).map fun cs => .agg cs.toArray)
  | .bslice t n ps => fun H =>
    match fillL (reps n (zc C.P t)) (evs e ps) with
    | some cs => if cs.all one then some (.slice (some ⟨H.size, 0, none⟩) n n, H.push (.cells cs false)) else none
    | none => none
  | .load agg sz x => aload agg sz (ev e x)
  | .store sz x v => astore sz (ev e x) (ev e v)
  | .nilck x => match ev e x with | .pointer (some a) => lift (some (.pointer (some a))) | .func (.func f) a b => lift (some (.func (.func f) a b)) | _ => lift none
  | .bin op x y => lift (abin op (ev e x) (ev e y))
  | .eqNil neg k x => lift ((isNil k (ev e x)).map fun b => .bool (if neg then !b else b))
  | .eqB neg x y => match ev e x, ev e y with
    | .bool a, .bool b => lift (some (.bool (if neg then !(a == b) else (a == b))))
    | _, _ => lift none
  | .eqS neg x y => match ev e x, ev e y with
    | .string a, .string b => lift (some (.bool (if neg then !(a.toList == b.toList) else (a.toList == b.toList))))
    | _, _ => lift none
  | .eqAgg neg t x y => match ev e x, ev e y with
    | .agg a, .agg b => if a.size = C.P.cellsOf t ∧ b.size = C.P.cellsOf t then lift ((aggEq a.toList b.toList).map fun r => .bool (if neg then !r else r)) else lift none
    | _, _ => lift none
  | .un op x => lift (aun op (ev e x))
  | .conv k x => match ev e x with | .int _ n => lift (some (.int k (k.wrap n))) | _ => lift none
  | .fn f first captured => lift (some (.func f (first.map (ev e)).toArray (captured.map (ev e)).toArray))
  | .newmap => fun H => some (.map (some H.size), H.push (.map [] 0))
  | .mkslice t bytes l c => fun H =>
    match asNat (ev e l), asNat (ev e c) with
    | some n, some m => if n ≤ m ∧ fits m bytes ∧ ((reps m (zc C.P t)).all one = true) then some (.slice (some ⟨H.size, 0, none⟩) n m, H.push (.cells (reps m (zc C.P t)) false)) else none
    | _, _ => none
  | .slice sz x lo hi mx => lift (aslice sz (ev e x) (lo.map (ev e)) (hi.map (ev e)) (mx.map (ev e)))
  | .sliceArr n sz x lo hi mx => match ev e x with
    | .pointer (some a) => if n < UNK then lift (aslice sz (.slice (some a) n n) (lo.map (ev e)) (hi.map (ev e)) (mx.map (ev e))) else lift none
    | _ => lift none
  | .faddr off x => match ev e x with | .pointer (some ⟨b, o, none⟩) => lift (some (.pointer (some ⟨b, o + off, none⟩))) | _ => lift none
  | .field agg off sz x => match ev e x with
    | .agg cs => if off + sz ≤ cs.size then (if agg then lift (some (.agg ((cs.toList.drop off).take sz).toArray)) else lift cs[off]?) else lift none
    | _ => lift none
  | .iaddr sz x i => lift (aiaddr sz (ev e x) (ev e i))
  | .iaddrA n sz x i => lift (aiaddrA n sz (ev e x) (ev e i))
  | .ext x i => match ev e x with | .tuple vs => lift vs[i]? | _ => lift none
  | .len str x => match ev e x with
    | .slice _ n _ => if str then lift none else lift (some (.int .i64 n))
    | .string s => if str then lift (some (.int .i64 s.size)) else lift none
    | _ => lift none
  | .lenM x => fun H => match ev e x with
    | .map none => some (.int .i64 0, H)
    | .map (some b) => match H[b]? with | some (.map es _) => some (.int .i64 es.length, H) | _ => none
    | _ => none
  | .minmax mx l => lift (minI mx (l.map (ev e)))
  | .append sz bytes s x => aappend sz bytes (ev e s) (ev e x)
  | .copy sz d s => acopy sz (ev e d) (ev e s)
  | .clearS t x => aclearS (zc C.P t) (ev e x)
  | .clearM x => fun H => match ev e x with
    | .map none => some (.tuple #[], H)
    | .map (some b) => match H[b]? with | some (.map _ c) => some (.tuple #[], H.setIfInBounds b (.map [] c)) | _ => none
    | _ => none
  | .lookup t ok m k => alookup (zv C.P t) ok (ev e m) (ev e k)
  | .mapset m k v => amapUpdate (ev e m) (ev e k) (ev e v)
  | .del m k => adelete (ev e m) (ev e k)
  | .call f args => C.call f (args.map (ev e))
  | .callv f args => match ev e f with
    | .func (.func g) first captured => C.call g (first.toList ++ args.map (ev e) ++ captured.toList)
    | _ => lift none

/-- Is it wanted? -/
def wants (e : Env) (g : Option (Nat × Bool)) : Option Bool :=
  match g with
  | none => some true
  | some (t, w) => match get e t with | .bool b => some (b == w) | .chan (some _) => some false | _ => none

def stepI (C : Ctx) (e : Env) (i : SI) : M Env := fun H =>
  match wants e i.guard with
  | some true => (match exec C e i.op H with | some (v, H') => some (put e i.dst v, H') | none => none)
  | some false => some (put e i.dst skipV, H)
  | none => none

def runL (C : Ctx) : List SI → Env → M Env
  | [], e => fun H => some (e, H)
  | i :: r, e => fun H => match stepI C e i H with | some (e', H') => runL C r e' H' | none => none

/-- What a load looks at. -/
inductive Look where
  | nothing
  | range (b off n : Nat)
  | whole (b : Nat)
  deriving Inhabited
def looks (e : Env) (o : SOp) : Look :=
  match o with
  | .load agg sz x => match ev e x with | .pointer (some ⟨b, off, none⟩) => .range b off (if agg then sz else 1) | _ => .nothing
  | .lookup _ _ m _ => match ev e m with | .map (some b) => .whole b | _ => .nothing
  | .lenM x => match ev e x with | .map (some b) => .whole b | _ => .nothing
  | _ => .nothing
def same (H H' : Heap) : Look → Bool
  | .nothing => true
  | .range b off n => decide (rd H b off n = rd H' b off n)
  | .whole b => decide (H[b]? = H'[b]?)

def looksI (e : Env) (i : SI) : Look := if wants e i.guard = some true then looks e i.op else .nothing

/-- A region of open order: in the order of its list; what was loaded ahead of an act that may come behind it is as it was. -/
def runD (C : Ctx) : List SI → List Look → Env → M Env
  | [], _, e => fun H => some (e, H)
  | i :: r, ls, e => fun H =>
    match stepI C e i H with
    | some (e', H') => if i.chk.all fun j => same H H' (ls.getD j .nothing) then runD C r (ls ++ [looksI e i]) e' H' else none
    | none => none

inductive Ex where
  | nx | br (id : Nat) | rt
  deriving DecidableEq, Inhabited

def loopN (body : Env → M (Ex × Env)) : Nat → Env → M (Ex × Env)
  | 0, _ => fun _ => none
  | n + 1, e => fun H => match body (prune e) H with
    | some ((.nx, e'), H') => loopN body n e' H'
    | r => r

def run (C : Ctx) (n : Nat) : SC → Env → M (Ex × Env)
  | .skip, e => fun H => some ((.nx, e), H)
  | .reg l, e => fun H => match runL C l e H with | some (e', H') => some ((.nx, e'), H') | none => none
  | .drw l, e => fun H => match runD C l [] e H with | some (e', H') => some ((.nx, e'), H') | none => none
  | .seq a b, e => fun H => match run C n a e H with
    | some ((.nx, e'), H') => run C n b e' H'
    | r => r
  | .cond c a b, e => fun H => match ev e c with
    | .bool t => if t then run C n a e H else run C n b e H
    | _ => none
  | .blk id b, e => fun H => match run C n b e H with
    | some ((.br j, e'), H') => if j = id then some ((.nx, e'), H') else some ((.br j, e'), H')
    | r => r
  | .loop b, e => loopN (fun e => run C n b e) n e
  | .exit id, e => fun H => some ((.br id, e), H)
  | .ret, e => fun H => some ((.rt, e), H)

def resOf (P : Program) (e : Env) : ResultVar → M Value
  | .tmp t => lift (some (get e t))
  | .cell a t => aload ((P.underlying t).elim false fun d => match d with | .struct _ | .array _ _ => true | _ => false) (P.cellsOf t) (get e a)
def resAll (P : Program) (e : Env) : List ResultVar → M (List Value)
  | [] => fun H => some ([], H)
  | r :: l => fun H => match resOf P e r H with
    | some (v, H') => (match resAll P e l H' with | some (vs, H'') => some (v :: vs, H'') | none => none)
    | none => none

def env0 : List Value → Nat → Env
  | [], _ => []
  | v :: l, i => (i, v) :: env0 l (i + 1)

def tup : List Value → Value
  | [v] => v
  | vs => .tuple vs.toArray

def runFn (C : Ctx) (n : Nat) (s : SFn) (args : List Value) : M Value := fun H =>
  if s.nt < args.length then none else
  match run C n s.body (env0 args 0) H with
  | some ((.nx, e), H') | some ((.rt, e), H') => (match resAll C.P e s.res H' with | some (vs, H'') => some (tup vs, H'') | none => none)
  | _ => none

/-! ### values without references -/
mutual
def noRef : Value → Bool
  | .pointer a => a.isNone
  | .slice a _ _ => a.isNone
  | .map a => a.isNone
  | .func _ a b => noRefA a && noRefA b
  | .iface _ v => noRef v
  | .agg a => noRefA a
  | .tuple a => noRefA a
  | _ => true
def noRefA : Array Value → Bool
  | ⟨a⟩ => noRefL a
def noRefL : List Value → Bool
  | [] => true
  | v :: l => noRef v && noRefL l
end

/-- A program as it is followed: each function's code; which calls leave nothing behind; answers that are given from outside (each is proved by itself). -/
structure Book where
  P : Program
  fn : FuncId → Option SFn
  mode : FuncId → Mode
  given : FuncId → Option (List Value → M Value)

/-- A call, so deep and so long at most. -/
def acall (B : Book) : Nat → FuncId → List Value → M Value
  | 0, _, _ => fun _ => none
  | n + 1, f, args => fun H =>
    match B.given f with
    | some g => g args H
    | none =>
      match B.fn f with
      | none => none
      | some s =>
        match B.mode f with
        | .raw => runFn ⟨B.P, acall B n⟩ n s args H
        | .clean =>
          match runFn ⟨B.P, acall B n⟩ n s args H with
          | some (v, H') => if noRef v = true ∧ H'.extract 0 H.size = H then some (v, H) else none
          | none => none

end Go.Proofs.Ytohclaopcejjnaa.G
