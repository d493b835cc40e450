/- Joined: G1 to GM5. -/
import Derived.Calls
import Derived.Orders
import Derived.Laws.AppendOwn
import Derived.Laws.IdiomCopy
import Derived.Laws.StructEq
set_option linter.unusedVariables false
set_option linter.unusedSimpArgs false
namespace Go.Proofs.Ytmgfkifjgajclaa.G
open Go
mutual
def veq : Value → Value → Bool
 | .bool a, .bool b => a == b
 | .int k a, .int l b => decide (k = l) && decide (a = b)
 | .float k a, .float l b => decide (k = l) && decide (a = b)
 | .complex k a c, .complex l b d => decide (k = l) && decide (a = b) && decide (c = d)
 | .string s, .string t => decide (s = t)
 | .pointer a, .pointer b => decide (a = b)
 | .slice a l c, .slice b m d => decide (a = b) && decide (l = m) && decide (c = d)
 | .map a, .map b => decide (a = b)
 | .chan a, .chan b => decide (a = b)
 | .func f a b, .func g c d => decide (f = g) && veqA a c && veqA b d
 | .nilFunc, .nilFunc => true
 | .iface t v, .iface u w => decide (t = u) && veq v w
 | .nilIface, .nilIface => true
 | .agg a, .agg b => veqA a b
 | .tuple a, .tuple b => veqA a b
 | _, _ => false
def veqA : Array Value → Array Value → Bool
 | ⟨a⟩, ⟨b⟩ => veqL a b
def veqL : List Value → List Value → Bool
 | [], [] => true
 | a :: x, b :: y => veq a b && veqL x y
 | _, _ => false
end
mutual
theorem veq_refl : (v : Value) → veq v v = true
 | .bool a => by simp [veq]
 | .int k a => by simp [veq]
 | .float k a => by simp [veq]
 | .complex k a c => by simp [veq]
 | .string s => by simp [veq]
 | .pointer a => by simp [veq]
 | .slice a l c => by simp [veq]
 | .map a => by simp [veq]
 | .chan a => by simp [veq]
 | .func f a b => by simp [veq, veqA_refl a, veqA_refl b]
 | .nilFunc => by simp [veq]
 | .iface t v => by simp [veq, veq_refl v]
 | .nilIface => by simp [veq]
 | .agg a => by simp [veq, veqA_refl a]
 | .tuple a => by simp [veq, veqA_refl a]
theorem veqA_refl : (a : Array Value) → veqA a a = true
 | ⟨a⟩ => by simp [veqA, veqL_refl a]
theorem veqL_refl : (a : List Value) → veqL a a = true
 | [] => by simp [veqL]
 | a :: x => by simp [veqL, veq_refl a, veqL_refl x]
end
mutual
theorem eq_of_veq : (v w : Value) → veq v w = true → v = w
 | .bool a, w, h => by cases w <;> simp_all [veq]
 | .int k a, w, h => by cases w <;> simp_all [veq]
 | .float k a, w, h => by cases w <;> simp_all [veq]
 | .complex k a c, w, h => by cases w <;> simp_all [veq]
 | .string s, w, h => by cases w <;> simp_all [veq]
 | .pointer a, w, h => by cases w <;> simp_all [veq]
 | .slice a l c, w, h => by cases w <;> simp_all [veq]
 | .map a, w, h => by cases w <;> simp_all [veq]
 | .chan a, w, h => by cases w <;> simp_all [veq]
 | .func f a b, w, h => by
  cases w <;> simp [veq] at h
  rename_i g c d
  obtain ⟨⟨rfl, h1⟩, h2⟩ := h
  rw [eq_of_veqA a c h1, eq_of_veqA b d h2]
 | .nilFunc, w, h => by cases w <;> simp_all [veq]
 | .iface t v, w, h => by
  cases w <;> simp [veq] at h
  obtain ⟨rfl, h1⟩ := h
  rw [eq_of_veq v _ h1]
 | .nilIface, w, h => by cases w <;> simp_all [veq]
 | .agg a, w, h => by
  cases w <;> simp [veq] at h
  rw [eq_of_veqA a _ h]
 | .tuple a, w, h => by
  cases w <;> simp [veq] at h
  rw [eq_of_veqA a _ h]
theorem eq_of_veqA : (a b : Array Value) → veqA a b = true → a = b
 | ⟨a⟩, ⟨b⟩, h => by
  simp [veqA] at h
  rw [eq_of_veqL a b h]
theorem eq_of_veqL : (a b : List Value) → veqL a b = true → a = b
 | [], [], _ => rfl
 | [], b :: y, h => by simp [veqL] at h
 | a :: x, [], h => by simp [veqL] at h
 | a :: x, b :: y, h => by
  simp [veqL] at h
  rw [eq_of_veq a b h.1, eq_of_veqL x y h.2]
end
instance : DecidableEq Value := fun v w => if h : veq v w = true then isTrue (eq_of_veq v w h) else isFalse fun e => h (e ▸ veq_refl v)
def UNK : Nat := 18446744073709551616
structure Ent where
 key : Value
 val : Value
 born : Nat
 deriving DecidableEq, Inhabited
inductive Blk where
 | cells (cs : List Value) (ro : Bool)
 | map (es : List Ent) (clock : Nat)
 | dead
 deriving DecidableEq, Inhabited
abbrev Heap := Array Blk
abbrev M (α : Type) := Heap → Option (α × Heap)
def one : Value → Bool
 | .agg _ | .tuple _ | .chan (some _) => false
 | _ => true
def skipV : Value := .chan (some 0)
def cellsL : Value → List Value
 | .agg cs => cs.toList
 | v => [v]
def rd (H : Heap) (b off n : Nat) : Option (List Value) :=
 match H[b]? with
 | some (.cells cs _) => if off + n ≤ cs.length then some ((cs.drop off).take n) else none
 | _ => none
def splice (cs : List Value) (off : Nat) (vs : List Value) : List Value := cs.take off ++ vs ++ cs.drop (off + vs.length)
def wr (H : Heap) (b off : Nat) (vs : List Value) : Option Heap :=
 match H[b]? with
 | some (.cells cs false) => if off + vs.length ≤ cs.length && vs.all one then some (H.setIfInBounds b (.cells (splice cs off vs) false)) else none
 | _ => none
def aload (agg : Bool) (sz : Nat) (p : Value) : M Value := fun H =>
 match p with
 | .pointer (some ⟨b, off, none⟩) =>
  match rd H b off (if agg then sz else 1) with
  | some vs => if agg then some (.agg vs.toArray, H) else (match vs with | [v] => some (v, H) | _ => none)
  | none => none
 | _ => none
def astore (sz : Nat) (p v : Value) : M Value := fun H =>
 match p with
 | .pointer (some ⟨b, off, none⟩) =>
  if (cellsL v).length = sz then (match wr H b off (cellsL v) with | some H' => some (undef, H') | none => none) else none
 | _ => none
def anew (cs : List Value) : M Value := fun H =>
 if cs.all one then some (.pointer (some ⟨H.size, 0, none⟩), H.push (.cells cs false)) else none
def abin (op : BinOp) (x y : Value) : Option Value :=
 match x, y with
 | .int k a, .int l b =>
  match op with
  | .shl => if b < 0 then none else some (.int k (k.wrap (a * 2 ^ (min b.toNat k.bits))))
  | .shr => if b < 0 then none else some (.int k (a.fdiv (2 ^ (min b.toNat k.bits))))
  | _ =>
   if k = l then
    match op with
    | .add => some (.int k (k.wrap (a + b)))
    | .sub => some (.int k (k.wrap (a - b)))
    | .mul => some (.int k (k.wrap (a * b)))
    | .quo => if b = 0 then none else some (.int k (k.wrap (a.tdiv b)))
    | .rem => if b = 0 then none else some (.int k (a.tmod b))
    | .and => some (.int k (k.wrap (BitVec.ofInt k.bits a &&& BitVec.ofInt k.bits b).toNat))
    | .or => some (.int k (k.wrap (BitVec.ofInt k.bits a ||| BitVec.ofInt k.bits b).toNat))
    | .xor => some (.int k (k.wrap (BitVec.ofInt k.bits a ^^^ BitVec.ofInt k.bits b).toNat))
    | .andNot => some (.int k (k.wrap (BitVec.ofInt k.bits a &&& ~~~(BitVec.ofInt k.bits b)).toNat))
    | .eql => some (.bool (a == b))
    | .neq => some (.bool (a != b))
    | .lss => some (.bool (a < b))
    | .leq => some (.bool (a ≤ b))
    | .gtr => some (.bool (a > b))
    | .geq => some (.bool (a ≥ b))
    | _ => none
   else none
 | _, _ => none
inductive NilKind where
 | ptr | slc | mp | fn
 deriving DecidableEq, Inhabited
def isNil : NilKind → Value → Option Bool
 | .ptr, .pointer a => some a.isNone
 | .slc, .slice a _ _ => some a.isNone
 | .mp, .map a => some a.isNone
 | .fn, .nilFunc => some true
 | .fn, .func _ _ _ => some false
 | _, _ => none
def aggEq : List Value → List Value → Option Bool
 | [], [] => some true
 | .int k a :: x, .int l b :: y => if k = l then (match aggEq x y with | some r => some (a == b && r) | none => none) else none
 | _, _ => none
def aun (op : UnOp) (x : Value) : Option Value :=
 match op, x with
 | .neg, .int k a => some (.int k (k.wrap (0 - a)))
 | .xor, .int k a => some (.int k (k.wrap (BitVec.ofInt k.bits (if k.signed then -1 else k.max) ^^^ BitVec.ofInt k.bits a).toNat))
 | .not, .bool b => some (.bool !b)
 | _, _ => none
def asNat : Value → Option Nat
 | .int _ i => if 0 ≤ i then some i.toNat else none
 | _ => none
def alen : Value → Option Nat
 | .slice _ n _ => some n
 | .string s => some s.size
 | _ => none
def sliceCells (H : Heap) (sz : Nat) (s : Value) : Option (List Value) :=
 match s with
 | .slice none 0 _ => some []
 | .slice (some ⟨b, off, none⟩) n _ => rd H b off (n * sz)
 | _ => none
def bnd (o : Option Value) (d : Nat) : Option Nat :=
 match o with
 | some v => asNat v
 | none => some d
def capOf (len cap : Nat) : Nat := if UNK ≤ cap then len else cap
def aslice (sz : Nat) (s : Value) (lo hi mx : Option Value) : Option Value :=
 match s with
 | .slice a len cap =>
  if mx.isSome && hi.isNone then none else
  match bnd mx (capOf len cap), bnd hi len, bnd lo 0 with
  | some m, some h, some l =>
   if l ≤ h ∧ h ≤ m ∧ m ≤ capOf len cap then
    match a with
    | none => some (.slice none 0 0)
    | some ⟨b, off, none⟩ =>
     if UNK ≤ cap ∧ mx = none then
      (if cap = UNK + sz then some (.slice (some ⟨b, off + l * sz, none⟩) (h - l) cap) else none)
     else if m = l then some (.slice (some ⟨b, off, none⟩) 0 0)
     else some (.slice (some ⟨b, off + l * sz, none⟩) (h - l) (m - l))
    | some _ => none
   else none
  | _, _, _ => none
 | _ => none
def aiaddr (sz : Nat) (x i : Value) : Option Value :=
 match x with
 | .slice (some ⟨b, o, none⟩) n _ => (match asNat i with | some j => if j < n then some (.pointer (some ⟨b, o + j * sz, none⟩)) else none | none => none)
 | _ => none
def aiaddrA (n sz : Nat) (x i : Value) : Option Value :=
 match x with
 | .pointer (some ⟨b, o, none⟩) => (match asNat i with | some j => if j < n then some (.pointer (some ⟨b, o + j * sz, none⟩)) else none | none => none)
 | _ => none
def fits (n bytes : Nat) : Bool := decide (n ≤ 9223372036854775807) && decide (n * bytes ≤ 140737488355328)
def aappend (sz bytes : Nat) (s x : Value) : M Value := fun H =>
 match sliceCells H sz x, alen x with
 | some xs, some n =>
  match s with
  | .slice none 0 0 =>
   if n = 0 then some (.slice none 0 0, H)
   else if fits n bytes && xs.all one then some (.slice (some ⟨H.size, 0, none⟩) n (UNK + sz), H.push (.cells xs false)) else none
  | .slice (some ⟨b, off, none⟩) len cap =>
   if n = 0 then some (s, H)
   else if fits (len + n) bytes && xs.all one then
    if UNK ≤ cap then
     if cap = UNK + sz then
      match H[b]? with
      | some (.cells cs false) =>
       if off + len * sz ≤ cs.length then
        some (.slice (some ⟨H.size, 0, none⟩) (len + n) cap, (H.setIfInBounds b .dead).push (.cells ((cs.drop off).take (len * sz) ++ xs) false))
       else none
      | _ => none
     else none
    else if len + n ≤ cap then
     match wr H b (off + len * sz) xs with
     | some H' => some (.slice (some ⟨b, off, none⟩) (len + n) cap, H')
     | none => none
    else
     match rd H b off (len * sz) with
     | some old => some (.slice (some ⟨H.size, 0, none⟩) (len + n) (UNK + sz), H.push (.cells (old ++ xs) false))
     | none => none
   else none
  | _ => none
 | _, _ => none
def acopy (sz : Nat) (d s : Value) : M Value := fun H =>
 match d, s with
 | .slice base dl _, .slice a n c =>
  if min n dl = 0 then some (.int .i64 0, H) else
  match sliceCells H sz (.slice a (min n dl) c), base with
  | some vs, some ⟨b, off, none⟩ => (match wr H b off vs with | some H' => some (.int .i64 (min n dl : Nat), H') | none => none)
  | _, _ => none
 | _, _ => none
def reps (n : Nat) (z : List Value) : List Value := (List.replicate n z).flatten
def aclearS (z : List Value) (x : Value) : M Value := fun H =>
 match x with
 | .slice a n _ =>
  if n = 0 then some (.tuple #[], H) else
  match a with
  | some ⟨b, off, none⟩ => (match wr H b off (reps n z) with | some H' => some (.tuple #[], H') | none => none)
  | _ => none
 | _ => none
def plainKey : Value → Bool
 | .int _ _ | .bool _ | .string _ => true
 | .agg cs => cs.toList.all fun v => match v with | .int _ _ | .bool _ => true | _ => false
 | _ => false
inductive KS where
 | int (k : IntKind)
 | bool
 | ints (l : List IntKind)
 deriving DecidableEq, Inhabited
def kindOf : Value → Option IntKind
 | .int k _ => some k
 | _ => none
def KS.fits : KS → Value → Bool
 | .int k, .int l _ => decide (l = k)
 | .bool, .bool _ => true
 | .ints l, .agg cs => decide (cs.toList.map kindOf = l.map some)
 | _, _ => false
def findE (k : Value) : List Ent → Option Ent
 | [] => none
 | e :: l => if k = e.key then some e else findE k l
def setE (k v : Value) : List Ent → List Ent
 | [] => []
 | e :: l => if k = e.key then { e with val := v } :: l else e :: setE k v l
def delE (k : Value) : List Ent → List Ent
 | [] => []
 | e :: l => if k = e.key then l else e :: delE k l
def goodKeys (s : KS) (k : Value) (es : List Ent) : Bool := s.fits k && es.all fun e => s.fits e.key
def alookup (s : KS) (zero : Value) (ok : Bool) (m k : Value) : M Value := fun H =>
 match m with
 | .map none => if s.fits k then some (if ok then .tuple #[zero, .bool false] else zero, H) else none
 | .map (some b) =>
  match H[b]? with
  | some (.map es _) =>
   if goodKeys s k es then
    match findE k es with
    | some e => some (if ok then .tuple #[e.val, .bool true] else e.val, H)
    | none => some (if ok then .tuple #[zero, .bool false] else zero, H)
   else none
  | _ => none
 | _ => none
def amapUpdate (s : KS) (m k v : Value) : M Value := fun H =>
 match m with
 | .map (some b) =>
  match H[b]? with
  | some (.map es c) =>
   if goodKeys s k es then
    match findE k es with
    | some _ => some (undef, H.setIfInBounds b (.map (setE k v es) c))
    | none => some (undef, H.setIfInBounds b (.map (es ++ [⟨k, v, c⟩]) (c + 1)))
   else none
  | _ => none
 | _ => none
def adelete (s : KS) (m k : Value) : M Value := fun H =>
 match m with
 | .map none => if s.fits k then some (.tuple #[], H) else none
 | .map (some b) =>
  match H[b]? with
  | some (.map es c) => if goodKeys s k es then some (.tuple #[], H.setIfInBounds b (.map (delE k es) c)) else none
  | _ => none
 | _ => none
inductive SOp where
 | mv (x : Operand)
 | pick (c a b : Operand)
 | new (t : TypeId)
 | box (t : TypeId) (x : Operand)
 | build (t : TypeId) (parts : List (Nat × Nat × Operand))
 | bslice (e : TypeId) (n : Nat) (parts : List (Nat × Nat × Operand))
 | load (agg : Bool) (sz : Nat) (x : Operand)
 | store (sz : Nat) (x v : Operand)
 | nilck (x : Operand)
 | bin (op : BinOp) (x y : Operand)
 | eqNil (neg : Bool) (k : NilKind) (x : Operand)
 | eqB (neg : Bool) (x y : Operand)
 | eqS (neg : Bool) (x y : Operand)
 | eqAgg (neg : Bool) (t : TypeId) (x y : Operand)
 | un (op : UnOp) (x : Operand)
 | conv (k : IntKind) (x : Operand)
 | fn (f : Fn) (first captured : List Operand)
 | newmap
 | mkslice (e : TypeId) (bytes : Nat) (l c : Operand)
 | slice (sz : Nat) (x : Operand) (lo hi mx : Option Operand)
 | sliceArr (n sz : Nat) (x : Operand) (lo hi mx : Option Operand)
 | faddr (off : Nat) (x : Operand)
 | field (agg : Bool) (off sz : Nat) (x : Operand)
 | iaddr (sz : Nat) (x i : Operand)
 | iaddrA (n sz : Nat) (x i : Operand)
 | ext (x : Operand) (i : Nat)
 | sidx (x i : Operand)
 | sslice (x : Operand) (lo hi : Option Operand)
 | b2s (x : Operand)
 | s2b (x : Operand)
 | s2ap (n : Nat) (x : Operand)
 | mark (x : Operand)
 | len (str : Bool) (x : Operand)
 | lenM (x : Operand)
 | minmax (mx : Bool) (l : List Operand)
 | append (sz bytes : Nat) (s x : Operand)
 | copy (sz : Nat) (d s : Operand)
 | clearS (e : TypeId) (x : Operand)
 | clearM (x : Operand)
 | lookup (elem : TypeId) (s : KS) (ok : Bool) (m k : Operand)
 | mapset (s : KS) (m k v : Operand)
 | del (s : KS) (m k : Operand)
 | call (f : FuncId) (args : List Operand)
 | callv (f : Operand) (args : List Operand)
 deriving Inhabited
structure SI where
 dst : Option Nat
 op : SOp
 guard : Option (Nat × Bool) := none
 chk : List Nat := []
 deriving Inhabited
inductive SC where
 | skip
 | reg (l : List SI)
 | drw (l : List SI)
 | seq (a b : SC)
 | cond (c : Operand) (a b : SC)
 | blk (id : Nat) (b : SC)
 | loop (b : SC)
 | exit (id : Nat)
 | ret
 deriving Inhabited
inductive Mode where
 | raw | clean
 deriving DecidableEq, Inhabited
structure SFn where
 nt : Nat
 res : List ResultVar
 body : SC
 deriving Inhabited
abbrev Env := List (Nat × Value)
def get (e : Env) (t : Nat) : Value :=
 match e with
 | [] => undef
 | (k, v) :: r => if t = k then v else get r t
def put (e : Env) (d : Option Nat) (v : Value) : Env :=
 match d with
 | some d => (d, v) :: e
 | none => e
def prune : Env → Env
 | [] => []
 | (k, v) :: r => (k, v) :: (prune r).filter fun x => !(k == x.1)
def ev (e : Env) : Operand → Value
 | .tmp t => get e t
 | .const v => v
 | .global _ => undef
 | .func f => .func (.func f) #[] #[]
def zc (P : Program) (t : TypeId) : List Value := ((P.info? t).bind (·.zero)).elim [] fun z => z.cells.toList
def zv (P : Program) (t : TypeId) : Value := ((P.info? t).bind (·.zero)).getD undef
def fillL (cells : List Value) : List (Nat × Nat × Value) → Option (List Value)
 | [] => some cells
 | (off, sz, v) :: rest =>
  if (cellsL v).length = sz ∧ off + sz ≤ cells.length ∧ (cellsL v).all one = true then fillL (splice cells off (cellsL v)) rest else none
def evs (e : Env) (ps : List (Nat × Nat × Operand)) : List (Nat × Nat × Value) := ps.map fun p => (p.1, p.2.1, ev e p.2.2)
def lift (o : Option Value) : M Value := fun H => match o with | some v => some (v, H) | none => none
structure Ctx where
 P : Program
 call : FuncId → List Value → M Value
def min2 (mx : Bool) : Value → Value → Option Value
 | .int k a, .int l b => if k = l then some (.int k (if mx then (if b > a then b else a) else (if b < a then b else a))) else none
 | _, _ => none
def minF (mx : Bool) (x : Value) : List Value → Option Value
 | [] => some x
 | y :: r => match min2 mx x y with | some z => minF mx z r | none => none
def minI (mx : Bool) : List Value → Option Value
 | [] => none
 | .int k a :: r => minF mx (.int k a) r
 | _ => none
def strAt (x i : Value) : Option Value :=
 match x, asNat i with
 | .string s, some j => (s[j]?).map fun b => .int .u8 (b.toNat : Nat)
 | _, _ => none
def strSl (x : Value) (lo hi : Option Value) : Option Value :=
 match x with
 | .string s => (match bnd hi s.size, bnd lo 0 with
  | some h, some l => if l ≤ h ∧ h ≤ s.size then some (.string (s.extract l h)) else none
  | _, _ => none)
 | _ => none
def unB : Value → Option UInt8
 | .int .u8 n => some (UInt8.ofNat n.toNat)
 | _ => none
def strOf (l : List UInt8) : Value := .string ⟨l.toArray⟩
def ab2s (x : Value) : M Value := fun H =>
 match sliceCells H 1 x with
 | some cs => (match cs.mapM unB with | some l => some (strOf l, H) | none => none)
 | none => none
def strCells (s : ByteArray) : List Value := s.data.toList.map fun b => .int .u8 (b.toNat : Nat)
def as2b (x : Value) : M Value := fun H =>
 match x with
 | .string s => if 0 < s.size ∧ fits s.size 1 = true then some (.slice (some ⟨H.size, 0, none⟩) s.size (UNK + 1), H.push (.cells (strCells s) false)) else none
 | _ => none
def amark (x : Value) : M Value := fun H =>
 match x with
 | .slice (some ⟨b, o, none⟩) n k => (match H[b]? with | some (.cells _ false) => if 0 < n ∧ k < UNK then some (.slice (some ⟨b, o, none⟩) n k, H) else none | _ => none)
 | _ => none
def as2ap (n : Nat) (x : Value) : Option Value :=
 match x with
 | .slice (some ⟨b, o, none⟩) m _ => if n ≤ m ∧ 0 < n then some (.pointer (some ⟨b, o, none⟩)) else none
 | _ => none
def exec (C : Ctx) (e : Env) (o : SOp) : M Value :=
 match o with
 | .mv x => lift (some (ev e x))
 | .pick c a b => match ev e c with | .bool t => lift (some (if t then ev e a else ev e b)) | _ => lift none
 | .new t => anew (zc C.P t)
 | .box _ x => anew (cellsL (ev e x))
 | .build t ps => lift ((fillL (zc C.P t) (evs e ps)).map fun cs => .agg cs.toArray)
 | .bslice t n ps => fun H =>
  match fillL (reps n (zc C.P t)) (evs e ps) with
  | some cs => if cs.all one then some (.slice (some ⟨H.size, 0, none⟩) n n, H.push (.cells cs false)) else none
  | none => none
 | .load agg sz x => aload agg sz (ev e x)
 | .store sz x v => astore sz (ev e x) (ev e v)
 | .nilck x => match ev e x with | .pointer (some a) => lift (some (.pointer (some a))) | .func (.func f) a b => lift (some (.func (.func f) a b)) | _ => lift none
 | .bin op x y => lift (abin op (ev e x) (ev e y))
 | .eqNil neg k x => lift ((isNil k (ev e x)).map fun b => .bool (if neg then !b else b))
 | .eqB neg x y => match ev e x, ev e y with
  | .bool a, .bool b => lift (some (.bool (if neg then !(a == b) else (a == b))))
  | _, _ => lift none
 | .eqS neg x y => match ev e x, ev e y with
  | .string a, .string b => lift (some (.bool (if neg then !(a.toList == b.toList) else (a.toList == b.toList))))
  | _, _ => lift none
 | .eqAgg neg t x y => match ev e x, ev e y with
  | .agg a, .agg b => if a.size = C.P.cellsOf t ∧ b.size = C.P.cellsOf t then lift ((aggEq a.toList b.toList).map fun r => .bool (if neg then !r else r)) else lift none
  | _, _ => lift none
 | .un op x => lift (aun op (ev e x))
 | .conv k x => match ev e x with | .int _ n => lift (some (.int k (k.wrap n))) | _ => lift none
 | .fn f first captured => lift (some (.func f (first.map (ev e)).toArray (captured.map (ev e)).toArray))
 | .newmap => fun H => some (.map (some H.size), H.push (.map [] 0))
 | .mkslice t bytes l c => fun H =>
  match asNat (ev e l), asNat (ev e c) with
  | some n, some m => if n ≤ m ∧ fits m bytes ∧ ((reps m (zc C.P t)).all one = true) then some (.slice (some ⟨H.size, 0, none⟩) n m, H.push (.cells (reps m (zc C.P t)) false)) else none
  | _, _ => none
 | .slice sz x lo hi mx => lift (aslice sz (ev e x) (lo.map (ev e)) (hi.map (ev e)) (mx.map (ev e)))
 | .sliceArr n sz x lo hi mx => match ev e x with
  | .pointer (some a) => if n < UNK then lift (aslice sz (.slice (some a) n n) (lo.map (ev e)) (hi.map (ev e)) (mx.map (ev e))) else lift none
  | _ => lift none
 | .faddr off x => match ev e x with | .pointer (some ⟨b, o, none⟩) => lift (some (.pointer (some ⟨b, o + off, none⟩))) | _ => lift none
 | .field agg off sz x => match ev e x with
  | .agg cs => if off + sz ≤ cs.size then (if agg then lift (some (.agg ((cs.toList.drop off).take sz).toArray)) else lift cs[off]?) else lift none
  | _ => lift none
 | .iaddr sz x i => lift (aiaddr sz (ev e x) (ev e i))
 | .iaddrA n sz x i => lift (aiaddrA n sz (ev e x) (ev e i))
 | .ext x i => match ev e x with | .tuple vs => lift vs[i]? | _ => lift none
 | .sidx x i => lift (strAt (ev e x) (ev e i))
 | .sslice x lo hi => lift (strSl (ev e x) (lo.map (ev e)) (hi.map (ev e)))
 | .b2s x => ab2s (ev e x)
 | .s2b x => as2b (ev e x)
 | .s2ap n x => lift (as2ap n (ev e x))
 | .mark x => amark (ev e x)
 | .len str x => match ev e x with
  | .slice _ n _ => if str then lift none else lift (some (.int .i64 n))
  | .string s => if str then lift (some (.int .i64 s.size)) else lift none
  | _ => lift none
 | .lenM x => fun H => match ev e x with
  | .map none => some (.int .i64 0, H)
  | .map (some b) => match H[b]? with | some (.map es _) => some (.int .i64 es.length, H) | _ => none
  | _ => none
 | .minmax mx l => lift (minI mx (l.map (ev e)))
 | .append sz bytes s x => aappend sz bytes (ev e s) (ev e x)
 | .copy sz d s => acopy sz (ev e d) (ev e s)
 | .clearS t x => aclearS (zc C.P t) (ev e x)
 | .clearM x => fun H => match ev e x with
  | .map none => some (.tuple #[], H)
  | .map (some b) => match H[b]? with | some (.map _ c) => some (.tuple #[], H.setIfInBounds b (.map [] c)) | _ => none
  | _ => none
 | .lookup t s ok m k => alookup s (zv C.P t) ok (ev e m) (ev e k)
 | .mapset s m k v => amapUpdate s (ev e m) (ev e k) (ev e v)
 | .del s m k => adelete s (ev e m) (ev e k)
 | .call f args => C.call f (args.map (ev e))
 | .callv f args => match ev e f with
  | .func (.func g) first captured => C.call g (first.toList ++ args.map (ev e) ++ captured.toList)
  | _ => lift none
def wants (e : Env) (g : Option (Nat × Bool)) : Option Bool :=
 match g with
 | none => some true
 | some (t, w) => match get e t with | .bool b => some (b == w) | .chan (some _) => some false | _ => none
def stepI (C : Ctx) (e : Env) (i : SI) : M Env := fun H =>
 match wants e i.guard with
 | some true => (match exec C e i.op H with | some (v, H') => some (put e i.dst v, H') | none => none)
 | some false => some (put e i.dst skipV, H)
 | none => none
def runL (C : Ctx) : List SI → Env → M Env
 | [], e => fun H => some (e, H)
 | i :: r, e => fun H => match stepI C e i H with | some (e', H') => runL C r e' H' | none => none
inductive Look where
 | nothing
 | range (b off n : Nat)
 | whole (b : Nat)
 deriving Inhabited
def looks (e : Env) (o : SOp) : Look :=
 match o with
 | .load agg sz x => match ev e x with | .pointer (some ⟨b, off, none⟩) => .range b off (if agg then sz else 1) | _ => .nothing
 | .lookup _ _ _ m _ => match ev e m with | .map (some b) => .whole b | _ => .nothing
 | .lenM x => match ev e x with | .map (some b) => .whole b | _ => .nothing
 | .b2s x => match ev e x with | .slice (some ⟨b, off, none⟩) n _ => .range b off n | _ => .nothing
 | _ => .nothing
def same (H H' : Heap) : Look → Bool
 | .nothing => true
 | .range b off n => decide (rd H b off n = rd H' b off n)
 | .whole b => decide (H[b]? = H'[b]?)
def looksI (e : Env) (i : SI) : Look := if wants e i.guard = some true then looks e i.op else .nothing
def runD (C : Ctx) : List SI → List Look → Env → M Env
 | [], _, e => fun H => some (e, H)
 | i :: r, ls, e => fun H =>
  match stepI C e i H with
  | some (e', H') => if i.chk.all fun j => same H H' (ls.getD j .nothing) then runD C r (ls ++ [looksI e i]) e' H' else none
  | none => none
inductive Ex where
 | nx | br (id : Nat) | rt
 deriving DecidableEq, Inhabited
def loopN (body : Env → M (Ex × Env)) : Nat → Env → M (Ex × Env)
 | 0, _ => fun _ => none
 | n + 1, e => fun H => match body (prune e) H with
  | some ((.nx, e'), H') => loopN body n e' H'
  | r => r
def run (C : Ctx) (n : Nat) : SC → Env → M (Ex × Env)
 | .skip, e => fun H => some ((.nx, e), H)
 | .reg l, e => fun H => match runL C l e H with | some (e', H') => some ((.nx, e'), H') | none => none
 | .drw l, e => fun H => match runD C l [] e H with | some (e', H') => some ((.nx, e'), H') | none => none
 | .seq a b, e => fun H => match run C n a e H with
  | some ((.nx, e'), H') => run C n b e' H'
  | r => r
 | .cond c a b, e => fun H => match ev e c with
  | .bool t => if t then run C n a e H else run C n b e H
  | _ => none
 | .blk id b, e => fun H => match run C n b e H with
  | some ((.br j, e'), H') => if j = id then some ((.nx, e'), H') else some ((.br j, e'), H')
  | r => r
 | .loop b, e => loopN (fun e => run C n b e) n e
 | .exit id, e => fun H => some ((.br id, e), H)
 | .ret, e => fun H => some ((.rt, e), H)
def resOf (P : Program) (e : Env) : ResultVar → M Value
 | .tmp t => lift (some (get e t))
 | .cell a t => aload ((P.underlying t).elim false fun d => match d with | .struct _ | .array _ _ => true | _ => false) (P.cellsOf t) (get e a)
def resAll (P : Program) (e : Env) : List ResultVar → M (List Value)
 | [] => fun H => some ([], H)
 | r :: l => fun H => match resOf P e r H with
  | some (v, H') => (match resAll P e l H' with | some (vs, H'') => some (v :: vs, H'') | none => none)
  | none => none
def env0 : List Value → Nat → Env
 | [], _ => []
 | v :: l, i => (i, v) :: env0 l (i + 1)
def tup : List Value → Value
 | [v] => v
 | vs => .tuple vs.toArray
def runFn (C : Ctx) (n : Nat) (s : SFn) (args : List Value) : M Value := fun H =>
 if s.nt < args.length then none else
 match run C n s.body (env0 args 0) H with
 | some ((.nx, e), H') | some ((.rt, e), H') => (match resAll C.P e s.res H' with | some (vs, H'') => some (tup vs, H'') | none => none)
 | _ => none
mutual
def noRef : Value → Bool
 | .pointer a => a.isNone
 | .slice a _ _ => a.isNone
 | .map a => a.isNone
 | .func _ a b => noRefA a && noRefA b
 | .iface _ v => noRef v
 | .agg a => noRefA a
 | .tuple a => noRefA a
 | _ => true
def noRefA : Array Value → Bool
 | ⟨a⟩ => noRefL a
def noRefL : List Value → Bool
 | [] => true
 | v :: l => noRef v && noRefL l
end
structure Book where
 P : Program
 fn : FuncId → Option SFn
 mode : FuncId → Mode
 given : FuncId → Option (List Value → M Value)
def acall (B : Book) : Nat → FuncId → List Value → M Value
 | 0, _, _ => fun _ => none
 | n + 1, f, args => fun H =>
  match B.given f with
  | some g => g args H
  | none =>
   match B.fn f with
   | none => none
   | some s =>
    match B.mode f with
    | .raw => runFn ⟨B.P, acall B n⟩ n s args H
    | .clean =>
     match runFn ⟨B.P, acall B n⟩ n s args H with
     | some (v, H') => if noRef v = true ∧ H'.extract 0 H.size = H then some (v, H) else none
     | none => none
def plainV : Value → Bool
 | .bool _ | .int _ _ | .float _ _ | .string _ | .nilFunc | .nilIface | .pointer none | .map none | .slice none 0 0 => true
 | _ => false
def constOk : Value → Bool
 | .agg a => a.toList.all plainV
 | v => plainV v
def okOpd : Operand → Bool
 | .tmp _ => true
 | .const v => constOk v
 | .global _ => false
 | .func _ => true
def isAggT (P : Program) (t : TypeId) : Bool :=
 match P.underlying t with
 | some (.struct _) | some (.array _ _) => true
 | _ => false
def tiles (P : Program) : List Field → Nat → Nat → Bool
 | [], off, n => off == n
 | f :: fs, off, n => f.offset == off && tiles P fs (off + P.cellsOf f.type) n
def eqPlain (P : Program) : Nat → TypeId → Bool
 | 0, _ => false
 | d + 1, t =>
  match P.underlying t with
  | some (.int _) => P.cellsOf t == 1 && (P.info? t).isSome
  | some (.struct fs) => (P.info? t).isSome && !P.stoodInHeld t && tiles P fs.toList 0 (P.cellsOf t) && fs.toList.all fun f => f.name != "_" && eqPlain P d f.type
  | some (.array n e) => (P.info? t).isSome && (P.info? e).isSome && P.cellsOf t == n * P.cellsOf e && eqPlain P d e
  | _ => false
def nilOf (d : Option TypeDesc) (y : Operand) : Option NilKind :=
 match d, y with
 | some (.pointer _), .const (.pointer none) => some .ptr
 | some (.slice _), .const (.slice none 0 0) => some .slc
 | some (.map _ _), .const (.map none) => some .mp
 | some (.func _ _ _), .const .nilFunc => some .fn
 | _, _ => none
def sized (P : Program) (t : TypeId) : Bool := (P.underlying t).isSome && (P.info? t).any fun i => 0 < i.size && i.zero.any (fun z => z.cells.size == i.size && z.cells.toList.all plainV)
def intK (P : Program) (t : TypeId) : Option IntKind := match P.underlying t with | some (.int κ) => some κ | _ => none
def shapeOf (P : Program) (t : TypeId) : Option KS := match P.underlying t with
 | some (.int κ) => some (.int κ)
 | some .bool => some .bool
 | some (.struct fs) => if eqPlain P 5 t && P.cellsOf t == fs.size then (fs.toList.mapM fun f => intK P f.type).map .ints else none
 | _ => none
def compileOp (P : Program) (op : Op) : Option SOp :=
 if !(op.operands.all okOpd) then none else
 match op with
 | .move x | .assign x => some (.mv x)
 | .pick c a b => some (.pick c a b)
 | .alloc t => if sized P t then some (.new t) else none
 | .box t x => if sized P t then some (.box t x) else none
 | .build t parts =>
  if !sized P t then none else
  match P.underlying t with
  | some (.struct fs) => if !(fs.toList.all fun f => (P.info? f.type).isSome) then none else do
   let ps ← parts.toList.mapM fun (i, x) => do
    let f ← fs[i]?
    if sized P f.type then pure (f.offset, P.cellsOf f.type, x) else none
   pure (.build t ps)
  | some (.array _ e) => if sized P e then some (.build t (parts.toList.map fun (i, x) => (i * P.cellsOf e, P.cellsOf e, x))) else none
  | _ => none
 | .buildSlice t n parts =>
  match P.underlying t with
  | some (.slice e) => if sized P e && n * P.cellsOf e ≤ 65536 then some (.bslice e n (parts.toList.map fun (i, x) => (i * P.cellsOf e, P.cellsOf e, x))) else none
  | _ => none
 | .load t a => if sized P t then some (.load (isAggT P t) (P.cellsOf t) a) else none
 | .store t a v => if sized P t then some (.store (P.cellsOf t) a v) else none
 | .nilCheck x => some (.nilck x)
 | .binOp op t x y _ =>
  match P.underlying t, op with
  | some (.int _), _ => some (.bin op x y)
  | some .bool, .eql => some (.eqB false x y)
  | some .bool, .neq => some (.eqB true x y)
  | some .string, .eql => some (.eqS false x y)
  | some .string, .neq => some (.eqS true x y)
  | some (.struct _), .eql | some (.array _ _), .eql => if eqPlain P 20 t && !P.eqGuardType P.depth t && isAggT P t then some (.eqAgg false t x y) else none
  | some (.struct _), .neq | some (.array _ _), .neq => if eqPlain P 20 t && !P.eqGuardType P.depth t && isAggT P t then some (.eqAgg true t x y) else none
  | d, .eql => match nilOf d y with | some k => some (.eqNil false k x) | none => none
  | d, .neq => match nilOf d y with | some k => some (.eqNil true k x) | none => none
  | _, _ => none
 | .unOp op _ x => some (.un op x)
 | .convert s d x =>
  match P.underlying s, P.underlying d with
  | some (.int _), some (.int k) => some (.conv k x)
  | some (.slice e), some .string => (match P.underlying e with | some (.int .u8) => some (.b2s x) | _ => none)
  | some (.slice e), some (.slice _) => (match P.underlying e with | some (.int .u8) => if s == d then some (.mark x) else none | _ => none)
  | some .string, some (.slice e) => (match P.underlying e with | some (.int .u8) => if sized P e && P.cellsOf e == 1 then some (.s2b x) else none | _ => none)
  | _, _ => none
 | .sliceToArrayPointer t x => match P.underlying t with
  | some (.array n _) => some (.s2ap n x)
  | _ => none
 | .makeFunc f a b => some (.fn f a.toList b.toList)
 | .makeSlice t l c =>
  match P.underlying t with
  | some (.slice e) => if sized P e then some (.mkslice e (P.bytesOf e) l c) else none
  | _ => none
 | .slice t x lo hi mx =>
  match P.underlying t with
  | some (.slice e) => if sized P e then some (.slice (P.cellsOf e) x lo hi mx) else none
  | some (.array n e) => if sized P e then some (.sliceArr n (P.cellsOf e) x lo hi mx) else none
  | some .string => if mx.isNone then some (.sslice x lo hi) else none
  | _ => none
 | .fieldAddr s x f =>
  match P.underlying s with
  | some (.struct fs) => match fs[f]? with | some g => if sized P g.type then some (.faddr g.offset x) else none | none => none
  | _ => none
 | .field s x f =>
  match P.underlying s with
  | some (.struct fs) => match fs[f]? with | some g => if sized P g.type then some (.field (isAggT P g.type) g.offset (P.cellsOf g.type) x) else none | none => none
  | _ => none
 | .indexAddr t x i =>
  match P.underlying t with
  | some (.slice e) => if sized P e then some (.iaddr (P.cellsOf e) x i) else none
  | some (.array n e) => if sized P e then some (.iaddrA n (P.cellsOf e) x i) else none
  | _ => none
 | .extract x i => some (.ext x i)
 | .makeMap t none => match P.underlying t with | some (.map _ _) => some .newmap | _ => none
 | .lookup t m k ok => match P.underlying t with
  | some (.map kt el) => if sized P el then (shapeOf P kt).map fun s => .lookup el s ok m k else none
  | _ => none
 | .mapUpdate t m k v => match P.underlying t with
  | some (.map kt _) => (shapeOf P kt).map fun s => .mapset s m k v
  | _ => none
 | .index t x i => match P.underlying t with | some .string => some (.sidx x i) | _ => none
 | .call c =>
  match c.callee with
  | .value (.func f) => some (.call f c.args.toList)
  | .value f => some (.callv f c.args.toList)
  | .builtin .len => match c.args.toList, c.argTypes.toList with
   | [x], [t] => match P.underlying t with
    | some (.slice _) => some (.len false x)
    | some .string => some (.len true x)
    | some (.map _ _) => some (.lenM x)
    | _ => none
   | _, _ => none
  | .builtin .min => some (.minmax false c.args.toList)
  | .builtin .max => some (.minmax true c.args.toList)
  | .builtin .append =>
   match c.args.toList, c.argTypes.toList with
   | [s, x], [t, u] => match P.underlying t, t == u with
    | some (.slice e), true => if sized P e then some (.append (P.cellsOf e) (P.bytesOf e) s x) else none
    | _, _ => none
   | _, _ => none
  | .builtin .copy =>
   match c.args.toList, c.argTypes.toList with
   | [d, s], [t, u] => match P.underlying t, P.underlying u with
    | some (.slice e), some (.slice _) => if sized P e then some (.copy (P.cellsOf e) d s) else none
    | _, _ => none
   | _, _ => none
  | .builtin .delete =>
   match c.args.toList, c.argTypes.toList with
   | [m, k], [t, _] => match P.underlying t with
    | some (.map kt _) => (shapeOf P kt).map fun s => .del s m k
    | _ => none
   | _, _ => none
  | .builtin .clear =>
   match c.args.toList, c.argTypes.toList with
   | [x], [t] => match P.underlying t with
    | some (.slice e) => if sized P e then some (.clearS e x) else none
    | some (.map _ _) => some (.clearM x)
    | _ => none
   | _, _ => none
  | _ => none
 | _ => none
def isW : SOp → Bool
 | .store .. | .append .. | .copy .. | .clearS .. | .clearM .. | .mapset .. | .del .. | .call .. | .callv .. | .newmap | .s2b .. | .mark .. => true
 | _ => false
def isR : SOp → Bool
 | .load .. | .lookup .. | .lenM .. | .b2s .. => true
 | _ => false
def compileSI (P : Program) (nt : Nat) (ops : Array Oper) (o : Oper) : Option SI := do
 let op ← compileOp P o.op
 let g ← match o.guard with
  | none => pure none
  | some (j, w) => match (ops[j]?).bind (·.dst) with | some t => pure (some (t, w)) | none => none
 if o.dst.all (· < nt) then pure { dst := o.dst, op, guard := g } else none
def pickNext (n : Nat) (b : Array Nat) (w : Nat → Bool) (listed : Nat) : Option Nat :=
 let rs := (List.range n).filter fun i => !listed.testBit i && (b.getD i 0 &&& listed) == b.getD i 0
 match rs.filter (fun i => !w i) with
 | i :: _ => some i
 | [] => rs.head?
def orderL (n : Nat) (b : Array Nat) (w : Nat → Bool) : Nat → Nat → List Nat
 | 0, _ => []
 | k + 1, listed => match pickNext n b w listed with
  | some i => i :: orderL n b w k (listed ||| 2 ^ i)
  | none => []
def withChk (b : Array Nat) (ss : Array SI) : List Nat → List Nat → List SI
 | _, [] => []
 | done, i :: r =>
  let s := ss.getD i default
  let chk := if isW s.op then (done.zipIdx.filter fun (j, _) => isR (ss.getD j default).op && !(b.getD i 0).testBit j).map (·.2) else []
  { s with chk := chk } :: withChk b ss (done ++ [i]) r
def namesT (o : Oper) : List Nat := o.dst.toList ++ o.op.operands.toList.filterMap fun | .tmp t => some t | _ => none
def drawOk (ops : Array Oper) (b : Array Nat) (ss : Array SI) (l : List Nat) : Bool :=
 let n := ops.size
 let lt := fun p => l.getD p 0
 decide (l.length = n) && decide l.Nodup && l.all (fun i => decide (i < n)) && (List.range n).all (fun i => l.contains i) &&
 (ops.toList.all fun o => o.after.toList.all fun e => !Region.binds .any e || decide (e.on < n)) &&
 ((List.range n).all fun i => match (ops.getD i default).dst with
   | none => true
   | some d => (List.range n).all fun j => i == j || !(namesT (ops.getD j default)).contains d || (b.getD (max i j) 0).testBit (min i j)) &&
 ((List.range n).all fun q => (List.range (q + 1)).all fun p => !(b.getD (lt p) 0).testBit (lt q)) &&
 ((List.range n).all fun p => !isW (ss.getD (lt p) default).op || (List.range n).all fun q => decide (q ≤ p) || (b.getD (lt q) 0).testBit (lt p)) &&
 ((List.range n).all fun i => match (ops.getD i default).guard with
   | none => true
   | some (j, _) => (b.getD i 0).testBit j && decide (j < n) && (match (ops.getD j default).dst with
    | some t => (List.range n).all fun k => k == j || (ops.getD k default).dst != some t
    | none => false))
def compileReg (P : Program) (nt : Nat) (ops : Array Oper) (draw : Bool) : Option SC := do
 let ss ← ops.toList.mapM (compileSI P nt ops)
 if !draw then pure (.reg ss) else
 let ss := ss.toArray
 let b := Region.before ops
 let l := orderL ops.size b (fun i => isW (ss.getD i default).op) ops.size 0
 if P.follows .mixedOrders && drawOk ops b ss l then pure (.drw (withChk b ss [] l)) else none
def compile (P : Program) (nt : Nat) : Code → Option SC
 | .skip => some .skip
 | .region _ ops draw => compileReg P nt ops draw
 | .seq a b => do pure (.seq (← compile P nt a) (← compile P nt b))
 | .cond c a b => if okOpd c then do pure (.cond c (← compile P nt a) (← compile P nt b)) else none
 | .block id b => do pure (.blk id (← compile P nt b))
 | .loop b => do pure (.loop (← compile P nt b))
 | .exit id => some (.exit id)
 | .ret => some .ret
 | _ => none
def okRes (P : Program) : ResultVar → Bool
 | .tmp _ => true
 | .cell _ t => sized P t
def compileFn (P : Program) (f : FuncId) : Option SFn := do
 let fn ← P.funcs[f]?
 if fn.name == "runtime.NumGoroutine" || !(fn.params.size + fn.nfree ≤ fn.ntmps) || !fn.results.all (okRes P) then none else
 let c ← fn.body
 pure { nt := fn.ntmps, res := fn.results.toList, body := ← compile P fn.ntmps c }
structure Loc where
 blk : Nat
 δ : Nat
 tot : Nat
abbrev Inj := Nat → Option Loc
mutual
def VR (ι : Inj) : Value → Value → Prop
 | .bool a, c => c = .bool a
 | .int k a, c => c = .int k a
 | .float k a, c => c = .float k a
 | .complex k a b, c => c = .complex k a b
 | .string s, c => c = .string s
 | .pointer none, c => c = .pointer none
 | .pointer (some a), c => ∃ l, ι a.block = some l ∧ a.spot = none ∧ c = .pointer (some ⟨l.blk, l.δ + a.off, none⟩)
 | .slice none n k, c => n = 0 ∧ k = 0 ∧ c = .slice none 0 0
 | .slice (some a) n k, c => ∃ l, ι a.block = some l ∧ a.spot = none ∧
   ((k < UNK ∧ n ≤ k ∧ c = .slice (some ⟨l.blk, l.δ + a.off, none⟩) n k) ∨
    (∃ z k', k = UNK + z ∧ n ≤ k' ∧ k' ≤ 9223372036854775807 ∧ l.δ + a.off + k' * z ≤ l.tot ∧ c = .slice (some ⟨l.blk, l.δ + a.off, none⟩) n k') ∨
    (UNK ≤ k ∧ n = 0 ∧ ∃ a', c = .slice (some a') 0 0) ∨
    (k = 0 ∧ n = 0 ∧ ∃ a', c = .slice (some a') 0 0))
 | .map none, c => c = .map none
 | .map (some b), c => ∃ l, ι b = some l ∧ c = .map (some l.blk)
 | .chan none, c => c = .chan none
 | .chan (some _), c => c = undef
 | .func f a b, c => ∃ a' b', c = .func f a' b' ∧ VRA ι a a' ∧ VRA ι b b'
 | .nilFunc, c => c = .nilFunc
 | .iface t v, c => ∃ v', c = .iface t v' ∧ VR ι v v'
 | .nilIface, c => c = .nilIface
 | .agg a, c => ∃ a', c = .agg a' ∧ VRA ι a a' ∧ a.toList.all one = true
 | .tuple a, c => a = #[] ∨ ∃ a', c = .tuple a' ∧ VRA ι a a'
def VRA (ι : Inj) : Array Value → Array Value → Prop
 | ⟨a⟩, ⟨b⟩ => VRL ι a b
def VRL (ι : Inj) : List Value → List Value → Prop
 | [], [] => True
 | a :: x, b :: y => VR ι a b ∧ VRL ι x y
 | _, _ => False
end
def Le (ι ι' : Inj) : Prop := ∀ b l, ι b = some l → ι' b = some l
theorem Le.refl (ι : Inj) : Le ι ι := fun _ _ h => h
theorem Le.trans {a b c : Inj} (h : Le a b) (k : Le b c) : Le a c := fun x l hx => k x l (h x l hx)
theorem VR_undef (ι : Inj) (c : Value) : VR ι undef c := by simp [undef, VR]
mutual
theorem VR.mono {ι ι' : Inj} (hl : Le ι ι') : (v c : Value) → VR ι v c → VR ι' v c
 | .bool _, _, h | .int _ _, _, h | .float _ _, _, h | .complex _ _ _, _, h | .string _, _, h | .nilFunc, _, h | .nilIface, _, h | .chan none, _, h | .chan (some _), _, h => by simpa [VR] using h
 | .pointer none, _, h | .map none, _, h | .slice none _ _, _, h => by simpa [VR] using h
 | .pointer (some a), c, h => by
  simp only [VR] at h ⊢
  obtain ⟨l, h1, h2⟩ := h
  exact ⟨l, hl _ _ h1, h2⟩
 | .slice (some a) n k, c, h => by
  simp only [VR] at h ⊢
  obtain ⟨l, h1, h2⟩ := h
  exact ⟨l, hl _ _ h1, h2⟩
 | .map (some b), c, h => by
  simp only [VR] at h ⊢
  obtain ⟨l, h1, h2⟩ := h
  exact ⟨l, hl _ _ h1, h2⟩
 | .func f a b, c, h => by
  simp only [VR] at h ⊢
  obtain ⟨a', b', h1, h2, h3⟩ := h
  exact ⟨a', b', h1, VRA.mono hl a a' h2, VRA.mono hl b b' h3⟩
 | .iface t v, c, h => by
  simp only [VR] at h ⊢
  obtain ⟨v', h1, h2⟩ := h
  exact ⟨v', h1, VR.mono hl v v' h2⟩
 | .agg a, c, h => by
  simp only [VR] at h ⊢
  obtain ⟨a', h1, h2, h3⟩ := h
  exact ⟨a', h1, VRA.mono hl a a' h2, h3⟩
 | .tuple a, c, h => by
  simp only [VR] at h ⊢
  rcases h with h | ⟨a', h1, h2⟩
  ·exact .inl h
  ·exact .inr ⟨a', h1, VRA.mono hl a a' h2⟩
theorem VRA.mono {ι ι' : Inj} (hl : Le ι ι') : (a c : Array Value) → VRA ι a c → VRA ι' a c
 | ⟨a⟩, ⟨c⟩, h => by
  simp only [VRA] at h ⊢
  exact VRL.mono hl a c h
theorem VRL.mono {ι ι' : Inj} (hl : Le ι ι') : (a c : List Value) → VRL ι a c → VRL ι' a c
 | [], [], _ => by simp [VRL]
 | [], _ :: _, h => by simp [VRL] at h
 | _ :: _, [], h => by simp [VRL] at h
 | a :: x, b :: y, h => by
  simp only [VRL] at h ⊢
  exact ⟨VR.mono hl a b h.1, VRL.mono hl x y h.2⟩
end
section lists
variable {ι : Inj}
theorem VRL.length : ∀ {a c : List Value}, VRL ι a c → a.length = c.length
 | [], [], _ => rfl
 | [], _ :: _, h => by simp [VRL] at h
 | _ :: _, [], h => by simp [VRL] at h
 | _ :: x, _ :: y, h => by simp only [VRL] at h; simp [VRL.length h.2]
theorem VRL.get : ∀ {a c : List Value} {i : Nat} {v : Value}, VRL ι a c → a[i]? = some v → ∃ u, c[i]? = some u ∧ VR ι v u
 | [], [], _, _, _, hi => by simp at hi
 | [], _ :: _, _, _, h, _ => by simp [VRL] at h
 | _ :: _, [], _, _, h, _ => by simp [VRL] at h
 | a :: x, b :: y, 0, v, h, hi => by
  simp only [VRL] at h
  simp at hi
  subst hi
  exact ⟨b, rfl, h.1⟩
 | a :: x, b :: y, i + 1, v, h, hi => by
  simp only [VRL] at h
  simpa using VRL.get (i := i) h.2 (by simpa using hi)
theorem VRL.of_get : ∀ {a c : List Value}, a.length = c.length → (∀ (i : Nat) v u, a[i]? = some v → c[i]? = some u → VR ι v u) → VRL ι a c
 | [], [], _, _ => by simp [VRL]
 | [], _ :: _, h, _ => by simp at h
 | _ :: _, [], h, _ => by simp at h
 | a :: x, b :: y, h, hg => by
  simp only [VRL]
  exact ⟨hg 0 a b rfl rfl, VRL.of_get (by simpa using h) fun i v u hv hu => hg (i + 1) v u (by simpa using hv) (by simpa using hu)⟩
theorem VRL.append {a b c d : List Value} (h : VRL ι a c) (k : VRL ι b d) : VRL ι (a ++ b) (c ++ d) := by
 induction a generalizing c with
 | nil =>
  cases c with
  | nil => simpa using k
  | cons _ _ => simp [VRL] at h
 | cons x a ih =>
  cases c with
  | nil => simp [VRL] at h
  | cons y c =>
   simp only [VRL] at h
   simp only [List.cons_append, VRL]
   exact ⟨h.1, ih h.2⟩
theorem VRL.take {a c : List Value} (h : VRL ι a c) (n : Nat) : VRL ι (a.take n) (c.take n) := by
 refine .of_get (by simp [h.length]) fun i v u hv hu => ?_
 rw [List.getElem?_take] at hv hu
 split at hv <;> simp_all
 obtain ⟨w, hw, hr⟩ := h.get hv
 rw [hu] at hw
 cases hw
 exact hr
theorem VRL.drop {a c : List Value} (h : VRL ι a c) (n : Nat) : VRL ι (a.drop n) (c.drop n) := by
 refine .of_get (by simp [h.length]) fun i v u hv hu => ?_
 rw [List.getElem?_drop] at hv hu
 obtain ⟨w, hw, hr⟩ := h.get hv
 rw [hu] at hw
 cases hw
 exact hr
theorem VRA_iff {a c : Array Value} : VRA ι a c ↔ VRL ι a.toList c.toList := by
 cases a; cases c; simp [VRA]
end lists
theorem VR.one {ι : Inj} {v c : Value} (h : VR ι v c) (h1 : one v = true) : c.oneCell' = true := by
 cases v with
 | pointer a => cases a <;> simp [VR] at h <;> (try obtain ⟨l, _, _, rfl⟩ := h) <;> (try subst h) <;> rfl
 | slice a n k =>
  cases a with
  | none => simp [VR] at h; rw [h.2.2]; rfl
  | some a =>
   simp only [VR] at h
   obtain ⟨l, _, _, h | h | h | h⟩ := h
   ·rw [h.2.2]; rfl
   ·obtain ⟨_, k', _, _, _, _, rfl⟩ := h; rfl
   ·obtain ⟨_, _, a', rfl⟩ := h; rfl
   ·obtain ⟨_, _, a', rfl⟩ := h; rfl
 | map a => cases a <;> simp [VR] at h <;> (try obtain ⟨l, _, rfl⟩ := h) <;> (try subst h) <;> rfl
 | chan a => cases a <;> simp [VR, G.one] at h h1; subst h; rfl
 | func f a b => simp only [VR] at h; obtain ⟨a', b', rfl, _⟩ := h; rfl
 | iface t v => simp only [VR] at h; obtain ⟨v', rfl, _⟩ := h; rfl
 | agg a => simp [G.one] at h1
 | tuple a => simp [G.one] at h1
 | _ => simp [VR] at h; subst h; rfl
theorem VRL.ones {ι : Inj} {a c : List Value} (h : VRL ι a c) (h1 : a.all G.one = true) : ∀ u ∈ c, u.oneCell' = true := by
 intro u hu
 obtain ⟨i, hi, rfl⟩ := List.mem_iff_getElem.1 hu
 have hl := h.length
 have hv : a[i]? = some a[i] := by simp [show i < a.length by omega]
 obtain ⟨u', hu', hr⟩ := h.get hv
 have : c[i]? = some c[i] := by simp
 rw [this] at hu'
 cases hu'
 exact hr.one (List.all_eq_true.1 h1 _ (List.getElem_mem _))
theorem VR.cellsL {ι : Inj} {v c : Value} (h : VR ι v c) (h1 : (G.cellsL v).all G.one = true) : VRL ι (G.cellsL v) c.cells.toList := by
 cases v with
 | agg a =>
  simp only [VR] at h
  obtain ⟨a', rfl, h2, _⟩ := h
  simpa [G.cellsL, Value.cells] using VRA_iff.1 h2
 | tuple a => simp [G.cellsL, G.one] at h1
 | _ =>
  have h2 := h.one (by simpa [G.cellsL] using h1)
  cases c <;> simp_all [G.cellsL, Value.cells, VRL, Value.oneCell']
def own (H : Heap) (b : Nat) : Prop := (∃ cs, H[b]? = some (.cells cs false)) ∨ ∃ es k, H[b]? = some (.map es k)
def ER (ι : Inj) : List Ent → List MapEntry → Prop
 | [], [] => True
 | a :: x, b :: y => plainKey a.key = true ∧ b.key = a.key ∧ VR ι a.val b.val ∧ b.born = a.born ∧ ER ι x y
 | _, _ => False
def Unf (fr : Nat × Nat) (n : Nat) : Prop := fr.1 = fr.2 ∨ n ≤ fr.1
theorem Unf.at {fr : Nat × Nat} {n i : Nat} (h : Unf fr n) (hi : i < n) : ¬(fr.1 ≤ i ∧ i < fr.2) := by unfold Unf at h; omega
structure Rel (ι : Inj) (H : Heap) (w : World) : Prop where
 dom : ∀ b l, ι b = some l → b < H.size
 bound : ∀ b l, ι b = some l → l.blk < w.heap.size
 cells : ∀ b l cs ro, ι b = some l → H[b]? = some (.cells cs ro) → ∀ (i : Nat) v, cs[i]? = some v → one v = true ∧ ∃ c, w.cell? ⟨l.blk, l.δ + i, none⟩ = some c ∧ VR ι v c
 rw : ∀ b l cs, ι b = some l → H[b]? = some (.cells cs false) → ∃ C t fr, w.heap[l.blk]? = some (.cells C t fr) ∧ C.size = l.tot ∧ l.δ + cs.length ≤ l.tot ∧ Unf fr C.size
 maps : ∀ b l es k, ι b = some l → H[b]? = some (.map es k) → ∃ es', w.heap[l.blk]? = some (.map es' k) ∧ ER ι es es'.toList
 inj : ∀ b c l m, ι b = some l → ι c = some m → l.blk = m.blk → b ≠ c → own H b → H[c]? = some .dead
structure Stp (ι : Inj) (H : Heap) (w : World) (ι' : Inj) (H' : Heap) (w' : World) : Prop where
 rel : Rel ι' H' w'
 le : Le ι ι'
 old : ∀ b, b < H.size → ι' b = ι b
 size : H.size ≤ H'.size
 wsize : w.heap.size ≤ w'.heap.size
 unm : ∀ b, b < H.size → ι b = none → H'[b]? = H[b]?
 keep : ∀ k, k < w.heap.size → (∀ b l, ι b = some l → l.blk = k → ¬ own H b) → w'.heap[k]? = w.heap[k]?
 mine : ∀ b l, ι' b = some l → own H' b → w.heap.size ≤ l.blk ∨ ∃ c m, ι c = some m ∧ own H c ∧ m.blk = l.blk
 os : w'.os = w.os
 tape : w'.tape = w.tape
 output : w'.output = w.output
theorem Stp.refl {ι : Inj} {H : Heap} {w : World} (h : Rel ι H w) : Stp ι H w ι H w :=
 ⟨h, .refl ι, fun _ _ => rfl, Nat.le_refl _, Nat.le_refl _, fun _ _ _ => rfl, fun _ _ _ => rfl, fun b l hb ho => .inr ⟨b, l, hb, ho, rfl⟩, rfl, rfl, rfl⟩
theorem Stp.trans {ι ι' ι'' : Inj} {H H' H'' : Heap} {w w' w'' : World} (h : Stp ι H w ι' H' w') (k : Stp ι' H' w' ι'' H'' w'') : Stp ι H w ι'' H'' w'' where
 rel := k.rel
 le := h.le.trans k.le
 old := fun b hb => (k.old b (Nat.lt_of_lt_of_le hb h.size)).trans (h.old b hb)
 size := Nat.le_trans h.size k.size
 wsize := Nat.le_trans h.wsize k.wsize
 unm := fun b hb hn => (k.unm b (Nat.lt_of_lt_of_le hb h.size) ((h.old b hb).trans hn)).trans (h.unm b hb hn)
 keep := fun j hj hno => by
  rw [k.keep j (Nat.lt_of_lt_of_le hj h.wsize) ?_, h.keep j hj hno]
  intro b l hb hl ho
  rcases h.mine b l hb ho with h1 | ⟨c, m, hc, hoc, hm⟩
  ·omega
  ·exact hno c m hc (hm.trans hl) hoc
 mine := fun b l hb ho => by
  rcases k.mine b l hb ho with h1 | ⟨c, m, hc, hoc, hm⟩
  ·exact .inl (Nat.le_trans h.wsize h1)
  ·rcases h.mine c m hc hoc with h2 | ⟨d, n, hd, hod, hn⟩
   ·exact .inl (hm ▸ h2)
   ·exact .inr ⟨d, n, hd, hod, hn.trans hm⟩
 os := k.os.trans h.os
 tape := k.tape.trans h.tape
 output := k.output.trans h.output
theorem Rel.drew {ι : Inj} {H : Heap} {w : World} (h : Rel ι H w) (n : Nat) : Rel ι H { w with drawn := n } :=
 ⟨h.dom, h.bound, h.cells, h.rw, h.maps, h.inj⟩
theorem Stp.of_drew {ι ι' : Inj} {H H' : Heap} {w w' : World} {n : Nat} (h : Stp ι H { w with drawn := n } ι' H' w') : Stp ι H w ι' H' w' :=
 ⟨h.rel, h.le, h.old, h.size, h.wsize, h.unm, h.keep, h.mine, h.os, h.tape, h.output⟩
end Go.Proofs.Ytmgfkifjgajclaa.G
namespace Go.Proofs.Ytmgfkifjgajclaa.G
open Go
theorem setCells_block (g : Nat) : ∀ (vs : List Value) (o : Nat) (w : World) (C : Array Value) (t : TypeId) (fr : Nat × Nat), w.heap[g]? = some (.cells C t fr) →
  ∃ C', (w.setCells g o vs).heap[g]? = some (.cells C' t fr) ∧ C'.size = C.size
 | [], _, _, C, _, _, h => ⟨C, h, rfl⟩
 | v :: r, o, w, C, t, fr, h => by
  have h1 : (w.setCell ⟨g, o, none⟩ v).heap[g]? = some (.cells (C.setIfInBounds o v) t fr) := by
   simp [World.setCell, Array.getElem?_modify, h]
  obtain ⟨C', h2, h3⟩ := setCells_block g r (o + 1) (w.setCell ⟨g, o, none⟩ v) _ t fr h1
  exact ⟨C', h2, by rw [h3]; simp⟩
theorem setCells_other (g : Nat) : ∀ (vs : List Value) (o : Nat) (w : World) (k : Nat), k ≠ g → (w.setCells g o vs).heap[k]? = w.heap[k]?
 | [], _, _, _, _ => rfl
 | v :: r, o, w, k, h => by
  rw [World.setCells, setCells_other g r (o + 1) _ k h]
  simp only [World.setCell, Array.getElem?_modify]
  rw [if_neg (by omega)]
theorem setCells_meta (g : Nat) : ∀ (vs : List Value) (o : Nat) (w : World), (w.setCells g o vs).heap.size = w.heap.size ∧ (w.setCells g o vs).os = w.os ∧ (w.setCells g o vs).tape = w.tape ∧ (w.setCells g o vs).output = w.output
 | [], _, _ => ⟨rfl, rfl, rfl, rfl⟩
 | v :: r, o, w => by
  obtain ⟨a, b, c, d⟩ := setCells_meta g r (o + 1) (w.setCell ⟨g, o, none⟩ v)
  exact ⟨by rw [World.setCells, a]; simp [World.setCell], b, c, d⟩
theorem cell_other {w w' : World} {a : Addr} (h : w'.heap[a.block]? = w.heap[a.block]?) : w'.cell? a = w.cell? a := by simp [World.cell?, h]
section
variable {ι : Inj} {H : Heap} {w : World}
theorem Rel.lt (h : Rel ι H w) {b : Nat} {l : Loc} (hb : ι b = some l) : b < H.size := h.dom b l hb
theorem Rel.alone (h : Rel ι H w) {b c : Nat} {l m : Loc} (hb : ι b = some l) (ho : own H b) (hc : ι c = some m) (hne : c ≠ b) (hd : H[c]? ≠ some .dead) : m.blk ≠ l.blk :=
 fun e => hd (h.inj b c l m hb hc e.symm (Ne.symm hne) ho)
theorem ER.mono {ι ι' : Inj} (hl : Le ι ι') : ∀ {a : List Ent} {b : List MapEntry}, ER ι a b → ER ι' a b
 | [], [], _ => by simp [ER]
 | [], _ :: _, h => by simp [ER] at h
 | _ :: _, [], h => by simp [ER] at h
 | a :: x, b :: y, h => by
  simp only [ER] at h ⊢
  exact ⟨h.1, h.2.1, h.2.2.1.mono hl, h.2.2.2.1, ER.mono hl h.2.2.2.2⟩
def ext (ι : Inj) (b : Nat) (l : Loc) : Inj := fun c => if c = b then some l else ι c
theorem ext_le (h : Rel ι H w) (l : Loc) : Le ι (ext ι H.size l) := by
 intro b m hb
 have := h.dom b m hb
 simp only [ext]
 rw [if_neg (by omega)]
 exact hb
theorem Stp.fresh (h : Rel ι H w) (l : Loc) (o : Blk) (O : Obj) (hl : l.blk = w.heap.size)
  (hcells : ∀ cs ro, o = .cells cs ro → ro = false ∧ l.δ = 0 ∧ ∃ C t, O = .cells C t (0, 0) ∧ C.size = l.tot ∧ cs.length ≤ C.size ∧ ∀ (i : Nat) v, cs[i]? = some v → one v = true ∧ ∃ c, C[i]? = some c ∧ VR (ext ι H.size l) v c)
  (hmap : ∀ es k, o = .map es k → ∃ es', O = .map es' k ∧ ER (ext ι H.size l) es es'.toList) :
  Stp ι H w (ext ι H.size l) (H.push o) (w.alloc O) := by
 have hle := ext_le h l
 have hsz : (w.alloc O).heap.size = w.heap.size + 1 := by show (w.heap.push O).size = _; simp
 have hnew : (w.alloc O).heap[w.heap.size]? = some O := heap_alloc_new w O
 have hold : ∀ k, k < w.heap.size → (w.alloc O).heap[k]? = w.heap[k]? := fun k hk => heap_alloc_old w O k hk
 have hcase : ∀ b m, ext ι H.size l b = some m → (b = H.size ∧ m = l) ∨ (b ≠ H.size ∧ ι b = some m ∧ b < H.size ∧ m.blk < w.heap.size) := by
  intro b m hb
  simp only [ext] at hb
  split at hb
  ·rename_i e; exact .inl ⟨e, by simpa using hb.symm⟩
  ·rename_i e; exact .inr ⟨e, hb, h.dom b m hb, h.bound b m hb⟩
 have hpo : ∀ b, b < H.size → (H.push o)[b]? = H[b]? := fun b hb => by rw [Array.getElem?_push, if_neg (by omega)]
 have hpn : (H.push o)[H.size]? = some o := by simp
 refine ⟨⟨?_, ?_, ?_, ?_, ?_, ?_⟩, hle, ?_, by simp, by omega, ?_, ?_, ?_, rfl, rfl, rfl⟩
 ·intro b m hb
  rcases hcase b m hb with ⟨rfl, rfl⟩ | ⟨_, _, hlt, _⟩ <;> simp; omega
 ·intro b m hb
  rcases hcase b m hb with ⟨rfl, rfl⟩ | ⟨_, _, _, hlt⟩ <;> omega
 ·intro b m cs ro hb hH
  rcases hcase b m hb with ⟨rfl, rfl⟩ | ⟨_, hb', hlt, hblt⟩
  ·rw [hpn] at hH
   obtain ⟨_, h2, C, t, rfl, _, _, h4⟩ := hcells cs ro (by simpa using hH)
   intro i v hv
   obtain ⟨h5, c, h6, h7⟩ := h4 i v hv
   exact ⟨h5, c, by rw [hl, h2, Nat.zero_add, cell_of_row _ _ _ _ _ _ hnew]; exact h6, h7⟩
  ·rw [hpo b hlt] at hH
   have h2 := h.cells b m cs ro hb' hH
   intro i v hv
   obtain ⟨h3, c, h4, h5⟩ := h2 i v hv
   exact ⟨h3, c, by rw [cell_other (hold _ hblt)]; exact h4, h5.mono hle⟩
 ·intro b m cs hb hH
  rcases hcase b m hb with ⟨rfl, rfl⟩ | ⟨_, hb', hlt, hblt⟩
  ·rw [hpn] at hH
   obtain ⟨_, h2, C, t, rfl, h3, h4, _⟩ := hcells cs false (by simpa using hH)
   exact ⟨C, t, (0, 0), by rw [hl]; exact hnew, h3, by omega, .inl rfl⟩
  ·rw [hpo b hlt] at hH
   obtain ⟨C, t, fr, h1, h2⟩ := h.rw b m cs hb' hH
   exact ⟨C, t, fr, by rw [hold _ hblt]; exact h1, h2⟩
 ·intro b m es k hb hH
  rcases hcase b m hb with ⟨rfl, rfl⟩ | ⟨_, hb', hlt, hblt⟩
  ·rw [hpn] at hH
   obtain ⟨es', rfl, h2⟩ := hmap es k (by simpa using hH)
   exact ⟨es', by rw [hl]; exact hnew, h2⟩
  ·rw [hpo b hlt] at hH
   obtain ⟨es', h1, h2⟩ := h.maps b m es k hb' hH
   exact ⟨es', by rw [hold _ hblt]; exact h1, h2.mono hle⟩
 ·intro b c m n hb hc he hne ho
  rcases hcase b m hb with ⟨rfl, rfl⟩ | ⟨hb0, hb', hblt, hbb⟩ <;> rcases hcase c n hc with ⟨rfl, rfl⟩ | ⟨hc0, hc', hclt, hcb⟩
  ·exact absurd rfl hne
  ·omega
  ·omega
  ·have ho' : own H b := by
    unfold own at ho ⊢
    rwa [hpo b hblt] at ho
   rw [hpo c hclt]
   exact h.inj b c m n hb' hc' he hne ho'
 ·intro b hb
  simp only [ext]
  rw [if_neg (by omega)]
 ·intro b hb _
  exact hpo b hb
 ·intro k hk _
  exact hold k hk
 ·intro b m hb ho
  rcases hcase b m hb with ⟨rfl, rfl⟩ | ⟨_, hb', hlt, _⟩
  ·exact .inl (by omega)
  ·refine .inr ⟨b, m, hb', ?_, rfl⟩
   unfold own at ho ⊢
   rwa [hpo b hlt] at ho
theorem Stp.allocCells (h : Rel ι H w) (cs : List Value) (C : Array Value) (t : TypeId) (h1 : cs.all one = true) (hl : cs.length ≤ C.size)
  (hC : ∀ (i : Nat) v, cs[i]? = some v → ∃ c, C[i]? = some c ∧ VR ι v c) :
  Stp ι H w (ext ι H.size ⟨w.heap.size, 0, C.size⟩) (H.push (.cells cs false)) (w.alloc (.cells C t)) := by
 refine Stp.fresh h _ _ _ rfl ?_ (by simp)
 intro cs' ro he
 simp only [Blk.cells.injEq] at he
 obtain ⟨rfl, rfl⟩ := he
 refine ⟨rfl, rfl, C, t, rfl, rfl, hl, fun i v hv => ⟨?_, ?_⟩⟩
 ·exact List.all_eq_true.1 h1 v (List.mem_of_getElem? hv)
 ·obtain ⟨c, h2, h3⟩ := hC i v hv
  exact ⟨c, h2, h3.mono (ext_le h _)⟩
theorem ext_new (b : Nat) (l : Loc) : ext ι b l b = some l := by simp [ext]
theorem splice_length (cs : List Value) (off : Nat) (vs : List Value) (h : off + vs.length ≤ cs.length) : (splice cs off vs).length = cs.length := by
 simp [splice]; omega
theorem splice_get (cs : List Value) (off : Nat) (vs : List Value) (h : off + vs.length ≤ cs.length) (i : Nat) :
  (splice cs off vs)[i]? = if i < off then cs[i]? else if i < off + vs.length then vs[i - off]? else cs[i]? := by
 simp only [splice, List.append_assoc]
 rw [List.getElem?_append]
 have h1 : (cs.take off).length = off := by simp; omega
 rw [h1]
 split
 ·rw [List.getElem?_take, if_pos (by assumption)]
 ·rw [List.getElem?_append]
  split
  ·rw [if_pos (by omega)]
  ·rw [if_neg (by omega), List.getElem?_drop]
   congr 1
   omega
theorem own_set {b c : Nat} {cs cs' : List Value} (hb : H[b]? = some (.cells cs false)) (ho : own (H.setIfInBounds b (.cells cs' false)) c) : own H c := by
 have hlt : b < H.size := (Array.getElem?_eq_some_iff.1 hb).1
 by_cases hbc : c = b
 ·subst hbc; exact .inl ⟨cs, hb⟩
 ·unfold own at ho ⊢
  rwa [Array.getElem?_setIfInBounds_ne (Ne.symm hbc)] at ho
theorem Stp.write (h : Rel ι H w) {b : Nat} {l : Loc} {cs : List Value} (hb : ι b = some l) (hH : H[b]? = some (.cells cs false)) (off : Nat) (vs us : List Value)
  (hfit : off + vs.length ≤ cs.length) (h1 : vs.all one = true) (hr : VRL ι vs us) :
  Stp ι H w ι (H.setIfInBounds b (.cells (splice cs off vs) false)) (w.setCells l.blk (l.δ + off) us) := by
 have hlt : b < H.size := h.dom b l hb
 have hlen := hr.length
 obtain ⟨C, t, fr, hC, hCs, hCl, hfr⟩ := h.rw b l cs hb hH
 obtain ⟨C', hC', hCs'⟩ := setCells_block l.blk us (l.δ + off) w C t fr hC
 obtain ⟨m1, m2, m3, m4⟩ := setCells_meta l.blk us (l.δ + off) w
 have hown : own H b := .inl ⟨cs, hH⟩
 have hoth : ∀ k, k ≠ l.blk → (w.setCells l.blk (l.δ + off) us).heap[k]? = w.heap[k]? := fun k hk => setCells_other _ _ _ _ _ hk
 have hset : ∀ c, c ≠ b → (H.setIfInBounds b (.cells (splice cs off vs) false))[c]? = H[c]? := fun c hc => Array.getElem?_setIfInBounds_ne (Ne.symm hc)
 have hself : (H.setIfInBounds b (.cells (splice cs off vs) false))[b]? = some (.cells (splice cs off vs) false) := by simp [hlt]
 refine ⟨⟨?_, ?_, ?_, ?_, ?_, ?_⟩, .refl ι, fun _ _ => rfl, by simp, by omega, ?_, ?_, ?_, m2, m3, m4⟩
 ·intro c m hc; simpa using h.dom c m hc
 ·intro c m hc; rw [m1]; exact h.bound c m hc
 ·intro c m cs2 ro hc hH2
  by_cases hcb : c = b
  ·subst hcb
   rw [hself] at hH2
   simp only [Option.some.injEq, Blk.cells.injEq] at hH2
   obtain ⟨rfl, rfl⟩ := hH2
   rw [hb] at hc
   cases hc
   have g2 := h.cells c l cs false hb hH
   intro i v hv
   rw [splice_get cs off vs hfit] at hv
   have hcells : ∀ j, j < us.length → (w.cell? ⟨l.blk, l.δ + off + j, none⟩).isSome = true := fun j hj => by
    simp [World.cell?, hC]; omega
   split at hv
   ·rename_i hi
    obtain ⟨g3, u, g4, g5⟩ := g2 i v hv
    exact ⟨g3, u, by rw [World.cell?_setCells_out l.blk us (l.δ + off) w _ (fun _ _ => .inl (by simp; omega))]; exact g4, g5⟩
   ·split at hv
    ·rename_i hi1 hi2
     obtain ⟨u, hu, hvu⟩ := hr.get hv
     refine ⟨List.all_eq_true.1 h1 v (List.mem_of_getElem? hv), u, ?_, hvu⟩
     have := World.cell?_setCells_in l.blk us (l.δ + off) w hcells (i - off) (by omega)
     rw [show l.δ + i = l.δ + off + (i - off) by omega, this]
     rw [← hu]
     simp [show i - off < us.length by omega]
    ·rename_i hi1 hi2
     obtain ⟨g3, u, g4, g5⟩ := g2 i v hv
     exact ⟨g3, u, by rw [World.cell?_setCells_out l.blk us (l.δ + off) w _ (fun _ _ => .inr (by simp; omega))]; exact g4, g5⟩
  ·rw [hset c hcb] at hH2
   have hne : m.blk ≠ l.blk := h.alone hb hown hc hcb (by rw [hH2]; simp)
   have g2 := h.cells c m cs2 ro hc hH2
   exact fun i v hv => let ⟨g3, u, g4, g5⟩ := g2 i v hv; ⟨g3, u, by rw [cell_other (hoth _ hne)]; exact g4, g5⟩
 ·intro c m cs2 hc hH2
  by_cases hcb : c = b
  ·subst hcb
   rw [hself] at hH2
   simp only [Option.some.injEq, Blk.cells.injEq, and_true] at hH2
   subst hH2
   rw [hb] at hc
   cases hc
   exact ⟨C', t, fr, hC', by omega, by rw [splice_length cs off vs hfit]; exact hCl, by unfold Unf at hfr ⊢; omega⟩
  ·rw [hset c hcb] at hH2
   have hne : m.blk ≠ l.blk := h.alone hb hown hc hcb (by rw [hH2]; simp)
   obtain ⟨D, t2, fr2, g1, g2⟩ := h.rw c m cs2 hc hH2
   exact ⟨D, t2, fr2, by rw [hoth _ hne]; exact g1, g2⟩
 ·intro c m es k hc hH2
  by_cases hcb : c = b
  ·subst hcb; rw [hself] at hH2; simp at hH2
  ·rw [hset c hcb] at hH2
   have hne : m.blk ≠ l.blk := h.alone hb hown hc hcb (by rw [hH2]; simp)
   obtain ⟨es', g1, g2⟩ := h.maps c m es k hc hH2
   exact ⟨es', by rw [hoth _ hne]; exact g1, g2⟩
 ·intro c d m n hc hd he hne ho
  have hdd := h.inj c d m n hc hd he hne (own_set hH ho)
  by_cases hdb : d = b
  ·subst hdb; rw [hH] at hdd; simp at hdd
  ·rw [hset d hdb]; exact hdd
 ·intro c hc hn
  exact hset c (fun e => by subst e; rw [hb] at hn; cases hn)
 ·intro k hk hno
  exact hoth k (fun e => hno b l hb e.symm hown)
 ·intro c m hc ho
  exact .inr ⟨c, m, hc, own_set hH ho, rfl⟩
theorem Stp.graft (h : Rel ι H w) {b : Nat} {l : Loc} {cs : List Value} (hb : ι b = some l) (hH : H[b]? = some (.cells cs false)) (off k : Nat) (vs us : List Value)
  (hfit : off + k ≤ cs.length) (hroom : l.δ + off + k + vs.length ≤ l.tot) (h1 : vs.all one = true) (hr : VRL ι vs us) :
  Stp ι H w (ext ι H.size ⟨l.blk, l.δ + off, l.tot⟩) ((H.setIfInBounds b .dead).push (.cells ((cs.drop off).take k ++ vs) false)) (w.setCells l.blk (l.δ + off + k) us) := by
 have hlt : b < H.size := h.dom b l hb
 have hlen := hr.length
 obtain ⟨C, t, fr, hC, hCs, hCl, hfr⟩ := h.rw b l cs hb hH
 obtain ⟨C', hC', hCs'⟩ := setCells_block l.blk us (l.δ + off + k) w C t fr hC
 obtain ⟨m1, m2, m3, m4⟩ := setCells_meta l.blk us (l.δ + off + k) w
 have hown : own H b := .inl ⟨cs, hH⟩
 have hle := ext_le h ⟨l.blk, l.δ + off, l.tot⟩
 have hoth : ∀ j, j ≠ l.blk → (w.setCells l.blk (l.δ + off + k) us).heap[j]? = w.heap[j]? := fun j hj => setCells_other _ _ _ _ _ hj
 have hcase : ∀ c m, ext ι H.size ⟨l.blk, l.δ + off, l.tot⟩ c = some m → (c = H.size ∧ m = ⟨l.blk, l.δ + off, l.tot⟩) ∨ (c ≠ H.size ∧ ι c = some m ∧ c < H.size) := by
  intro c m hc
  simp only [ext] at hc
  split at hc
  ·rename_i e; exact .inl ⟨e, by simpa using hc.symm⟩
  ·rename_i e; exact .inr ⟨e, hc, h.dom c m hc⟩
 have hsz : (H.setIfInBounds b .dead).size = H.size := by simp
 have hnew : ((H.setIfInBounds b .dead).push (.cells ((cs.drop off).take k ++ vs) false))[H.size]? = some (.cells ((cs.drop off).take k ++ vs) false) := by
  rw [Array.getElem?_push, hsz, if_pos rfl]
 have hold : ∀ c, c < H.size → c ≠ b → ((H.setIfInBounds b .dead).push (.cells ((cs.drop off).take k ++ vs) false))[c]? = H[c]? := fun c hc hcb => by
  rw [Array.getElem?_push, hsz, if_neg (by omega), Array.getElem?_setIfInBounds_ne (Ne.symm hcb)]
 have hdead : ((H.setIfInBounds b .dead).push (.cells ((cs.drop off).take k ++ vs) false))[b]? = some .dead := by
  rw [Array.getElem?_push, hsz, if_neg (by omega)]
  simp [hlt]
 have hcl : (cs.drop off).take k = ((cs.drop off).take k) := rfl
 have hkl : ((cs.drop off).take k).length = k := by simp; omega
 have g2 := h.cells b l cs false hb hH
 have hcells : ∀ j, j < us.length → (w.cell? ⟨l.blk, l.δ + off + k + j, none⟩).isSome = true := fun j hj => by
  simp [World.cell?, hC]; omega
 refine ⟨⟨?_, ?_, ?_, ?_, ?_, ?_⟩, hle, ?_, by simp, by omega, ?_, ?_, ?_, m2, m3, m4⟩
 ·intro c m hc
  rcases hcase c m hc with ⟨rfl, _⟩ | ⟨_, _, hc2⟩ <;> simp; omega
 ·intro c m hc
  rw [m1]
  rcases hcase c m hc with ⟨_, rfl⟩ | ⟨_, hc1, _⟩
  ·exact h.bound b l hb
  ·exact h.bound c m hc1
 ·intro c m cs2 ro hc hH2
  rcases hcase c m hc with ⟨rfl, rfl⟩ | ⟨_, hc1, hc2⟩
  ·rw [hnew] at hH2
   simp only [Option.some.injEq, Blk.cells.injEq] at hH2
   obtain ⟨rfl, rfl⟩ := hH2
   intro i v hv
   rw [List.getElem?_append, hkl] at hv
   split at hv
   ·rename_i hi
    rw [List.getElem?_take, if_pos hi, List.getElem?_drop] at hv
    obtain ⟨g3, u, g4, g5⟩ := g2 (off + i) v hv
    refine ⟨g3, u, ?_, g5.mono hle⟩
    rw [World.cell?_setCells_out l.blk us (l.δ + off + k) w _ (fun _ _ => .inl (by simp; omega))]
    rw [show l.δ + off + i = l.δ + (off + i) by omega]
    exact g4
   ·rename_i hi
    obtain ⟨u, hu, hvu⟩ := hr.get hv
    have hil : i - k < us.length := by
     have := (List.getElem?_eq_some_iff.1 hu).1
     exact this
    refine ⟨List.all_eq_true.1 h1 v (List.mem_of_getElem? hv), u, ?_, hvu.mono hle⟩
    have := World.cell?_setCells_in l.blk us (l.δ + off + k) w hcells (i - k) hil
    simp only
    rw [show l.δ + off + i = l.δ + off + k + (i - k) by omega, this, ← hu]
    simp [hil]
  ·by_cases hcb : c = b
   ·subst hcb; rw [hdead] at hH2; simp at hH2
   ·rw [hold c hc2 hcb] at hH2
    have hne : m.blk ≠ l.blk := h.alone hb hown hc1 hcb (by rw [hH2]; simp)
    have g2 := h.cells c m cs2 ro hc1 hH2
    exact fun i v hv => let ⟨g3, u, g4, g5⟩ := g2 i v hv; ⟨g3, u, by rw [cell_other (hoth _ hne)]; exact g4, g5.mono hle⟩
 ·intro c m cs2 hc hH2
  rcases hcase c m hc with ⟨rfl, rfl⟩ | ⟨_, hc1, hc2⟩
  ·rw [hnew] at hH2
   simp only [Option.some.injEq, Blk.cells.injEq, and_true] at hH2
   subst hH2
   exact ⟨C', t, fr, hC', by simp only; omega, by rw [List.length_append, hkl]; simp only; omega, by unfold Unf at hfr ⊢; omega⟩
  ·by_cases hcb : c = b
   ·subst hcb; rw [hdead] at hH2; simp at hH2
   ·rw [hold c hc2 hcb] at hH2
    have hne : m.blk ≠ l.blk := h.alone hb hown hc1 hcb (by rw [hH2]; simp)
    obtain ⟨D, t2, fr2, g1, g2⟩ := h.rw c m cs2 hc1 hH2
    exact ⟨D, t2, fr2, by rw [hoth _ hne]; exact g1, g2⟩
 ·intro c m es j hc hH2
  rcases hcase c m hc with ⟨rfl, rfl⟩ | ⟨_, hc1, hc2⟩
  ·rw [hnew] at hH2; simp at hH2
  ·by_cases hcb : c = b
   ·subst hcb; rw [hdead] at hH2; simp at hH2
   ·rw [hold c hc2 hcb] at hH2
    have hne : m.blk ≠ l.blk := h.alone hb hown hc1 hcb (by rw [hH2]; simp)
    obtain ⟨es', g1, g2⟩ := h.maps c m es j hc1 hH2
    exact ⟨es', by rw [hoth _ hne]; exact g1, g2.mono hle⟩
 ·intro c d m n hc hd he hne ho
  rcases hcase c m hc with ⟨rfl, rfl⟩ | ⟨hc0, hc1, hc2⟩ <;> rcases hcase d n hd with ⟨rfl, rfl⟩ | ⟨hd0, hd1, hd2⟩
  ·exact absurd rfl hne
  ·by_cases hdb : d = b
   ·subst hdb; exact hdead
   ·rw [hold d hd2 hdb]
    exact h.inj b d l n hb hd1 he (Ne.symm hdb) hown
  ·-- c lives in the same memory as the new block: it is dead
   exfalso
   by_cases hcb : c = b
   ·subst hcb
    unfold own at ho
    rw [hdead] at ho
    simp at ho
   ·unfold own at ho
    rw [hold c hc2 hcb] at ho
    have := h.inj b c l m hb hc1 he.symm (Ne.symm hcb) hown
    rw [this] at ho
    simp at ho
  ·by_cases hcb : c = b
   ·subst hcb
    unfold own at ho
    rw [hdead] at ho
    simp at ho
   ·have ho' : own H c := by
     unfold own at ho ⊢
     rwa [hold c hc2 hcb] at ho
    have hdd := h.inj c d m n hc1 hd1 he hne ho'
    by_cases hdb : d = b
    ·subst hdb; exact hdead
    ·rw [hold d hd2 hdb]; exact hdd
 ·intro c hc
  simp only [ext]
  rw [if_neg (by omega)]
 ·intro c hc hn
  exact hold c hc (fun e => by subst e; rw [hb] at hn; cases hn)
 ·intro j hj hno
  exact hoth j (fun e => hno b l hb e.symm hown)
 ·intro c m hc ho
  rcases hcase c m hc with ⟨rfl, rfl⟩ | ⟨hc0, hc1, hc2⟩
  ·exact .inr ⟨b, l, hb, hown, rfl⟩
  ·by_cases hcb : c = b
   ·subst hcb
    unfold own at ho
    rw [hdead] at ho
    simp at ho
   ·refine .inr ⟨c, m, hc1, ?_, rfl⟩
    unfold own at ho ⊢
    rwa [hold c hc2 hcb] at ho
theorem Stp.mapWrite (h : Rel ι H w) {b : Nat} {l : Loc} {es : List Ent} {k : Nat} (hb : ι b = some l) (hH : H[b]? = some (.map es k)) (fs : List Ent) (fs' : Array MapEntry) (k2 : Nat) (hr : ER ι fs fs'.toList) :
  Stp ι H w ι (H.setIfInBounds b (.map fs k2)) { w with heap := w.heap.setIfInBounds l.blk (.map fs' k2) } := by
 have hlt : b < H.size := h.dom b l hb
 have hown : own H b := .inr ⟨es, k, hH⟩
 have hbl := h.bound b l hb
 have hoth : ∀ j, j ≠ l.blk → ({ w with heap := w.heap.setIfInBounds l.blk (.map fs' k2) } : World).heap[j]? = w.heap[j]? := fun j hj => Array.getElem?_setIfInBounds_ne (Ne.symm hj)
 have hset : ∀ c, c ≠ b → (H.setIfInBounds b (.map fs k2))[c]? = H[c]? := fun c hc => Array.getElem?_setIfInBounds_ne (Ne.symm hc)
 have hself : (H.setIfInBounds b (.map fs k2))[b]? = some (.map fs k2) := by simp [hlt]
 have hos : ∀ c, own (H.setIfInBounds b (.map fs k2)) c → own H c := fun c ho => by
  by_cases hbc : c = b
  ·subst hbc; exact hown
  ·unfold own at ho ⊢; rwa [hset c hbc] at ho
 refine ⟨⟨?_, ?_, ?_, ?_, ?_, ?_⟩, .refl ι, fun _ _ => rfl, by simp, by simp, ?_, ?_, ?_, rfl, rfl, rfl⟩
 ·intro c m hc; simpa using h.dom c m hc
 ·intro c m hc; simpa using h.bound c m hc
 ·intro c m cs2 ro hc hH2
  by_cases hcb : c = b
  ·subst hcb; rw [hself] at hH2; simp at hH2
  ·rw [hset c hcb] at hH2
   have hne : m.blk ≠ l.blk := h.alone hb hown hc hcb (by rw [hH2]; simp)
   have g2 := h.cells c m cs2 ro hc hH2
   exact fun i v hv => let ⟨g3, u, g4, g5⟩ := g2 i v hv; ⟨g3, u, by rw [cell_other (hoth _ hne)]; exact g4, g5⟩
 ·intro c m cs2 hc hH2
  by_cases hcb : c = b
  ·subst hcb; rw [hself] at hH2; simp at hH2
  ·rw [hset c hcb] at hH2
   have hne : m.blk ≠ l.blk := h.alone hb hown hc hcb (by rw [hH2]; simp)
   obtain ⟨D, t2, fr2, g1, g2⟩ := h.rw c m cs2 hc hH2
   exact ⟨D, t2, fr2, by rw [hoth _ hne]; exact g1, g2⟩
 ·intro c m es2 k3 hc hH2
  by_cases hcb : c = b
  ·subst hcb
   rw [hself] at hH2
   simp only [Option.some.injEq, Blk.map.injEq] at hH2
   obtain ⟨rfl, rfl⟩ := hH2
   rw [hb] at hc
   cases hc
   exact ⟨fs', by simp [hbl], hr⟩
  ·rw [hset c hcb] at hH2
   have hne : m.blk ≠ l.blk := h.alone hb hown hc hcb (by rw [hH2]; simp)
   obtain ⟨es', g1, g2⟩ := h.maps c m es2 k3 hc hH2
   exact ⟨es', by rw [hoth _ hne]; exact g1, g2⟩
 ·intro c d m n hc hd he hne ho
  have hdd := h.inj c d m n hc hd he hne (hos c ho)
  by_cases hdb : d = b
  ·subst hdb; rw [hH] at hdd; simp at hdd
  ·rw [hset d hdb]; exact hdd
 ·intro c hc hn
  exact hset c (fun e => by subst e; rw [hb] at hn; cases hn)
 ·intro j hj hno
  exact hoth j (fun e => hno b l hb e.symm hown)
 ·intro c m hc ho
  exact .inr ⟨c, m, hc, hos c ho, rfl⟩
end
end Go.Proofs.Ytmgfkifjgajclaa.G
namespace Go.Proofs.Ytmgfkifjgajclaa.G
open Go
section
variable {P : Program} {ι : Inj} {H : Heap} {w : World}
def Sim (P : Program) (ι : Inj) (H : Heap) (w : World) (s : Sem Value) (v : Value) (H' : Heap) : Prop :=
 ∃ ι' c w', s.run P w = .ok c w' ∧ VR ι' v c ∧ Stp ι H w ι' H' w'
theorem Sim.same (h : Rel ι H w) {s : Sem Value} {v c : Value} (hr : s.run P w = .ok c w) (hv : VR ι v c) : Sim P ι H w s v H :=
 ⟨ι, c, w, hr, hv, .refl h⟩
theorem sized_spec {t : TypeId} (h : sized P t = true) : ∃ i z d, P.info? t = some i ∧ i.zero = some z ∧ P.underlying t = some d ∧ 0 < i.size ∧ z.cells.size = i.size ∧ z.cells.toList.all plainV = true ∧ P.cellsOf t = i.size ∧ P.bytesOf t = i.bytes := by
 unfold sized at h
 cases hd : P.underlying t with
 | none => simp [hd] at h
 | some d =>
  cases hinfo : P.info? t with
  | none => simp [hinfo] at h
  | some i =>
   cases hz : i.zero with
   | none => simp [hinfo, hz] at h
   | some z =>
    simp only [hd, hinfo, hz, Option.isSome_some, Option.any_some, Bool.true_and, Bool.and_eq_true, decide_eq_true_eq, beq_iff_eq] at h
    exact ⟨i, z, d, rfl, hz, rfl, h.1, h.2.1, h.2.2, by simp [Program.cellsOf, hinfo], by simp [Program.bytesOf, hinfo]⟩
theorem run_sizeOf {t : TypeId} {i : TypeInfo} (h : P.info? t = some i) (w : World) : (sizeOf t).run P w = .ok i.size w := by simp [sizeOf, typeInfo, h]
theorem run_typeInfo {t : TypeId} {i : TypeInfo} (h : P.info? t = some i) (w : World) : (typeInfo t).run P w = .ok i w := by simp [typeInfo, h]
theorem run_zeroValue {t : TypeId} {i : TypeInfo} {z : Value} (h : P.info? t = some i) (hz : i.zero = some z) (w : World) : (zeroValue t).run P w = .ok z w := by simp [zeroValue, typeInfo, h, hz]
theorem run_isAgg {t : TypeId} {d : TypeDesc} (h : P.underlying t = some d) (w : World) : (isAgg t).run P w = .ok (isAggT P t) w := by
 unfold isAgg isAggT
 rw [Sem.run_bind, run_underlying h w, h]
 cases d <;> simp
theorem zc_of {t : TypeId} {i : TypeInfo} {z : Value} (h : P.info? t = some i) (hz : i.zero = some z) : zc P t = z.cells.toList := by simp [zc, h, hz]
theorem VR_plainV {v : Value} (h : plainV v = true) : VR ι v v := by
 cases v with
 | pointer a => cases a <;> simp_all [plainV, VR]
 | map a => cases a <;> simp_all [plainV, VR]
 | slice a n k =>
  cases a with
  | some a => simp [plainV] at h
  | none =>
   cases n <;> cases k <;> simp_all [plainV, VR]
 | _ => simp_all [plainV, VR]
theorem VRL_plain {l : List Value} (h : l.all plainV = true) : VRL ι l l := by
 induction l with
 | nil => simp [VRL]
 | cons a l ih =>
  simp at h
  simp only [VRL]
  exact ⟨VR_plainV h.1, ih (by simpa using h.2)⟩
theorem plain_one {v : Value} (h : plainV v = true) : one v = true := by cases v <;> simp_all [plainV, one]
theorem VR_const {v : Value} (h : constOk v = true) : VR ι v v := by
 cases v with
 | agg a =>
  simp only [constOk] at h
  simp only [VR]
  refine ⟨a, rfl, VRA_iff.2 (VRL_plain h), ?_⟩
  rw [List.all_eq_true] at h ⊢
  exact fun x hx => plain_one (h x hx)
 | _ => exact VR_plainV (by simpa [constOk] using h)
theorem plains_one {l : List Value} (h : l.all plainV = true) : l.all one = true := by
 rw [List.all_eq_true] at h ⊢
 exact fun x hx => plain_one (h x hx)
structure EnvR (ι : Inj) (nt : Nat) (e : Env) (a : Act) : Prop where
 get : ∀ t, VR ι (get e t) (a.tmps.getD t undef)
 size : a.tmps.size = nt
 defers : a.defers = []
theorem EnvR.mono {ι ι' : Inj} {nt : Nat} {e : Env} {a : Act} (h : EnvR ι nt e a) (hl : Le ι ι') : EnvR ι' nt e a := ⟨fun t => (h.get t).mono hl, h.size, h.defers⟩
theorem EnvR.ev {nt : Nat} {e : Env} {a : Act} (h : EnvR ι nt e a) {x : Operand} (hx : okOpd x = true) : VR ι (G.ev e x) (a.eval x) := by
 cases x with
 | tmp t => exact h.get t
 | const v => exact VR_const (v := v) hx
 | global g => simp [okOpd] at hx
 | func f =>
  simp only [G.ev, Act.eval, VR]
  exact ⟨#[], #[], rfl, VRA_iff.2 (by simp [VRL]), VRA_iff.2 (by simp [VRL])⟩
theorem EnvR.put {nt : Nat} {e : Env} {a : Act} (h : EnvR ι nt e a) (d : Option Nat) (hd : d.all (· < nt) = true) {v c : Value} (hv : VR ι v c) : EnvR ι nt (G.put e d v) (a.put d c) := by
 cases d with
 | none => exact h
 | some d =>
  have hd' : d < a.tmps.size := by rw [h.size]; simpa using hd
  refine ⟨fun t => ?_, by simp [Act.put, h.size], h.defers⟩
  simp only [G.put, G.get, Act.put]
  split
  ·rename_i e; subst e; simpa [hd'] using hv
  ·rename_i hne
   have := h.get t
   simp only [Array.getD_eq_getD_getElem?] at this ⊢
   rwa [Array.getElem?_setIfInBounds_ne (Ne.symm hne)]
theorem EnvR.evs {nt : Nat} {e : Env} {a : Act} (h : EnvR ι nt e a) : ∀ {l : List Operand}, l.all okOpd = true → VRL ι (l.map (G.ev e)) (l.map a.eval)
 | [], _ => by simp [VRL]
 | x :: l, hl => by
  simp at hl
  simp only [List.map_cons, VRL]
  exact ⟨h.ev hl.1, EnvR.evs h (by simpa using hl.2)⟩
theorem build_list {Q : Nat → Value → Prop} : ∀ n, (∀ j, j < n → ∃ u, Q j u) → ∃ us : List Value, us.length = n ∧ ∀ (j : Nat) u, us[j]? = some u → Q j u
 | 0, _ => ⟨[], rfl, by simp⟩
 | n + 1, h => by
  obtain ⟨us, h1, h2⟩ := build_list (Q := Q) n (fun j hj => h j (by omega))
  obtain ⟨u, hu⟩ := h n (by omega)
  refine ⟨us ++ [u], by simp [h1], fun j v hv => ?_⟩
  rw [List.getElem?_append] at hv
  split at hv
  ·exact h2 j v hv
  ·rename_i hj
   have : j = n := by
    have := (List.getElem?_eq_some_iff.1 hv).1
    simp at this
    omega
   subst this
   simp [h1] at hv
   subst hv
   exact hu
theorem rd_spec {b off n : Nat} {vs : List Value} (h : rd H b off n = some vs) : ∃ cs ro, H[b]? = some (.cells cs ro) ∧ off + n ≤ cs.length ∧ vs = (cs.drop off).take n := by
 unfold rd at h
 split at h
 ·rename_i cs ro hH
  split at h
  ·exact ⟨cs, ro, hH, by assumption, by simpa using h.symm⟩
  ·simp at h
 ·simp at h
theorem rd_rel (h : Rel ι H w) {b off n : Nat} {vs : List Value} {l : Loc} (hb : ι b = some l) (hr : rd H b off n = some vs) :
  ∃ us, VRL ι vs us ∧ us.length = n ∧ vs.length = n ∧ vs.all one = true ∧ ∀ (j : Nat) u, us[j]? = some u → w.cell? ⟨l.blk, l.δ + off + j, none⟩ = some u := by
 obtain ⟨cs, ro, hH, hlen, rfl⟩ := rd_spec hr
 have hc := h.cells b l cs ro hb hH
 have hl : ((cs.drop off).take n).length = n := by simp; omega
 have hget : ∀ j, j < n → ∃ v, cs[off + j]? = some v ∧ ((cs.drop off).take n)[j]? = some v := fun j hj => by
  refine ⟨cs[off + j], List.getElem?_eq_getElem (by omega), ?_⟩
  rw [List.getElem?_take, if_pos hj, List.getElem?_drop]
  exact List.getElem?_eq_getElem (by omega)
 obtain ⟨us, h1, h2⟩ := build_list (Q := fun j u => w.cell? ⟨l.blk, l.δ + off + j, none⟩ = some u ∧ ∀ v, ((cs.drop off).take n)[j]? = some v → VR ι v u) n (fun j hj => by
  obtain ⟨v, hv, hv2⟩ := hget j hj
  obtain ⟨_, u, hu, hr⟩ := hc (off + j) v hv
  refine ⟨u, by rw [show l.δ + off + j = l.δ + (off + j) by omega]; exact hu, fun v' hv' => ?_⟩
  rw [hv2] at hv'
  cases hv'
  exact hr)
 refine ⟨us, .of_get (by rw [hl, h1]) fun i v u hv hu => (h2 i u hu).2 v hv, h1, hl, ?_, fun j u hu => (h2 j u hu).1⟩
 rw [List.all_eq_true]
 intro v hv
 obtain ⟨j, hj, rfl⟩ := List.mem_iff_getElem.1 hv
 obtain ⟨v, hv1, hv2⟩ := hget j (by omega)
 have : ((cs.drop off).take n)[j]? = some ((cs.drop off).take n)[j] := List.getElem?_eq_getElem hj
 rw [hv2] at this
 cases this
 exact (hc (off + j) _ hv1).1
theorem VR_agg_of {vs us : List Value} (h : VRL ι vs us) (h1 : vs.all one = true) : VR ι (.agg vs.toArray) (.agg us.toArray) := by
 simp only [VR]
 exact ⟨_, rfl, by simpa [VRA_iff] using h, by simpa using h1⟩
theorem sim_load (h : Rel ι H w) {t : TypeId} (hs : sized P t = true) {p cp v : Value} {H' : Heap} (hp : VR ι p cp) (he : aload (isAggT P t) (P.cellsOf t) p H = some (v, H')) : Sim P ι H w (Instr.loadAt t cp) v H' := by
 obtain ⟨i, z, d, hi, hz, hd, _, _, _, hc, _⟩ := sized_spec hs
 unfold aload at he
 split at he
 ·rename_i b off
  simp only [VR] at hp
  obtain ⟨l, hb, _, rfl⟩ := hp
  split at he
  ·rename_i vs hr
   obtain ⟨us, h1, h2, h3, h4, h5⟩ := rd_rel h hb hr
   have hl := run_loadCells_list (P := P) w ⟨l.blk, l.δ + off, none⟩ us (fun j u hu => by rw [Addr.add_lit]; exact h5 j u hu)
   rw [h2] at hl
   by_cases hag : isAggT P t = true
   ·simp only [hag, if_true, Option.some.injEq, Prod.mk.injEq] at he hl
    obtain ⟨rfl, rfl⟩ := he
    refine Sim.same h (c := .agg us.toArray) ?_ (VR_agg_of h1 h4)
    simp only [Instr.loadAt, Instr.sureAddr, loadVar, Sem.run_bind, Sem.run_pure, Result.andThen_ok, run_isAgg hd, hag, if_true, run_sizeOf hi]
    rw [← hc, hl]
    rfl
   ·have hag' : isAggT P t = false := by simpa using hag
    simp only [hag', Bool.false_eq_true, if_false] at he h2 h3
    match vs, us, he, h1, h2, h3 with
    | [v'], [u], he, h1, h2, h3 =>
     simp at he
     obtain ⟨rfl, rfl⟩ := he
     simp only [VRL] at h1
     refine Sim.same h (c := u) ?_ h1.1
     have h6 := h5 0 u rfl
     simp only [Instr.loadAt, Instr.sureAddr, loadVar, Sem.run_bind, Sem.run_pure, Result.andThen_ok, run_isAgg hd, hag', Bool.false_eq_true, if_false, run_load]
     simp only [Nat.add_zero] at h6
     rw [h6]
  ·simp at he
 ·simp at he
theorem wr_spec {b off : Nat} {vs : List Value} {H' : Heap} (h : wr H b off vs = some H') : ∃ cs, H[b]? = some (.cells cs false) ∧ off + vs.length ≤ cs.length ∧ vs.all one = true ∧ H' = H.setIfInBounds b (.cells (splice cs off vs) false) := by
 unfold wr at h
 split at h
 ·rename_i cs hH
  split at h
  ·rename_i hc
   simp at hc
   exact ⟨cs, hH, hc.1, by simpa using hc.2, by simpa using h.symm⟩
  ·simp at h
 ·simp at h
theorem run_wr (h : Rel ι H w) {b off : Nat} {vs us : List Value} {H' : Heap} {l : Loc} (hb : ι b = some l) (hw : wr H b off vs = some H') (hr : VRL ι vs us) :
  (storeCells ⟨l.blk, l.δ + off, none⟩ us).run P w = .ok () (w.setCells l.blk (l.δ + off) us) ∧ Stp ι H w ι H' (w.setCells l.blk (l.δ + off) us) := by
 obtain ⟨cs, hH, hfit, h1, rfl⟩ := wr_spec hw
 obtain ⟨C, t, fr, hC, hCs, hCl, hfr⟩ := h.rw b l cs hb hH
 have hlen := hr.length
 refine ⟨?_, Stp.write h hb hH off vs us hfit h1 hr⟩
 have := run_storeCells_cells (P := P) l.blk (l.δ + off) us 0 w (fun j hj => by simp [World.cell?, hC]; omega)
  (fun j hj => by
   have := hfr.at (i := l.δ + off + j) (by omega)
   simp only [World.frozen?, hC, Nat.add_zero]
   rw [Bool.eq_false_iff]
   simpa using this) (hr.ones h1)
 simpa using this
theorem sim_store (h : Rel ι H w) {t : TypeId} (hs : sized P t = true) {p cp v cv r : Value} {H' : Heap} (hp : VR ι p cp) (hv : VR ι v cv) (he : astore (P.cellsOf t) p v H = some (r, H')) :
  r = undef ∧ ∃ w', (Instr.storeAt t cp cv).run P w = .ok () w' ∧ Stp ι H w ι H' w' := by
 obtain ⟨i, z, d, hi, hz, hd, _, _, _, hc, _⟩ := sized_spec hs
 unfold astore at he
 split at he
 ·rename_i b off
  simp only [VR] at hp
  obtain ⟨l, hb, _, rfl⟩ := hp
  split at he
  ·rename_i hlen
   split at he
   ·rename_i H2 hw
    simp at he
    obtain ⟨rfl, rfl⟩ := he
    obtain ⟨_, _, _, h1, _⟩ := wr_spec hw
    have hr := hv.cellsL h1
    obtain ⟨g1, g2⟩ := run_wr (P := P) h hb hw hr
    refine ⟨rfl, _, ?_, g2⟩
    have hsz : cv.cells.size = i.size := by rw [← hc, ← hlen, hr.length]; simp
    simp only [Instr.storeAt, Instr.sureAddr, storeVar, Sem.run_bind, Sem.run_pure, Result.andThen_ok, run_sizeOf hi, hsz, ne_eq, not_true_eq_false, if_false]
    exact g1
   ·simp at he
  ·simp at he
 ·simp at he
theorem run_newVar (t : TypeId) (v : Value) (w : World) : (newVar t v).run P w = .ok ⟨w.heap.size, 0, none⟩ (w.alloc (.cells v.cells t)) := by
 rfl
theorem VR_ptr_new (ι : Inj) (H : Heap) (l : Loc) (hl : l.δ = 0) : VR (ext ι H.size l) (.pointer (some ⟨H.size, 0, none⟩)) (.pointer (some ⟨l.blk, 0, none⟩)) := by
 simp only [VR]
 exact ⟨l, ext_new _ _, trivial, by simp [hl]⟩
theorem sim_new_cells (h : Rel ι H w) {cs us : List Value} {r : Value} {H' : Heap} (t : TypeId) (hr : VRL ι cs us) (he : anew cs H = some (r, H')) (s : Sem Value)
  (hs : s.run P w = .ok (.pointer (some ⟨w.heap.size, 0, none⟩)) (w.alloc (.cells us.toArray t))) : Sim P ι H w s r H' := by
 unfold anew at he
 split at he
 ·rename_i h1
  simp at he
  obtain ⟨rfl, rfl⟩ := he
  refine ⟨_, _, _, hs, VR_ptr_new ι H ⟨w.heap.size, 0, us.toArray.size⟩ rfl, ?_⟩
  exact Stp.allocCells h cs us.toArray t h1 (by simp [hr.length]) (fun i v hv => by
   obtain ⟨c, h2, h3⟩ := hr.get hv
   exact ⟨c, by simpa using h2, h3⟩)
 ·simp at he
end
end Go.Proofs.Ytmgfkifjgajclaa.G
namespace Go.Proofs.Ytmgfkifjgajclaa.G
open Go
section
variable {P : Program} {ι : Inj} {H : Heap} {w : World}
theorem run_eqGuard_plain (op : BinOp) (t : TypeId) (x y : Operand) (a b : Value) (h1 : ∀ z, a ≠ .agg z) (h2 : a ≠ .nilIface) : (eqGuard op t x y a b).run P w = .ok () w := by
 cases a <;> first
  | exact absurd rfl h2
  | exact absurd rfl (h1 _)
  | (cases op <;> simp [eqGuard])
theorem abin_spec {op : BinOp} {x y v : Value} (h : abin op x y = some v) : ∃ k a l b, x = .int k a ∧ y = .int l b ∧ (∀ t, (binOp op t x y).run P w = .ok v w) ∧ VR ι v v := by
 unfold abin at h
 split at h
 ·rename_i k a l b
  refine ⟨k, a, l, b, rfl, rfl, fun t => ?_, ?_⟩
  ·cases op <;> simp only [] at h <;>
    first
    | (split at h
       ·simp at h
       ·have : ¬ (b < 0) := by assumption
        simp at h; subst h; simp [binOp, Op.shift, this]; done)
    | (split at h
       ·rename_i hk
        subst hk
        first
        | (simp at h; done)
        | (simp at h; subst h; simp [binOp, Op.intArith, Op.intBits, Op.intCmp]; done)
        | (split at h
           ·simp at h
           ·have : ¬ (b = 0) := by assumption
            simp at h; subst h; simp [binOp, Op.intDiv, this]; done)
       ·simp at h)
  ·cases op <;> simp only [] at h <;> (repeat' split at h) <;> simp at h <;> subst h <;> simp [VR]
 ·simp at h
theorem sim_bin (h : Rel ι H w) {op : BinOp} {x y cx cy v : Value} (t : TypeId) (ox oy : Operand) (hx : VR ι x cx) (hy : VR ι y cy) (he : abin op x y = some v) :
  Sim P ι H w (do eqGuard op t ox oy cx cy; binOp op t cx cy) v H := by
 obtain ⟨k, a, l, b, rfl, rfl, hr, hv⟩ := abin_spec (P := P) (ι := ι) (w := w) he
 simp only [VR] at hx hy
 subst hx; subst hy
 refine Sim.same h (c := v) ?_ hv
 rw [Sem.run_bind, run_eqGuard_plain _ _ _ _ _ _ (by simp) (by simp)]
 exact hr t
theorem aun_spec {op : UnOp} {x v c : Value} (h : aun op x = some v) (hx : VR ι x c) : (Op.unary op c).run P w = .ok v w ∧ VR ι v v := by
 unfold aun at h
 split at h <;> simp at h <;> subst h <;> simp only [VR] at hx <;> subst hx <;> simp [Op.unary, Op.intArith, Op.intBits, VR]
theorem equal_bool {t : TypeId} (ht : P.underlying t = some .bool) (a b : Bool) : (Op.equal t (.bool a) (.bool b)).run P w = .ok (a == b) w := by
 simp only [Op.equal, Op.maxDepth]
 exact run_equalIn_bool' w 9999 t a b ht
theorem sim_eqB (h : Rel ι H w) {t : TypeId} (ht : P.underlying t = some .bool) (neg : Bool) (a b : Bool) (ox oy : Operand) :
  Sim P ι H w (do eqGuard (if neg then .neq else .eql) t ox oy (.bool a) (.bool b); binOp (if neg then .neq else .eql) t (.bool a) (.bool b)) (.bool (if neg then !(a == b) else (a == b))) H := by
 refine Sim.same h (c := .bool (if neg then !(a == b) else (a == b))) ?_ (by simp [VR])
 rw [Sem.run_bind, run_eqGuard_plain _ _ _ _ _ _ (by simp) (by simp)]
 cases neg <;> simp [binOp, equal_bool ht]
theorem sim_eqS (h : Rel ι H w) (t : TypeId) (neg : Bool) (a b : ByteArray) (ox oy : Operand) :
  Sim P ι H w (do eqGuard (if neg then .neq else .eql) t ox oy (.string a) (.string b); binOp (if neg then .neq else .eql) t (.string a) (.string b)) (.bool (if neg then !(a.toList == b.toList) else (a.toList == b.toList))) H := by
 refine Sim.same h (c := .bool (if neg then !(a.toList == b.toList) else (a.toList == b.toList))) ?_ (by simp [VR])
 rw [Sem.run_bind, run_eqGuard_plain _ _ _ _ _ _ (by simp) (by simp)]
 cases neg <;> simp [binOp, Op.stringOp]
section
variable (w)
theorem eqn_ptr (d : Nat) {t e : TypeId} (ht : P.underlying t = some (.pointer e)) (a : Option Addr) : (Op.equalIn (d + 1) t (.pointer a) (.pointer none)).run P w = .ok a.isNone w := by
 cases a <;> simp [Op.equalIn, run_underlying ht]
theorem eqn_slc (d : Nat) {t e : TypeId} (ht : P.underlying t = some (.slice e)) (a : Option Addr) (n k : Nat) : (Op.equalIn (d + 1) t (.slice a n k) (.slice none 0 0)).run P w = .ok a.isNone w := by
 cases a <;> simp [Op.equalIn, run_underlying ht]
theorem eqn_map (d : Nat) {t k e : TypeId} (ht : P.underlying t = some (.map k e)) (a : Option Nat) : (Op.equalIn (d + 1) t (.map a) (.map none)).run P w = .ok a.isNone w := by
 cases a <;> simp [Op.equalIn, run_underlying ht]
theorem eqn_fn (d : Nat) {t : TypeId} {a b c} (ht : P.underlying t = some (.func a b c)) (f : Fn) (x y : Array Value) : (Op.equalIn (d + 1) t (.func f x y) .nilFunc).run P w = .ok false w := by
 simp [Op.equalIn, run_underlying ht]
theorem eqn_nilfn (d : Nat) {t : TypeId} {a b c} (ht : P.underlying t = some (.func a b c)) : (Op.equalIn (d + 1) t .nilFunc .nilFunc).run P w = .ok true w := by
 simp [Op.equalIn, run_underlying ht]
end
theorem equal_nil {t : TypeId} {y : Operand} {k : NilKind} (hn : nilOf (P.underlying t) y = some k) {x cx : Value} {b : Bool} (hx : VR ι x cx) (he : isNil k x = some b) (a : Act) :
  (Op.equal t cx (a.eval y)).run P w = .ok b w ∧ (∀ z, cx ≠ .agg z) ∧ cx ≠ .nilIface ∧ (binOp .eql t cx (a.eval y) = do pure (.bool (← Op.equal t cx (a.eval y)))) ∧ (binOp .neq t cx (a.eval y) = do pure (.bool (!(← Op.equal t cx (a.eval y))))) := by
 unfold nilOf at hn
 split at hn <;> simp at hn <;> subst hn <;> rename_i ht
 ·cases x <;> simp [isNil] at he
  rename_i p
  subst he
  have hp : ∃ q, cx = .pointer q ∧ q.isNone = p.isNone := by
   cases p with
   | none => simp only [VR] at hx; exact ⟨none, hx, rfl⟩
   | some p => simp only [VR] at hx; obtain ⟨l, _, _, rfl⟩ := hx; exact ⟨_, rfl, rfl⟩
  obtain ⟨q, rfl, hq⟩ := hp
  rw [← hq]
  exact ⟨eqn_ptr w 9999 ht q, by simp, by simp, by simp [binOp, Act.eval], by simp [binOp, Act.eval]⟩
 ·cases x <;> simp [isNil] at he
  rename_i p n c
  subst he
  have hp : ∃ q m d, cx = .slice q m d ∧ q.isNone = p.isNone := by
   cases p with
   | none => simp only [VR] at hx; exact ⟨none, 0, 0, hx.2.2, rfl⟩
   | some p =>
    simp only [VR] at hx
    obtain ⟨l, _, _, hx | hx | hx | hx⟩ := hx
    ·exact ⟨_, _, _, hx.2.2, rfl⟩
    ·obtain ⟨_, k', _, _, _, _, rfl⟩ := hx; exact ⟨_, _, _, rfl, rfl⟩
    ·obtain ⟨_, _, a', rfl⟩ := hx; exact ⟨_, _, _, rfl, rfl⟩
    ·obtain ⟨_, _, a', rfl⟩ := hx; exact ⟨_, _, _, rfl, rfl⟩
  obtain ⟨q, m, d, rfl, hq⟩ := hp
  rw [← hq]
  exact ⟨eqn_slc w 9999 ht q m d, by simp, by simp, by simp [binOp, Act.eval], by simp [binOp, Act.eval]⟩
 ·cases x <;> simp [isNil] at he
  rename_i p
  subst he
  have hp : ∃ q, cx = .map q ∧ q.isNone = p.isNone := by
   cases p with
   | none => simp only [VR] at hx; exact ⟨none, hx, rfl⟩
   | some p => simp only [VR] at hx; obtain ⟨l, _, rfl⟩ := hx; exact ⟨_, rfl, rfl⟩
  obtain ⟨q, rfl, hq⟩ := hp
  rw [← hq]
  exact ⟨eqn_map w 9999 ht q, by simp, by simp, by simp [binOp, Act.eval], by simp [binOp, Act.eval]⟩
 ·cases x <;> simp [isNil] at he
  ·subst he
   simp only [VR] at hx
   obtain ⟨_, _, rfl, _⟩ := hx
   exact ⟨eqn_fn w 9999 ht _ _ _, by simp, by simp, by simp [binOp, Act.eval], by simp [binOp, Act.eval]⟩
  ·subst he
   simp only [VR] at hx; subst hx
   exact ⟨eqn_nilfn w 9999 ht, by simp, by simp, by simp [binOp, Act.eval], by simp [binOp, Act.eval]⟩
theorem sim_eqNil (h : Rel ι H w) {t : TypeId} {y : Operand} {k : NilKind} (hn : nilOf (P.underlying t) y = some k) {x cx : Value} {b : Bool} (hx : VR ι x cx) (he : isNil k x = some b) (a : Act) (neg : Bool) (ox oy : Operand) :
  Sim P ι H w (do eqGuard (if neg then .neq else .eql) t ox oy cx (a.eval y); binOp (if neg then .neq else .eql) t cx (a.eval y)) (.bool (if neg then !b else b)) H := by
 obtain ⟨h1, h2, h3, h4, h5⟩ := equal_nil (P := P) (w := w) hn hx he a
 refine Sim.same h (c := .bool (if neg then !b else b)) ?_ (by simp [VR])
 rw [Sem.run_bind, run_eqGuard_plain _ _ _ _ _ _ h2 h3]
 cases neg
 ·simp only [Bool.false_eq_true, if_false, Result.andThen_ok, h4, Sem.run_bind, h1, Sem.run_pure]
 ·simp only [if_true, Result.andThen_ok, h5, Sem.run_bind, h1, Sem.run_pure]
def mkV (P : Program) (t : TypeId) (xs : List Value) : Value := if isAggT P t then .agg xs.toArray else xs.headD undef
theorem aggEq_append : ∀ {a b c d : List Value} {r : Bool}, a.length = c.length → aggEq (a ++ b) (c ++ d) = some r → ∃ r1 r2, aggEq a c = some r1 ∧ aggEq b d = some r2 ∧ r = (r1 && r2)
 | [], b, [], d, r, _, h => ⟨true, r, rfl, h, by simp⟩
 | [], _, _ :: _, _, _, hl, _ => by simp at hl
 | _ :: _, _, [], _, _, hl, _ => by simp at hl
 | x :: a, b, y :: c, d, r, hl, h => by
  simp only [List.cons_append] at h
  unfold aggEq at h
  split at h
  ·rename_i he; simp at he
  ·rename_i k p x' l q y' he1 he2
   simp only [List.cons.injEq] at he1 he2
   obtain ⟨rfl, rfl⟩ := he1
   obtain ⟨rfl, rfl⟩ := he2
   split at h
   ·rename_i hk
    split at h
    ·rename_i r' hr'
     simp at h
     obtain ⟨r1, r2, h1, h2, rfl⟩ := aggEq_append (by simpa using hl) hr'
     exact ⟨p == q && r1, r2, by simp [aggEq, hk, h1], h2, by rw [← h, Bool.and_assoc]⟩
    ·simp at h
   ·simp at h
  ·simp at h
theorem cellsOf_info {t : TypeId} {i : TypeInfo} (h : P.info? t = some i) : P.cellsOf t = i.size := by simp [Program.cellsOf, h]
theorem run_part {t : TypeId} {d : TypeDesc} {i : TypeInfo} (hd : P.underlying t = some d) (hi : P.info? t = some i) (cs : List Value) (off : Nat) (hfit : off + i.size ≤ cs.length) (h1 : isAggT P t = false → i.size = 1) :
  (part t cs.toArray off).run P w = .ok (mkV P t ((cs.drop off).take i.size)) w := by
 unfold part mkV
 rw [Sem.run_bind, run_isAgg hd]
 simp only [Result.andThen_ok]
 by_cases ha : isAggT P t = true
 ·simp only [ha, if_true, Sem.run_bind, run_sizeOf hi, Result.andThen_ok, Sem.run_pure]
  congr 2
  apply Array.ext'
  simp [List.take_drop]
 ·have ha' : isAggT P t = false := by simpa using ha
  have hs := h1 ha'
  simp only [ha', Bool.false_eq_true, if_false]
  have : off < cs.length := by omega
  rw [show cs.toArray[off]? = some cs[off] by simp [this], hs]
  simp [List.take_one, List.head?_drop, this]
theorem eqPlain_facts {d : Nat} {t : TypeId} (h : eqPlain P (d + 1) t = true) : ∃ u i, P.underlying t = some u ∧ P.info? t = some i ∧ (isAggT P t = false → i.size = 1) := by
 unfold eqPlain at h
 split at h
 ·rename_i hu
  simp at h
  obtain ⟨i, hi⟩ := Option.isSome_iff_exists.1 h.2
  exact ⟨_, i, hu, hi, fun _ => by rw [← cellsOf_info hi]; exact h.1⟩
 ·rename_i hu
  simp at h
  obtain ⟨i, hi⟩ := Option.isSome_iff_exists.1 h.1.1.1
  exact ⟨_, i, hu, hi, fun ha => by simp [isAggT, hu] at ha⟩
 ·rename_i hu
  simp at h
  obtain ⟨i, hi⟩ := Option.isSome_iff_exists.1 h.1.1.1
  exact ⟨_, i, hu, hi, fun ha => by simp [isAggT, hu] at ha⟩
 ·simp at h
theorem eqFields_plain (d k : Nat) (hk : d ≤ k) (xs ys : List Value) (w : World)
  (ih : ∀ t, eqPlain P d t = true → ∀ (xs ys : List Value) (r : Bool), xs.length = P.cellsOf t → ys.length = P.cellsOf t → aggEq xs ys = some r → ∀ k w, d ≤ k → (Op.equalIn k t (mkV P t xs) (mkV P t ys)).run P w = .ok r w) :
  ∀ (fs : List Field) (off : Nat) (r : Bool), tiles P fs off xs.length = true → ys.length = xs.length → off ≤ xs.length → (fs.all fun f => f.name != "_" && eqPlain P d f.type) = true → aggEq (xs.drop off) (ys.drop off) = some r →
   (Op.eqFields k xs.toArray ys.toArray fs).run P w = .ok r w
 | [], off, r, ht, hl, _, _, hr => by
  simp [tiles] at ht
  rw [List.drop_eq_nil_of_le (by omega), List.drop_eq_nil_of_le (by omega)] at hr
  simp [aggEq] at hr
  subst hr
  simp [Op.eqFields]
 | f :: fs, off, r, ht, hl, ho, ha, hr => by
  simp only [tiles, Bool.and_eq_true, beq_iff_eq] at ht
  simp only [List.all_cons, Bool.and_eq_true, bne_iff_ne, ne_eq] at ha
  obtain ⟨⟨hn, hp⟩, ha⟩ := ha
  obtain ⟨d, rfl⟩ : ∃ j, d = j + 1 := by
   cases d with
   | zero => simp [eqPlain] at hp
   | succ j => exact ⟨j, rfl⟩
  obtain ⟨u, i, hu, hi, h1⟩ := eqPlain_facts hp
  have hcz := cellsOf_info hi
  have hfit : off + i.size ≤ xs.length := by
   have : ∀ (gs : List Field) (o : Nat), tiles P gs o xs.length = true → o ≤ xs.length := by
    intro gs
    induction gs with
    | nil => intro o h; simp [tiles] at h; omega
    | cons g gs ih =>
     intro o h
     simp only [tiles, Bool.and_eq_true] at h
     have := ih _ h.2
     omega
   have := this fs _ ht.2
   omega
  have hsx : xs.drop off = (xs.drop off).take i.size ++ xs.drop (off + i.size) := by rw [← List.drop_drop, List.take_append_drop]
  have hsy : ys.drop off = (ys.drop off).take i.size ++ ys.drop (off + i.size) := by rw [← List.drop_drop, List.take_append_drop]
  rw [hsx, hsy] at hr
  obtain ⟨r1, r2, hr1, hr2, rfl⟩ := aggEq_append (by simp; omega) hr
  have e1 := ih f.type hp _ _ r1 (by rw [hcz]; simp; omega) (by rw [hcz]; simp; omega) hr1 k w hk
  simp only [Op.eqFields, if_pos hn, Sem.run_bind]
  rw [ht.1, run_part hu hi xs off hfit h1]
  simp only [Result.andThen_ok]
  rw [run_part hu hi ys off (by omega) h1]
  simp only [Result.andThen_ok]
  rw [e1]
  simp only [Result.andThen_ok]
  cases r1 with
  | false => simp
  | true =>
   simp only [Bool.not_true, Bool.false_eq_true, if_false, Bool.true_and]
   exact eqFields_plain (d + 1) k hk xs ys w ih fs (off + i.size) r2 (by rw [← hcz]; exact ht.2) hl (by omega) ha hr2
theorem eqArr_plain (d k : Nat) (hk : d ≤ k) (e : TypeId) (xs ys : List Value) (w : World) {i : TypeInfo} {u : TypeDesc} (hu : P.underlying e = some u) (hi : P.info? e = some i) (h1 : isAggT P e = false → i.size = 1) (hp : eqPlain P d e = true)
  (ih : ∀ t, eqPlain P d t = true → ∀ (xs ys : List Value) (r : Bool), xs.length = P.cellsOf t → ys.length = P.cellsOf t → aggEq xs ys = some r → ∀ k w, d ≤ k → (Op.equalIn k t (mkV P t xs) (mkV P t ys)).run P w = .ok r w) :
  ∀ (n j : Nat) (r : Bool), xs.length = (j + n) * i.size → ys.length = xs.length → aggEq (xs.drop (j * i.size)) (ys.drop (j * i.size)) = some r →
   (forIn (m := Sem) (List.range' j n) ((none, ()) : Option Bool × Unit) (fun q _ => do
    let a ← part e xs.toArray (q * i.size)
    let b ← part e ys.toArray (q * i.size)
    let c ← Op.equalIn k e a b
    if (!c) = true then pure (ForInStep.done (some false, ())) else pure (ForInStep.yield (none, ())))).run P w = .ok (if r then (none, ()) else (some false, ())) w
 | 0, j, r, hx, hy, hr => by
  simp only [Nat.add_zero] at hx
  rw [List.drop_eq_nil_of_le (by omega), List.drop_eq_nil_of_le (by omega)] at hr
  simp [aggEq] at hr
  subst hr
  simp
 | n + 1, j, r, hx, hy, hr => by
  have hcz := cellsOf_info hi
  have hx2 : xs.length = j * i.size + i.size + n * i.size := by rw [hx, Nat.add_mul, Nat.add_mul]; omega
  have hsx : xs.drop (j * i.size) = (xs.drop (j * i.size)).take i.size ++ xs.drop ((j + 1) * i.size) := by rw [Nat.add_mul, Nat.one_mul, ← List.drop_drop, List.take_append_drop]
  have hsy : ys.drop (j * i.size) = (ys.drop (j * i.size)).take i.size ++ ys.drop ((j + 1) * i.size) := by rw [Nat.add_mul, Nat.one_mul, ← List.drop_drop, List.take_append_drop]
  rw [hsx, hsy] at hr
  obtain ⟨r1, r2, hr1, hr2, rfl⟩ := aggEq_append (by simp; omega) hr
  have e1 := ih e hp _ _ r1 (by rw [hcz]; simp; omega) (by rw [hcz]; simp; omega) hr1 k w hk
  simp only [List.range'_succ, List.forIn_cons, Sem.run_bind]
  rw [run_part hu hi xs _ (by omega) h1]
  simp only [Result.andThen_ok]
  rw [run_part hu hi ys _ (by omega) h1]
  simp only [Result.andThen_ok]
  rw [e1]
  simp only [Result.andThen_ok]
  cases r1 with
  | false => simp
  | true =>
   simp only [Bool.not_true, Bool.false_eq_true, if_false, Bool.true_and, Sem.run_pure, Result.andThen_ok]
   exact eqArr_plain d k hk e xs ys w hu hi h1 hp ih n (j + 1) r2 (by rw [hx]; congr 1; omega) hy hr2
theorem run_eqPlain : ∀ (d : Nat) (t : TypeId), eqPlain P d t = true → ∀ (xs ys : List Value) (r : Bool), xs.length = P.cellsOf t → ys.length = P.cellsOf t → aggEq xs ys = some r →
  ∀ k w, d ≤ k → (Op.equalIn k t (mkV P t xs) (mkV P t ys)).run P w = .ok r w
 | 0, _, h => by simp [eqPlain] at h
 | d + 1, t, h => by
  intro xs ys r hx hy hr k w hk
  obtain ⟨k, rfl⟩ : ∃ j, k = j + 1 := ⟨k - 1, by omega⟩
  have hk' : d ≤ k := by omega
  unfold eqPlain at h
  split at h
  ·rename_i hu
   simp at h
   rw [h.1] at hx hy
   have hag : isAggT P t = false := by simp [isAggT, hu]
   match xs, ys, hx, hy, hr with
   | [a], [b], _, _, hr =>
    simp only [mkV, hag, Bool.false_eq_true, if_false, List.headD_cons]
    cases a <;> cases b <;> simp [aggEq] at hr
    obtain ⟨rfl, rfl⟩ := hr
    rw [run_equalIn_int w k t _ _ _ _ hu]
  ·rename_i fs hu
   simp only [Bool.and_eq_true, Bool.not_eq_true'] at h
   obtain ⟨⟨⟨_, hst⟩, ht⟩, ha⟩ := h
   have hag : isAggT P t = true := by simp [isAggT, hu]
   have hfo : P.fieldsOf t = fs := by simp [Program.fieldsOf, hu]
   simp only [mkV, hag, if_true]
   rw [run_equalIn_struct w k t _ _ (by rw [hfo]; exact hu) hst, hfo]
   rw [← hx] at ht
   exact eqFields_plain d k hk' xs ys w (fun t h xs ys r hx hy hr => run_eqPlain d t h xs ys r hx hy hr) fs.toList 0 r ht (by omega) (by omega) ha (by simpa using hr)
  ·rename_i n e hu
   simp only [Bool.and_eq_true, beq_iff_eq] at h
   obtain ⟨⟨⟨_, _⟩, hn⟩, hp⟩ := h
   have hag : isAggT P t = true := by simp [isAggT, hu]
   obtain ⟨d, rfl⟩ : ∃ j, d = j + 1 := by
    cases d with
    | zero => simp [eqPlain] at hp
    | succ j => exact ⟨j, rfl⟩
   obtain ⟨u, i, hue, hie, h1⟩ := eqPlain_facts hp
   have hcz := cellsOf_info hie
   simp only [mkV, hag, if_true]
   have hA := eqArr_plain (d + 1) k hk' e xs ys w hue hie h1 hp (fun t h xs ys r hx hy hr => run_eqPlain (d + 1) t h xs ys r hx hy hr) n 0 r (by rw [hx, hn, hcz]; simp) (by omega) (by simpa using hr)
   simp only [Op.equalIn, Sem.run_bind, run_underlying hu, Result.andThen_ok, run_sizeOf hie]
   simp only [Std.Legacy.Range.forIn_eq_forIn_range', Std.Legacy.Range.size, Nat.sub_zero, Nat.add_one_sub_one, Nat.div_one]
   rw [hA]
   cases r <;> simp
  ·simp at h
end
end Go.Proofs.Ytmgfkifjgajclaa.G
namespace Go.Proofs.Ytmgfkifjgajclaa.G
open Go
section
variable {P : Program} {ι : Inj} {H : Heap} {w : World}
theorem sim_eqAgg (h : Rel ι H w) {t : TypeId} (hp : eqPlain P 20 t = true) (hg : P.eqGuardType P.depth t = false) (hag : isAggT P t = true) (neg : Bool) {a b a' b' : Array Value} {r : Bool} (ha : VR ι (.agg a) (.agg a')) (hb : VR ι (.agg b) (.agg b'))
  (h1 : a.size = P.cellsOf t) (h2 : b.size = P.cellsOf t) (hr : aggEq a.toList b.toList = some r) (ox oy : Operand) :
  Sim P ι H w (do eqGuard (if neg then .neq else .eql) t ox oy (.agg a') (.agg b'); binOp (if neg then .neq else .eql) t (.agg a') (.agg b')) (.bool (if neg then !r else r)) H := by
 have key : ∀ {x y x' y' : List Value} {r : Bool}, aggEq x y = some r → VRL ι x x' → VRL ι y y' → x' = x ∧ y' = y := by
  intro x
  induction x with
  | nil =>
   intro y x' y' r hr hx hy
   cases y with
   | nil =>
    cases x' with
    | nil => cases y' with | nil => exact ⟨rfl, rfl⟩ | cons _ _ => simp [VRL] at hy
    | cons _ _ => simp [VRL] at hx
   | cons _ _ => simp [aggEq] at hr
  | cons p x ih =>
   intro y x' y' r hr hx hy
   cases y with
   | nil => cases p <;> simp [aggEq] at hr
   | cons q y =>
    cases x' with
    | nil => simp [VRL] at hx
    | cons p' x' =>
     cases y' with
     | nil => simp [VRL] at hy
     | cons q' y' =>
      simp only [VRL] at hx hy
      cases p <;> cases q <;> simp [aggEq] at hr
      obtain ⟨_, hr⟩ := hr
      split at hr
      ·rename_i r' hr'
       obtain ⟨rfl, rfl⟩ := ih hr' hx.2 hy.2
       have e1 := hx.1
       have e2 := hy.1
       simp only [VR] at e1 e2
       subst e1; subst e2
       exact ⟨rfl, rfl⟩
      ·simp at hr
 simp only [VR] at ha hb
 obtain ⟨a2, ha1, ha2, _⟩ := ha
 obtain ⟨b2, hb1, hb2, _⟩ := hb
 cases ha1
 cases hb1
 obtain ⟨e1, e2⟩ := key hr (VRA_iff.1 ha2) (VRA_iff.1 hb2)
 obtain rfl : a' = a := by apply Array.ext'; exact e1
 obtain rfl : b' = b := by apply Array.ext'; exact e2
 have hrun := run_eqPlain (P := P) 20 t hp a'.toList b'.toList r (by simpa using h1) (by simpa using h2) hr 10000 w (by omega)
 simp only [mkV, hag, if_true, Array.toArray_toList] at hrun
 refine Sim.same h (c := .bool (if neg then !r else r)) ?_ (by simp [VR])
 rw [Sem.run_bind, run_eqGuard_agg w _ t ox oy a' b' hg]
 cases neg
 ·simp only [Bool.false_eq_true, if_false, Result.andThen_ok]
  rw [run_eql_struct, hrun]
  rfl
 ·simp only [if_true, Result.andThen_ok]
  rw [run_neq_struct, hrun]
  rfl
theorem sim_faddr (h : Rel ι H w) {s : TypeId} {fs : Array Field} {g : Field} (f : Nat) (hs : P.underlying s = some (.struct fs)) (hf : fs[f]? = some g) (hz : sized P g.type = true) {b o : Nat} {c : Value}
  (hx : VR ι (.pointer (some ⟨b, o, none⟩)) c) : Sim P ι H w (Instr.fieldAt s c f) (.pointer (some ⟨b, o + g.offset, none⟩)) H := by
 obtain ⟨i, z, d, hi, _, _, hpos, _⟩ := sized_spec hz
 simp only [VR] at hx
 obtain ⟨l, hb, _, rfl⟩ := hx
 refine Sim.same h (c := .pointer (some ⟨l.blk, l.δ + (o + g.offset), none⟩)) ?_ (by simp only [VR]; exact ⟨l, hb, trivial, rfl⟩)
 simp only [Instr.fieldAt, Sem.run_bind, run_underlying hs, Result.andThen_ok, hf, Instr.sureAddr, Sem.run_pure, fieldPlace, run_sizeOf hi]
 rw [if_neg (by omega)]
 simp [Addr.add_lit, Nat.add_assoc]
theorem sim_field (h : Rel ι H w) {s : TypeId} {fs : Array Field} {g : Field} (f : Nat) (hs : P.underlying s = some (.struct fs)) (hf : fs[f]? = some g) (hz : sized P g.type = true) {cs : Array Value} {c v : Value}
  (hx : VR ι (.agg cs) c)
  (hv : (if isAggT P g.type then some (Value.agg ((cs.toList.drop g.offset).take (P.cellsOf g.type)).toArray) else cs[g.offset]?) = some v) : Sim P ι H w (Instr.field s c f) v H := by
 obtain ⟨i, z, d, hi, _, hd, hpos, _, _, hc, _⟩ := sized_spec hz
 simp only [VR] at hx
 obtain ⟨a', rfl, ha, hone⟩ := hx
 have hl := VRA_iff.1 ha
 have hrun : (Instr.field s (.agg a') f).run P w = (part g.type a' g.offset).run P w := by
  simp only [Instr.field, Sem.run_bind, run_underlying hs, Result.andThen_ok, hf, asAgg, Sem.run_pure]
 by_cases hag : isAggT P g.type = true
 ·rw [if_pos hag] at hv
  simp only [Option.some.injEq] at hv
  subst hv
  refine Sim.same h (c := .agg (a'.extract g.offset (g.offset + i.size))) ?_ ?_
  ·rw [hrun]
   unfold part
   simp only [Sem.run_bind, run_isAgg hd, Result.andThen_ok, hag, if_true, run_sizeOf hi, Sem.run_pure]
  ·rw [hc]
   simp only [VR]
   refine ⟨_, rfl, ?_, ?_⟩
   ·rw [VRA_iff]
    have := (hl.drop g.offset).take i.size
    simpa [List.take_drop] using this
   ·rw [List.all_eq_true] at hone ⊢
    intro x hx
    exact hone x (List.mem_of_mem_drop (List.mem_of_mem_take hx))
 ·have hag' : isAggT P g.type = false := by simpa using hag
  rw [if_neg hag] at hv
  have hv' : cs.toList[g.offset]? = some v := by simpa using hv
  obtain ⟨u, hu, huv⟩ := hl.get hv'
  refine Sim.same h (c := u) ?_ huv
  rw [hrun]
  unfold part
  simp only [Sem.run_bind, run_isAgg hd, Result.andThen_ok, hag', Bool.false_eq_true, if_false]
  rw [show a'[g.offset]? = some u by simpa using hu]
  rfl
theorem asNat_spec {i ci : Value} {j : Nat} (h : asNat i = some j) (hi : VR ι i ci) : ∃ k, ci = .int k (j : Int) := by
 cases i <;> simp [asNat] at h
 simp only [VR] at hi
 subst hi
 rename_i k n
 exact ⟨k, by congr 1; omega⟩
theorem sim_iaddr (h : Rel ι H w) {t e : TypeId} (ht : P.underlying t = some (.slice e)) (hz : sized P e = true) {b o n k j : Nat} {i c ci : Value}
  (hx : VR ι (.slice (some ⟨b, o, none⟩) n k) c) (hi : VR ι i ci) (hj : asNat i = some j) (hlt : j < n) :
  Sim P ι H w (Instr.indexAt t c ci) (.pointer (some ⟨b, o + j * P.cellsOf e, none⟩)) H := by
 obtain ⟨inf, z, d, hinf, _, _, hpos, _, _, hc, _⟩ := sized_spec hz
 obtain ⟨kk, rfl⟩ := asNat_spec hj hi
 simp only [VR] at hx
 obtain ⟨l, hb, _, hx⟩ := hx
 have hcc : ∃ m, c = .slice (some ⟨l.blk, l.δ + o, none⟩) n m := by
  rcases hx with hx | hx | hx | hx
  ·exact ⟨_, hx.2.2⟩
  ·obtain ⟨_, k', _, _, _, _, rfl⟩ := hx; exact ⟨_, rfl⟩
  ·omega
  ·omega
 obtain ⟨m, rfl⟩ := hcc
 refine Sim.same h (c := .pointer (some ⟨l.blk, l.δ + (o + j * P.cellsOf e), none⟩)) ?_ (by simp only [VR]; exact ⟨l, hb, trivial, rfl⟩)
 simp [Instr.indexAt, asIntOf, run_underlying ht, run_sizeOf hinf, Addr.add_lit, hc, Nat.add_assoc, hlt]
theorem sim_iaddrA (h : Rel ι H w) {t e : TypeId} {n : Nat} (ht : P.underlying t = some (.array n e)) (hz : sized P e = true) {b o j : Nat} {i c ci : Value}
  (hx : VR ι (.pointer (some ⟨b, o, none⟩)) c) (hi : VR ι i ci) (hj : asNat i = some j) (hlt : j < n) :
  Sim P ι H w (Instr.indexAt t c ci) (.pointer (some ⟨b, o + j * P.cellsOf e, none⟩)) H := by
 obtain ⟨inf, z, d, hinf, _, _, hpos, _, _, hc, _⟩ := sized_spec hz
 obtain ⟨kk, rfl⟩ := asNat_spec hj hi
 simp only [VR] at hx
 obtain ⟨l, hb, _, rfl⟩ := hx
 refine Sim.same h (c := .pointer (some ⟨l.blk, l.δ + (o + j * P.cellsOf e), none⟩)) ?_ (by simp only [VR]; exact ⟨l, hb, trivial, rfl⟩)
 simp [Instr.indexAt, asIntOf, run_underlying ht, run_sizeOf hinf, Addr.add_lit, hc, Nat.add_assoc, Instr.sureAddr, hlt]
theorem run_sliceBound {x cx : Value} {j y : Nat} (code : BoundsCode) (h : asNat x = some j) (hx : VR ι x cx) (hj : j ≤ y) (w : World) : (Instr.sliceBound cx y code).run P w = .ok j w := by
 obtain ⟨k, rfl⟩ := asNat_spec h hx
 have : (0 : Int) ≤ (j : Int) ∧ (j : Int) ≤ (y : Int) := by omega
 simp [Instr.sliceBound, asIntOf, this]
def OR (ι : Inj) : Option Value → Option Value → Prop
 | none, none => True
 | some a, some b => VR ι a b
 | _, _ => False
theorem run_sliceBounds (isS : Bool) (len cap len' cap' : Nat) {lo hi mx lo' hi' mx' : Option Value} (h1 : OR ι lo lo') (h2 : OR ι hi hi') (h3 : OR ι mx mx') {l h m : Nat} (hno : (mx.isSome && hi.isNone) = false)
  (hm : bnd mx cap = some m) (hh : bnd hi len = some h) (hl : bnd lo 0 = some l) (b1 : l ≤ h) (b2 : h ≤ m) (b3 : m ≤ cap) (hcap : cap ≤ cap') (hlen : len' = len) (w : World) :
  (Instr.sliceBounds isS len' cap' lo' hi' mx').run P w = .ok (l, h, if mx = none then cap' else m) w := by
 subst hlen
 cases mx with
 | none =>
  cases mx' with
  | some _ => simp [OR] at h3
  | none =>
   cases hi with
   | none =>
    cases hi' with
    | some _ => simp [OR] at h2
    | none =>
     simp [bnd] at hm hh
     subst hm; subst hh
     cases lo with
     | none =>
      cases lo' with
      | some _ => simp [OR] at h1
      | none => simp [bnd] at hl; subst hl; simp [Instr.sliceBounds]
     | some lo =>
      cases lo' with
      | none => simp [OR] at h1
      | some lo' =>
       simp [bnd] at hl
       simp [Instr.sliceBounds, run_sliceBound (P := P) .sliceB hl h1 b1]
   | some hi =>
    cases hi' with
    | none => simp [OR] at h2
    | some hi' =>
     simp [bnd] at hm hh
     subst hm
     have e := fun c => run_sliceBound (P := P) (y := cap') c hh h2 (by omega) w
     cases lo with
     | none =>
      cases lo' with
      | some _ => simp [OR] at h1
      | none => simp [bnd] at hl; subst hl; simp [Instr.sliceBounds, e]
     | some lo =>
      cases lo' with
      | none => simp [OR] at h1
      | some lo' =>
       simp [bnd] at hl
       simp [Instr.sliceBounds, e, run_sliceBound (P := P) .sliceB hl h1 b1]
 | some mx =>
  cases mx' with
  | none => simp [OR] at h3
  | some mx' =>
   cases hi with
   | none => simp at hno
   | some hi =>
    cases hi' with
    | none => simp [OR] at h2
    | some hi' =>
     simp [bnd] at hm hh
     have e := fun c => run_sliceBound (P := P) (y := cap') c hm h3 (by omega) w
     have e2 := fun c => run_sliceBound (P := P) (y := m) c hh h2 b2 w
     cases lo with
     | none =>
      cases lo' with
      | some _ => simp [OR] at h1
      | none => simp [bnd] at hl; subst hl; simp [Instr.sliceBounds, e, e2]
     | some lo =>
      cases lo' with
      | none => simp [OR] at h1
      | some lo' =>
       simp [bnd] at hl
       simp [Instr.sliceBounds, e, e2, run_sliceBound (P := P) .slice3C hl h1 b1]
theorem aslice_spec {sz : Nat} {a : Option Addr} {len cap : Nat} {lo hi mx : Option Value} {v : Value} (he : aslice sz (.slice a len cap) lo hi mx = some v) :
  (mx.isSome && hi.isNone) = false ∧ ∃ m h l, bnd mx (capOf len cap) = some m ∧ bnd hi len = some h ∧ bnd lo 0 = some l ∧ l ≤ h ∧ h ≤ m ∧ m ≤ capOf len cap ∧
   ((a = none ∧ v = .slice none 0 0) ∨ ∃ b off, a = some ⟨b, off, none⟩ ∧
     ((UNK ≤ cap ∧ mx = none ∧ cap = UNK + sz ∧ v = .slice (some ⟨b, off + l * sz, none⟩) (h - l) cap) ∨
      (¬(UNK ≤ cap ∧ mx = none) ∧ m = l ∧ v = .slice (some ⟨b, off, none⟩) 0 0) ∨
      (¬(UNK ≤ cap ∧ mx = none) ∧ m ≠ l ∧ v = .slice (some ⟨b, off + l * sz, none⟩) (h - l) (m - l)))) := by
 unfold aslice at he
 simp only at he
 split at he
 ·simp at he
 ·rename_i hno
  refine ⟨by rw [Bool.eq_false_iff]; exact hno, ?_⟩
  split at he
  ·rename_i m h l hm hh hl
   split at he
   ·rename_i hb
    refine ⟨m, h, l, hm, hh, hl, hb.1, hb.2.1, hb.2.2, ?_⟩
    split at he
    ·exact .inl ⟨rfl, by simpa using he.symm⟩
    ·rename_i b off
     refine .inr ⟨b, off, rfl, ?_⟩
     split at he
     ·rename_i hc
      split at he
      ·exact .inl ⟨hc.1, hc.2, by assumption, by simpa using he.symm⟩
      ·simp at he
     ·rename_i hc
      split at he
      ·exact .inr (.inl ⟨hc, by assumption, by simpa using he.symm⟩)
      ·exact .inr (.inr ⟨hc, by assumption, by simpa using he.symm⟩)
    ·simp at he
   ·simp at he
  ·simp at he
theorem sim_slice (h : Rel ι H w) {t e : TypeId} (ht : P.underlying t = some (.slice e)) (hz : sized P e = true) {s c v : Value} {lo hi mx lo' hi' mx' : Option Value} (hs : VR ι s c)
  (h1 : OR ι lo lo') (h2 : OR ι hi hi') (h3 : OR ι mx mx') (he : aslice (P.cellsOf e) s lo hi mx = some v) : Sim P ι H w (Instr.sliceAt t c lo' hi' mx') v H := by
 obtain ⟨inf, z, d, hinf, _, _, hpos, _, _, hc, _⟩ := sized_spec hz
 cases s with
 | slice a len cap =>
  obtain ⟨hno, m, hh, l, hm, hhi, hlo, b1, b2, b3, hv⟩ := aslice_spec he
  have hrun : ∀ (a' : Option Addr) (n' c' : Nat), c = .slice a' n' c' → (Instr.sliceAt t c lo' hi' mx').run P w =
    ((Instr.sliceBounds true n' c' lo' hi' mx').run P w).andThen fun r w' => .ok (.slice (if r.2.2 = r.1 then a' else a'.map (·.add (r.1 * inf.size))) (r.2.1 - r.1) (r.2.2 - r.1)) w' := by
   rintro a' n' c' rfl
   simp only [Instr.sliceAt, Instr.slice, Sem.run_bind, run_underlying ht, Result.andThen_ok, run_sizeOf hinf, Sem.run_pure]
  rcases hv with ⟨rfl, rfl⟩ | ⟨b, off, rfl, hv⟩
  ·simp only [VR] at hs
   obtain ⟨rfl, rfl, rfl⟩ := hs
   have hb := run_sliceBounds (P := P) true 0 0 0 0 h1 h2 h3 hno (by simpa [capOf] using hm) hhi hlo b1 b2 (by simpa [capOf] using b3) (Nat.le_refl _) rfl w
   have hb3 : m ≤ 0 := by simpa [capOf] using b3
   obtain rfl : m = 0 := by omega
   obtain rfl : hh = 0 := by omega
   obtain rfl : l = 0 := by omega
   refine Sim.same h (c := .slice none 0 0) ?_ (by simp [VR])
   rw [hrun _ _ _ rfl, hb]
   simp
  ·simp only [VR] at hs
   obtain ⟨loc, hloc, _, hs⟩ := hs
   rcases hs with ⟨hk, hn, rfl⟩ | ⟨zz, k', hk, hn, hk2, hroom, rfl⟩ | ⟨hk, hn, a', rfl⟩ | ⟨hk, hn, a', rfl⟩
   ·-- a capacity that is known
    have hcu : ¬ UNK ≤ cap := by omega
    rw [capOf, if_neg hcu] at hm b3
    have hb := run_sliceBounds (P := P) true len cap len cap h1 h2 h3 hno hm hhi hlo b1 b2 b3 (Nat.le_refl _) rfl w
    have hmm : (if mx = none then cap else m) = m := by
     split
     ·rename_i hmx; subst hmx; simpa [bnd] using hm
     ·rfl
    rw [hmm] at hb
    rcases hv with ⟨hu, _⟩ | ⟨_, hml, rfl⟩ | ⟨_, hml, rfl⟩
    ·exact absurd hu hcu
    ·refine Sim.same h (c := .slice (some ⟨loc.blk, loc.δ + off, none⟩) 0 0) ?_ (by simp only [VR]; exact ⟨loc, hloc, trivial, .inl ⟨by simp [UNK], Nat.le_refl _, rfl⟩⟩)
     rw [hrun _ _ _ rfl, hb]
     simp [hml]
     omega
    ·refine Sim.same h (c := .slice (some ⟨loc.blk, loc.δ + (off + l * P.cellsOf e), none⟩) (hh - l) (m - l)) ?_ (by simp only [VR]; exact ⟨loc, hloc, trivial, .inl ⟨by omega, by omega, rfl⟩⟩)
     rw [hrun _ _ _ rfl, hb]
     simp [hml, Addr.add_lit, hc, Nat.add_assoc]
   ·-- a capacity that isn't
    have hcu : UNK ≤ cap := by omega
    rw [capOf, if_pos hcu] at hm b3
    have hb := run_sliceBounds (P := P) true len len len k' h1 h2 h3 hno hm hhi hlo b1 b2 b3 hn rfl w
    rcases hv with ⟨_, hmx, hcs, rfl⟩ | ⟨hnn, hml, rfl⟩ | ⟨hnn, hml, rfl⟩
    ·rw [if_pos hmx] at hb
     have hzz : zz = P.cellsOf e := by omega
     subst hzz
     by_cases hkl : k' = l
     ·refine Sim.same h (c := .slice (some ⟨loc.blk, loc.δ + off, none⟩) 0 0) ?_ ?_
      ·rw [hrun _ _ _ rfl, hb]
       simp [hkl]
       omega
      ·simp only [VR]
       exact ⟨loc, hloc, trivial, .inr (.inr (.inl ⟨hcu, by omega, _, rfl⟩))⟩
     ·refine Sim.same h (c := .slice (some ⟨loc.blk, loc.δ + (off + l * P.cellsOf e), none⟩) (hh - l) (k' - l)) ?_ ?_
      ·rw [hrun _ _ _ rfl, hb]
       simp [hkl, Addr.add_lit, hc, Nat.add_assoc]
      ·simp only [VR]
       refine ⟨loc, hloc, trivial, .inr (.inl ⟨P.cellsOf e, k' - l, hcs, by omega, by omega, ?_, rfl⟩)⟩
       have : (k' - l) * P.cellsOf e + l * P.cellsOf e = k' * P.cellsOf e := by rw [← Nat.add_mul]; congr 1; omega
       omega
    ·have hmx : mx ≠ none := fun e => hnn ⟨hcu, e⟩
     rw [if_neg hmx] at hb
     refine Sim.same h (c := .slice (some ⟨loc.blk, loc.δ + off, none⟩) 0 0) ?_ (by simp only [VR]; exact ⟨loc, hloc, trivial, .inl ⟨by simp [UNK], Nat.le_refl _, rfl⟩⟩)
     rw [hrun _ _ _ rfl, hb]
     simp [hml]
     omega
    ·have hmx : mx ≠ none := fun e => hnn ⟨hcu, e⟩
     rw [if_neg hmx] at hb
     refine Sim.same h (c := .slice (some ⟨loc.blk, loc.δ + (off + l * P.cellsOf e), none⟩) (hh - l) (m - l)) ?_ ?_
     ·rw [hrun _ _ _ rfl, hb]
      simp [hml, Addr.add_lit, hc, Nat.add_assoc]
     ·simp only [VR]
      refine ⟨loc, hloc, trivial, .inl ⟨?_, by omega, rfl⟩⟩
      simp [UNK]
      omega
   ·-- an empty one, somewhere
    rw [capOf, if_pos hk] at hm b3
    subst hn
    have hb := run_sliceBounds (P := P) true 0 0 0 0 h1 h2 h3 hno hm hhi hlo b1 b2 b3 (Nat.le_refl _) rfl w
    obtain rfl : m = 0 := by omega
    obtain rfl : hh = 0 := by omega
    obtain rfl : l = 0 := by omega
    refine Sim.same h (c := .slice (some a') 0 0) ?_ ?_
    ·rw [hrun _ _ _ rfl, hb]
     simp
    ·rcases hv with ⟨_, hmx, hcs, rfl⟩ | ⟨hnn, hml, rfl⟩ | ⟨hnn, hml, rfl⟩
     ·simp only [VR]
      exact ⟨loc, hloc, trivial, .inr (.inr (.inl ⟨hk, by trivial, _, rfl⟩))⟩
     ·simp only [VR]
      exact ⟨loc, hloc, trivial, .inr (.inr (.inr ⟨by trivial, by trivial, _, rfl⟩))⟩
     ·exact absurd rfl hml
   ·subst hk; subst hn
    have hcu : ¬ UNK ≤ 0 := by simp [UNK]
    rw [capOf, if_neg hcu] at hm b3
    have hb := run_sliceBounds (P := P) true 0 0 0 0 h1 h2 h3 hno hm hhi hlo b1 b2 b3 (Nat.le_refl _) rfl w
    obtain rfl : m = 0 := by omega
    obtain rfl : hh = 0 := by omega
    obtain rfl : l = 0 := by omega
    refine Sim.same h (c := .slice (some a') 0 0) ?_ ?_
    ·rw [hrun _ _ _ rfl, hb]
     simp
    ·rcases hv with ⟨hu, _⟩ | ⟨hnn, hml, rfl⟩ | ⟨hnn, hml, rfl⟩
     ·exact absurd hu hcu
     ·simp only [VR]
      exact ⟨loc, hloc, trivial, .inr (.inr (.inr ⟨by trivial, by trivial, _, rfl⟩))⟩
     ·exact absurd rfl hml
 | _ => simp [aslice] at he
end
end Go.Proofs.Ytmgfkifjgajclaa.G
namespace Go.Proofs.Ytmgfkifjgajclaa.G
open Go
section
variable {P : Program} {ι : Inj} {H : Heap} {w : World}
theorem sim_sliceArr (h : Rel ι H w) {t e : TypeId} {n : Nat} (ht : P.underlying t = some (.array n e)) (hz : sized P e = true) {a : Addr} {c v : Value} {lo hi mx lo' hi' mx' : Option Value} (hs : VR ι (.pointer (some a)) c)
  (hn : n < UNK) (h1 : OR ι lo lo') (h2 : OR ι hi hi') (h3 : OR ι mx mx') (he : aslice (P.cellsOf e) (.slice (some a) n n) lo hi mx = some v) : Sim P ι H w (Instr.sliceAt t c lo' hi' mx') v H := by
 obtain ⟨inf, z, d, hinf, _, _, hpos, _, _, hc, _⟩ := sized_spec hz
 obtain ⟨hno, m, hh, l, hm, hhi, hlo, b1, b2, b3, hv⟩ := aslice_spec he
 simp only [VR] at hs
 obtain ⟨loc, hloc, hspot, rfl⟩ := hs
 have hcu : ¬ UNK ≤ n := by omega
 rw [capOf, if_neg hcu] at hm b3
 have hb := run_sliceBounds (P := P) false n n n n h1 h2 h3 hno hm hhi hlo b1 b2 b3 (Nat.le_refl _) rfl w
 have hmm : (if mx = none then n else m) = m := by
  split
  ·rename_i hmx; subst hmx; simpa [bnd] using hm
  ·rfl
 rw [hmm] at hb
 rcases hv with ⟨hcon, _⟩ | ⟨b, off, hab, hv⟩
 ·cases hcon
 ·simp only [Option.some.injEq] at hab
  subst hab
  have hrun : (Instr.sliceAt t (.pointer (some ⟨loc.blk, loc.δ + off, none⟩)) lo' hi' mx').run P w = .ok (.slice (some (if m = l then ⟨loc.blk, loc.δ + off, none⟩ else ⟨loc.blk, loc.δ + off + l * inf.size, none⟩)) (hh - l) (m - l)) w := by
   simp only [Instr.sliceAt, Instr.sureAddr, Sem.run_bind, run_underlying ht, Result.andThen_ok, run_sizeOf hinf, Sem.run_pure, hb, Addr.add_lit]
  rcases hv with ⟨hu, _⟩ | ⟨_, hml, rfl⟩ | ⟨_, hml, rfl⟩
  ·exact absurd hu hcu
  ·refine Sim.same h (c := .slice (some ⟨loc.blk, loc.δ + off, none⟩) 0 0) ?_ (by simp only [VR]; exact ⟨loc, hloc, trivial, .inl ⟨by simp [UNK], Nat.le_refl _, rfl⟩⟩)
   rw [hrun, if_pos hml]
   simp [hml]
   omega
  ·refine Sim.same h (c := .slice (some ⟨loc.blk, loc.δ + (off + l * P.cellsOf e), none⟩) (hh - l) (m - l)) ?_ (by simp only [VR]; exact ⟨loc, hloc, trivial, .inl ⟨by omega, by omega, rfl⟩⟩)
   rw [hrun, if_neg hml, hc, Nat.add_assoc]
theorem sim_strAt (h : Rel ι H w) {t : TypeId} (ht : P.underlying t = some .string) {x i cx ci v : Value} (hx : VR ι x cx) (hi : VR ι i ci) (he : strAt x i = some v) : Sim P ι H w (Instr.index t cx ci) v H := by
 unfold strAt at he
 split at he
 ·rename_i s j hj
  obtain ⟨k, rfl⟩ := asNat_spec hj hi
  simp only [VR] at hx
  subst hx
  cases hb : s[j]? with
  | none => rw [hb] at he; simp at he
  | some b =>
   rw [hb] at he
   simp only [Option.map_some, Option.some.injEq] at he
   subst he
   refine Sim.same h (c := .int .u8 (b.toNat : Nat)) ?_ (by simp [VR])
   simp [Instr.index, asIntOf, Sem.run_bind, run_underlying ht, hb]
 ·simp at he
theorem sim_strSl (h : Rel ι H w) {t : TypeId} (ht : P.underlying t = some .string) {x cx v : Value} {lo hi lo' hi' : Option Value} (hx : VR ι x cx) (h1 : OR ι lo lo') (h2 : OR ι hi hi') (he : strSl x lo hi = some v) : Sim P ι H w (Instr.sliceAt t cx lo' hi' none) v H := by
 unfold strSl at he
 split at he
 ·rename_i s
  simp only [VR] at hx
  subst hx
  split at he
  ·rename_i hh l hhi hlo
   split at he
   ·rename_i hc
    simp only [Option.some.injEq] at he
    subst he
    have hb := run_sliceBounds (P := P) (ι := ι) false s.size s.size s.size s.size h1 h2 (mx := none) (mx' := none) (by simp [OR]) rfl (m := s.size) rfl hhi hlo hc.1 hc.2 (Nat.le_refl _) (Nat.le_refl _) rfl w
    refine Sim.same h (c := .string (s.extract l hh)) ?_ (by simp [VR])
    simp [Instr.sliceAt, Instr.slice, Sem.run_bind, run_underlying ht, hb]
   ·simp at he
  ·simp at he
 ·simp at he
theorem sliceCells_rel (h : Rel ι H w) {sz : Nat} {s c : Value} {xs : List Value} {n : Nat} (hs : VR ι s c) (hx : sliceCells H sz s = some xs) (hn : alen s = some n) :
  ∃ us, VRL ι xs us ∧ xs.all one = true ∧ us.length = n * sz ∧ ((c = .slice none 0 0 ∧ n = 0 ∧ us = []) ∨ ∃ a k, c = .slice (some a) n k ∧ ∀ (j : Nat) u, us[j]? = some u → w.cell? (a.add j) = some u) := by
 unfold sliceCells at hx
 split at hx
 ·simp only [VR] at hs
  simp at hx
  simp [alen] at hn
  subst hx; subst hn
  exact ⟨[], by simp [VRL], rfl, by simp, .inl ⟨hs.2.2, rfl, rfl⟩⟩
 ·rename_i b off n' k
  simp [alen] at hn
  subst hn
  simp only [VR] at hs
  obtain ⟨l, hl, _, hs⟩ := hs
  obtain ⟨us, h1, h2, h3, h4, h5⟩ := rd_rel h hl hx
  refine ⟨us, h1, h4, h2, .inr ?_⟩
  have hz : n' = 0 → us = [] := fun e => by subst e; simpa using h2
  rcases hs with ⟨_, _, rfl⟩ | ⟨z, k', _, _, _, _, rfl⟩ | ⟨_, h0, a', rfl⟩ | ⟨_, h0, a', rfl⟩
  ·exact ⟨_, _, rfl, fun j u hu => by rw [Addr.add_lit]; exact h5 j u hu⟩
  ·exact ⟨_, _, rfl, fun j u hu => by rw [Addr.add_lit]; exact h5 j u hu⟩
  ·subst h0; rw [hz rfl]; exact ⟨_, _, rfl, by simp⟩
  ·subst h0; rw [hz rfl]; exact ⟨_, _, rfl, by simp⟩
 ·simp at hx
theorem run_append_nothing {t ty e : TypeId} {i : TypeInfo} (ht : P.underlying t = some (.slice e)) (hi : P.info? e = some i) (base : Option Addr) (sLen sCap : Nat) (hle : sLen ≤ sCap) (x : Value)
  (hx : x = .slice none 0 0 ∨ ∃ a k, x = .slice (some a) 0 k) (w : World) :
  (Builtin.append_ #[t, t] ty #[.slice base sLen sCap, x]).run P w = .ok (.slice base sLen sCap) w := by
 rcases hx with rfl | ⟨a, k, rfl⟩ <;> cases base <;> simp [Builtin.append_, run_underlying ht, sizeOf, typeInfo, hi, Builtin.lenOf, hle, Builtin.firstCells, loadCells, loadCellsFrom, storeCells]
theorem run_append_in {t ty e : TypeId} {i : TypeInfo} (ht : P.underlying t = some (.slice e)) (hi : P.info? e = some i) (g o sLen sCap : Nat) (a : Addr) (n c : Nat) (us : List Value) (hl : us.length = n * i.size)
  (hus : ∀ j v, us[j]? = some v → w.cell? (a.add j) = some v) (hroom : sLen + n ≤ sCap)
  (hst : (storeCells ⟨g, o + sLen * i.size, none⟩ us).run P w = .ok () (w.setCells g (o + sLen * i.size) us)) :
  (Builtin.append_ #[t, t] ty #[.slice (some ⟨g, o, none⟩) sLen sCap, .slice (some a) n c]).run P w = .ok (.slice (some ⟨g, o, none⟩) (sLen + n) sCap) (w.setCells g (o + sLen * i.size) us) := by
 have hf := run_firstCells_some (P := P) w i.size n a n c us hl hus
 simp [Builtin.append_, run_underlying ht, sizeOf, typeInfo, hi, Builtin.lenOf, hroom, hf, Addr.add_lit, hst]
theorem Stp.kill (h : Rel ι H w) {b : Nat} {cs : List Value} (hH : H[b]? = some (.cells cs false)) (hm : ∃ l, ι b = some l) : Stp ι H w ι (H.setIfInBounds b .dead) w := by
 obtain ⟨l, hb⟩ := hm
 have hlt : b < H.size := h.dom b l hb
 have hset : ∀ c, c ≠ b → (H.setIfInBounds b .dead)[c]? = H[c]? := fun c hc => Array.getElem?_setIfInBounds_ne (Ne.symm hc)
 have hself : (H.setIfInBounds b .dead)[b]? = some .dead := by simp [hlt]
 have hos : ∀ c, own (H.setIfInBounds b .dead) c → own H c := fun c ho => by
  by_cases hbc : c = b
  ·subst hbc; exact .inl ⟨cs, hH⟩
  ·unfold own at ho ⊢; rwa [hset c hbc] at ho
 refine ⟨⟨?_, h.bound, ?_, ?_, ?_, ?_⟩, .refl ι, fun _ _ => rfl, by simp, Nat.le_refl _, ?_, fun _ _ _ => rfl, ?_, rfl, rfl, rfl⟩
 ·intro c m hc; simpa using h.dom c m hc
 ·intro c m cs2 ro hc hH2
  by_cases hcb : c = b
  ·subst hcb; rw [hself] at hH2; simp at hH2
  ·rw [hset c hcb] at hH2; exact h.cells c m cs2 ro hc hH2
 ·intro c m cs2 hc hH2
  by_cases hcb : c = b
  ·subst hcb; rw [hself] at hH2; simp at hH2
  ·rw [hset c hcb] at hH2; exact h.rw c m cs2 hc hH2
 ·intro c m es k hc hH2
  by_cases hcb : c = b
  ·subst hcb; rw [hself] at hH2; simp at hH2
  ·rw [hset c hcb] at hH2; exact h.maps c m es k hc hH2
 ·intro c d m n hc hd he hne ho
  by_cases hdb : d = b
  ·subst hdb; exact hself
  ·rw [hset d hdb]; exact h.inj c d m n hc hd he hne (hos c ho)
 ·intro c _ hn
  exact hset c (fun e => by subst e; rw [hb] at hn; cases hn)
 ·intro c m hc ho
  exact .inr ⟨c, m, hc, hos c ho, rfl⟩
theorem Stp.grown (h : Rel ι H w) {olds uolds xs us : List Value} (e : TypeId) (sz n cap : Nat) (rest : Array Value) (h1 : olds.all one = true) (h2 : xs.all one = true) (r1 : VRL ι olds uolds) (r2 : VRL ι xs us)
  (hl : olds.length + xs.length = n * sz) (hcap : n ≤ cap) (hmax : cap ≤ 9223372036854775807) (hrest : rest.size = (cap - n) * sz) :
  ∃ ι', VR ι' (.slice (some ⟨H.size, 0, none⟩) n (UNK + sz)) (.slice (some ⟨w.heap.size, 0, none⟩) n cap) ∧
   Stp ι H w ι' (H.push (.cells (olds ++ xs) false)) (w.drew.alloc (.cells (uolds.toArray ++ us.toArray ++ rest) e)) := by
 have hr := h.drew (w.drawn + 1)
 have hsz : (uolds.toArray ++ us.toArray ++ rest).size = cap * sz := by
  have e1 := r1.length
  have e2 := r2.length
  have : n * sz + (cap - n) * sz = cap * sz := by rw [← Nat.add_mul]; congr 1; omega
  simp
  omega
 have hst := Stp.allocCells (w := w.drew) hr (olds ++ xs) (uolds.toArray ++ us.toArray ++ rest) e (by simp [List.all_append, h1, h2]) (by
   have e1 := r1.length
   have e2 := r2.length
   simp; omega) (fun i v hv => by
   obtain ⟨u, hu, huv⟩ := (r1.append r2).get hv
   refine ⟨u, ?_, huv⟩
   have hlt := (List.getElem?_eq_some_iff.1 hu).1
   have : (uolds.toArray ++ us.toArray ++ rest)[i]? = (uolds ++ us ++ rest.toList)[i]? := by
    rw [← Array.getElem?_toList]; simp
   rw [this, List.getElem?_append_left hlt]
   exact hu)
 refine ⟨_, ?_, hst.of_drew (n := w.drawn + 1)⟩
 simp only [VR]
 refine ⟨_, ext_new _ _, trivial, .inr (.inl ⟨sz, cap, rfl, hcap, hmax, ?_, rfl⟩)⟩
 simp only
 omega
theorem sim_append (h : Rel ι H w) {t ty e : TypeId} (ht : P.underlying t = some (.slice e)) (hz : sized P e = true) {s x cs cx v : Value} {H' : Heap} (hs : VR ι s cs) (hx : VR ι x cx)
  (he : aappend (P.cellsOf e) (P.bytesOf e) s x H = some (v, H')) : Sim P ι H w (Builtin.append_ #[t, t] ty #[cs, cx]) v H' := by
 obtain ⟨i, z, d, hi, hzz, _, hpos, hzs, hzp, hc, hby⟩ := sized_spec hz
 rw [hc, hby] at he
 unfold aappend at he
 split at he
 case h_2 => simp at he
 rename_i xs n hxs hn
 obtain ⟨us, u1, u2, u3, u4⟩ := sliceCells_rel h hx hxs hn
 have hxl : xs.length = n * i.size := by rw [u1.length, u3]
 have hx0 : n = 0 → cx = .slice none 0 0 ∨ ∃ a k, cx = .slice (some a) 0 k := fun h0 => by
  rcases u4 with ⟨rfl, _⟩ | ⟨a, k, rfl, _⟩
  ·exact .inl rfl
  ·subst h0; exact .inr ⟨a, k, rfl⟩
 -- growth
 have grow : ∀ (base : Option Addr) (sLen sCap : Nat) (olds uolds : List Value), cs = .slice base sLen sCap → (base = none → sLen = 0 ∧ sCap = 0) → 0 < n → sCap < sLen + n → fits (sLen + n) i.bytes = true → xs.all one = true →
   olds.all one = true → VRL ι olds uolds → uolds.length = sLen * i.size → (∀ a, base = some a → ∀ (j : Nat) u, uolds[j]? = some u → w.cell? (a.add j) = some u) →
   ∃ ι' w', (Builtin.append_ #[t, t] ty #[cs, cx]).run P w = .ok (.slice (some ⟨w.heap.size, 0, none⟩) (sLen + n) (grownCap w (sLen + n) sCap e)) w' ∧
    VR ι' (.slice (some ⟨H.size, 0, none⟩) (sLen + n) (UNK + i.size)) (.slice (some ⟨w.heap.size, 0, none⟩) (sLen + n) (grownCap w (sLen + n) sCap e)) ∧ Stp ι H w ι' (H.push (.cells (olds ++ xs) false)) w' := by
  intro base sLen sCap olds uolds hcs hbase hn0 hlt hfit hx1 ho1 ho2 ho3 ho4
  simp only [fits, Bool.and_eq_true, decide_eq_true_eq] at hfit
  have hge := grownCap_ge w (sLen + n) sCap e
  have hle := grownCap_le_maxLen w (sLen + n) sCap e (by simp only [maxLen]; omega)
  have hzc : (Builtin.zeroCells z.cells (grownCap w (sLen + n) sCap e - (sLen + n))).size = (grownCap w (sLen + n) sCap e - (sLen + n)) * i.size := by rw [size_zeroCells, hzs]
  obtain ⟨ι', g1, g2⟩ := Stp.grown h (w := w) e i.size (sLen + n) (grownCap w (sLen + n) sCap e) (Builtin.zeroCells z.cells (grownCap w (sLen + n) sCap e - (sLen + n))) ho1 hx1 ho2 u1
   (by rw [ho2.length, ho3, hxl, Nat.add_mul]) hge (by simpa only [maxLen] using hle) hzc
  refine ⟨ι', _, ?_, g1, g2⟩
  rcases u4 with ⟨_, h0, _⟩ | ⟨a, k, rfl, hus⟩
  ·omega
  ·subst hcs
   cases base with
   | none =>
    obtain ⟨rfl, rfl⟩ := hbase rfl
    have hu0 : uolds = [] := by simpa using ho3
    subst hu0
    have hr := run_append_nil (P := P) w t ty e i z ht hi hzz a n k us u3 hus hn0 (by omega) (by simp only [Nat.zero_add] at hfit; omega)
    simp only [Nat.zero_add] at hr ⊢
    rw [hr]
    simp
   | some b =>
    exact run_append_grow (P := P) w t ty e i z ht hi hzz b sLen sCap uolds ho3 (ho4 b rfl) a n k us u3 hus hlt (by omega) (growslice_fits hlt hfit.2)
 split at he
 ·-- nil
  simp only [VR] at hs
  obtain ⟨_, _, rfl⟩ := hs
  split at he
  ·rename_i h0
   simp at he
   obtain ⟨rfl, rfl⟩ := he
   exact Sim.same h (run_append_nothing ht hi none 0 0 (Nat.le_refl _) cx (hx0 h0) w) (by simp [VR])
  ·rename_i h0
   split at he
   ·rename_i hf
    simp only [Bool.and_eq_true] at hf
    simp at he
    obtain ⟨rfl, rfl⟩ := he
    obtain ⟨ι', w', g1, g2, g3⟩ := grow none 0 0 [] [] rfl (fun _ => ⟨rfl, rfl⟩) (by omega) (by omega) (by simpa using hf.1) hf.2 rfl (by simp [VRL]) (by simp) (by simp)
    simp only [Nat.zero_add, List.nil_append] at g1 g2 g3
    exact ⟨ι', _, w', g1, g2, g3⟩
   ·simp at he
 ·rename_i b off len cap
  simp only [VR] at hs
  obtain ⟨l, hl, _, hs⟩ := hs
  split at he
  ·-- nothing comes
   rename_i h0
   simp at he
   obtain ⟨rfl, rfl⟩ := he
   have hs' : VR ι (.slice (some ⟨b, off, none⟩) len cap) cs := by simp only [VR]; exact ⟨l, hl, trivial, hs⟩
   have : ∃ base m k, cs = .slice base m k ∧ m ≤ k := by
    rcases hs with ⟨_, hle, rfl⟩ | ⟨zz, k', _, hle, _, _, rfl⟩ | ⟨_, _, a', rfl⟩ | ⟨_, _, a', rfl⟩
    ·exact ⟨_, _, _, rfl, hle⟩
    ·exact ⟨_, _, _, rfl, hle⟩
    ·exact ⟨_, _, _, rfl, Nat.le_refl _⟩
    ·exact ⟨_, _, _, rfl, Nat.le_refl _⟩
   obtain ⟨base, m, k, rfl, hmk⟩ := this
   exact Sim.same h (run_append_nothing ht hi base m k hmk cx (hx0 h0) w) hs'
  ·rename_i h0
   have hn0 : 0 < n := by omega
   split at he
   ·rename_i hf
    simp only [Bool.and_eq_true] at hf
    obtain ⟨hfit, hx1⟩ := hf
    split at he
    ·-- a capacity that isn't known
     rename_i hunk
     split at he
     ·rename_i hcap
      split at he
      ·rename_i cells hH
       split at he
       ·rename_i hlen
        simp only [Option.some.injEq, Prod.mk.injEq] at he
        obtain ⟨rfl, rfl⟩ := he
        have hrd : rd H b off (len * i.size) = some ((cells.drop off).take (len * i.size)) := by simp [rd, hH, hlen]
        obtain ⟨uo, o1, o2, o3, o4, o5⟩ := rd_rel h hl hrd
        have hkill := Stp.kill h hH ⟨l, hl⟩
        have hgrow : ∀ (a : Addr) (sCap : Nat), cs = .slice (some a) len sCap → sCap < len + n → (∀ (j : Nat) u, uo[j]? = some u → w.cell? (a.add j) = some u) →
          Sim P ι H w (Builtin.append_ #[t, t] ty #[cs, cx]) (.slice (some ⟨H.size, 0, none⟩) (len + n) cap) ((H.setIfInBounds b .dead).push (.cells ((cells.drop off).take (len * i.size) ++ xs) false)) := by
         intro a sCap hcs hlt hcell
         have hsz : (H.setIfInBounds b .dead).size = H.size := by simp
         simp only [fits, Bool.and_eq_true, decide_eq_true_eq] at hfit
         have hge := grownCap_ge w (len + n) sCap e
         have hle := grownCap_le_maxLen w (len + n) sCap e (by simp only [maxLen]; omega)
         have hzc : (Builtin.zeroCells z.cells (grownCap w (len + n) sCap e - (len + n))).size = (grownCap w (len + n) sCap e - (len + n)) * i.size := by rw [size_zeroCells, hzs]
         obtain ⟨ι2, k1, k2⟩ := Stp.grown hkill.rel (w := w) e i.size (len + n) (grownCap w (len + n) sCap e) (Builtin.zeroCells z.cells (grownCap w (len + n) sCap e - (len + n))) o4 hx1 o1 u1
          (by rw [o1.length, o2, hxl, Nat.add_mul]) hge (by simpa only [maxLen] using hle) hzc
         rw [hsz] at k1
         have hrun : (Builtin.append_ #[t, t] ty #[cs, cx]).run P w = .ok (.slice (some ⟨w.heap.size, 0, none⟩) (len + n) (grownCap w (len + n) sCap e)) (w.drew.alloc (.cells (uo.toArray ++ us.toArray ++ Builtin.zeroCells z.cells (grownCap w (len + n) sCap e - (len + n))) e)) := by
          subst hcs
          rcases u4 with ⟨_, h00, _⟩ | ⟨a2, k, rfl, hus⟩
          ·omega
          ·exact run_append_grow (P := P) w t ty e i z ht hi hzz a len sCap uo o2 hcell a2 n k us u3 hus hlt (by omega) (growslice_fits hlt hfit.2)
         exact ⟨ι2, _, _, hrun, by rw [hcap]; exact k1, hkill.trans k2⟩
        rcases hs with ⟨hk, _, _⟩ | ⟨zz, k', hk, hle, hmax, hroom, rfl⟩ | ⟨_, h00, a', rfl⟩ | ⟨hk, _, _⟩
        ·omega
        ·have hzi : zz = i.size := by omega
         subst hzi
         by_cases hin : len + n ≤ k'
         ·-- in place
          have hroom2 : l.δ + off + len * i.size + xs.length ≤ l.tot := by
           have : (len + n) * i.size ≤ k' * i.size := Nat.mul_le_mul_right _ hin
           rw [Nat.add_mul] at this
           omega
          have hg := Stp.graft h hl hH off (len * i.size) xs us (by omega) hroom2 hx1 u1
          obtain ⟨C, tt, fr, hC, hCs, hCl, hfr⟩ := h.rw b l cells hl hH
          have hul := u1.length
          have hst := run_storeCells_cells (P := P) l.blk (l.δ + off + len * i.size) us 0 w (fun j hj => by simp [World.cell?, hC]; omega)
           (fun j hj => by
            have := hfr.at (i := l.δ + off + len * i.size + j) (by omega)
            simp only [World.frozen?, hC, Nat.add_zero]
            rw [Bool.eq_false_iff]
            simpa using this) (u1.ones hx1)
          rcases u4 with ⟨_, h00, _⟩ | ⟨a2, k, rfl, hus⟩
          ·omega
          ·have hr := run_append_in (P := P) (ty := ty) ht hi l.blk (l.δ + off) len k' a2 n k us u3 hus hin (by simpa using hst)
           refine ⟨_, _, _, hr, ?_, hg⟩
           simp only [VR]
           refine ⟨_, ext_new _ _, trivial, .inr (.inl ⟨i.size, k', hcap, hin, hmax, by simpa using hroom, by simp⟩)⟩
         ·exact hgrow _ k' rfl (by omega) (fun j u hu => by rw [Addr.add_lit]; exact o5 j u hu)
        ·subst h00
         have hu0 : uo = [] := by simpa using o2
         exact hgrow a' 0 rfl (by omega) (by simp [hu0])
        ·simp [UNK] at hunk; omega
       ·simp at he
      ·simp at he
     ·simp at he
    ·rename_i hunk
     split at he
     ·-- room that is known
      rename_i hin
      split at he
      ·rename_i H2 hw
       simp only [Option.some.injEq, Prod.mk.injEq] at he
       obtain ⟨rfl, rfl⟩ := he
       rcases hs with ⟨hk, hle, rfl⟩ | ⟨zz, k', hk, _, _, _, _⟩ | ⟨hk, _, _⟩ | ⟨hk, h00, _⟩
       ·have hul := u1.length
        obtain ⟨g1, g2⟩ := run_wr (P := P) h hl hw u1
        rcases u4 with ⟨_, h00, _⟩ | ⟨a2, k, rfl, hus⟩
        ·omega
        ·have hr := run_append_in (P := P) (ty := ty) ht hi l.blk (l.δ + off) len cap a2 n k us u3 hus hin (by simpa [Nat.add_assoc] using g1)
         refine ⟨_, _, _, hr, ?_, by simpa [Nat.add_assoc] using g2⟩
         simp only [VR]
         exact ⟨l, hl, trivial, .inl ⟨hk, hin, rfl⟩⟩
       ·omega
       ·omega
       ·omega
      ·simp at he
     ·rename_i hin
      split at he
      ·rename_i old hrd
       simp only [Option.some.injEq, Prod.mk.injEq] at he
       obtain ⟨rfl, rfl⟩ := he
       obtain ⟨uo, o1, o2, o3, o4, o5⟩ := rd_rel h hl hrd
       rcases hs with ⟨hk, hle, rfl⟩ | ⟨zz, k', hk, _, _, _, _⟩ | ⟨hk, _, _⟩ | ⟨hk, h00, a', rfl⟩
       ·obtain ⟨ι', w', g1, g2, g3⟩ := grow _ len cap old uo rfl (by simp) hn0 (by omega) hfit hx1 o4 o1 o2 (fun a' ha' => by cases ha'; exact fun j u hu => by rw [Addr.add_lit]; exact o5 j u hu)
        exact ⟨ι', _, w', g1, g2, g3⟩
       ·omega
       ·omega
       ·subst hk; subst h00
        have hu0 : uo = [] := by simpa using o2
        obtain ⟨ι', w', g1, g2, g3⟩ := grow _ 0 0 old uo rfl (by simp) hn0 (by omega) hfit hx1 o4 o1 o2 (fun a' ha' => by simp [hu0])
        exact ⟨ι', _, w', g1, g2, g3⟩
      ·simp at he
   ·simp at he
 ·simp at he
end
end Go.Proofs.Ytmgfkifjgajclaa.G
namespace Go.Proofs.Ytmgfkifjgajclaa.G
open Go
section
variable {P : Program} {ι : Inj} {H : Heap} {w : World}
theorem foldl_set (off : Nat) : ∀ (us : List Value) (k : Nat) (A : List Value), off + k + us.length ≤ A.length →
  (us.zipIdx k).foldl (fun (cs : Array Value) (p : Value × Nat) => cs.setIfInBounds (off + p.2) p.1) A.toArray = (A.take (off + k) ++ us ++ A.drop (off + k + us.length)).toArray
 | [], k, A, _ => by simp
 | u :: us, k, A, h => by
  simp only [List.zipIdx_cons, List.foldl_cons, List.length_cons] at h ⊢
  have e : A.toArray.setIfInBounds (off + k) u = (A.set (off + k) u).toArray := by simp
  rw [e, foldl_set off us (k + 1) (A.set (off + k) u) (by simp; omega)]
  have := list_seg_step A (off + k) u us (by omega)
  rw [show off + (k + 1) = off + k + 1 by omega]
  rw [this]
theorem VRL.splice {a b vs us : List Value} (h : VRL ι a b) (k : VRL ι vs us) (off : Nat) : VRL ι (G.splice a off vs) (G.splice b off us) := by
 unfold G.splice
 rw [← k.length]
 exact ((h.take off).append k).append (h.drop _)
def placesOf (P : Program) (fs : Array Field) (i : Nat) : Option (Nat × Nat) := (fs[i]?).map fun (f : Field) => (f.offset, P.cellsOf f.type)
def PartsOK (place : Nat → Option (Nat × Nat)) : List (Nat × Operand) → List (Nat × Nat × Operand) → Prop
 | [], [] => True
 | (i, x) :: l, (o, s, y) :: m => x = y ∧ okOpd x = true ∧ place i = some (o, s) ∧ PartsOK place l m
 | _, _ => False
theorem fill_rel {nt : Nat} {e : Env} {a : Act} (hE : EnvR ι nt e a) (place : Nat → Option (Nat × Nat)) : ∀ (l : List (Nat × Operand)) (m : List (Nat × Nat × Operand)), PartsOK place l m →
  ∀ (cells cs cells' : List Value), VRL ι cells cells' → fillL cells (evs e m) = some cs → ∃ cs', Instr.fill place cells'.toArray (l.map fun p => (p.1, a.eval p.2)) = some cs'.toArray ∧ VRL ι cs cs'
 | [], [], _, cells, cs, cells', hc, hf => by
  simp [evs, fillL] at hf
  subst hf
  exact ⟨cells', by simp [Instr.fill], hc⟩
 | [], _ :: _, h, _, _, _, _, _ => by simp [PartsOK] at h
 | _ :: _, [], h, _, _, _, _, _ => by simp [PartsOK] at h
 | (i, x) :: l, (o, s, y) :: m, h, cells, cs, cells', hc, hf => by
  simp only [PartsOK] at h
  obtain ⟨rfl, hx, hp, hrest⟩ := h
  simp only [evs, List.map_cons, fillL] at hf
  split at hf
  ·rename_i hcond
   obtain ⟨h1, h2, h3⟩ := hcond
   have hv := hE.ev hx
   have hr := hv.cellsL h3
   have hlen := hr.length
   have hl2 := hc.length
   obtain ⟨cs', g1, g2⟩ := fill_rel hE place l m hrest _ cs _ (hc.splice hr o) hf
   refine ⟨cs', ?_, g2⟩
   simp only [List.map_cons, Instr.fill, hp]
   have hsz : (a.eval x).cells.size = s := by rw [← h1, hlen]; simp
   rw [if_neg (by simp [hsz]; omega)]
   have hfold := foldl_set o (a.eval x).cells.toList 0 cells' (by rw [← hlen, h1]; omega)
   simp only [Nat.add_zero] at hfold
   rw [← Array.foldl_toList, Array.toList_zipIdx, hfold]
   exact g1
  ·simp at hf
theorem run_mapM_list {α β : Type} (g : α → Sem β) (f : α → β) : ∀ (l : List α) (w : World), (∀ x ∈ l, ∀ w, (g x).run P w = .ok (f x) w) → (l.mapM g).run P w = .ok (l.map f) w
 | [], w, _ => by simp
 | x :: l, w, h => by
  simp only [List.mapM_cons, Sem.run_bind, h x (by simp) w, Result.andThen_ok, run_mapM_list g f l w (fun y hy => h y (by simp [hy])), Sem.run_pure, List.map_cons]
theorem sim_build (h : Rel ι H w) {nt : Nat} {e : Env} {a : Act} (hE : EnvR ι nt e a) {t : TypeId} (hz : sized P t = true) {parts : Array (Nat × Operand)} {ps : List (Nat × Nat × Operand)} {fs : Array Field} (ht : P.underlying t = some (.struct fs))
  (hfs : (fs.toList.all fun f => (P.info? f.type).isSome) = true) (hps : PartsOK (placesOf P fs) parts.toList ps) {cs : List Value} (hf : fillL (zc P t) (evs e ps) = some cs) (hone : cs.all one = true) :
  Sim P ι H w (Instr.build t (parts.map fun p => (p.1, a.eval p.2))) (.agg cs.toArray) H := by
 obtain ⟨i, z, d, hi, hzz, _, hpos, hzs, hzp, hc, _⟩ := sized_spec hz
 rw [zc_of hi hzz] at hf
 obtain ⟨cs', g1, g2⟩ := fill_rel hE _ parts.toList ps hps z.cells.toList cs z.cells.toList (VRL_plain hzp) hf
 refine Sim.same h (c := .agg cs'.toArray) ?_ (VR_agg_of g2 hone)
 have hpl : (fs.mapM (m := Sem) fun (f : Field) => do pure (f.offset, ← sizeOf f.type)).run P w = .ok (fs.map fun (f : Field) => (f.offset, P.cellsOf f.type)) w := by
  rw [Array.mapM_eq_mapM_toList, Sem.run_map]
  rw [run_mapM_list _ (fun f : Field => (f.offset, P.cellsOf f.type)) fs.toList w (fun f hf w => by
   have := List.all_eq_true.1 hfs f hf
   obtain ⟨j, hj⟩ := Option.isSome_iff_exists.1 this
   simp [run_sizeOf hj, cellsOf_info hj])]
  simp only [Result.andThen_ok]
  congr 1
  apply Array.ext'
  simp
 simp only [Instr.build, Sem.run_bind, run_zeroValue hi hzz, Result.andThen_ok, run_underlying ht, hpl]
 have hpl2 : (fun i => (fs.map fun (f : Field) => (f.offset, P.cellsOf f.type))[i]?) = placesOf P fs := by
  funext i
  simp [placesOf]
 rw [hpl2]
 simp only [Array.toArray_toList] at g1
 have hpt : (parts.map fun p => (p.1, a.eval p.2)).toList = parts.toList.map fun p => (p.1, a.eval p.2) := by simp
 rw [hpt, g1]
 rfl
theorem sim_buildA (h : Rel ι H w) {nt : Nat} {e : Env} {a : Act} (hE : EnvR ι nt e a) {t el : TypeId} {n : Nat} (hz : sized P t = true) (hze : sized P el = true) {parts : Array (Nat × Operand)} {ps : List (Nat × Nat × Operand)} (ht : P.underlying t = some (.array n el))
  (hps : PartsOK (fun i => some (i * P.cellsOf el, P.cellsOf el)) parts.toList ps) {cs : List Value} (hf : fillL (zc P t) (evs e ps) = some cs) (hone : cs.all one = true) :
  Sim P ι H w (Instr.build t (parts.map fun p => (p.1, a.eval p.2))) (.agg cs.toArray) H := by
 obtain ⟨i, z, d, hi, hzz, _, hpos, hzs, hzp, hc, _⟩ := sized_spec hz
 obtain ⟨j, _, _, hj, _, _, _, _, _, hcj, _⟩ := sized_spec hze
 rw [zc_of hi hzz] at hf
 obtain ⟨cs', g1, g2⟩ := fill_rel hE _ parts.toList ps hps z.cells.toList cs z.cells.toList (VRL_plain hzp) hf
 refine Sim.same h (c := .agg cs'.toArray) ?_ (VR_agg_of g2 hone)
 simp only [Instr.build, Sem.run_bind, run_zeroValue hi hzz, Result.andThen_ok, run_underlying ht, run_sizeOf hj]
 simp only [Array.toArray_toList, hcj] at g1
 have hpt : (parts.map fun p => (p.1, a.eval p.2)).toList = parts.toList.map fun p => (p.1, a.eval p.2) := by simp
 rw [hpt, g1]
 rfl
theorem reps_succ (n : Nat) (z : List Value) : reps (n + 1) z = z ++ reps n z := by simp [reps, List.replicate_succ]
theorem reps_all (n : Nat) (z : List Value) (p : Value → Bool) (h : z.all p = true) : (reps n z).all p = true := by
 induction n with
 | zero => simp [reps]
 | succ n ih => rw [reps_succ, List.all_append, h, ih]; rfl
theorem zeros_reps (z : Array Value) : ∀ n, ((Array.range (n * z.size)).map fun i => z[i % z.size]!).toList = reps n z.toList := by
 intro n
 apply List.ext_getElem?
 intro i
 have key : ∀ n i, (reps n z.toList)[i]? = if i < n * z.size then some (z[i % z.size]!) else none := by
  intro n
  induction n with
  | zero => intro i; simp [reps]
  | succ n ih =>
   intro i
   rw [reps_succ, List.getElem?_append]
   simp only [Array.length_toList]
   split
   ·rename_i hi
    rw [if_pos (by rw [Nat.add_mul]; omega), Nat.mod_eq_of_lt hi]
    simp [hi]
   ·rename_i hi
    rw [ih, Nat.add_mul, Nat.one_mul]
    have : (i - z.size) % z.size = i % z.size := by
     conv => rhs; rw [show i = (i - z.size) + z.size by omega, Nat.add_mod_right]
    rw [this]
    by_cases hc : i - z.size < n * z.size
    ·rw [if_pos hc, if_pos (by omega)]
    ·rw [if_neg hc, if_neg (by omega)]
 rw [key]
 simp only [Array.toList_map, Array.toList_range, List.getElem?_map]
 by_cases hi : i < n * z.size
 ·simp [hi]
 ·simp [hi]
theorem run_bslice {nt : Nat} {e : Env} {a : Act} (hE : EnvR ι nt e a) {t el : TypeId} {n : Nat} (hz : sized P el = true) (hn : n * P.cellsOf el ≤ 65536) {parts : Array (Nat × Operand)} {ps : List (Nat × Nat × Operand)} (ht : P.underlying t = some (.slice el))
  (hps : PartsOK (fun i => some (i * P.cellsOf el, P.cellsOf el)) parts.toList ps) {cs : List Value} (hf : fillL (reps n (zc P el)) (evs e ps) = some cs) :
  ∃ cs', VRL ι cs cs' ∧ n < UNK ∧ (Instr.buildSlice t n (parts.map fun p => (p.1, a.eval p.2))).run P w = .ok (.slice (some ⟨w.heap.size, 0, none⟩) n n) (w.alloc (.cells cs'.toArray el)) := by
 obtain ⟨i, z, d, hi, hzz, _, hpos, hzs, hzp, hc, _⟩ := sized_spec hz
 rw [zc_of hi hzz] at hf
 rw [hc] at hn hps
 obtain ⟨cs', g1, g2⟩ := fill_rel hE _ parts.toList ps hps _ cs _ (VRL_plain (reps_all n _ _ hzp)) hf
 have hzr := zeros_reps z.cells n
 have hpt : (parts.map fun p => (p.1, a.eval p.2)).toList = parts.toList.map fun p => (p.1, a.eval p.2) := by simp
 have hun : n < UNK := by
  have : n ≤ n * i.size := Nat.le_mul_of_pos_right _ hpos
  simp [UNK]; omega
 refine ⟨cs', g2, hun, ?_⟩
 simp only [Instr.buildSlice, Sem.run_bind, run_underlying ht, Result.andThen_ok, run_sizeOf hi]
 rw [if_neg (by simp; omega)]
 rw [Sem.run_ite]
 split
 ·rename_i h0
  have hn0 : n = 0 := by
   rcases Nat.mul_eq_zero.1 h0 with h | h
   ·exact h
   ·omega
  subst hn0
  have hinit : ((Array.range (0 * i.size)).map fun j => (#[] : Array Value)[j % (#[] : Array Value).size]!) = (reps 0 z.cells.toList).toArray := by simp [reps]
  simp only [Sem.run_bind, Sem.run_pure, Result.andThen_ok]
  rw [hinit, hpt, g1]
  rfl
 ·have hinit : ((Array.range (n * i.size)).map fun j => z.cells[j % z.cells.size]!) = (reps n z.cells.toList).toArray := by
   rw [hzs] at hzr
   apply Array.ext'
   rw [hzs, hzr]
  simp only [Sem.run_bind, run_zeroValue hi hzz, Sem.run_pure, Result.andThen_ok]
  rw [hinit, hpt, g1]
  rfl
theorem sim_bslice (h : Rel ι H w) {nt : Nat} {e : Env} {a : Act} (hE : EnvR ι nt e a) {t el : TypeId} {n : Nat} (hz : sized P el = true) (hn : n * P.cellsOf el ≤ 65536) {parts : Array (Nat × Operand)} {ps : List (Nat × Nat × Operand)} (ht : P.underlying t = some (.slice el))
  (hps : PartsOK (fun i => some (i * P.cellsOf el, P.cellsOf el)) parts.toList ps) {cs : List Value} (hf : fillL (reps n (zc P el)) (evs e ps) = some cs) (hone : cs.all one = true) :
  Sim P ι H w (Instr.buildSlice t n (parts.map fun p => (p.1, a.eval p.2))) (.slice (some ⟨H.size, 0, none⟩) n n) (H.push (.cells cs false)) := by
 obtain ⟨cs', g2, hun, hr⟩ := run_bslice (P := P) (w := w) hE hz hn ht hps hf
 have hst := Stp.allocCells h cs cs'.toArray el hone (by simp [g2.length]) (fun i v hv => by
   obtain ⟨c, h2, h3⟩ := g2.get hv
   exact ⟨c, by simpa using h2, h3⟩)
 refine ⟨_, .slice (some ⟨w.heap.size, 0, none⟩) n n, _, hr, ?_, hst⟩
 simp only [VR]
 exact ⟨_, ext_new _ _, trivial, .inl ⟨hun, Nat.le_refl _, rfl⟩⟩
end
end Go.Proofs.Ytmgfkifjgajclaa.G
namespace Go.Proofs.Ytmgfkifjgajclaa.G
open Go
section
variable {P : Program} {ι : Inj} {H : Heap} {w : World}
theorem run_mkslice {t el : TypeId} (hz : sized P el = true) (ht : P.underlying t = some (.slice el)) {l c cl cc : Value} {n m : Nat} (hl : VR ι l cl) (hc : VR ι c cc) (hn : asNat l = some n) (hm : asNat c = some m)
  (hle : n ≤ m) (hf : fits m (P.bytesOf el) = true) : m < UNK ∧ VRL ι (reps m (zc P el)) (reps m (zc P el)) ∧ (reps m (zc P el)).all one = true ∧ (Instr.makeSlice t cl cc).run P w = .ok (.slice (some ⟨w.heap.size, 0, none⟩) n m) (w.alloc (.cells (reps m (zc P el)).toArray el)) := by
 obtain ⟨i, z, d, hi, hzz, _, hpos, hzs, hzp, hcz, hby⟩ := sized_spec hz
 obtain ⟨k1, rfl⟩ := asNat_spec hn hl
 obtain ⟨k2, rfl⟩ := asNat_spec hm hc
 simp only [fits, Bool.and_eq_true, decide_eq_true_eq] at hf
 rw [hby] at hf
 have w1 : IntKind.i64.wrap (n : Int) = n := by simp [IntKind.wrap, IntKind.bits, IntKind.signed]; omega
 have w2 : IntKind.i64.wrap (m : Int) = m := by simp [IntKind.wrap, IntKind.bits, IntKind.signed]; omega
 have hzr := zeros_reps z.cells m
 have hinit : ((Array.range (m * i.size)).map fun j => z.cells[j % z.cells.size]!) = (reps m z.cells.toList).toArray := by
  rw [hzs] at hzr
  apply Array.ext'
  rw [hzs, hzr]
 have hnt : ¬ ((i.bytes : Int) * (m : Int) > 2 ^ 48) := by
  have e : (i.bytes : Int) * (m : Int) = ((m * i.bytes : Nat) : Int) := by rw [Int.natCast_mul, Int.mul_comm]
  rw [e]
  have : (2 : Int) ^ 48 = 281474976710656 := by decide
  rw [this]
  omega
 rw [zc_of hi hzz]
 have hun : m < UNK := by simp [UNK]; omega
 refine ⟨hun, VRL_plain (reps_all m _ _ hzp), plains_one (reps_all m _ _ hzp), ?_⟩
 have hneg1 : ¬ ((m : Int) < 0) := by omega
 have hneg2 : ¬ ((n : Int) < 0) := by omega
 have hneg3 : ¬ ((n : Int) > (m : Int)) := by omega
 simp only [Instr.makeSlice, Sem.run_bind, run_underlying ht, Result.andThen_ok, asInt, asIntOf, Sem.run_pure, run_typeInfo hi, w1, w2]
 rw [if_neg (by simp [hneg1, hneg2, hneg3]; simpa using hnt)]
 simp only [Sem.run_bind, run_askRoom, Result.andThen_ok, run_sizeOf hi]
 rw [Sem.run_ite]
 split
 ·rename_i h0
  have hm0 : m = 0 := by
   rcases Nat.mul_eq_zero.1 h0 with h | h
   ·simpa using h
   ·omega
  subst hm0
  have hinit0 : ((Array.range ((((0 : Nat) : Int).toNat) * i.size)).map fun j => (#[] : Array Value)[j % (#[] : Array Value).size]!) = (reps 0 z.cells.toList).toArray := by simp [reps]
  simp only [Sem.run_bind, Sem.run_pure, Result.andThen_ok]
  rw [hinit0]
  rfl
 ·simp only [Sem.run_bind, run_zeroValue hi hzz, Sem.run_pure, Result.andThen_ok, Int.toNat_natCast]
  rw [hinit]
  rfl
theorem sim_mkslice (h : Rel ι H w) {t el : TypeId} (hz : sized P el = true) (ht : P.underlying t = some (.slice el)) {l c cl cc : Value} {n m : Nat} (hl : VR ι l cl) (hc : VR ι c cc) (hn : asNat l = some n) (hm : asNat c = some m)
  (hle : n ≤ m) (hf : fits m (P.bytesOf el) = true) : Sim P ι H w (Instr.makeSlice t cl cc) (.slice (some ⟨H.size, 0, none⟩) n m) (H.push (.cells (reps m (zc P el)) false)) := by
 obtain ⟨hun, hv, h1, hr⟩ := run_mkslice (P := P) (w := w) hz ht hl hc hn hm hle hf
 have hst := Stp.allocCells h (reps m (zc P el)) (reps m (zc P el)).toArray el h1 (by simp) (fun i v hv2 => by
  obtain ⟨u, h2, h3⟩ := hv.get hv2
  exact ⟨u, by simpa using h2, h3⟩)
 refine ⟨_, .slice (some ⟨w.heap.size, 0, none⟩) n m, _, hr, ?_, hst⟩
 simp only [VR]
 exact ⟨_, ext_new _ _, trivial, .inl ⟨hun, hle, rfl⟩⟩
theorem VR_slice_less {a : Option Addr} {n k c : Nat} {u : Value} (hk : k ≤ n) (h : VR ι (.slice a n c) u) : ∃ a' c', u = .slice a' n c' ∧ (a = none → a' = none ∧ n = 0 ∧ c' = 0) ∧ VR ι (.slice a k (if a = none then 0 else c)) (.slice a' k c') := by
 cases a with
 | none =>
  simp only [VR] at h
  obtain ⟨rfl, rfl, rfl⟩ := h
  obtain rfl : k = 0 := by omega
  exact ⟨none, 0, rfl, fun _ => ⟨rfl, rfl, rfl⟩, by simp [VR]⟩
 | some a =>
  simp only [VR] at h
  obtain ⟨l, hl, hs, h⟩ := h
  rcases h with ⟨h1, h2, rfl⟩ | ⟨z, k', h1, h2, h3, h4, rfl⟩ | ⟨h1, rfl, a', rfl⟩ | ⟨h1, rfl, a', rfl⟩
  ·exact ⟨_, _, rfl, by simp, by simp only [VR]; exact ⟨l, hl, hs, .inl ⟨by simpa using h1, by simp; omega, by simp⟩⟩⟩
  ·exact ⟨_, _, rfl, by simp, by simp only [VR]; exact ⟨l, hl, hs, .inr (.inl ⟨z, k', by simpa using h1, by omega, h3, h4, rfl⟩)⟩⟩
  ·obtain rfl : k = 0 := by omega
   exact ⟨_, _, rfl, by simp, by simp only [VR]; exact ⟨l, hl, hs, .inr (.inr (.inl ⟨by simpa using h1, trivial, a', rfl⟩))⟩⟩
  ·obtain rfl : k = 0 := by omega
   exact ⟨_, _, rfl, by simp, by simp only [VR]; exact ⟨l, hl, hs, .inr (.inr (.inr ⟨by simpa using h1, trivial, a', rfl⟩))⟩⟩
theorem sim_copy (h : Rel ι H w) {t u ty e : TypeId} (ht : P.underlying t = some (.slice e)) (hz : sized P e = true) {d s cd cs v : Value} {H' : Heap} (hd : VR ι d cd) (hs : VR ι s cs)
  (he : acopy (P.cellsOf e) d s H = some (v, H')) : Sim P ι H w (Builtin.copy_ #[t, u] ty #[cd, cs]) v H' := by
 obtain ⟨i, z, dd, hi, hzz, _, hpos, hzs, hzp, hc, hby⟩ := sized_spec hz
 rw [hc] at he
 unfold acopy at he
 split at he
 case h_2 => simp at he
 rename_i base dl dc a n c
 obtain ⟨a', c', rfl, ha0, hs'⟩ := VR_slice_less (Nat.min_le_left n dl) hs
 have hdd : ∃ b' m', cd = .slice b' dl m' ∧ (0 < dl → ∀ b off, base = some ⟨b, off, none⟩ → ∃ l, ι b = some l ∧ b' = some ⟨l.blk, l.δ + off, none⟩) := by
  cases base with
  | none =>
   simp only [VR] at hd
   obtain ⟨rfl, rfl, rfl⟩ := hd
   exact ⟨_, _, rfl, by simp⟩
  | some b =>
   simp only [VR] at hd
   obtain ⟨l, hl, _, hd⟩ := hd
   rcases hd with ⟨_, _, rfl⟩ | ⟨z, k', _, _, _, _, rfl⟩ | ⟨_, rfl, a2, rfl⟩ | ⟨_, rfl, a2, rfl⟩
   ·exact ⟨_, _, rfl, fun _ b2 off hb => by cases hb; exact ⟨l, hl, rfl⟩⟩
   ·exact ⟨_, _, rfl, fun _ b2 off hb => by cases hb; exact ⟨l, hl, rfl⟩⟩
   ·exact ⟨_, _, rfl, by simp⟩
   ·exact ⟨_, _, rfl, by simp⟩
 obtain ⟨b', m', rfl, hdb⟩ := hdd
 split at he
 ·rename_i h0
  simp at he
  obtain ⟨rfl, rfl⟩ := he
  refine Sim.same h (c := .int .i64 0) ?_ (by simp [VR])
  have hf : ∀ w : World, (Builtin.firstCells i.size 0 (.slice a' n c')).run P w = .ok #[] w := fun w => by cases a' <;> simp [Builtin.firstCells, loadCells, loadCellsFrom]
  have h0' : Nat.min n dl = 0 := h0
  cases b' <;> simp [Builtin.copy_, run_underlying ht, Builtin.lenOf, run_sizeOf hi, h0', hf, storeCells, goInt]
 ·rename_i h0
  split at he
  ·rename_i vs b off hvs
   split at he
   ·rename_i H2 hw
    simp only [Option.some.injEq, Prod.mk.injEq] at he
    obtain ⟨rfl, rfl⟩ := he
    have hna : a ≠ none := fun e => by
     have := ha0 e
     omega
    rw [if_neg hna] at hs'
    obtain ⟨us, u1, u2, u3, u4⟩ := sliceCells_rel h hs' hvs (n := min n dl) rfl
    obtain ⟨l, hl, rfl⟩ := hdb (by omega) b off rfl
    obtain ⟨g1, g2⟩ := run_wr (P := P) h hl hw u1
    have hf : (Builtin.firstCells i.size (Nat.min n dl) (.slice a' n c')).run P w = .ok us.toArray w := by
     rcases u4 with ⟨e1, e2, e3⟩ | ⟨a2, k, e1, e2⟩
     ·exact absurd e2 h0
     ·simp only [Value.slice.injEq] at e1
      obtain ⟨rfl, _, _⟩ := e1
      exact run_firstCells_some (P := P) w i.size (Nat.min n dl) a2 n c' us u3 e2
    refine ⟨ι, .int .i64 (min n dl : Nat), _, ?_, by simp [VR], g2⟩
    simp [Builtin.copy_, run_underlying ht, Builtin.lenOf, run_sizeOf hi, hf, g1, goInt]
   ·simp at he
  ·simp at he
theorem sim_clearS (h : Rel ι H w) {t ty e : TypeId} (ht : P.underlying t = some (.slice e)) (hz : sized P e = true) {x cx v : Value} {H' : Heap} (hx : VR ι x cx)
  (he : aclearS (zc P e) x H = some (v, H')) : Sim P ι H w (Builtin.clear_ #[t] ty #[cx]) v H' := by
 obtain ⟨i, z, dd, hi, hzz, _, hpos, hzs, hzp, hc, hby⟩ := sized_spec hz
 rw [zc_of hi hzz] at he
 cases x with
 | slice a n k =>
  simp only [aclearS] at he
  split at he
  ·rename_i h0
   subst h0
   simp at he
   obtain ⟨rfl, rfl⟩ := he
   obtain ⟨a', c', rfl, _, _⟩ := VR_slice_less (Nat.le_refl 0) hx
   refine Sim.same h (c := .tuple #[]) ?_ (by simp [VR])
   cases a' <;> simp [Builtin.clear_, run_underlying ht]
  ·rename_i hne
   split at he
   ·rename_i b off
    split at he
    ·rename_i H2 hw
     simp only [Option.some.injEq, Prod.mk.injEq] at he
     obtain ⟨rfl, rfl⟩ := he
     simp only [VR] at hx
     obtain ⟨l, hl, _, hx⟩ := hx
     have hcx : ∃ m, cx = .slice (some ⟨l.blk, l.δ + off, none⟩) n m := by
      rcases hx with ⟨_, _, rfl⟩ | ⟨z, k', _, _, _, _, rfl⟩ | ⟨_, e0, _⟩ | ⟨_, e0, _⟩
      ·exact ⟨_, rfl⟩
      ·exact ⟨_, rfl⟩
      ·exact absurd e0 hne
      ·exact absurd e0 hne
     obtain ⟨m, rfl⟩ := hcx
     obtain ⟨g1, g2⟩ := run_wr (P := P) h hl hw (VRL_plain (reps_all n _ _ hzp))
     refine ⟨ι, .tuple #[], _, ?_, by simp [VR], g2⟩
     have hzr : (Builtin.zeroCells z.cells n).toList = reps n z.cells.toList := zeros_reps z.cells n
     simp [Builtin.clear_, run_underlying ht, hne, run_zeroValue hi hzz, hzr, g1]
    ·simp at he
   ·simp at he
 | _ => simp [aclearS] at he
theorem minF_spec (mx : Bool) : ∀ (l : List Value) (k : IntKind) (n : Int) (v : Value), minF mx (.int k n) l = some v → (∃ r, v = .int k r) ∧ (l.foldlM (m := Sem) (if mx then Builtin.max2 else Builtin.min2) (.int k n)).run P w = .ok v w
 | [], k, n, v, h => by simp [minF] at h; subst h; exact ⟨⟨n, rfl⟩, by simp⟩
 | y :: l, k, n, v, h => by
  unfold minF at h
  cases y <;> simp [min2] at h
  rename_i k2 b
  split at h
  ·rename_i z hz
   split at hz
   ·rename_i hk
    simp at hz
    subst hz
    obtain ⟨h1, h2⟩ := minF_spec mx l k _ v h
    refine ⟨h1, ?_⟩
    cases mx <;> simp [List.foldlM_cons, Builtin.min2, Builtin.max2] at h2 ⊢ <;> exact h2
   ·simp at hz
  ·simp at h
theorem VRL_ints : ∀ {l m : List Value} {x v : Value} {mx : Bool}, VRL ι l m → minF mx x l = some v → m = l
 | [], [], _, _, _, _, _ => rfl
 | [], _ :: _, _, _, _, h, _ => by simp [VRL] at h
 | _ :: _, [], _, _, _, h, _ => by simp [VRL] at h
 | a :: l, b :: m, x, v, mx, h, hm => by
  simp only [VRL] at h
  unfold minF at hm
  split at hm
  ·rename_i z hz
   have := VRL_ints h.2 hm
   subst this
   cases x <;> cases a <;> simp [min2] at hz
   have := h.1
   simp only [VR] at this
   subst this
   rfl
  ·simp at hm
theorem sim_minmax (h : Rel ι H w) (mx : Bool) {l m : List Value} {v : Value} (hl : VRL ι l m) (he : minI mx l = some v) (ty : TypeId) (at_ : Array TypeId) :
  Sim P ι H w ((if mx then Builtin.max_ else Builtin.min_) at_ ty m.toArray) v H := by
 unfold minI at he
 split at he
 ·simp at he
 ·rename_i k a r
  cases m with
  | nil => simp [VRL] at hl
  | cons b m =>
   simp only [VRL] at hl
   have h1 := hl.1
   simp only [VR] at h1
   subst h1
   obtain rfl := VRL_ints hl.2 he
   obtain ⟨⟨q, rfl⟩, h2⟩ := minF_spec (P := P) (w := w) mx m k a v he
   refine Sim.same h (c := .int k q) ?_ (by simp [VR])
   cases mx <;> simpa [Builtin.min_, Builtin.max_] using h2
 ·simp at he
end
end Go.Proofs.Ytmgfkifjgajclaa.G
namespace Go.Proofs.Ytmgfkifjgajclaa.G
open Go
def sameMake : Value → Value → Bool
 | .int k _, .int l _ => decide (k = l)
 | .bool _, .bool _ => true
 | .agg a, .agg b => a.size == b.size && (a.toList.zip b.toList).all fun (x, y) => match x, y with | .int k _, .int l _ => decide (k = l) | .bool _, .bool _ => true | _, _ => false
 | _, _ => false
def intT (P : Program) (t : TypeId) : Bool := match P.underlying t with | some (.int _) => true | _ => false
def keyOK (P : Program) (t : TypeId) : Bool := match P.underlying t with
 | some (.int _) => true
 | some .bool => true
 | some (.struct fs) => eqPlain P 5 t && fs.toList.all fun f => intT P f.type
 | _ => false
def intV : Value → Bool | .int _ _ => true | _ => false
def keyFits (P : Program) (t : TypeId) (k : Value) : Bool := match P.underlying t with
 | some (.int κ) => (match k with | .int κ' _ => decide (κ' = κ) | _ => false)
 | some .bool => (match k with | .bool _ => true | _ => false)
 | some (.struct _) => (match k with | .agg cs => cs.size == P.cellsOf t && cs.toList.all intV | _ => false)
 | _ => false
section
variable {P : Program} {w : World}
theorem run_checkKey_int {t : TypeId} (ht : intT P t = true) (empty : Bool) (n : Nat) (v : Value) : (Instr.checkKey empty (n + 1) t v).run P w = .ok () w := by
 unfold intT at ht
 split at ht
 ·rename_i κ hu
  unfold Instr.checkKey
  rw [Sem.run_bind, run_underlying hu]
  rfl
 ·cases ht
theorem run_checkFields (empty : Bool) (n : Nat) (xs : List Value) (d : Nat) : ∀ (fs : List Field) (off : Nat), tiles P fs off xs.length = true → off ≤ xs.length → (fs.all fun f => f.name != "_" && eqPlain P d f.type) = true → (fs.all fun f => intT P f.type) = true →
  (forIn (m := Sem) fs PUnit.unit (fun f _ => do
   if f.name ≠ "_" then
    Instr.checkKey empty (n + 1) f.type (← part f.type xs.toArray f.offset)
   pure (ForInStep.yield PUnit.unit))).run P w = .ok PUnit.unit w
 | [], off, ht, ho, ha, hi => by simp
 | f :: fs, off, ht, ho, ha, hi => by
  simp only [tiles, Bool.and_eq_true, beq_iff_eq] at ht
  simp only [List.all_cons, Bool.and_eq_true, bne_iff_ne, ne_eq] at ha hi
  obtain ⟨⟨hn, hp⟩, ha⟩ := ha
  obtain ⟨d, rfl⟩ : ∃ j, d = j + 1 := by
   cases d with
   | zero => simp [eqPlain] at hp
   | succ j => exact ⟨j, rfl⟩
  obtain ⟨u, i, hu, hii, h1⟩ := eqPlain_facts hp
  have hcz := cellsOf_info hii
  have htl : ∀ (gs : List Field) (o : Nat), tiles P gs o xs.length = true → o ≤ xs.length := by
   intro gs
   induction gs with
   | nil => intro o h; simp [tiles] at h; omega
   | cons g gs ih =>
    intro o h
    simp only [tiles, Bool.and_eq_true] at h
    have := ih _ h.2
    omega
  have hfit : off + i.size ≤ xs.length := by
   have := htl fs _ ht.2
   omega
  rw [List.forIn_cons]
  simp only [ne_eq, if_pos hn, Sem.run_bind, ht.1, run_part hu hii xs off hfit h1, Result.andThen_ok, run_checkKey_int hi.1, Sem.run_pure]
  exact run_checkFields empty n xs (d + 1) fs (off + i.size) (by rw [← hcz]; exact ht.2) hfit ha hi.2
theorem run_checkKey {t : TypeId} (ht : keyOK P t = true) {k : Value} (hk : keyFits P t k = true) (empty : Bool) (n : Nat) : (Instr.checkKey empty (n + 2) t k).run P w = .ok () w := by
 unfold keyOK at ht
 split at ht
 ·exact run_checkKey_int (by unfold intT; simp_all) _ _ _
 ·rename_i hu
  unfold Instr.checkKey
  rw [Sem.run_bind, run_underlying hu]
  rfl
 ·rename_i fs hu
  simp only [Bool.and_eq_true] at ht
  obtain ⟨h1, h2⟩ := ht
  unfold keyFits at hk
  rw [hu] at hk
  simp only at hk
  split at hk
  ·rename_i cs
   simp only [Bool.and_eq_true, beq_iff_eq] at hk
   unfold eqPlain at h1
   rw [hu] at h1
   simp only [Bool.and_eq_true] at h1
   have hF := run_checkFields (w := w) empty n cs.toList 4 fs.toList 0 (by rw [Array.length_toList, hk.1]; exact h1.1.2) (by omega) h1.2 h2
   unfold Instr.checkKey
   rw [Sem.run_bind, run_underlying hu]
   simp only [Result.andThen_ok, ← Array.forIn_toList]
   rw [Array.toArray_toList] at hF
   rw [Sem.run_bind]
   have hF2 := hF
   simp only at hF2
   rw [hF2]
   rfl
  ·cases hk
 ·cases ht
def findM (k : Value) : List MapEntry → Nat → Option (Nat × Value)
 | [], _ => none
 | e :: es, i => if k = e.key then some (i, e.val) else findM k es (i + 1)
theorem aggEq_int : ∀ (a b : List Value), a.length = b.length → a.all intV = true → b.all intV = true → (∀ p ∈ a.zip b, ∀ j k x y, p = (Value.int j x, Value.int k y) → j = k) → aggEq a b = some (decide (a = b))
 | [], [], _, _, _, _ => by simp [aggEq]
 | u :: a, v :: b, hl, ha, hb, hk => by
  simp only [List.all_cons, Bool.and_eq_true] at ha hb
  have ih := aggEq_int a b (by simpa using hl) ha.2 hb.2 (fun p hp => hk p (by simp [hp]))
  cases u <;> simp [intV] at ha
  cases v <;> simp [intV] at hb
  rename_i j x k y
  have e := hk (Value.int j x, Value.int k y) (by simp) j k x y rfl
  subst e
  simp only [aggEq, if_true, ih]
  congr 1
  rw [Bool.eq_iff_iff]
  simp
 | [], _ :: _, h, _, _, _ => by simp at h
 | _ :: _, [], h, _, _, _ => by simp at h
theorem same_int {a b : Array Value} (h : sameMake (.agg a) (.agg b) = true) (ha : a.toList.all intV = true) : ∀ p ∈ a.toList.zip b.toList, ∀ j k x y, p = (Value.int j x, Value.int k y) → j = k := by
 intro p hp j k x y e
 simp only [sameMake, Bool.and_eq_true] at h
 have := List.all_eq_true.1 h.2 p hp
 rw [e] at this
 simpa using this
theorem run_findKey {t : TypeId} (ht : keyOK P t = true) {k : Value} (hk : keyFits P t k = true) : ∀ (es : List MapEntry), (∀ e ∈ es, keyFits P t e.key = true ∧ sameMake k e.key = true) → (Instr.findKey t k es).run P w = .ok (findM k es 0) w := by
 intro es hes
 have ht0 := ht
 unfold keyOK at ht
 split at ht
 ·rename_i κ hu
  have hn : ∀ (es : List MapEntry) (i : Nat), (∀ e ∈ es, keyFits P t e.key = true ∧ sameMake k e.key = true) → Instr.findNow (.int κ) k es i = some (findM k es i) := by
   intro es
   induction es with
   | nil => intro i _; rfl
   | cons e es ih =>
    intro i h
    obtain ⟨h1, h2⟩ := h e (by simp)
    unfold keyFits at h1 hk
    rw [hu] at h1 hk
    simp only at h1 hk
    split at hk
    ·split at h1
     ·rename_i _ κ1 a _ κ2 b hek
      simp only [decide_eq_true_eq] at h1 hk
      subst h1; subst hk
      simp only [Instr.findNow, findM, hek, Instr.sameNow, if_true]
      rw [ih _ (fun e he => h e (by simp [he]))]
      by_cases hab : a = b
      ·subst hab; simp
      ·have hb : (a == b) = false := by simpa using hab
       simp [hab, hb]
     ·cases h1
    ·cases hk
  simp only [Instr.findKey, Sem.run_bind, run_underlying hu, Result.andThen_ok, hn es 0 hes]
  rfl
 ·rename_i hu
  have hn : ∀ (es : List MapEntry) (i : Nat), (∀ e ∈ es, keyFits P t e.key = true ∧ sameMake k e.key = true) → Instr.findNow .bool k es i = some (findM k es i) := by
   intro es
   induction es with
   | nil => intro i _; rfl
   | cons e es ih =>
    intro i h
    obtain ⟨h1, h2⟩ := h e (by simp)
    unfold keyFits at h1 hk
    rw [hu] at h1 hk
    simp only at h1 hk
    split at hk
    ·split at h1
     ·rename_i _ a _ b hek
      simp only [Instr.findNow, findM, hek, Instr.sameNow]
      rw [ih _ (fun e he => h e (by simp [he]))]
      by_cases hab : a = b
      ·subst hab; simp
      ·have hb : (a == b) = false := by simpa using hab
       simp [hab, hb]
     ·cases h1
    ·cases hk
  simp only [Instr.findKey, Sem.run_bind, run_underlying hu, Result.andThen_ok, hn es 0 hes]
  rfl
 ·rename_i fs hu
  simp only [Bool.and_eq_true] at ht
  obtain ⟨hp, _⟩ := ht
  have hag : isAggT P t = true := by simp [isAggT, hu]
  have fit : ∀ v, keyFits P t v = true → ∃ xs : List Value, v = .agg xs.toArray ∧ xs.length = P.cellsOf t ∧ xs.all intV = true := fun v hv => by
   unfold keyFits at hv
   rw [hu] at hv
   simp only at hv
   split at hv
   ·rename_i cs
    simp only [Bool.and_eq_true, beq_iff_eq] at hv
    exact ⟨cs.toList, by rw [Array.toArray_toList], by rw [Array.length_toList]; exact hv.1, hv.2⟩
   ·cases hv
  obtain ⟨xs, rfl, hxl, hxi⟩ := fit k hk
  have hA : ∀ (es : List MapEntry) (i : Nat), (∀ e ∈ es, keyFits P t e.key = true ∧ sameMake (.agg xs.toArray) e.key = true) → (Instr.findAsking t (.agg xs.toArray) es i).run P w = .ok (findM (.agg xs.toArray) es i) w := by
   intro es
   induction es with
   | nil => intro i _; rfl
   | cons e es ih =>
    intro i h
    obtain ⟨h1, h2⟩ := h e (by simp)
    obtain ⟨ys, hy, hyl, hyi⟩ := fit e.key h1
    rw [hy] at h2
    have hr := aggEq_int xs ys (by omega) hxi hyi (by simpa using same_int h2 (by simpa using hxi))
    have hq := run_eqPlain (P := P) 5 t hp xs ys _ hxl hyl hr 10000 w (by omega)
    simp only [mkV, hag, if_true] at hq
    unfold Instr.findAsking
    rw [Sem.run_bind, hy]
    have hq2 : (Op.equal t (.agg xs.toArray) (.agg ys.toArray)).run P w = .ok (decide (xs = ys)) w := hq
    rw [hq2, Result.andThen_ok, findM, hy]
    by_cases hab : xs = ys
    ·subst hab; simp
    ·have hne : ¬ (Value.agg xs.toArray = Value.agg ys.toArray) := fun e => hab (by simpa using e)
     rw [if_neg hne, decide_eq_false hab]
     exact ih _ (fun e he => h e (by simp [he]))
  have hF : ∀ r, (match Instr.findNow (.struct fs) (.agg xs.toArray) es 0 with | some r => (pure r : Sem (Option (Nat × Value))) | none => Instr.findAsking t (.agg xs.toArray) es).run P w = r → r = .ok (findM (.agg xs.toArray) es 0) w := by
   intro r hr
   rw [← hr]
   cases es with
   | nil => rfl
   | cons e es =>
    have : Instr.findNow (.struct fs) (.agg xs.toArray) (e :: es) 0 = none := by simp [Instr.findNow, Instr.sameNow]
    rw [this]
    exact hA _ 0 hes
  simp only [Instr.findKey, Sem.run_bind, run_underlying hu, Result.andThen_ok]
  exact hF _ rfl
 ·cases ht
theorem mapM_all {α β : Type} {f : α → Option β} : ∀ {l : List α} {m : List β}, l.mapM f = some m → m.length = l.length ∧ ∀ a ∈ l, ∃ b, f a = some b
 | [], m, h => by simp at h; subst h; exact ⟨rfl, by simp⟩
 | a :: l, m, h => by
  rw [List.mapM_cons] at h
  cases ha : f a with
  | none => rw [ha] at h; simp at h
  | some b =>
   rw [ha] at h
   cases hm : l.mapM f with
   | none => rw [hm] at h; simp at h
   | some m' =>
    rw [hm] at h
    simp at h
    subst h
    obtain ⟨h1, h2⟩ := mapM_all hm
    refine ⟨by simp [h1], fun x hx => ?_⟩
    rcases List.mem_cons.1 hx with rfl | hx
    ·exact ⟨b, ha⟩
    ·exact h2 x hx
theorem shape_ok {t : TypeId} {s : KS} (h : shapeOf P t = some s) : keyOK P t = true := by
 unfold shapeOf at h
 unfold keyOK
 split at h
 ·rename_i hu; try simp only [hu]
 ·rename_i hu; try simp only [hu]
 ·rename_i fs hu
  try simp only [hu]
  split at h
  ·rename_i hc
   simp only [Bool.and_eq_true] at hc
   simp only [Option.map_eq_some_iff] at h
   obtain ⟨m, hm, rfl⟩ := h
   obtain ⟨_, h2⟩ := mapM_all hm
   simp only [Bool.and_eq_true, List.all_eq_true]
   refine ⟨hc.1, fun f hf => ?_⟩
   obtain ⟨κ, hκ⟩ := h2 f hf
   unfold intK at hκ
   unfold intT
   split at hκ
   ·rename_i hq; simp only [hq]
   ·cases hκ
  ·cases h
 ·cases h
theorem kinds_int : ∀ {cs : List Value} {l : List IntKind}, cs.map kindOf = l.map some → cs.all intV = true
 | [], _, _ => rfl
 | c :: cs, [], h => by simp at h
 | c :: cs, k :: l, h => by
  simp only [List.map_cons, List.cons.injEq] at h
  rw [List.all_cons, kinds_int h.2]
  cases c <;> simp [kindOf, intV] at h ⊢
theorem shape_fits {t : TypeId} {s : KS} (h : shapeOf P t = some s) {k : Value} (hk : s.fits k = true) : keyFits P t k = true := by
 unfold shapeOf at h
 unfold keyFits
 split at h
 ·rename_i κ hu
  try simp only [hu]
  cases h
  cases k <;> simp [KS.fits] at hk ⊢
  exact hk
 ·rename_i hu
  try simp only [hu]
  cases h
  cases k <;> simp [KS.fits] at hk ⊢
 ·rename_i fs hu
  try simp only [hu]
  split at h
  ·rename_i hc
   simp only [Bool.and_eq_true, beq_iff_eq] at hc
   simp only [Option.map_eq_some_iff] at h
   obtain ⟨m, hm, rfl⟩ := h
   obtain ⟨h1, _⟩ := mapM_all hm
   cases k <;> simp only [KS.fits, decide_eq_true_eq, Bool.false_eq_true] at hk
   rename_i cs
   have hl := congrArg List.length hk
   simp only [List.length_map, Array.length_toList] at hl
   simp only [Bool.and_eq_true, beq_iff_eq]
   refine ⟨?_, kinds_int hk⟩
   have h3 : fs.toList.length = fs.size := Array.length_toList
   omega
  ·cases h
 ·cases h
theorem zip_kinds : ∀ {a b : List Value}, a.map kindOf = b.map kindOf → a.all intV = true → (a.zip b).all (fun (x, y) => match x, y with | .int k _, .int l _ => decide (k = l) | .bool _, .bool _ => true | _, _ => false) = true
 | [], _, _, _ => rfl
 | _ :: _, [], h, _ => by simp at h
 | u :: a, v :: b, h, hi => by
  simp only [List.map_cons, List.cons.injEq] at h
  simp only [List.all_cons, Bool.and_eq_true] at hi
  rw [List.zip_cons_cons, List.all_cons, zip_kinds h.2 hi.2]
  cases u <;> simp [intV] at hi
  cases v <;> simp [kindOf] at h ⊢
  exact h.1
theorem shape_same {s : KS} {k e : Value} (hk : s.fits k = true) (he : s.fits e = true) : sameMake k e = true := by
 cases s with
 | int κ => cases k <;> simp [KS.fits] at hk; cases e <;> simp [KS.fits] at he; simp [sameMake, hk, he]
 | bool => cases k <;> simp [KS.fits] at hk; cases e <;> simp [KS.fits] at he; rfl
 | ints l =>
  cases k <;> simp only [KS.fits, decide_eq_true_eq, Bool.false_eq_true] at hk
  cases e <;> simp only [KS.fits, decide_eq_true_eq, Bool.false_eq_true] at he
  rename_i a b
  have h1 := congrArg List.length hk
  have h2 := congrArg List.length he
  simp only [List.length_map, Array.length_toList] at h1 h2
  simp only [sameMake, Bool.and_eq_true, beq_iff_eq]
  exact ⟨by omega, zip_kinds (by rw [hk, he]) (kinds_int hk)⟩
end
end Go.Proofs.Ytmgfkifjgajclaa.G
namespace Go.Proofs.Ytmgfkifjgajclaa.G
open Go
section
variable {P : Program} {ι : Inj} {H : Heap} {w : World}
theorem VR_zero {z : Value} (h : z.cells.toList.all plainV = true) : VR ι z z := by
 cases z with
 | agg cs =>
  have h' : cs.toList.all plainV = true := by simpa [Value.cells] using h
  simp only [VR]
  exact ⟨cs, rfl, VRA_iff.2 (VRL_plain h'), plains_one h'⟩
 | _ => exact VR_plainV (by simpa [Value.cells] using h)
theorem VRL_intV : ∀ {a b : List Value}, a.all intV = true → VRL ι a b → b = a
 | [], [], _, _ => rfl
 | [], _ :: _, _, h => by simp [VRL] at h
 | _ :: _, [], _, h => by simp [VRL] at h
 | u :: a, v :: b, hi, h => by
  simp only [List.all_cons, Bool.and_eq_true] at hi
  simp only [VRL] at h
  rw [VRL_intV hi.2 h.2]
  have h1 := h.1
  cases u <;> simp [intV] at hi
  simp only [VR] at h1
  rw [h1]
theorem fits_VR {s : KS} {k c : Value} (hf : s.fits k = true) (h : VR ι k c) : c = k := by
 cases s with
 | int κ => cases k <;> simp [KS.fits] at hf; simpa [VR] using h
 | bool => cases k <;> simp [KS.fits] at hf; simpa [VR] using h
 | ints l =>
  cases k <;> simp only [KS.fits, decide_eq_true_eq, Bool.false_eq_true] at hf
  simp only [VR] at h
  obtain ⟨b, rfl, h2, _⟩ := h
  have := VRL_intV (kinds_int hf) (VRA_iff.1 h2)
  congr 1
  exact Array.ext' this
theorem ER.find {k : Value} : ∀ {es : List Ent} {ms : List MapEntry} (n : Nat), ER ι es ms → (match findE k es with | some e => ∃ i d, findM k ms n = some (i, d) ∧ VR ι e.val d | none => findM k ms n = none)
 | [], [], n, _ => rfl
 | [], _ :: _, n, h => by simp [ER] at h
 | _ :: _, [], n, h => by simp [ER] at h
 | a :: es, b :: ms, n, h => by
  simp only [ER] at h
  obtain ⟨_, h2, h3, _, h5⟩ := h
  unfold findE findM
  rw [h2]
  by_cases e : k = a.key
  ·rw [if_pos e, if_pos e]; exact ⟨n, b.val, rfl, h3⟩
  ·rw [if_neg e, if_neg e]; exact ER.find (n + 1) h5
theorem ER.fits {s : KS} : ∀ {es : List Ent} {ms : List MapEntry}, ER ι es ms → (es.all fun e => s.fits e.key) = true → ∀ e ∈ ms, s.fits e.key = true
 | [], [], _, _, e, he => by cases he
 | [], _ :: _, h, _, _, _ => by simp [ER] at h
 | _ :: _, [], h, _, _, _ => by simp [ER] at h
 | a :: es, b :: ms, h, hf, e, he => by
  simp only [ER] at h
  simp only [List.all_cons, Bool.and_eq_true] at hf
  rcases List.mem_cons.1 he with rfl | he
  ·rw [h.2.1]; exact hf.1
  ·exact ER.fits h.2.2.2.2 hf.2 e he
theorem zv_ok {el : TypeId} (hz : sized P el = true) : (zeroValue el).run P w = .ok (zv P el) w ∧ VR ι (zv P el) (zv P el) := by
 obtain ⟨i, z, d, hi, hzz, _, _, _, hp, _⟩ := sized_spec hz
 have e : zv P el = z := by simp [zv, hi, hzz]
 rw [e]
 exact ⟨run_zeroValue hi hzz w, VR_zero hp⟩
theorem VR_pair {a b : Value} {ok : Bool} (h : VR ι a b) (t : Bool) : VR ι (if ok then .tuple #[a, .bool t] else a) (if ok then .tuple #[b, .bool t] else b) := by
 cases ok with
 | false => exact h
 | true =>
  simp only [if_true, VR]
  exact .inr ⟨_, rfl, VRA_iff.2 (by simp [VRL, VR, h])⟩
theorem run_getMap {r : Nat} {es : Array MapEntry} {clock : Nat} (h : w.heap[r]? = some (.map es clock)) : (getObj r).run P w = .ok (.map es clock) w := by simp [getObj, Sem.run, h]
theorem sim_lookup (h : Rel ι H w) {xt kt el : TypeId} (hx : P.underlying xt = some (.map kt el)) {s : KS} (hs : shapeOf P kt = some s) (hz : sized P el = true) {m k cm ck v : Value} {H' : Heap} (hm : VR ι m cm) (hk : VR ι k ck) (ok : Bool) (he : alookup s (zv P el) ok m k H = some (v, H')) : Sim P ι H w (Instr.lookup xt cm ck ok) v H' := by
 obtain ⟨z1, z2⟩ := zv_ok (P := P) (ι := ι) (w := w) hz
 have hko := shape_ok hs
 unfold alookup at he
 split at he
 ·simp only [VR] at hm
  subst hm
  split at he
  ·rename_i hf
   simp only [Option.some.injEq, Prod.mk.injEq] at he
   obtain ⟨rfl, rfl⟩ := he
   obtain rfl := fits_VR hf hk
   have hkf := shape_fits hs hf
   refine Sim.same h (c := if ok then .tuple #[zv P el, .bool false] else zv P el) ?_ (VR_pair z2 false)
   unfold Instr.lookup
   simp only [Sem.run_bind, run_underlying hx, Result.andThen_ok, Sem.run_pure]
   rw [show (#[] : Array MapEntry).isEmpty = true from rfl, run_checkKey hko hkf true 9998]
   simp only [Result.andThen_ok]
   rw [run_findKey hko hkf [] (by simp)]
   simp only [Result.andThen_ok, findM, Sem.run_bind, z1, Sem.run_pure]
  ·simp at he
 ·rename_i b
  simp only [VR] at hm
  obtain ⟨l, hl, rfl⟩ := hm
  split at he
  ·rename_i es c hH
   obtain ⟨es', hw, her⟩ := h.maps b l es c hl hH
   split at he
   ·rename_i hg
    simp only [goodKeys, Bool.and_eq_true] at hg
    obtain rfl := fits_VR hg.1 hk
    have hkf := shape_fits hs hg.1
    have hes : ∀ e ∈ es'.toList, keyFits P kt e.key = true ∧ sameMake ck e.key = true := fun e he2 => by
     have := her.fits hg.2 e he2
     exact ⟨shape_fits hs this, shape_same hg.1 this⟩
    have hfd := her.find (k := ck) 0
    have hrun : ∀ (q : Value) (t : Bool), (match findM ck es'.toList 0 with | some (_, v) => (v, true) | none => (zv P el, false)) = (q, t) → (Instr.lookup xt (.map (some l.blk)) ck ok).run P w = .ok (if ok then .tuple #[q, .bool t] else q) w := fun q t hq => by
     unfold Instr.lookup
     simp only [Sem.run_bind, run_underlying hx, Result.andThen_ok, run_getMap hw, Sem.run_pure]
     rw [run_checkKey hko hkf _ 9998]
     simp only [Result.andThen_ok]
     rw [run_findKey hko hkf _ hes]
     simp only [Result.andThen_ok]
     cases hfm : findM ck es'.toList 0 with
     | none =>
      rw [hfm] at hq
      simp only [Prod.mk.injEq] at hq
      obtain ⟨rfl, rfl⟩ := hq
      simp only [Sem.run_bind, z1, Result.andThen_ok, Sem.run_pure]
     | some p =>
      rw [hfm] at hq
      simp only [Prod.mk.injEq] at hq
      obtain ⟨rfl, rfl⟩ := hq
      simp only [Sem.run_bind, Sem.run_pure, Result.andThen_ok]
    split at he
    ·rename_i e hfe
     rw [hfe] at hfd
     obtain ⟨i, d, h1, h2⟩ := hfd
     simp only [Option.some.injEq, Prod.mk.injEq] at he
     obtain ⟨rfl, rfl⟩ := he
     exact Sim.same h (hrun d true (by rw [h1])) (VR_pair h2 true)
    ·rename_i hfe
     rw [hfe] at hfd
     simp only [Option.some.injEq, Prod.mk.injEq] at he
     obtain ⟨rfl, rfl⟩ := he
     exact Sim.same h (hrun _ false (by rw [hfd])) (VR_pair z2 false)
   ·simp at he
  ·simp at he
 ·simp at he
end
end Go.Proofs.Ytmgfkifjgajclaa.G
namespace Go.Proofs.Ytmgfkifjgajclaa.G
open Go
section
variable {P : Program} {ι : Inj} {H : Heap} {w : World}
theorem sameBits_int : ∀ (a : List Value), a.all intV = true → ∀ n, ((a.zip a).all fun (x, y) => Instr.sameBits n x y) = true
 | [], _, n => rfl
 | u :: a, h, n => by
  simp only [List.all_cons, Bool.and_eq_true] at h
  rw [List.zip_cons_cons, List.all_cons, sameBits_int a h.2 n]
  cases u <;> simp [intV] at h
  cases n <;> simp [Instr.sameBits]
theorem sameBits_fits {s : KS} {k : Value} (h : s.fits k = true) (n : Nat) : Instr.sameBits (n + 1) k k = true := by
 cases s with
 | int κ => cases k <;> simp [KS.fits] at h; simp [Instr.sameBits]
 | bool => cases k <;> simp [KS.fits] at h; simp [Instr.sameBits]
 | ints l =>
  cases k <;> simp only [KS.fits, decide_eq_true_eq, Bool.false_eq_true] at h
  have := sameBits_int _ (kinds_int h) n
  simp only [Instr.sameBits, beq_self_eq_true, Bool.true_and]
  exact this
theorem findM_spec {k : Value} : ∀ {ms : List MapEntry} {n i : Nat} {d : Value}, findM k ms n = some (i, d) → n ≤ i ∧ ∃ e, ms[i - n]? = some e ∧ e.key = k ∧ e.val = d
 | [], n, i, d, h => by cases h
 | b :: ms, n, i, d, h => by
  unfold findM at h
  by_cases e : k = b.key
  ·rw [if_pos e] at h
   simp only [Option.some.injEq, Prod.mk.injEq] at h
   obtain ⟨rfl, rfl⟩ := h
   exact ⟨Nat.le_refl _, b, by simp, e.symm, rfl⟩
  ·rw [if_neg e] at h
   obtain ⟨h1, e', h2, h3⟩ := findM_spec h
   refine ⟨by omega, e', ?_, h3⟩
   rw [show i - n = (i - (n + 1)) + 1 by omega, List.getElem?_cons_succ]
   exact h2
theorem ER.set {k v cv : Value} (hv : VR ι v cv) : ∀ {es : List Ent} {ms : List MapEntry} {n i : Nat} {d : Value}, ER ι es ms → findM k ms n = some (i, d) → ER ι (setE k v es) (ms.modify (i - n) fun e => { e with key := k, val := cv })
 | [], [], n, i, d, _, h => by cases h
 | [], _ :: _, n, i, d, h, _ => by simp [ER] at h
 | _ :: _, [], n, i, d, h, _ => by simp [ER] at h
 | a :: es, b :: ms, n, i, d, h, hf => by
  simp only [ER] at h
  obtain ⟨h1, h2, h3, h4, h5⟩ := h
  unfold findM at hf
  unfold setE
  by_cases e : k = b.key
  ·rw [if_pos e] at hf
   simp only [Option.some.injEq, Prod.mk.injEq] at hf
   obtain ⟨rfl, rfl⟩ := hf
   rw [if_pos (e.trans h2)]
   simp only [Nat.sub_self, List.modify_zero_cons, ER]
   exact ⟨h1, e.trans h2, hv, h4, h5⟩
  ·rw [if_neg e] at hf
   obtain ⟨hle, _⟩ := findM_spec hf
   rw [if_neg (fun e2 => e (e2.trans h2.symm))]
   rw [show i - n = (i - (n + 1)) + 1 by omega, List.modify_succ_cons]
   simp only [ER]
   exact ⟨h1, h2, h3, h4, ER.set hv h5 hf⟩
theorem ER.snoc {k v cv : Value} {c : Nat} (hp : plainKey k = true) (hv : VR ι v cv) : ∀ {es : List Ent} {ms : List MapEntry}, ER ι es ms → ER ι (es ++ [⟨k, v, c⟩]) (ms ++ [⟨k, cv, c⟩])
 | [], [], _ => by simp only [List.nil_append, ER]; exact ⟨hp, trivial, hv, trivial, trivial⟩
 | [], _ :: _, h => by simp [ER] at h
 | _ :: _, [], h => by simp [ER] at h
 | a :: es, b :: ms, h => by
  simp only [ER] at h
  simp only [List.cons_append, ER]
  exact ⟨h.1, h.2.1, h.2.2.1, h.2.2.2.1, ER.snoc hp hv h.2.2.2.2⟩
theorem fits_plain {s : KS} {k : Value} (h : s.fits k = true) : plainKey k = true := by
 cases s with
 | int κ => cases k <;> simp [KS.fits] at h; rfl
 | bool => cases k <;> simp [KS.fits] at h; rfl
 | ints l =>
  cases k <;> simp only [KS.fits, decide_eq_true_eq, Bool.false_eq_true] at h
  have := kinds_int h
  simp only [plainKey]
  rw [List.all_eq_true] at this ⊢
  intro v hv
  have := this v hv
  cases v <;> simp [intV] at this ⊢
theorem run_setMap {r : Nat} {es : Array MapEntry} {c : Nat} {o2 : Obj} (h : w.heap[r]? = some (.map es c)) : (setObj r o2).run P w = .ok () { w with heap := w.heap.setIfInBounds r o2 } := by simp [setObj, Sem.run, h]
theorem sim_mapset (h : Rel ι H w) {mt kt el : TypeId} (hx : P.underlying mt = some (.map kt el)) {s : KS} (hs : shapeOf P kt = some s) {m k v cm ck cv r : Value} {H' : Heap} (hm : VR ι m cm) (hk : VR ι k ck) (hv : VR ι v cv) (he : amapUpdate s m k v H = some (r, H')) :
  r = undef ∧ ∃ w', (Instr.mapUpdate mt cm ck cv).run P w = .ok () w' ∧ Stp ι H w ι H' w' := by
 have hko := shape_ok hs
 unfold amapUpdate at he
 split at he
 ·rename_i b
  simp only [VR] at hm
  obtain ⟨l, hl, rfl⟩ := hm
  split at he
  ·rename_i es c hH
   obtain ⟨es', hw, her⟩ := h.maps b l es c hl hH
   split at he
   ·rename_i hg
    simp only [goodKeys, Bool.and_eq_true] at hg
    obtain rfl := fits_VR hg.1 hk
    have hkf := shape_fits hs hg.1
    have hes : ∀ e ∈ es'.toList, keyFits P kt e.key = true ∧ sameMake ck e.key = true := fun e he2 => by
     have := her.fits hg.2 e he2
     exact ⟨shape_fits hs this, shape_same hg.1 this⟩
    have hfd := her.find (k := ck) 0
    split at he
    ·rename_i e hfe
     rw [hfe] at hfd
     obtain ⟨i, d, h1, h2⟩ := hfd
     simp only [Option.some.injEq, Prod.mk.injEq] at he
     obtain ⟨rfl, rfl⟩ := he
     have hset := ER.set hv her h1
     rw [Nat.sub_zero] at hset
     obtain ⟨_, e', h3, h4, _⟩ := findM_spec h1
     rw [Nat.sub_zero] at h3
     have h5 : es'[i]? = some e' := by rw [← Array.getElem?_toList]; exact h3
     refine ⟨rfl, _, ?_, Stp.mapWrite h hl hH (setE ck v es) (es'.modify i fun e => { e with key := ck, val := cv }) c (by rw [Array.toList_modify]; exact hset)⟩
     unfold Instr.mapUpdate
     simp only [Sem.run_bind, run_underlying hx, Result.andThen_ok, run_getMap hw]
     rw [run_checkKey hko hkf _ 9998]
     simp only [Result.andThen_ok]
     rw [run_findKey hko hkf _ hes, h1]
     simp only [Result.andThen_ok, h5, Option.map_some, Option.getD_some, h4, Sem.run_bind, Instr.keyThatStays, sameBits_fits hg.1 9999, if_true, Sem.run_pure]
     exact run_setMap hw
    ·rename_i hfe
     rw [hfe] at hfd
     simp only [Option.some.injEq, Prod.mk.injEq] at he
     obtain ⟨rfl, rfl⟩ := he
     refine ⟨rfl, _, ?_, Stp.mapWrite h hl hH (es ++ [⟨ck, v, c⟩]) (es'.push ⟨ck, cv, c⟩) (c + 1) (by rw [Array.toList_push]; exact ER.snoc (fits_plain hg.1) hv her)⟩
     unfold Instr.mapUpdate
     simp only [Sem.run_bind, run_underlying hx, Result.andThen_ok, run_getMap hw]
     rw [run_checkKey hko hkf _ 9998]
     simp only [Result.andThen_ok]
     rw [run_findKey hko hkf _ hes, hfd]
     simp only [Result.andThen_ok]
     exact run_setMap hw
   ·simp at he
  ·simp at he
 ·simp at he
end
end Go.Proofs.Ytmgfkifjgajclaa.G
namespace Go.Proofs.Ytmgfkifjgajclaa.G
open Go
section
variable {P : Program} {ι : Inj} {H : Heap} {w : World}
theorem ER.del {k : Value} : ∀ {es : List Ent} {ms : List MapEntry} {n i : Nat} {d : Value}, ER ι es ms → findM k ms n = some (i, d) → ER ι (delE k es) (ms.eraseIdx (i - n))
 | [], [], n, i, d, _, h => by cases h
 | [], _ :: _, n, i, d, h, _ => by simp [ER] at h
 | _ :: _, [], n, i, d, h, _ => by simp [ER] at h
 | a :: es, b :: ms, n, i, d, h, hf => by
  simp only [ER] at h
  obtain ⟨h1, h2, h3, h4, h5⟩ := h
  unfold findM at hf
  unfold delE
  by_cases e : k = b.key
  ·rw [if_pos e] at hf
   simp only [Option.some.injEq, Prod.mk.injEq] at hf
   obtain ⟨rfl, rfl⟩ := hf
   rw [if_pos (e.trans h2)]
   simp only [Nat.sub_self, List.eraseIdx_cons_zero]
   exact h5
  ·rw [if_neg e] at hf
   obtain ⟨hle, _⟩ := findM_spec hf
   rw [if_neg (fun e2 => e (e2.trans h2.symm))]
   rw [show i - n = (i - (n + 1)) + 1 by omega, List.eraseIdx_cons_succ]
   simp only [ER]
   exact ⟨h1, h2, h3, h4, ER.del h5 hf⟩
theorem delE_none {k : Value} : ∀ {es : List Ent} {ms : List MapEntry} {n : Nat}, ER ι es ms → findM k ms n = none → delE k es = es
 | [], [], n, _, _ => rfl
 | [], _ :: _, n, h, _ => by simp [ER] at h
 | _ :: _, [], n, h, _ => by simp [ER] at h
 | a :: es, b :: ms, n, h, hf => by
  simp only [ER] at h
  unfold findM at hf
  by_cases e : k = b.key
  ·rw [if_pos e] at hf; cases hf
  ·rw [if_neg e] at hf
   unfold delE
   rw [if_neg (fun e2 => e (e2.trans h.2.1.symm)), delE_none h.2.2.2.2 hf]
theorem sim_del (h : Rel ι H w) {mt kt el : TypeId} (hx : P.underlying mt = some (.map kt el)) {s : KS} (hs : shapeOf P kt = some s) (ty t2 : TypeId) {m k cm ck r : Value} {H' : Heap} (hm : VR ι m cm) (hk : VR ι k ck) (he : adelete s m k H = some (r, H')) :
  Sim P ι H w (Builtin.delete_ #[mt, t2] ty #[cm, ck]) r H' := by
 have hko := shape_ok hs
 have hu : VR ι (.tuple #[]) (.tuple #[]) := by simp [VR]
 unfold adelete at he
 split at he
 ·simp only [VR] at hm
  subst hm
  split at he
  ·rename_i hf
   simp only [Option.some.injEq, Prod.mk.injEq] at he
   obtain ⟨rfl, rfl⟩ := he
   obtain rfl := fits_VR hf hk
   have hkf := shape_fits hs hf
   refine Sim.same h (c := .tuple #[]) ?_ hu
   unfold Builtin.delete_
   simp only [List.getElem?_toArray, List.getElem?_cons_zero, List.getElem?_cons_succ, Sem.run_bind, run_underlying hx, Result.andThen_ok, run_checkKey hko hkf true 9998, Sem.run_pure]
  ·simp at he
 ·rename_i b
  simp only [VR] at hm
  obtain ⟨l, hl, rfl⟩ := hm
  split at he
  ·rename_i es c hH
   obtain ⟨es', hw, her⟩ := h.maps b l es c hl hH
   split at he
   ·rename_i hg
    simp only [goodKeys, Bool.and_eq_true] at hg
    obtain rfl := fits_VR hg.1 hk
    have hkf := shape_fits hs hg.1
    have hes : ∀ e ∈ es'.toList, keyFits P kt e.key = true ∧ sameMake ck e.key = true := fun e he2 => by
     have := her.fits hg.2 e he2
     exact ⟨shape_fits hs this, shape_same hg.1 this⟩
    simp only [Option.some.injEq, Prod.mk.injEq] at he
    obtain ⟨rfl, rfl⟩ := he
    cases hf : findM ck es'.toList 0 with
    | some p =>
     obtain ⟨i, d⟩ := p
     have hd := ER.del her hf
     rw [Nat.sub_zero] at hd
     refine ⟨ι, .tuple #[], _, ?_, hu, Stp.mapWrite h hl hH (delE ck es) (es'.eraseIdxIfInBounds i) c (by rw [Array.toList_eraseIdxIfInBounds]; exact hd)⟩
     unfold Builtin.delete_
     simp only [List.getElem?_toArray, List.getElem?_cons_zero, List.getElem?_cons_succ, Sem.run_bind, run_underlying hx, Result.andThen_ok, run_getMap hw]
     rw [run_checkKey hko hkf _ 9998]
     simp only [Result.andThen_ok]
     rw [run_findKey hko hkf _ hes, hf]
     simp only [Result.andThen_ok]
     rw [Sem.run_bind, run_setMap hw]
     rfl
    | none =>
     rw [delE_none her hf]
     refine ⟨ι, .tuple #[], _, ?_, hu, Stp.mapWrite h hl hH es es' c her⟩
     unfold Builtin.delete_
     simp only [List.getElem?_toArray, List.getElem?_cons_zero, List.getElem?_cons_succ, Sem.run_bind, run_underlying hx, Result.andThen_ok, run_getMap hw]
     rw [run_checkKey hko hkf _ 9998]
     simp only [Result.andThen_ok]
     rw [run_findKey hko hkf _ hes, hf]
     simp only [Result.andThen_ok]
     rw [Sem.run_bind, run_setMap hw]
     rfl
   ·simp at he
  ·simp at he
 ·simp at he
end
end Go.Proofs.Ytmgfkifjgajclaa.G
namespace Go.Proofs.Ytmgfkifjgajclaa.G
open Go
section
variable {P : Program} {ι : Inj} {H : Heap} {w : World}
theorem sim_newmap (h : Rel ι H w) (t : TypeId) : Sim P ι H w (Instr.makeMap t none) (.map (some H.size)) (H.push (.map [] 0)) := by
 refine ⟨ext ι H.size ⟨w.heap.size, 0, 0⟩, .map (some w.heap.size), w.alloc (.map #[] 0), ?_, ?_, Stp.fresh h _ _ _ rfl (by simp) (fun es k he => ?_)⟩
 ·rfl
 ·simp only [VR]
  exact ⟨_, ext_new _ _, rfl⟩
 ·cases he
  exact ⟨#[], rfl, trivial⟩
theorem ER.len : ∀ {es : List Ent} {ms : List MapEntry}, ER ι es ms → ms.length = es.length
 | [], [], _ => rfl
 | [], _ :: _, h => by simp [ER] at h
 | _ :: _, [], h => by simp [ER] at h
 | a :: es, b :: ms, h => by
  simp only [ER] at h
  rw [List.length_cons, List.length_cons, ER.len h.2.2.2.2]
theorem sim_lenM (h : Rel ι H w) {t kt el : TypeId} (hx : P.underlying t = some (.map kt el)) (ty : TypeId) {m cm v : Value} (hm : VR ι m cm)
  (he : (match m with | .map none => some (Value.int .i64 0) | .map (some b) => (match H[b]? with | some (.map es _) => some (.int .i64 es.length) | _ => none) | _ => none) = some v) :
  Sim P ι H w (Builtin.len_ #[t] ty #[cm]) v H := by
 cases m with
 | map o =>
  cases o with
  | none =>
   simp only [VR] at hm
   subst hm
   simp only [Option.some.injEq] at he
   subst he
   refine Sim.same h (c := .int .i64 0) ?_ (by simp [VR])
   unfold Builtin.len_
   simp only [List.getElem?_toArray, List.getElem?_cons_zero, Sem.run_bind, run_underlying hx, Result.andThen_ok, Sem.run_pure]
   rfl
  | some b =>
   simp only [VR] at hm
   obtain ⟨l, hl, rfl⟩ := hm
   simp only at he
   split at he
   ·rename_i es c hH
    obtain ⟨es', hw, her⟩ := h.maps b l es c hl hH
    simp only [Option.some.injEq] at he
    subst he
    refine Sim.same h (c := .int .i64 es.length) ?_ (by simp [VR])
    unfold Builtin.len_
    simp only [List.getElem?_toArray, List.getElem?_cons_zero, Sem.run_bind, run_underlying hx, Result.andThen_ok, run_getMap hw, Sem.run_pure]
    rw [← her.len, Array.length_toList]
    rfl
   ·simp at he
 | _ => simp at he
end
end Go.Proofs.Ytmgfkifjgajclaa.G
