/- How the loaded program's code is turned into the plain code of G1: all that the types say is written out; a region of open order is put into one order. Definitions alone. -/
import Derived.Test.YtohclaopcejjnaaG1
namespace Go.Proofs.Ytohclaopcejjnaa.G
open Go

/-- Constants that are the same everywhere. -/
def plainV : Value → Bool
  | .bool _ | .int _ _ | .float _ _ | .string _ | .nilFunc | .nilIface | .pointer none | .map none | .slice none 0 0 => true
  | _ => false
def constOk : Value → Bool
  | .agg a => a.toList.all plainV
  | v => plainV v

def okOpd : Operand → Bool
  | .tmp _ => true
  | .const v => constOk v
  | .global _ => false
  | .func _ => true

def isAggT (P : Program) (t : TypeId) : Bool :=
  match P.underlying t with
  | some (.struct _) | some (.array _ _) => true
  | _ => false

/-- Do the fields lie one behind the other, and fill it all? -/
def tiles (P : Program) : List Field → Nat → Nat → Bool
  | [], off, n => off == n
  | f :: fs, off, n => f.offset == off && tiles P fs (off + P.cellsOf f.type) n

/-- A type of numbers, and structs and arrays of such, without blank fields. -/
def eqPlain (P : Program) : Nat → TypeId → Bool
  | 0, _ => false
  | d + 1, t =>
    match P.underlying t with
    | some (.int _) => P.cellsOf t == 1 && (P.info? t).isSome
    | some (.struct fs) => (P.info? t).isSome && !P.stoodInHeld t && tiles P fs.toList 0 (P.cellsOf t) && fs.toList.all fun f => f.name != "_" && eqPlain P d f.type
    | some (.array n e) => (P.info? t).isSome && (P.info? e).isSome && P.cellsOf t == n * P.cellsOf e && eqPlain P d e
    | _ => false

def nilOf (d : Option TypeDesc) (y : Operand) : Option NilKind :=
  match d, y with
  | some (.pointer _), .const (.pointer none) => some .ptr
  | some (.slice _), .const (.slice none 0 0) => some .slc
  | some (.map _ _), .const (.map none) => some .mp
  | some (.func _ _ _), .const .nilFunc => some .fn
  | _, _ => none

def sized (P : Program) (t : TypeId) : Bool := (P.underlying t).isSome && (P.info? t).any fun i => 0 < i.size && i.zero.any (fun z => z.cells.size == i.size && z.cells.toList.all plainV)

def compileOp (P : Program) (op : Op) : Option SOp :=
  if !(op.operands.all okOpd) then none else
  match op with
  | .move x | .assign x => some (.mv x)
  | .pick c a b => some (.pick c a b)
  | .alloc t => if sized P t then some (.new t) else none
  | .box t x => if sized P t then some (.box t x) else none
  | .build t parts =>
    if !sized P t then none else
    match P.underlying t with
    | some (.struct fs) => if !(fs.toList.all fun f => (P.info? f.type).isSome) then none else do
      let ps ← parts.toList.mapM fun (i, x) => do
        let f ← fs[i]?
        if sized P f.type then pure (f.offset, P.cellsOf f.type, x) else none
      pure (.build t ps)
    | some (.array _ e) => if sized P e then some (.build t (parts.toList.map fun (i, x) => (i * P.cellsOf e, P.cellsOf e, x))) else none
    | _ => none
  | .buildSlice t n parts =>
    match P.underlying t with
    | some (.slice e) => if sized P e && n * P.cellsOf e ≤ 65536 then some (.bslice e n (parts.toList.map fun (i, x) => (i * P.cellsOf e, P.cellsOf e, x))) else none
    | _ => none
  | .load t a => if sized P t then some (.load (isAggT P t) (P.cellsOf t) a) else none
  | .store t a v => if sized P t then some (.store (P.cellsOf t) a v) else none
  | .nilCheck x => some (.nilck x)
  | .binOp op t x y _ =>
    match P.underlying t, op with
    | some (.int _), _ => some (.bin op x y)
    | some .bool, .eql => some (.eqB false x y)
    | some .bool, .neq => some (.eqB true x y)
    | some .string, .eql => some (.eqS false x y)
    | some .string, .neq => some (.eqS true x y)
    | some (.struct _), .eql | some (.array _ _), .eql => if eqPlain P 20 t && !P.eqGuardType P.depth t && isAggT P t then some (.eqAgg false t x y) else none
    | some (.struct _), .neq | some (.array _ _), .neq => if eqPlain P 20 t && !P.eqGuardType P.depth t && isAggT P t then some (.eqAgg true t x y) else none
    | d, .eql => match nilOf d y with | some k => some (.eqNil false k x) | none => none
    | d, .neq => match nilOf d y with | some k => some (.eqNil true k x) | none => none
    | _, _ => none
  | .unOp op _ x => some (.un op x)
  | .convert s d x =>
    match P.underlying s, P.underlying d with
    | some (.int _), some (.int k) => some (.conv k x)
    | _, _ => none
  | .makeFunc f a b => some (.fn f a.toList b.toList)
  | .makeSlice t l c =>
    match P.underlying t with
    | some (.slice e) => if sized P e then some (.mkslice e (P.bytesOf e) l c) else none
    | _ => none
  | .slice t x lo hi mx =>
    match P.underlying t with
    | some (.slice e) => if sized P e then some (.slice (P.cellsOf e) x lo hi mx) else none
    | some (.array n e) => if sized P e then some (.sliceArr n (P.cellsOf e) x lo hi mx) else none
    | _ => none
  | .fieldAddr s x f =>
    match P.underlying s with
    | some (.struct fs) => match fs[f]? with | some g => if sized P g.type then some (.faddr g.offset x) else none | none => none
    | _ => none
  | .field s x f =>
    match P.underlying s with
    | some (.struct fs) => match fs[f]? with | some g => if sized P g.type then some (.field (isAggT P g.type) g.offset (P.cellsOf g.type) x) else none | none => none
    | _ => none
  | .indexAddr t x i =>
    match P.underlying t with
    | some (.slice e) => if sized P e then some (.iaddr (P.cellsOf e) x i) else none
    | some (.array n e) => if sized P e then some (.iaddrA n (P.cellsOf e) x i) else none
    | _ => none
  | .extract x i => some (.ext x i)
  | .call c =>
    match c.callee with
    | .value (.func f) => some (.call f c.args.toList)
    | .value f => some (.callv f c.args.toList)
    | .builtin .len => match c.args.toList, c.argTypes.toList with
      | [x], [t] => match P.underlying t with
        | some (.slice _) => some (.len false x)
        | some .string => some (.len true x)
        | _ => none
      | _, _ => none
    | .builtin .min => some (.minmax false c.args.toList)
    | .builtin .max => some (.minmax true c.args.toList)
    | .builtin .append =>
      match c.args.toList, c.argTypes.toList with
      | [s, x], [t, u] => match P.underlying t, t == u with
        | some (.slice e), true => if sized P e then some (.append (P.cellsOf e) (P.bytesOf e) s x) else none
        | _, _ => none
      | _, _ => none
    | .builtin .copy =>
      match c.args.toList, c.argTypes.toList with
      | [d, s], [t, u] => match P.underlying t, P.underlying u with
        | some (.slice e), some (.slice _) => if sized P e then some (.copy (P.cellsOf e) d s) else none
        | _, _ => none
      | _, _ => none
    | .builtin .clear =>
      match c.args.toList, c.argTypes.toList with
      | [x], [t] => match P.underlying t with
        | some (.slice e) => if sized P e then some (.clearS e x) else none
        | _ => none
      | _, _ => none
    | _ => none
  | _ => none

def isW : SOp → Bool
  | .store .. | .append .. | .copy .. | .clearS .. | .clearM .. | .mapset .. | .del .. | .call .. | .callv .. | .newmap => true
  | _ => false
def isR : SOp → Bool
  | .load .. | .lookup .. | .lenM .. => true
  | _ => false

def compileSI (P : Program) (nt : Nat) (ops : Array Oper) (o : Oper) : Option SI := do
  let op ← compileOp P o.op
  let g ← match o.guard with
    | none => pure none
    | some (j, w) => match (ops[j]?).bind (·.dst) with | some t => pure (some (t, w)) | none => none
  if o.dst.all (· < nt) then pure { dst := o.dst, op, guard := g } else none

/-- The first that is ready and no act; else the first that is ready. -/
def pickNext (n : Nat) (b : Array Nat) (w : Nat → Bool) (listed : Nat) : Option Nat :=
  let rs := (List.range n).filter fun i => !listed.testBit i && (b.getD i 0 &&& listed) == b.getD i 0
  match rs.filter (fun i => !w i) with
  | i :: _ => some i
  | [] => rs.head?
def orderL (n : Nat) (b : Array Nat) (w : Nat → Bool) : Nat → Nat → List Nat
  | 0, _ => []
  | k + 1, listed => match pickNext n b w listed with
    | some i => i :: orderL n b w k (listed ||| 2 ^ i)
    | none => []

def withChk (b : Array Nat) (ss : Array SI) : List Nat → List Nat → List SI
  | _, [] => []
  | done, i :: r =>
    let s := ss.getD i default
    let chk := if isW s.op then (done.zipIdx.filter fun (j, _) => isR (ss.getD j default).op && !(b.getD i 0).testBit j).map (·.2) else []
    { s with chk := chk } :: withChk b ss (done ++ [i]) r

/-- The places that an operation names. -/
def namesT (o : Oper) : List Nat := o.dst.toList ++ o.op.operands.toList.filterMap fun | .tmp t => some t | _ => none

/-- May a region of open order be followed in this order? Acts stand in order among each other; what comes behind an act here comes behind it always; the place that a guard reads has one writer. -/
def drawOk (ops : Array Oper) (b : Array Nat) (ss : Array SI) (l : List Nat) : Bool :=
  let n := ops.size
  let lt := fun p => l.getD p 0
  decide (l.length = n) && decide l.Nodup && l.all (fun i => decide (i < n)) && (List.range n).all (fun i => l.contains i) &&
  (ops.toList.all fun o => o.after.toList.all fun e => !Region.binds .any e || decide (e.on < n)) &&
  ((List.range n).all fun i => match (ops.getD i default).dst with
    | none => true
    | some d => (List.range n).all fun j => i == j || !(namesT (ops.getD j default)).contains d || (b.getD (max i j) 0).testBit (min i j)) &&
  ((List.range n).all fun q => (List.range (q + 1)).all fun p => !(b.getD (lt p) 0).testBit (lt q)) &&
  ((List.range n).all fun p => !isW (ss.getD (lt p) default).op || (List.range n).all fun q => decide (q ≤ p) || (b.getD (lt q) 0).testBit (lt p)) &&
  ((List.range n).all fun i => match (ops.getD i default).guard with
    | none => true
    | some (j, _) => (b.getD i 0).testBit j && decide (j < n) && (match (ops.getD j default).dst with
      | some t => (List.range n).all fun k => k == j || (ops.getD k default).dst != some t
      | none => false))

def compileReg (P : Program) (nt : Nat) (ops : Array Oper) (draw : Bool) : Option SC := do
  let ss ← ops.toList.mapM (compileSI P nt ops)
  if !draw then pure (.reg ss) else
  let ss := ss.toArray
  let b := Region.before ops
  let l := orderL ops.size b (fun i => isW (ss.getD i default).op) ops.size 0
  if P.follows .mixedOrders && drawOk ops b ss l then pure (.drw (withChk b ss [] l)) else none

def compile (P : Program) (nt : Nat) : Code → Option SC
  | .skip => some .skip
  | .region _ ops draw => compileReg P nt ops draw
  | .seq a b => do pure (.seq (← compile P nt a) (← compile P nt b))
  | .cond c a b => if okOpd c then do pure (.cond c (← compile P nt a) (← compile P nt b)) else none
  | .block id b => do pure (.blk id (← compile P nt b))
  | .loop b => do pure (.loop (← compile P nt b))
  | .exit id => some (.exit id)
  | .ret => some .ret
  | _ => none

def okRes (P : Program) : ResultVar → Bool
  | .tmp _ => true
  | .cell _ t => sized P t

def compileFn (P : Program) (f : FuncId) : Option SFn := do
  let fn ← P.funcs[f]?
  if fn.name == "runtime.NumGoroutine" || !(fn.params.size + fn.nfree ≤ fn.ntmps) || !fn.results.all (okRes P) then none else
  let c ← fn.body
  pure { nt := fn.ntmps, res := fn.results.toList, body := ← compile P fn.ntmps c }

end Go.Proofs.Ytohclaopcejjnaa.G
