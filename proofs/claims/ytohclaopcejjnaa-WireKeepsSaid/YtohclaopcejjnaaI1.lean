/- The reading with lists in the open: a list that is not written any more is its elements; what may still be written lies in blocks. Definitions alone. -/
import Derived.Test.YtohclaopcejjnaaL1
namespace Go.Proofs.Ytohclaopcejjnaa.G
open Go

inductive IV where
  | sc (v : Value)
  | agg (cs : List IV)
  | tup (vs : List IV)
  | ptr (b v off : Nat)
  | rptr (e : IV) (off : Nat)
  | map (b : Nat)
  | fn (f : FuncId) (first cap : List IV)
  | sl (b v off n cap sz : Nat)
  | lst (sz : Nat) (full : Bool) (xs : List IV)
  deriving Inhabited

mutual
def ieq : IV → IV → Bool
  | .sc a, .sc b => veq a b
  | .agg a, .agg b => ieqL a b
  | .tup a, .tup b => ieqL a b
  | .ptr a b c, .ptr x y z => a == x && b == y && c == z
  | .rptr e o, .rptr f p => ieq e f && o == p
  | .map a, .map b => a == b
  | .fn f a b, .fn g c d => f == g && ieqL a c && ieqL b d
  | .sl a b c d e f, .sl u v w x y z => a == u && b == v && c == w && d == x && e == y && f == z
  | .lst s a x, .lst t b y => s == t && a == b && ieqL x y
  | _, _ => false
def ieqL : List IV → List IV → Bool
  | [], [] => true
  | a :: x, b :: y => ieq a b && ieqL x y
  | _, _ => false
end
mutual
theorem ieq_refl : (v : IV) → ieq v v = true
  | .sc a => by simp [ieq, veq_refl]
  | .agg a => by simp [ieq, ieqL_refl a]
  | .tup a => by simp [ieq, ieqL_refl a]
  | .ptr a b c => by simp [ieq]
  | .rptr e o => by simp [ieq, ieq_refl e]
  | .map a => by simp [ieq]
  | .fn f a b => by simp [ieq, ieqL_refl a, ieqL_refl b]
  | .sl a b c d e f => by simp [ieq]
  | .lst s a x => by simp [ieq, ieqL_refl x]
theorem ieqL_refl : (a : List IV) → ieqL a a = true
  | [] => by simp [ieqL]
  | a :: x => by simp [ieqL, ieq_refl a, ieqL_refl x]
end
mutual
theorem eq_of_ieq : (v w : IV) → ieq v w = true → v = w
  | .sc a, w, h => by
    cases w <;> simp [ieq] at h
    rw [eq_of_veq _ _ h]
  | .agg a, w, h => by
    cases w <;> simp [ieq] at h
    rw [eq_of_ieqL a _ h]
  | .tup a, w, h => by
    cases w <;> simp [ieq] at h
    rw [eq_of_ieqL a _ h]
  | .ptr a b c, w, h => by cases w <;> simp_all [ieq]
  | .rptr e o, w, h => by
    cases w <;> simp [ieq] at h
    rw [eq_of_ieq e _ h.1, h.2]
  | .map a, w, h => by cases w <;> simp_all [ieq]
  | .fn f a b, w, h => by
    cases w <;> simp [ieq] at h
    rw [h.1.1, eq_of_ieqL a _ h.1.2, eq_of_ieqL b _ h.2]
  | .sl a b c d e f, w, h => by cases w <;> simp_all [ieq]
  | .lst s a x, w, h => by
    cases w <;> simp [ieq] at h
    rw [h.1.1, h.1.2, eq_of_ieqL x _ h.2]
theorem eq_of_ieqL : (a b : List IV) → ieqL a b = true → a = b
  | [], [], _ => rfl
  | [], b :: y, h => by simp [ieqL] at h
  | a :: x, [], h => by simp [ieqL] at h
  | a :: x, b :: y, h => by
    simp [ieqL] at h
    rw [eq_of_ieq a b h.1, eq_of_ieqL x y h.2]
end
instance : DecidableEq IV := fun v w => if h : ieq v w = true then isTrue (eq_of_ieq v w h) else isFalse fun e => h (e ▸ ieq_refl v)

structure IEnt where
  key : Value
  val : IV
  born : Nat
  deriving DecidableEq, Inhabited

/-- A block: cells of the version that counts (may they only be read?), or a map. -/
inductive IB where
  | cells (ver : Nat) (cs : List IV) (ro : Bool)
  | map (es : List IEnt) (clock : Nat)
  deriving DecidableEq, Inhabited
abbrev JH := Array IB
abbrev MI (α : Type) := JH → Option (α × JH)

@[match_pattern] abbrev IV.int (k : IntKind) (n : Int) : IV := .sc (.int k n)
@[match_pattern] abbrev IV.bool (b : Bool) : IV := .sc (.bool b)
def iskip : IV := .sc skipV

/-- One cell? -/
def ione : IV → Bool
  | .agg _ | .tup _ => false
  | .sc v => one v
  | _ => true
def icells : IV → List IV
  | .agg cs => cs
  | v => [v]

mutual
/-- Nothing in it can be written through it, or lies in a block. -/
def ipure : IV → Bool
  | .sc _ => true
  | .agg cs => ipureL cs
  | .tup vs => ipureL vs
  | .fn _ a b => ipureL a && ipureL b
  | .lst _ _ _ => true
  | _ => false
def ipureL : List IV → Bool
  | [] => true
  | v :: l => ipure v && ipureL l
end
mutual
/-- Numbers and the like alone. -/
def iscal : IV → Bool
  | .sc _ => true
  | .agg cs => iscalL cs
  | .tup vs => iscalL vs
  | _ => false
def iscalL : List IV → Bool
  | [] => true
  | v :: l => iscal v && iscalL l
end
mutual
/-- The blocks that it names. -/
def irefs : IV → List Nat
  | .agg cs => irefsL cs
  | .tup vs => irefsL vs
  | .fn _ a b => irefsL a ++ irefsL b
  | .ptr b _ _ => [b]
  | .sl b _ _ _ _ _ => [b]
  | .map b => [b]
  | _ => []
def irefsL : List IV → List Nat
  | [] => []
  | v :: l => irefs v ++ irefsL l
end
def ilow (k : Nat) (v : IV) : Bool := (irefs v).all (· < k)

/-- Cells as an element. -/
def mkE (sz : Nat) (cs : List IV) : IV := if sz = 1 then cs.headD iskip else .agg cs
def grp (sz : Nat) : Nat → List IV → List IV
  | 0, _ => []
  | n + 1, cs => mkE sz (cs.take sz) :: grp sz n (cs.drop sz)

def ird (J : JH) (b v off n : Nat) : Option (List IV) :=
  match J[b]? with
  | some (.cells w cs _) => if v = w ∧ off + n ≤ cs.length then some ((cs.drop off).take n) else none
  | _ => none
def isplice (cs : List IV) (off : Nat) (vs : List IV) : List IV := cs.take off ++ vs ++ cs.drop (off + vs.length)
def iwr (J : JH) (b v off : Nat) (vs : List IV) : Option JH :=
  match J[b]? with
  | some (.cells w cs false) => if v = w ∧ off + vs.length ≤ cs.length ∧ vs.all ione = true then some (J.setIfInBounds b (.cells w (isplice cs off vs) false)) else none
  | _ => none

/-- What is not written any more: its elements in the open. -/
def frz (J : JH) : Nat → IV → Option IV
  | 0, v => if ipure v then some v else none
  | k + 1, v => if ipure v then some v else
    match v with
    | .agg cs => (cs.mapM (frz J k)).map .agg
    | .tup cs => (cs.mapM (frz J k)).map .tup
    | .fn f a b => match a.mapM (frz J k), b.mapM (frz J k) with | some a, some b => some (.fn f a b) | _, _ => none
    | .sl b v off n cap sz =>
      if sz = 0 then none else
      (match ird J b v off (n * sz) with
      | some cs => (match cs.mapM (frz J k) with | some cs => if cs.all ione then some (.lst sz (n == cap && decide (cap < UNK)) (grp sz n cs)) else none | none => none)
      | none => none)
    | _ => none
/-- The blocks that it shows. -/
def shows (J : JH) : Nat → IV → List Nat
  | 0, _ => []
  | k + 1, v => if ipure v then [] else
    match v with
    | .agg cs | .tup cs => cs.flatMap (shows J k)
    | .fn _ a b => (a ++ b).flatMap (shows J k)
    | .sl b v off n _ sz => b :: (match ird J b v off (n * sz) with | some cs => cs.flatMap (shows J k) | none => [])
    | _ => []
def mark1 (J : JH) (b : Nat) : JH := match J[b]? with
  | some (.cells w cs _) => J.setIfInBounds b (.cells w cs true)
  | _ => J
def markA (J : JH) (l : List Nat) : JH := l.foldl mark1 J

def DEP : Nat := 12

/-- A value that names no block, of one cell or a mark. -/
def scOK : Value → Bool
  | .bool _ | .int _ _ | .float _ _ | .string _ | .nilFunc | .nilIface | .pointer none | .map none | .slice none 0 0 | .chan _ => true
  | _ => false
def ivV (v : Value) : IV := if scOK v then .sc v else match v with
  | .agg a => if a.toList.all (fun x => scOK x && one x) then .agg (a.toList.map .sc) else .tup []
  | _ => .tup []
def evI (ρ : List IV) : Operand → IV
  | .tmp i => (ρ[i]?).getD (.tup [])
  | .const v => ivV v
  | .global _ => .tup []
  | .func f => .fn f [] []

def refsB (J : JH) (b : Nat) : List Nat :=
  match J[b]? with
  | some (.cells _ cs _) => irefsL cs
  | some (.map es _) => es.flatMap fun e => irefs e.val
  | none => []
def reachN (J : JH) : Nat → List Nat → List Nat
  | 0, s => s
  | k + 1, s =>
    let new := ((s.flatMap (refsB J)).filter fun b => !s.contains b).eraseDups
    if new.isEmpty then s else reachN J k (s ++ new)
/-- The blocks that are reached from some values; none: it was not seen to the end. -/
def reach (J : JH) (l : List IV) : Option (List Nat) :=
  let s := reachN J 40 (irefsL l)
  if (irefsL l).all (s.contains ·) && s.all (fun b => (refsB J b).all (s.contains ·)) then some s else none

/-- What a book of this reading tells. -/
structure IBook where
  zc : TypeId → Option (List Value)
  zv : TypeId → Option Value
  co : TypeId → Option Nat
  fn : FuncId → Option LFn
  md : FuncId → Md
  given : FuncId → Option (List IV → MI IV)

abbrev ICall := FuncId → List IV → MI IV

def doCall (C : ICall) (md : Md) (f : FuncId) (args : List IV) : MI IV := fun J =>
  match md with
  | .raw => C f args J
  | .loc =>
    match C f args J with
    | some (v, J') => if ilow J.size v = true ∧ J'.extract 0 J.size = J then some (v, J) else none
    | none => none
  | .pure =>
    match args.mapM (frz J DEP) with
    | some as =>
      (match C f as #[] with
      | some (v, J1) => (match frz J1 DEP v with | some u => some (u, if iscal u then J else markA J (args.flatMap (shows J DEP))) | none => none)
      | none => none)
    | none => none

def ilift (o : Option IV) : MI IV := fun J => match o with | some v => some (v, J) | none => none

def iload (ag : Bool) (sz : Nat) (p : IV) : MI IV := fun J =>
  match p with
  | .ptr b v off => (match ird J b v off (if ag then sz else 1) with
    | some vs => if ag then some (.agg vs, J) else (match vs with | [x] => some (x, J) | _ => none)
    | none => none)
  | .rptr e off =>
    if off + (if ag then sz else 1) ≤ (icells e).length then
      (if ag then some (.agg (((icells e).drop off).take sz), J) else (match ((icells e).drop off).take 1 with | [x] => some (x, J) | _ => none))
    else none
  | _ => none
def istore (sz : Nat) (p v : IV) : MI IV := fun J =>
  match p with
  | .ptr b w off => if (icells v).length = sz then (match iwr J b w off (icells v) with | some J' => some ((.tup []), J') | none => none) else none
  | _ => none
def inew (cs : List IV) : MI IV := fun J => if cs.all ione then some (.ptr J.size 0 0, J.push (.cells 0 cs false)) else none

def scal2 (f : Value → Value → Option Value) (x y : IV) : Option IV :=
  match x, y with
  | .sc a, .sc b => (f a b).map .sc
  | _, _ => none

def iisNil (k : NilKind) : IV → Option Bool
  | .sc v => isNil k v
  | .ptr _ _ _ | .rptr _ _ => if k = .ptr then some false else none
  | .sl _ _ _ _ _ _ | .lst _ _ _ => if k = .slc then some false else none
  | .map _ => if k = .mp then some false else none
  | .fn _ _ _ => if k = .fn then some false else none
  | _ => none

def iaggEq : List IV → List IV → Option Bool
  | [], [] => some true
  | .sc (.int k a) :: x, .sc (.int l b) :: y => if k = l then (match iaggEq x y with | some r => some (a == b && r) | none => none) else none
  | _, _ => none

def iasNat : IV → Option Nat
  | .sc v => asNat v
  | _ => none
def ibnd (o : Option IV) (d : Nat) : Option Nat :=
  match o with
  | some v => iasNat v
  | none => some d

def ifill (cells : List IV) : List (Nat × Nat × IV) → Option (List IV)
  | [] => some cells
  | (off, sz, v) :: rest => if (icells v).length = sz ∧ off + sz ≤ cells.length ∧ (icells v).all ione = true then ifill (isplice cells off (icells v)) rest else none
def ievs (ρ : List IV) (ps : List (Nat × Nat × Operand)) : List (Nat × Nat × IV) := ps.map fun p => (p.1, p.2.1, evI ρ p.2.2)
def ireps (n : Nat) (z : List IV) : List IV := (List.replicate n z).flatten

def ilen : IV → Option Nat
  | .sc (.slice none 0 0) => some 0
  | .sl _ _ _ n _ _ => some n
  | .lst _ _ xs => some xs.length
  | _ => none

/-- A slice's cells. -/
def iscells (J : JH) (sz : Nat) : IV → Option (List IV)
  | .sc (.slice none 0 0) => some []
  | .sl b v off n _ _ => ird J b v off (n * sz)
  | .lst z _ xs => if z = sz then some (xs.flatMap icells) else none
  | _ => none

def islice (sz : Nat) (s : IV) (lo hi mx : Option IV) : Option IV :=
  match s with
  | .sc (.slice none 0 0) => (match ibnd mx 0, ibnd hi 0, ibnd lo 0 with | some 0, some 0, some 0 => if mx.isSome && hi.isNone then none else some (.sc (.slice none 0 0)) | _, _, _ => none)
  | .sl b v off len cap z =>
    if mx.isSome && hi.isNone || z != sz then none else
    (match ibnd mx (capOf len cap), ibnd hi len, ibnd lo 0 with
    | some m, some h, some l =>
      if l ≤ h ∧ h ≤ m ∧ m ≤ capOf len cap then
        if UNK ≤ cap ∧ mx = none then
          (if cap = UNK + sz then some (.sl b v (off + l * sz) (h - l) cap sz) else none)
        else if m = l then some (.sl b v off 0 0 sz)
        else if m < UNK then some (.sl b v (off + l * sz) (h - l) (m - l) sz) else none
      else none
    | _, _, _ => none)
  | .lst z f xs =>
    if mx.isSome && hi.isNone || z != sz then none else
    (match ibnd mx xs.length, ibnd hi xs.length, ibnd lo 0 with
    | some m, some h, some l =>
      if l ≤ h ∧ h ≤ m ∧ m ≤ xs.length ∧ (mx.isSome = true → m < UNK) then some (.lst sz ((mx.isSome && m == h) || (f && h == xs.length && mx.isNone) || (mx.isSome && m == l)) ((xs.drop l).take (h - l)))
      else none
    | _, _, _ => none)
  | _ => none

/-- append -/
def iappend (sz bytes : Nat) (s x : IV) : MI IV := fun J =>
  match iscells J sz x, ilen x with
  | some xs, some n =>
    (match s with
    | .sc (.slice none 0 0) =>
      if n = 0 then some (.sc (.slice none 0 0), J)
      else if fits n bytes && xs.all ione then some (.sl J.size 0 0 n (UNK + sz) sz, J.push (.cells 0 xs false)) else none
    | .lst z f ys =>
      if n = 0 then some (s, J)
      else if f && z == sz && fits (ys.length + n) bytes && xs.all ione then
        some (.sl J.size 0 0 (ys.length + n) (UNK + sz) sz, J.push (.cells 0 (ys.flatMap icells ++ xs) false))
      else none
    | .sl b v off len cap z =>
      if n = 0 then some (s, J)
      else if z = sz ∧ (fits (len + n) bytes && xs.all ione) = true then
        if UNK ≤ cap then
          if cap = UNK + sz then
            (match J[b]? with
            | some (.cells w cs false) =>
              if v = w ∧ off + len * sz ≤ cs.length then some (.sl b (v + 1) 0 (len + n) cap sz, J.setIfInBounds b (.cells (v + 1) ((cs.drop off).take (len * sz) ++ xs) false))
              else none
            | _ => none)
          else none
        else if len + n ≤ cap then
          (match iwr J b v (off + len * sz) xs with
          | some J' => some (.sl b v off (len + n) cap sz, J')
          | none => none)
        else
          (match ird J b v off (len * sz) with
          | some old => some (.sl J.size 0 0 (len + n) (UNK + sz) sz, J.push (.cells 0 (old ++ xs) false))
          | none => none)
      else none
    | _ => none)
  | _, _ => none

def icopy (sz : Nat) (d s : IV) : MI IV := fun J =>
  match ilen d, ilen s with
  | some dl, some n =>
    if min n dl = 0 then some (.int .i64 0, J) else
    (match iscells J sz s, d with
    | some vs, .sl b v off _ _ z => if z = sz then (match iwr J b v off (vs.take (min n dl * sz)) with | some J' => some (.int .i64 (min n dl : Nat), J') | none => none) else none
    | _, _ => none)
  | _, _ => none

def iclearS (z : List IV) (x : IV) : MI IV := fun J =>
  match x with
  | .sl b v off n _ _ => if n = 0 then some (.tup [], J) else (match iwr J b v off (ireps n z) with | some J' => some (.tup [], J') | none => none)
  | _ => if ilen x = some 0 then some (.tup [], J) else none

/-! maps -/
def ikeyL : List IV → Option (List Value)
  | [] => some []
  | .sc (.int k n) :: l => (ikeyL l).map (Value.int k n :: ·)
  | .sc (.bool b) :: l => (ikeyL l).map (Value.bool b :: ·)
  | _ => none
def ikey : IV → Option Value
  | .sc v => if plainKey v then some v else none
  | .agg cs => (ikeyL cs).map fun l => Value.agg l.toArray
  | _ => none
def ifindE (k : Value) : List IEnt → Option IEnt
  | [] => none
  | e :: l => if k = e.key then some e else ifindE k l
def isetE (k : Value) (v : IV) : List IEnt → List IEnt
  | [] => []
  | e :: l => if k = e.key then { e with val := v } :: l else e :: isetE k v l
def idelE (k : Value) : List IEnt → List IEnt
  | [] => []
  | e :: l => if k = e.key then l else e :: idelE k l
def igoodKeys (k : Value) (es : List IEnt) : Bool := plainKey k && es.all fun e => plainKey e.key && sameMake k e.key
def ilookup (zero : IV) (ok : Bool) (m k : IV) : MI IV := fun J =>
  match ikey k with
  | none => none
  | some k =>
  match m with
  | .sc (.map none) => some (if ok then .tup [zero, .bool false] else zero, J)
  | .map b =>
    (match J[b]? with
    | some (.map es _) =>
      if igoodKeys k es then
        (match ifindE k es with
        | some e => some (if ok then .tup [e.val, .bool true] else e.val, J)
        | none => some (if ok then .tup [zero, .bool false] else zero, J))
      else none
    | _ => none)
  | _ => none
def imapset (m k v : IV) : MI IV := fun J =>
  match ikey k with
  | none => none
  | some k =>
  match m with
  | .map b =>
    (match J[b]? with
    | some (.map es c) =>
      if igoodKeys k es then
        (match ifindE k es with
        | some _ => some ((.tup []), J.setIfInBounds b (.map (isetE k v es) c))
        | none => some ((.tup []), J.setIfInBounds b (.map (es ++ [⟨k, v, c⟩]) (c + 1))))
      else none
    | _ => none)
  | _ => none
def idelete (m k : IV) : MI IV := fun J =>
  match ikey k with
  | none => none
  | some k =>
  match m with
  | .sc (.map none) => some (.tup [], J)
  | .map b =>
    (match J[b]? with
    | some (.map es c) => if igoodKeys k es then some (.tup [], J.setIfInBounds b (.map (idelE k es) c)) else none
    | _ => none)
  | _ => none

def imin2 (mx : Bool) (x y : IV) : Option IV := scal2 (min2 mx) x y
def iminF (mx : Bool) (x : IV) : List IV → Option IV
  | [] => some x
  | y :: r => match imin2 mx x y with | some z => iminF mx z r | none => none
def iminI (mx : Bool) : List IV → Option IV
  | .sc (.int k a) :: r => iminF mx (.sc (.int k a)) r
  | _ => none

def iexec (B : IBook) (C : ICall) (md : Md) (ρ : List IV) (o : SOp) (J : JH) : Option (IV × JH) :=
  match o with
  | .mv x => ilift (some (evI ρ x)) J
  | .pick c a b => match evI ρ c with | .sc (.bool t) => ilift (some (if t then evI ρ a else evI ρ b)) J | _ => ilift none J
  | .new t => match B.zc t with | some z => inew (z.map .sc) J | none => ilift none J
  | .box _ x => inew (icells (evI ρ x)) J
  | .build t ps => match B.zc t with | some z => ilift ((ifill (z.map .sc) (ievs ρ ps)).map .agg) J | none => ilift none J
  | .bslice t n ps =>
    match B.zc t with
    | some z =>
      (match ifill (ireps n (z.map .sc)) (ievs ρ ps) with
      | some cs => if cs.all ione && decide (0 < z.length) && decide (n < UNK) then (if ipureL cs then some (.lst z.length true (grp z.length n cs), J) else some (.sl J.size 0 0 n n z.length, J.push (.cells 0 cs false))) else none
      | none => none)
    | none => none
  | .load ag sz x => iload ag sz (evI ρ x) J
  | .store sz x v => istore sz (evI ρ x) (evI ρ v) J
  | .nilck x => match evI ρ x with | .ptr b v o => ilift (some (.ptr b v o)) J | .rptr e o => ilift (some (.rptr e o)) J | .fn f a b => ilift (some (.fn f a b)) J | _ => ilift none J
  | .bin op x y => ilift (scal2 (abin op) (evI ρ x) (evI ρ y)) J
  | .eqNil neg k x => ilift ((iisNil k (evI ρ x)).map fun b => .bool (if neg then !b else b)) J
  | .eqB neg x y => match evI ρ x, evI ρ y with
    | .sc (.bool a), .sc (.bool b) => ilift (some (.bool (if neg then !(a == b) else (a == b)))) J
    | _, _ => ilift none J
  | .eqS neg x y => match evI ρ x, evI ρ y with
    | .sc (.string a), .sc (.string b) => ilift (some (.bool (if neg then !(a.toList == b.toList) else (a.toList == b.toList)))) J
    | _, _ => ilift none J
  | .eqAgg neg t x y => match evI ρ x, evI ρ y, B.co t with
    | .agg a, .agg b, some n => if a.length = n ∧ b.length = n then ilift ((iaggEq a b).map fun r => .bool (if neg then !r else r)) J else ilift none J
    | _, _, _ => ilift none J
  | .un op x => match evI ρ x with | .sc v => ilift ((aun op v).map .sc) J | _ => ilift none J
  | .conv k x => match evI ρ x with | .sc (.int _ n) => ilift (some (.int k (k.wrap n))) J | _ => ilift none J
  | .fn f0 first captured => match f0 with
    | .func f => if (first.map (evI ρ)).all ione && (captured.map (evI ρ)).all ione then ilift (some (.fn f (first.map (evI ρ)) (captured.map (evI ρ)))) J else ilift none J
    | _ => ilift none J
  | .newmap => some (.map J.size, J.push (.map [] 0))
  | .mkslice t bytes l c =>
    match B.zc t, iasNat (evI ρ l), iasNat (evI ρ c) with
    | some z, some n, some m => if 0 < z.length ∧ n ≤ m ∧ fits m bytes ∧ ((ireps m (z.map .sc)).all ione = true) then some (.sl J.size 0 0 n m z.length, J.push (.cells 0 (ireps m (z.map .sc)) false)) else none
    | _, _, _ => none
  | .slice sz x lo hi mx => ilift (islice sz (evI ρ x) (lo.map (evI ρ)) (hi.map (evI ρ)) (mx.map (evI ρ))) J
  | .sliceArr n sz x lo hi mx => match evI ρ x with
    | .ptr b v o => if n < UNK ∧ 0 < sz then ilift (islice sz (.sl b v o n n sz) (lo.map (evI ρ)) (hi.map (evI ρ)) (mx.map (evI ρ))) J else ilift none J
    | _ => ilift none J
  | .faddr off x => match evI ρ x with | .ptr b v o => ilift (some (.ptr b v (o + off))) J | .rptr e o => ilift (some (.rptr e (o + off))) J | _ => ilift none J
  | .field ag off sz x => match evI ρ x with
    | .agg cs => if off + sz ≤ cs.length then (if ag then ilift (some (.agg ((cs.drop off).take sz))) J else ilift cs[off]? J) else ilift none J
    | _ => ilift none J
  | .iaddr sz x i => match evI ρ x, iasNat (evI ρ i) with
    | .sl b v o n _ z, some j => if j < n ∧ z = sz then ilift (some (.ptr b v (o + j * sz))) J else ilift none J
    | .lst z _ xs, some j => (match xs[j]? with | some e => if z = sz then ilift (some (.rptr e 0)) J else ilift none J | none => ilift none J)
    | _, _ => ilift none J
  | .iaddrA n sz x i => match evI ρ x, iasNat (evI ρ i) with
    | .ptr b v o, some j => if j < n then ilift (some (.ptr b v (o + j * sz))) J else ilift none J
    | .rptr e o, some j => if j < n then ilift (some (.rptr e (o + j * sz))) J else ilift none J
    | _, _ => ilift none J
  | .ext x i => match evI ρ x with | .tup vs => ilift vs[i]? J | _ => ilift none J
  | .len str x => match evI ρ x with
    | .sc (.string s) => if str then ilift (some (.int .i64 s.size)) J else ilift none J
    | v => if str then ilift none J else ilift ((ilen v).map fun n => .int .i64 (n : Nat)) J
  | .lenM x => match evI ρ x with
    | .sc (.map none) => some (.int .i64 0, J)
    | .map b => (match J[b]? with | some (.map es _) => some (.int .i64 (es.length : Nat), J) | _ => none)
    | _ => none
  | .minmax mx l => ilift (iminI mx (l.map (evI ρ))) J
  | .append sz bytes s x => if 0 < sz then iappend sz bytes (evI ρ s) (evI ρ x) J else ilift none J
  | .copy sz d s => icopy sz (evI ρ d) (evI ρ s) J
  | .clearS t x => match B.zc t with | some z => iclearS (z.map .sc) (evI ρ x) J | none => ilift none J
  | .clearM x => match evI ρ x with
    | .sc (.map none) => some (.tup [], J)
    | .map b => (match J[b]? with | some (.map _ c) => some (.tup [], J.setIfInBounds b (.map [] c)) | _ => none)
    | _ => none
  | .lookup t ok m k => match B.zv t with | some z => ilookup (ivV z) ok (evI ρ m) (evI ρ k) J | none => ilift none J
  | .mapset m k v => imapset (evI ρ m) (evI ρ k) (evI ρ v) J
  | .del m k => idelete (evI ρ m) (evI ρ k) J
  | .call f args => doCall C md f (args.map (evI ρ)) J
  | .callv f args => match evI ρ f with
    | .fn g first captured => doCall C (B.md g) g (first ++ args.map (evI ρ) ++ captured) J
    | _ => ilift none J

/-! what an act may not have disturbed -/
inductive ILook where
  | nothing
  | range (b v off n : Nat)
  | whole (b : Nat)
def ilooks (ρ : List IV) (o : SOp) : Option ILook :=
  match o with
  | .load ag sz x => match evI ρ x with | .ptr b v off => some (.range b v off (if ag then sz else 1)) | .rptr _ _ | .sc _ => some .nothing | _ => none
  | .lookup _ _ m _ => match evI ρ m with | .map b => some (.whole b) | .sc _ => some .nothing | _ => none
  | .lenM x => match evI ρ x with | .map b => some (.whole b) | .sc _ => some .nothing | _ => none
  | _ => some .nothing
def blkOf : IV → Option (List Nat)
  | .ptr b _ _ | .sl b _ _ _ _ _ | .map b => some [b]
  | .sc _ | .lst _ _ _ | .rptr _ _ => some []
  | _ => none
def ctouch (md : Md) (args : List IV) (J : JH) : Option (List Nat) :=
  match md with
  | .pure => some []
  | _ => reach J args
/-- The blocks that an act may write; none: whichever. -/
def itouch (B : IBook) (md : Md) (ρ : List IV) (o : SOp) (J : JH) : Option (List Nat) :=
  match o with
  | .store _ x _ | .append _ _ x _ | .copy _ x _ | .clearS _ x | .clearM x | .mapset x _ _ | .del x _ => blkOf (evI ρ x)
  | .call _ args => ctouch md (args.map (evI ρ)) J
  | .callv f args => match evI ρ f with
    | .fn g first captured => ctouch (B.md g) (first ++ args.map (evI ρ) ++ captured) J
    | _ => none
  | _ => some []
def scalsOf : List IV → Option (List Value)
  | [] => some []
  | .sc v :: l => (scalsOf l).map (v :: ·)
  | _ => none
def untouched (t : Option (List Nat)) (b : Nat) : Bool := match t with | some l => !l.contains b | none => false
def isame (J J' : JH) (t : Option (List Nat)) : ILook → Bool
  | .nothing => true
  | .range b v off n => (ird J b v off n).isSome && (untouched t b || (match (ird J b v off n).bind scalsOf, (ird J' b v off n).bind scalsOf with | some x, some y => veqL x y | _, _ => false))
  | .whole b => (match J[b]? with | some (.map _ _) => true | _ => false) && untouched t b
def wantsI (ρ : List IV) : Option (Operand × Bool) → Option Bool
  | none => some true
  | some (x, w) => match evI ρ x with | .sc v => wantsV v w | _ => none
def ichk (J J' : JH) (t : Option (List Nat)) (ρ : List IV) (c : Option (Operand × Bool) × SOp) : Bool :=
  match wantsI ρ c.1 with
  | some true => (match ilooks ρ c.2 with | some k => isame J J' t k | none => false)
  | some false => true
  | none => false
def stepI' (B : IBook) (C : ICall) (ρ : List IV) (i : LI) : MI IV := fun J =>
  match wantsI ρ i.g with
  | some true => (match iexec B C i.md ρ i.o J with
    | some (v, J') => if i.chk.all (ichk J J' (itouch B i.md ρ i.o J) ρ) then some (v, J') else none
    | none => none)
  | some false => some (iskip, J)
  | none => none
def semI (B : IBook) (C : ICall) : Sem IV JH := { ev := evI, step := stepI' B C, tst := fun | .sc (.bool b) => some b | _ => none }

def itup : List IV → IV
  | [v] => v
  | vs => .tup vs
/-- A call, so deep and so long at most. -/
def icall (B : IBook) : Nat → ICall
  | 0, _, _ => fun _ => none
  | n + 1, f, args => fun J =>
    match B.given f with
    | some g => g args J
    | none =>
    match B.fn f with
    | none => none
    | some l =>
      if args.length = l.np then
        match den (semI B (icall B n)) n l.body args J with
        | some (.ret vs, J') => some (itup vs, J')
        | _ => none
      else none

end Go.Proofs.Ytohclaopcejjnaa.G
