/- The plain code once more, its places named by order: each operation's value is put behind those ahead of it; what is carried along a branch or a loop is told. Definitions alone. -/
import Derived.Test.YtohclaopcejjnaaG20
namespace Go.Proofs.Ytohclaopcejjnaa.G
open Go

/-- How a call is made: with a heap of its own, of which nothing is left but what it tells; in the caller's; in the caller's, with what it made left out. -/
inductive Md where
  | pure | raw | loc
  deriving DecidableEq, Inhabited

/-- An operation: on what it hangs, what it is, how it calls, which loads it must leave as they were. -/
structure LI where
  g : Option (Operand × Bool)
  o : SOp
  md : Md
  chk : List (Option (Operand × Bool) × SOp)

inductive L where
  | op (i : LI) (k : L)
  | ite (c : Operand) (a b : L)
  | join (l : Nat) (a b : L)
  | loop (l : Nat) (init : List Operand) (b : L)
  | goto (l : Nat) (vs : List Operand)
  | ret (vs : List Operand)

inductive Out (V : Type) where
  | goto (l : Nat) (vs : List V)
  | ret (vs : List V)

/-- What code is read by. -/
structure Sem (V H : Type) where
  ev : List V → Operand → V
  step : List V → LI → H → Option (V × H)
  tst : V → Option Bool

section
variable {V H : Type}
def iterN (f : List V → H → Option (Out V × H)) (l : Nat) : Nat → List V → H → Option (Out V × H)
  | 0, _, _ => none
  | n + 1, vs, h => match f vs h with
    | some (.goto j ws, h') => if j = l then iterN f l n ws h' else some (.goto j ws, h')
    | r => r

def den (S : Sem V H) (n : Nat) : L → List V → H → Option (Out V × H)
  | .op i k, ρ, h => match S.step ρ i h with
    | some (v, h') => den S n k (ρ ++ [v]) h'
    | none => none
  | .ite c a b, ρ, h => match S.tst (S.ev ρ c) with
    | some t => if t then den S n a ρ h else den S n b ρ h
    | none => none
  | .join l a b, ρ, h => match den S n a ρ h with
    | some (.goto j vs, h') => if j = l then den S n b vs h' else some (.goto j vs, h')
    | r => r
  | .loop l init b, ρ, h => iterN (fun vs h => den S n b vs h) l n (init.map (S.ev ρ)) h
  | .goto l vs, ρ, h => some (.goto l (vs.map (S.ev ρ)), h)
  | .ret vs, ρ, h => some (.ret (vs.map (S.ev ρ)), h)
end

/-! ### the reading of G1 -/
def wantsV (v : Value) (w : Bool) : Option Bool :=
  match v with
  | .bool b => some (b == w)
  | .chan (some _) => some false
  | _ => none
def wantsG (ρ : List Value) : Option (Operand × Bool) → Option Bool
  | none => some true
  | some (x, w) => wantsV (ev (env0 ρ 0) x) w
def looksG (ρ : List Value) (c : Option (Operand × Bool) × SOp) : Look := if wantsG ρ c.1 = some true then looks (env0 ρ 0) c.2 else .nothing
def stepG (C : Ctx) (ρ : List Value) (i : LI) : M Value := fun H =>
  match wantsG ρ i.g with
  | some true => (match exec C (env0 ρ 0) i.o H with
    | some (v, H') => if i.chk.all (fun c => same H H' (looksG ρ c)) then some (v, H') else none
    | none => none)
  | some false => some (skipV, H)
  | none => none
def semG (C : Ctx) : Sem Value Heap := { ev := fun ρ => ev (env0 ρ 0), step := stepG C, tst := fun | .bool b => some b | _ => none }

/-! ### from SC -/
def oeq : Operand → Operand → Bool
  | .tmp a, .tmp b => a == b
  | .const a, .const b => veq a b
  | .func a, .func b => a == b
  | .global a, .global b => a == b
  | _, _ => false
theorem eq_of_oeq : ∀ x y, oeq x y = true → x = y := by
  intro x y h
  cases x <;> cases y <;> simp [oeq] at h <;> try simp [h]
  exact eq_of_veq _ _ h

abbrev Sg := List (Nat × Operand)
def lk (σ : Sg) (t : Nat) : Option Operand :=
  match σ with
  | [] => none
  | (k, x) :: r => if t = k then some x else lk r t
def rn (σ : Sg) : Operand → Option Operand
  | .tmp t => lk σ t
  | x => some x
def rnL (σ : Sg) : List Operand → Option (List Operand)
  | [] => some []
  | x :: l => match rn σ x, rnL σ l with | some y, some m => some (y :: m) | _, _ => none
def rnO (σ : Sg) : Option Operand → Option (Option Operand)
  | none => some none
  | some x => match rn σ x with | some y => some (some y) | none => none
def rnP (σ : Sg) : List (Nat × Nat × Operand) → Option (List (Nat × Nat × Operand))
  | [] => some []
  | (a, b, x) :: l => match rn σ x, rnP σ l with | some y, some m => some ((a, b, y) :: m) | _, _ => none
def rn1 (σ : Sg) (x : Operand) (k : Operand → SOp) : Option SOp := match rn σ x with | some y => some (k y) | none => none
def rn2 (σ : Sg) (x y : Operand) (k : Operand → Operand → SOp) : Option SOp := match rn σ x, rn σ y with | some x, some y => some (k x y) | _, _ => none
def rn3 (σ : Sg) (x y z : Operand) (k : Operand → Operand → Operand → SOp) : Option SOp := match rn σ x, rn σ y, rn σ z with | some x, some y, some z => some (k x y z) | _, _, _ => none
def rnOp (σ : Sg) : SOp → Option SOp
  | .mv x => rn1 σ x .mv
  | .pick c a b => rn3 σ c a b .pick
  | .new t => some (.new t)
  | .box t x => rn1 σ x (.box t)
  | .build t ps => match rnP σ ps with | some q => some (.build t q) | none => none
  | .bslice t n ps => match rnP σ ps with | some q => some (.bslice t n q) | none => none
  | .load a s x => rn1 σ x (.load a s)
  | .store s x v => rn2 σ x v (.store s)
  | .nilck x => rn1 σ x .nilck
  | .bin o x y => rn2 σ x y (.bin o)
  | .eqNil n k x => rn1 σ x (.eqNil n k)
  | .eqB n x y => rn2 σ x y (.eqB n)
  | .eqS n x y => rn2 σ x y (.eqS n)
  | .eqAgg n t x y => rn2 σ x y (.eqAgg n t)
  | .un o x => rn1 σ x (.un o)
  | .conv k x => rn1 σ x (.conv k)
  | .fn f a b => match rnL σ a, rnL σ b with | some a, some b => some (.fn f a b) | _, _ => none
  | .newmap => some .newmap
  | .mkslice e b l c => rn2 σ l c (.mkslice e b)
  | .slice s x a b c => match rn σ x, rnO σ a, rnO σ b, rnO σ c with | some x, some a, some b, some c => some (.slice s x a b c) | _, _, _, _ => none
  | .sliceArr n s x a b c => match rn σ x, rnO σ a, rnO σ b, rnO σ c with | some x, some a, some b, some c => some (.sliceArr n s x a b c) | _, _, _, _ => none
  | .faddr o x => rn1 σ x (.faddr o)
  | .field a o s x => rn1 σ x (.field a o s)
  | .iaddr s x i => rn2 σ x i (.iaddr s)
  | .iaddrA n s x i => rn2 σ x i (.iaddrA n s)
  | .ext x i => rn1 σ x (fun x => .ext x i)
  | .len s x => rn1 σ x (.len s)
  | .lenM x => rn1 σ x .lenM
  | .minmax m l => match rnL σ l with | some l => some (.minmax m l) | none => none
  | .append s b x y => rn2 σ x y (.append s b)
  | .copy s x y => rn2 σ x y (.copy s)
  | .clearS e x => rn1 σ x (.clearS e)
  | .clearM x => rn1 σ x .clearM
  | .lookup e k m x => rn2 σ m x (.lookup e k)
  | .mapset m k v => rn3 σ m k v .mapset
  | .del m k => rn2 σ m k .del
  | .call f l => match rnL σ l with | some l => some (.call f l) | none => none
  | .callv f l => match rn σ f, rnL σ l with | some f, some l => some (.callv f l) | _, _ => none

/-- Places that an operation reads, as bits. -/
def bO : Operand → Nat
  | .tmp t => 1 <<< t
  | _ => 0
def bL (l : List Operand) : Nat := l.foldl (fun n x => n ||| bO x) 0
def bOo : Option Operand → Nat
  | some x => bO x
  | none => 0
def bOp : SOp → Nat
  | .mv x | .box _ x | .load _ _ x | .nilck x | .eqNil _ _ x | .un _ x | .conv _ x | .faddr _ x | .field _ _ _ x | .ext x _ | .len _ x | .lenM x | .clearS _ x | .clearM x => bO x
  | .pick a b c | .mapset a b c => bO a ||| bO b ||| bO c
  | .new _ | .newmap => 0
  | .build _ ps | .bslice _ _ ps => bL (ps.map (·.2.2))
  | .store _ x y | .bin _ x y | .eqB _ x y | .eqS _ x y | .eqAgg _ _ x y | .mkslice _ _ x y | .iaddr _ x y | .iaddrA _ _ x y | .append _ _ x y | .copy _ x y | .lookup _ _ x y | .del x y => bO x ||| bO y
  | .fn _ a b => bL a ||| bL b
  | .slice _ x a b c | .sliceArr _ _ x a b c => bO x ||| bOo a ||| bOo b ||| bOo c
  | .minmax _ l | .call _ l => bL l
  | .callv f l => bO f ||| bL l
def bI (i : SI) : Nat := bOp i.op ||| (match i.guard with | some (t, _) => 1 <<< t | none => 0)
def bD (i : SI) : Nat := match i.dst with | some d => 1 <<< d | none => 0
def reads : SC → Nat
  | .reg l | .drw l => l.foldl (fun n i => n ||| bI i) 0
  | .seq a b => reads a ||| reads b
  | .cond c a b => bO c ||| reads a ||| reads b
  | .blk _ b | .loop b => reads b
  | _ => 0
def writes : SC → Nat
  | .reg l | .drw l => l.foldl (fun n i => n ||| bD i) 0
  | .seq a b => writes a ||| writes b
  | .cond _ a b => writes a ||| writes b
  | .blk _ b | .loop b => writes b
  | _ => 0
/-- Which places are wanted ahead of code, if those of o are behind it, those of x at each way out, and those of r at a return. -/
def live (r : Nat) : SC → Nat → List (Nat × Nat) → Nat
  | .skip, o, _ => o
  | .reg l, o, _ | .drw l, o, _ => l.foldr (fun i o => ((o ||| bD i) ^^^ bD i) ||| bI i) o
  | .seq a b, o, x => live r a (live r b o x) x
  | .cond c a b, o, x => bO c ||| live r a o x ||| live r b o x
  | .blk i b, o, x => live r b o ((i, o) :: x)
  | .loop b, _, x => live r b (live r b (live r b (live r b 0 x) x) x) x
  | .exit i, _, x => match x.find? (·.1 == i) with | some p => p.2 | none => 0
  | .ret, _, _ => r
/-- Which places are laid at the end, and at each way out. -/
def laid : SC → Nat → Option Nat × List (Nat × Nat)
  | .skip, d => (some d, [])
  | .reg l, d | .drw l, d => (some (l.foldl (fun n i => n ||| bD i) d), [])
  | .seq a b, d => match laid a d with
    | (none, x) => (none, x)
    | (some e, x) => let (r, y) := laid b e; (r, x ++ y)
  | .cond _ a b, d =>
    let (r, x) := laid a d
    let (s, y) := laid b d
    ((match r, s with | none, s => s | r, none => r | some r, some s => some (r &&& s)), x ++ y)
  | .blk i b, d =>
    let (r, x) := laid b d
    (x.foldl (fun r (j, e) => if j = i then (match r with | none => some e | some r => some (r &&& e)) else r) r, x.filter (·.1 != i))
  | .loop b, d => (none, (laid b d).2)
  | .exit i, d => (none, [(i, d)])
  | .ret, _ => (none, [])
/-- How often is its end reached, at most 2; how great is it? -/
def hasLoop : SC → Bool
  | .loop _ => true
  | .seq a b | .cond _ a b => hasLoop a || hasLoop b
  | .blk _ b => hasLoop b
  | _ => false
def ends : SC → Nat × List Nat
  | .skip | .reg _ | .drw _ => (1, [])
  | .seq a b => let (n, x) := ends a; let (m, y) := ends b; (n * m, x ++ y)
  | .cond _ a b => let (n, x) := ends a; let (m, y) := ends b; (n + m, x ++ y)
  | .blk i b => let (n, x) := ends b; (n + (x.filter (· == i)).length, x.filter (· != i))
  | .loop b => (0, (ends b).2)
  | .exit i => (0, [i])
  | .ret => (0, [])

abbrev Kn := Sg → Nat → Nat → Option L
def onlyS (σ : Sg) (w : Nat) : Sg := σ.filter fun x => w.testBit x.1
def params (d : Nat) : List Nat → Sg
  | [] => []
  | t :: r => (t, .tmp d) :: params (d + 1) r
def bitsOf (n w : Nat) : List Nat := (List.range n).filter fun i => w.testBit i
def lks (σ : Sg) : List Nat → Option (List Operand)
  | [] => some []
  | t :: r => match lk σ t, lks σ r with | some x, some l => some (x :: l) | _, _ => none
def jump (l : Nat) (ps : List Nat) : Kn := fun σ _ _ => match lks σ ps with | some vs => some (.goto l vs) | none => none

def upd (σ : Sg) (d : Option Nat) (x : Operand) : Sg :=
  match d with
  | some t => (t, x) :: σ.filter (fun y => !(y.1 == t))
  | none => σ
def rnG (σ : Sg) : Option (Nat × Bool) → Option (Option (Operand × Bool))
  | none => some none
  | some (t, w) => match lk σ t with | some x => some (some (x, w)) | none => none
def chksOf (ls : List (Option (Option (Operand × Bool) × SOp))) : List Nat → List (Option (Operand × Bool) × SOp)
  | [] => []
  | j :: r => match ls.getD j none with | some c => c :: chksOf ls r | none => chksOf ls r
abbrev Kw := List (Operand × Bool)
/-- Is it known whether an operation is wanted? -/
def known (κ : Kw) (x : Operand) (w : Bool) : Option Bool :=
  match x with
  | .const v => wantsV v w
  | x => match κ with
    | [] => none
    | (y, b) :: r => if oeq x y then some (b == w) else known r x w
/-- What needs no operation: a move, a choice that is made. -/
def truth (κ : Kw) (x : Operand) : Option Bool :=
  match x with
  | .const (.bool t) => some t
  | x => match κ with
    | [] => none
    | (y, b) :: r => if oeq x y then some b else truth r x
def aliasOf (κ : Kw) : SOp → Option Operand
  | .mv x => some x
  | .pick c a b => match truth κ c with | some t => some (if t then a else b) | none => none
  | _ => none
/-- A region: moves are followed at once; what hangs on something is a branch. -/
def liftR (md : SOp → Md) : List SI → Sg → Nat → Kw → List (Option (Option (Operand × Bool) × SOp)) → (Sg → Nat → Option L) → Option L
  | [], σ, d, _, _, k => k σ d
  | i :: r, σ, d, κ, ls, k =>
    match rnG σ i.guard, rnOp σ i.op with
    | some g, some o =>
      let no := fun κ => liftR md r (upd σ i.dst (.const skipV)) d κ (ls ++ [none]) k
      let yes := fun κ => match aliasOf κ o with
        | some x => liftR md r (upd σ i.dst x) d κ (ls ++ [none]) k
        | none => match liftR md r (upd σ i.dst (.tmp d)) (d + 1) κ (ls ++ [some (none, o)]) k with
          | some l => some (.op ⟨none, o, md i.op, chksOf ls i.chk⟩ l)
          | none => none
      match g with
      | none => yes κ
      | some (x, w) =>
        match known κ x w with
        | some true => yes κ
        | some false => no κ
        | none =>
          match yes ((x, w) :: κ), no ((x, !w) :: κ) with
          | some a, some b => some (if w then .ite x a b else .ite x b a)
          | _, _ => none
    | _, _ => none

structure LCtx where
  md : SOp → Md
  nt : Nat
  rl : Nat
abbrev Lv := Nat × List (Nat × Nat)

/-- Is it worth while to tell what is carried? -/
def hasGuard : SC → Bool
  | .reg l | .drw l => l.any fun i => i.guard.isSome
  | .seq a b | .cond _ a b => hasGuard a || hasGuard b
  | .blk _ b | .loop b => hasGuard b
  | _ => false
def hasCond : SC → Bool
  | .cond _ _ _ => true
  | .seq a b => hasCond a || hasCond b
  | .blk _ b | .loop b => hasCond b
  | _ => false
def smallC : SC → Bool
  | .seq a b => smallC a && smallC b
  | .reg l => l.length ≤ 3
  | .drw l => l.length ≤ 3
  | .ret | .exit _ | .skip => true
  | _ => false
def startsCond : SC → Bool
  | .cond _ _ _ => true
  | .seq a _ => startsCond a
  | _ => false
def wantJoin (a b : SC) : Bool := hasLoop a || ((1 < (ends a).1 || hasGuard a) && !smallC b && !(startsCond b && !hasCond a))

def sizeC : SC → Nat
  | .reg l | .drw l => l.length
  | .seq a b => sizeC a + sizeC b
  | .cond _ a b => 1 + sizeC a + sizeC b
  | .blk _ b => sizeC b
  | .loop b => 1 + sizeC b
  | _ => 1

def liftC (X : LCtx) : SC → Sg → Nat → Nat → Lv → Kn → (Nat → Kn) → Kn → Option L
  | .skip, σ, d, lb, _, kn, _, _ => kn σ d lb
  | .reg l, σ, d, lb, lv, kn, _, _ => if l.all (fun i => i.chk.isEmpty) then liftR X.md l σ d [] [] (fun σ d => kn (onlyS σ lv.1) d lb) else none
  | .drw l, σ, d, lb, lv, kn, _, _ => liftR X.md l σ d [] [] (fun σ d => kn (onlyS σ lv.1) d lb)
  | .seq a b, σ, d, lb, lv, kn, kb, kr =>
    let k : Kn := fun σ d lb => liftC X b σ d lb lv kn kb kr
    let la : Lv := (live X.rl b lv.1 lv.2, lv.2)
    if wantJoin a b then
      let ok := match (laid a (σ.foldl (fun n x => n ||| 1 <<< x.1) 0)).1 with | some e => e | none => 0
      let ps := bitsOf X.nt (la.1 &&& ok)
      match liftC X a σ d (lb + 1) la (jump lb ps) kb kr, k (params 0 ps) ps.length (lb + 1) with
      | some x, some y => some (.join lb x y)
      | _, _ => none
    else liftC X a σ d lb la k kb kr
  | .cond c a b, σ, d, lb, lv, kn, kb, kr =>
    match rn σ c with
    | some (.const (.bool true)) => liftC X a σ d lb lv kn kb kr
    | some (.const (.bool false)) => liftC X b σ d lb lv kn kb kr
    | some c =>
      (match liftC X a σ d lb lv kn kb kr, liftC X b σ d lb lv kn kb kr with
      | some x, some y => some (.ite c x y)
      | _, _ => none)
    | none => none
  | .blk i b, σ, d, lb, lv, kn, kb, kr => liftC X b σ d lb (lv.1, (i, lv.1) :: lv.2) kn (fun j => if j = i then kn else kb j) kr
  | .loop b, σ, d, lb, lv, _, kb, kr =>
    let lv : Lv := (live X.rl (.loop b) 0 lv.2, lv.2)
    let ps := (bitsOf X.nt lv.1).filter fun t => (lk σ t).isSome
    match lks σ ps, liftC X b (params 0 ps) ps.length (lb + 1) lv (jump lb ps) kb kr with
    | some init, some x => some (.loop lb init x)
    | _, _ => none
  | .exit i, σ, d, lb, _, _, kb, _ => kb i σ d lb
  | .ret, σ, d, lb, _, _, _, kr => kr σ d lb

/-- The results are told. -/
def liftRes (P : Program) : List ResultVar → List Operand → Sg → Nat → Option L
  | [], vs, _, _ => some (.ret vs)
  | .tmp t :: r, vs, σ, d => match lk σ t with | some x => liftRes P r (vs ++ [x]) σ d | none => none
  | .cell a t :: r, vs, σ, d => match lk σ a with
    | some x => (match liftRes P r (vs ++ [.tmp d]) σ (d + 1) with | some l => some (.op ⟨none, .load (isAggT P t) (P.cellsOf t) x, .raw, []⟩ l) | none => none)
    | none => none

structure LFn where
  np : Nat
  body : L

def resBits (l : List ResultVar) : Nat := l.foldl (fun n r => n ||| (match r with | .tmp t => 1 <<< t | .cell a _ => 1 <<< a)) 0
def liftFn (P : Program) (md : SOp → Md) (np : Nat) (s : SFn) : Option LFn :=
  if s.nt < np then none else
  match liftC ⟨md, s.nt, resBits s.res⟩ s.body (params 0 (List.range np)) np 0 (resBits s.res, []) (fun σ d _ => liftRes P s.res [] σ d) (fun _ _ _ _ => none) (fun σ d _ => liftRes P s.res [] σ d) with
  | some l => some ⟨np, l⟩
  | none => none

end Go.Proofs.Ytohclaopcejjnaa.G
