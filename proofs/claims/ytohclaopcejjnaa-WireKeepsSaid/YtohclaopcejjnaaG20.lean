/- Reasoning about the plain reading without counting: what comes to an end, however much one allows. -/
import Derived.Test.YtohclaopcejjnaaG19
namespace Go.Proofs.Ytohclaopcejjnaa.G
open Go

def ctx (B : Book) (m : Nat) : Ctx := ⟨B.P, acall B m⟩
def c0 (P : Program) : Ctx := ⟨P, fun _ _ _ => none⟩

/-- A call comes to this. -/
def Ret (B : Book) (f : FuncId) (args : List Value) (H : Heap) (v : Value) (H' : Heap) : Prop := ∃ n, ∀ m, n ≤ m → acall B m f args H = some (v, H')
/-- A call comes to something of which Q holds. -/
def CallW (B : Book) (f : FuncId) (args : List Value) (Q : Value → Heap → Prop) (H : Heap) : Prop := ∃ v H', Ret B f args H v H' ∧ Q v H'
/-- Code comes to something of which Q holds. -/
def W (B : Book) (c : SC) (Q : Ex → Env → Heap → Prop) (e : Env) (H : Heap) : Prop := ∃ x e' H', (∃ n, ∀ m, n ≤ m → run (ctx B m) m c e H = some ((x, e'), H')) ∧ Q x e' H'
def WL (B : Book) (l : List SI) (K : Env → Heap → Prop) (e : Env) (H : Heap) : Prop := ∃ e' H', (∃ n, ∀ m, n ≤ m → runL (ctx B m) l e H = some (e', H')) ∧ K e' H'
def WD (B : Book) (l : List SI) (ls : List Look) (K : Env → Heap → Prop) (e : Env) (H : Heap) : Prop := ∃ e' H', (∃ n, ∀ m, n ≤ m → runD (ctx B m) l ls e H = some (e', H')) ∧ K e' H'

def thn (K : Env → Heap → Prop) (Q : Ex → Env → Heap → Prop) : Ex → Env → Heap → Prop
  | .nx, e, H => K e H
  | x, e, H => Q x e H
def inB (id : Nat) (Q : Ex → Env → Heap → Prop) : Ex → Env → Heap → Prop
  | .br j, e, H => if j = id then Q .nx e H else Q (.br j) e H
  | x, e, H => Q x e H

section
variable {B : Book} {Q : Ex → Env → Heap → Prop} {e : Env} {H : Heap}

theorem CallW.mono {f : FuncId} {args : List Value} {Q Q' : Value → Heap → Prop} (h : CallW B f args Q H) (hq : ∀ v H', Q v H' → Q' v H') : CallW B f args Q' H :=
  let ⟨v, H', h1, h2⟩ := h; ⟨v, H', h1, hq v H' h2⟩
theorem W.mono {c : SC} {Q' : Ex → Env → Heap → Prop} (h : W B c Q e H) (hq : ∀ x e H, Q x e H → Q' x e H) : W B c Q' e H :=
  let ⟨x, e', H', h1, h2⟩ := h; ⟨x, e', H', h1, hq x e' H' h2⟩

theorem W_skip (h : Q .nx e H) : W B .skip Q e H := ⟨_, _, _, ⟨0, fun _ _ => rfl⟩, h⟩
theorem W_exit {id : Nat} (h : Q (.br id) e H) : W B (.exit id) Q e H := ⟨_, _, _, ⟨0, fun _ _ => rfl⟩, h⟩
theorem W_ret (h : Q .rt e H) : W B .ret Q e H := ⟨_, _, _, ⟨0, fun _ _ => rfl⟩, h⟩
theorem W_reg {l : List SI} (h : WL B l (Q .nx) e H) : W B (.reg l) Q e H := by
  obtain ⟨e', H', ⟨n, hn⟩, hq⟩ := h
  exact ⟨_, _, _, ⟨n, fun m hm => by simp only [run, hn m hm]⟩, hq⟩
theorem W_drw {l : List SI} (h : WD B l [] (Q .nx) e H) : W B (.drw l) Q e H := by
  obtain ⟨e', H', ⟨n, hn⟩, hq⟩ := h
  exact ⟨_, _, _, ⟨n, fun m hm => by simp only [run, hn m hm]⟩, hq⟩
theorem W_seq0 {a b : SC} (h : W B a (thn (W B b Q) Q) e H) : W B (.seq a b) Q e H := by
  obtain ⟨x, e', H', ⟨n, hn⟩, hq⟩ := h
  cases x with
  | nx =>
    obtain ⟨x2, e2, H2, ⟨n2, hn2⟩, hq2⟩ := hq
    exact ⟨x2, e2, H2, ⟨max n n2, fun m hm => by simp only [run, hn m (by omega), hn2 m (by omega)]⟩, hq2⟩
  | br j => exact ⟨_, _, _, ⟨n, fun m hm => by simp only [run, hn m hm]⟩, hq⟩
  | rt => exact ⟨_, _, _, ⟨n, fun m hm => by simp only [run, hn m hm]⟩, hq⟩
theorem W_seq {a b : SC} (h : ∀ K : Env → Heap → Prop, (∀ e H, W B b Q e H → K e H) → W B a (thn K Q) e H) : W B (.seq a b) Q e H := W_seq0 (h _ fun _ _ h => h)
theorem W_cond {c : Operand} {a b : SC} {t : Bool} (hc : ev e c = .bool t) (h1 : t = true → W B a Q e H) (h2 : t = false → W B b Q e H) : W B (.cond c a b) Q e H := by
  cases t with
  | true =>
    obtain ⟨x, e', H', ⟨n, hn⟩, hq⟩ := h1 rfl
    exact ⟨x, e', H', ⟨n, fun m hm => by simp only [run, hc, if_true]; exact hn m hm⟩, hq⟩
  | false =>
    obtain ⟨x, e', H', ⟨n, hn⟩, hq⟩ := h2 rfl
    exact ⟨x, e', H', ⟨n, fun m hm => by simp only [run, hc, Bool.false_eq_true, if_false]; exact hn m hm⟩, hq⟩
theorem W_blk {id : Nat} {b : SC} (h : W B b (inB id Q) e H) : W B (.blk id b) Q e H := by
  obtain ⟨x, e', H', ⟨n, hn⟩, hq⟩ := h
  cases x with
  | nx => exact ⟨_, _, _, ⟨n, fun m hm => by simp only [run, hn m hm]⟩, hq⟩
  | rt => exact ⟨_, _, _, ⟨n, fun m hm => by simp only [run, hn m hm]⟩, hq⟩
  | br j =>
    simp only [inB] at hq
    by_cases hj : j = id
    · rw [if_pos hj] at hq
      exact ⟨_, _, _, ⟨n, fun m hm => by simp only [run, hn m hm, if_pos hj]⟩, hq⟩
    · rw [if_neg hj] at hq
      exact ⟨_, _, _, ⟨n, fun m hm => by simp only [run, hn m hm, if_neg hj]⟩, hq⟩

/-- A loop: I tells what holds with so many rounds left at most. -/
theorem W_loop {b : SC} (I : Nat → Env → Heap → Prop) (k : Nat) (h0 : I k e H) (step : ∀ k e H, I k e H → W B b (thn (fun e' H' => ∃ k', k' < k ∧ I k' e' H') Q) (prune e) H) : W B (.loop b) Q e H := by
  have key : ∀ k e H, I k e H → ∃ x e' H', (∃ n, ∀ m, n ≤ m → ∀ r, k < r → loopN (fun e => run (ctx B m) m b e) r e H = some ((x, e'), H')) ∧ Q x e' H' := by
    intro k
    induction k using Nat.strongRecOn with
    | _ k ih =>
      intro e H hI
      obtain ⟨x, e1, H1, ⟨n, hn⟩, hq⟩ := step k e H hI
      cases x with
      | nx =>
        obtain ⟨k', hk, hI'⟩ := hq
        obtain ⟨x2, e2, H2, ⟨n2, hn2⟩, hq2⟩ := ih k' hk e1 H1 hI'
        refine ⟨x2, e2, H2, ⟨max n n2, fun m hm r hr => ?_⟩, hq2⟩
        obtain ⟨r', rfl⟩ : ∃ r', r = r' + 1 := ⟨r - 1, by omega⟩
        simp only [loopN, hn m (by omega)]
        exact hn2 m (by omega) r' (by omega)
      | br j =>
        refine ⟨_, _, _, ⟨n, fun m hm r hr => ?_⟩, hq⟩
        obtain ⟨r', rfl⟩ : ∃ r', r = r' + 1 := ⟨r - 1, by omega⟩
        simp only [loopN, hn m hm]
      | rt =>
        refine ⟨_, _, _, ⟨n, fun m hm r hr => ?_⟩, hq⟩
        obtain ⟨r', rfl⟩ : ∃ r', r = r' + 1 := ⟨r - 1, by omega⟩
        simp only [loopN, hn m hm]
  obtain ⟨x, e', H', ⟨n, hn⟩, hq⟩ := key k e H h0
  exact ⟨x, e', H', ⟨max n (k + 1), fun m hm => by simp only [run]; exact hn m (by omega) m (by omega)⟩, hq⟩

/-- Places hold these values. -/
def holds (e : Env) : List (Nat × Value) → Prop
  | [] => True
  | (t, v) :: r => get e t = v ∧ holds e r
/-- What else stood in the places is forgotten. -/
theorem W_forget {c : SC} (F : List (Nat × Value)) (h1 : holds e F) (h2 : ∀ e', holds e' F → W B c Q e' H) : W B c Q e H := h2 e h1

/-! ### instructions -/
theorem exec_c0 (C : Ctx) (e : Env) (o : SOp) (h : isCall o = false) : exec C e o = exec (c0 C.P) e o := by
  cases o <;> first | rfl | (simp [isCall] at h)

/-- As far as the next call. -/
def seg (P : Program) : List SI → Env → Heap → Option (List SI × Env × Heap)
  | [], e, H => some ([], e, H)
  | ⟨d, op, g, ch⟩ :: r, e, H =>
    match wants e g with
    | some true => if isCall op = true then some (⟨d, op, g, ch⟩ :: r, e, H) else (match exec (c0 P) e op H with | some (v, H') => seg P r (put e d v) H' | none => none)
    | some false => seg P r (put e d skipV) H
    | none => none

theorem WL_nil {K : Env → Heap → Prop} (h : K e H) : WL B [] K e H := ⟨_, _, ⟨0, fun _ _ => rfl⟩, h⟩
theorem WL_step {K : Env → Heap → Prop} {i : SI} {r : List SI} {e' : Env} {H' : Heap} (hs : ∃ n, ∀ m, n ≤ m → stepI (ctx B m) e i H = some (e', H')) (h : WL B r K e' H') : WL B (i :: r) K e H := by
  obtain ⟨e2, H2, ⟨n, hn⟩, hk⟩ := h
  obtain ⟨n2, hn2⟩ := hs
  exact ⟨e2, H2, ⟨max n n2, fun m hm => by simp only [runL, hn2 m (by omega), hn m (by omega)]⟩, hk⟩
theorem seg_WL {K : Env → Heap → Prop} : ∀ (l : List SI) {e : Env} {H : Heap} {r : List SI} {e1 : Env} {H1 : Heap}, seg B.P l e H = some (r, e1, H1) → WL B r K e1 H1 → WL B l K e H
  | [], e, H, r, e1, H1, hs, h => by
    simp only [seg, Option.some.injEq, Prod.mk.injEq] at hs
    obtain ⟨rfl, rfl, rfl⟩ := hs
    exact h
  | ⟨d, op, g, ch⟩ :: l, e, H, r, e1, H1, hs, h => by
    simp only [seg] at hs
    split at hs
    · rename_i hw
      split at hs
      · simp only [Option.some.injEq, Prod.mk.injEq] at hs
        obtain ⟨rfl, rfl, rfl⟩ := hs
        exact h
      · rename_i hc
        split at hs
        · rename_i v H' he
          refine WL_step (e' := put e d v) (H' := H') ⟨0, fun m _ => ?_⟩ (seg_WL l hs h)
          simp only [stepI, hw, exec_c0 (ctx B m) e op (by simpa using hc)]
          have : (ctx B m).P = B.P := rfl
          rw [this, he]
        · simp at hs
    · rename_i hw
      exact WL_step (e' := put e d skipV) (H' := H) ⟨0, fun m _ => by simp only [stepI, hw]⟩ (seg_WL l hs h)
    · simp at hs
theorem WL_call {K : Env → Heap → Prop} {d : Option Nat} {f : FuncId} {args : List Operand} {g : Option (Nat × Bool)} {ch : List Nat} {r : List SI} (hw : wants e g = some true)
    (h : CallW B f (args.map (ev e)) (fun v H' => WL B r K (put e d v) H') H) : WL B (⟨d, .call f args, g, ch⟩ :: r) K e H := by
  obtain ⟨v, H', ⟨n, hn⟩, hk⟩ := h
  refine WL_step ⟨n, fun m hm => ?_⟩ hk
  simp only [stepI, hw, exec]
  rw [show (ctx B m).call = acall B m from rfl, hn m hm]
theorem WL_callv {K : Env → Heap → Prop} {d : Option Nat} {x : Operand} {f : FuncId} {a1 a2 : Array Value} {args : List Operand} {g : Option (Nat × Bool)} {ch : List Nat} {r : List SI} (hw : wants e g = some true) (hx : ev e x = .func (.func f) a1 a2)
    (h : CallW B f (a1.toList ++ args.map (ev e) ++ a2.toList) (fun v H' => WL B r K (put e d v) H') H) : WL B (⟨d, .callv x args, g, ch⟩ :: r) K e H := by
  obtain ⟨v, H', ⟨n, hn⟩, hk⟩ := h
  refine WL_step ⟨n, fun m hm => ?_⟩ hk
  simp only [stepI, hw, exec, hx]
  rw [show (ctx B m).call = acall B m from rfl, hn m hm]

/-- What is asked behind a run up to the next call. -/
def after (B : Book) (K : Env → Heap → Prop) : Option (List SI × Env × Heap) → Prop
  | some ([], e, H) => K e H
  | some (i :: r, e, H) => WL B (i :: r) K e H
  | none => False
theorem after_nil (K : Env → Heap → Prop) (e : Env) (H : Heap) : after B K (some ([], e, H)) = K e H := rfl
theorem after_cons (K : Env → Heap → Prop) (i : SI) (r : List SI) (e : Env) (H : Heap) : after B K (some (i :: r, e, H)) = WL B (i :: r) K e H := rfl
theorem WL_go {K : Env → Heap → Prop} {l : List SI} (h : after B K (seg B.P l e H)) : WL B l K e H := by
  cases hs : seg B.P l e H with
  | none => rw [hs] at h; exact h.elim
  | some q =>
    obtain ⟨r, e1, H1⟩ := q
    rw [hs] at h
    cases r with
    | nil => exact seg_WL l hs (WL_nil h)
    | cons i r => exact seg_WL l hs h
theorem W_go {l : List SI} (h : after B (Q .nx) (seg B.P l e H)) : W B (.reg l) Q e H := W_reg (WL_go h)

/-! ### regions of open order -/
def segD (P : Program) : List SI → List Look → Env → Heap → Option (List SI × List Look × Env × Heap)
  | [], ls, e, H => some ([], ls, e, H)
  | ⟨d, op, g, ch⟩ :: r, ls, e, H =>
    match wants e g with
    | some true =>
      if isCall op = true then some (⟨d, op, g, ch⟩ :: r, ls, e, H) else
      (match exec (c0 P) e op H with | some (v, H') => if (ch.all fun j => same H H' (ls.getD j .nothing)) = true then segD P r (ls ++ [looks e op]) (put e d v) H' else none | none => none)
    | some false => segD P r (ls ++ [.nothing]) (put e d skipV) H
    | none => none
theorem WD_nil {K : Env → Heap → Prop} {ls : List Look} (h : K e H) : WD B [] ls K e H := ⟨_, _, ⟨0, fun _ _ => rfl⟩, h⟩
theorem WD_step {K : Env → Heap → Prop} {i : SI} {r : List SI} {ls : List Look} {e' : Env} {H' : Heap} (hs : ∃ n, ∀ m, n ≤ m → stepI (ctx B m) e i H = some (e', H')) (hc : (i.chk.all fun j => same H H' (ls.getD j .nothing)) = true) (h : WD B r (ls ++ [looksI e i]) K e' H') : WD B (i :: r) ls K e H := by
  obtain ⟨e2, H2, ⟨n, hn⟩, hk⟩ := h
  obtain ⟨n2, hn2⟩ := hs
  exact ⟨e2, H2, ⟨max n n2, fun m hm => by simp only [runD, hn2 m (by omega), hc, if_true, hn m (by omega)]⟩, hk⟩
theorem segD_WD {K : Env → Heap → Prop} : ∀ (l : List SI) {ls : List Look} {e : Env} {H : Heap} {r : List SI} {ls1 : List Look} {e1 : Env} {H1 : Heap}, segD B.P l ls e H = some (r, ls1, e1, H1) → WD B r ls1 K e1 H1 → WD B l ls K e H
  | [], ls, e, H, r, ls1, e1, H1, hs, h => by
    simp only [segD, Option.some.injEq, Prod.mk.injEq] at hs
    obtain ⟨rfl, rfl, rfl, rfl⟩ := hs
    exact h
  | ⟨d, op, g, ch⟩ :: l, ls, e, H, r, ls1, e1, H1, hs, h => by
    simp only [segD] at hs
    split at hs
    · rename_i hw
      split at hs
      · simp only [Option.some.injEq, Prod.mk.injEq] at hs
        obtain ⟨rfl, rfl, rfl, rfl⟩ := hs
        exact h
      · rename_i hc
        split at hs
        · rename_i v H' he
          split at hs
          · rename_i hch
            refine WD_step (e' := put e d v) (H' := H') ⟨0, fun m _ => ?_⟩ hch ?_
            · simp only [stepI, hw, exec_c0 (ctx B m) e op (by simpa using hc)]
              have : (ctx B m).P = B.P := rfl
              rw [this, he]
            · simp only [looksI, hw, if_true]
              exact segD_WD l hs h
          · simp at hs
        · simp at hs
    · rename_i hw
      refine WD_step (e' := put e d skipV) (H' := H) ⟨0, fun m _ => by simp only [stepI, hw]⟩ (by simp [same_refl]) ?_
      simp only [looksI, hw, Option.some.injEq, Bool.false_eq_true, if_false]
      exact segD_WD l hs h
    · simp at hs
theorem WD_call {K : Env → Heap → Prop} {d : Option Nat} {f : FuncId} {args : List Operand} {g : Option (Nat × Bool)} {ch : List Nat} {ls : List Look} {r : List SI} (hw : wants e g = some true)
    (h : CallW B f (args.map (ev e)) (fun v H' => (ch.all fun j => same H H' (ls.getD j .nothing)) = true ∧ WD B r (ls ++ [.nothing]) K (put e d v) H') H) : WD B (⟨d, .call f args, g, ch⟩ :: r) ls K e H := by
  obtain ⟨v, H', ⟨n, hn⟩, hc, hk⟩ := h
  refine WD_step ⟨n, fun m hm => ?_⟩ hc (by simpa only [looksI, hw, if_true, looks] using hk)
  simp only [stepI, hw, exec]
  rw [show (ctx B m).call = acall B m from rfl, hn m hm]
theorem WD_callv {K : Env → Heap → Prop} {d : Option Nat} {x : Operand} {f : FuncId} {a1 a2 : Array Value} {args : List Operand} {g : Option (Nat × Bool)} {ch : List Nat} {ls : List Look} {r : List SI} (hw : wants e g = some true) (hx : ev e x = .func (.func f) a1 a2)
    (h : CallW B f (a1.toList ++ args.map (ev e) ++ a2.toList) (fun v H' => (ch.all fun j => same H H' (ls.getD j .nothing)) = true ∧ WD B r (ls ++ [.nothing]) K (put e d v) H') H) : WD B (⟨d, .callv x args, g, ch⟩ :: r) ls K e H := by
  obtain ⟨v, H', ⟨n, hn⟩, hc, hk⟩ := h
  refine WD_step ⟨n, fun m hm => ?_⟩ hc (by simpa only [looksI, hw, if_true, looks] using hk)
  simp only [stepI, hw, exec, hx]
  rw [show (ctx B m).call = acall B m from rfl, hn m hm]

def afterD (B : Book) (K : Env → Heap → Prop) : Option (List SI × List Look × Env × Heap) → Prop
  | some ([], _, e, H) => K e H
  | some (i :: r, ls, e, H) => WD B (i :: r) ls K e H
  | none => False
theorem afterD_nil (K : Env → Heap → Prop) (ls : List Look) (e : Env) (H : Heap) : afterD B K (some ([], ls, e, H)) = K e H := rfl
theorem afterD_cons (K : Env → Heap → Prop) (i : SI) (r : List SI) (ls : List Look) (e : Env) (H : Heap) : afterD B K (some (i :: r, ls, e, H)) = WD B (i :: r) ls K e H := rfl
theorem WD_go {K : Env → Heap → Prop} {l : List SI} {ls : List Look} (h : afterD B K (segD B.P l ls e H)) : WD B l ls K e H := by
  cases hs : segD B.P l ls e H with
  | none => rw [hs] at h; exact h.elim
  | some q =>
    obtain ⟨r, ls1, e1, H1⟩ := q
    rw [hs] at h
    cases r with
    | nil => exact segD_WD l hs (WD_nil h)
    | cons i r => exact segD_WD l hs h
theorem D_go {l : List SI} (h : afterD B (Q .nx) (segD B.P l [] e H)) : W B (.drw l) Q e H := W_drw (WD_go h)

/-! ### calls -/
def fin (Q : Value → Heap → Prop) : Option (List Value × Heap) → Prop
  | some (vs, H) => Q (tup vs) H
  | none => False
theorem fin_some (Q : Value → Heap → Prop) (vs : List Value) (H : Heap) : fin Q (some (vs, H)) = Q (tup vs) H := rfl
def endOK (P : Program) (res : List ResultVar) (Q : Value → Heap → Prop) : Ex → Env → Heap → Prop
  | .br _, _, _ => False
  | _, e, H => fin Q (resAll P e res H)

theorem CallW_raw {f : FuncId} {args : List Value} {s : SFn} {Q : Value → Heap → Prop} (hg : B.given f = none) (hs : B.fn f = some s) (hm : B.mode f = .raw) (hl : ¬ s.nt < args.length) (h : W B s.body (endOK B.P s.res Q) (env0 args 0) H) : CallW B f args Q H := by
  obtain ⟨x, e', H', ⟨n, hn⟩, hq⟩ := h
  cases x with
  | br j => exact hq.elim
  | nx | rt =>
    simp only [endOK] at hq
    cases hr : resAll B.P e' s.res H' with
    | none => rw [hr] at hq; exact hq.elim
    | some q =>
    obtain ⟨vs, H2⟩ := q
    rw [hr] at hq
    refine ⟨_, _, ⟨n + 1, fun m hm' => ?_⟩, hq⟩
    obtain ⟨m', rfl⟩ : ∃ m', m = m' + 1 := ⟨m - 1, by omega⟩
    have := hn m' (by omega)
    unfold ctx at this
    simp only [acall, hg, hs, hm, runFn, if_neg hl, this, hr]
theorem CallW_clean {f : FuncId} {args : List Value} {s : SFn} {Q : Value → Heap → Prop} (hg : B.given f = none) (hs : B.fn f = some s) (hm : B.mode f = .clean) (hl : ¬ s.nt < args.length)
    (h : W B s.body (endOK B.P s.res fun v H' => noRef v = true ∧ H'.extract 0 H.size = H ∧ Q v H) (env0 args 0) H) : CallW B f args Q H := by
  obtain ⟨x, e', H', ⟨n, hn⟩, hq⟩ := h
  cases x with
  | br j => exact hq.elim
  | nx | rt =>
    simp only [endOK] at hq
    cases hr : resAll B.P e' s.res H' with
    | none => rw [hr] at hq; exact hq.elim
    | some q =>
    obtain ⟨vs, H2⟩ := q
    rw [hr] at hq
    obtain ⟨hn1, hn2, hq⟩ := hq
    refine ⟨_, _, ⟨n + 1, fun m hm' => ?_⟩, hq⟩
    obtain ⟨m', rfl⟩ : ∃ m', m = m' + 1 := ⟨m - 1, by omega⟩
    have := hn m' (by omega)
    unfold ctx at this
    simp only [acall, hg, hs, hm, runFn, if_neg hl, this, hr, hn1, hn2, and_self, if_true]

theorem CallW.good (hB : BookOK B) {f : FuncId} {args : List Value} {Q : Value → Heap → Prop} (h : CallW B f args Q H) : ∃ v H', Good B.P f args H v H' ∧ Q v H' := by
  obtain ⟨v, H', ⟨n, hn⟩, hq⟩ := h
  exact ⟨v, H', acall_ok hB n f args H v H' (hn n (Nat.le_refl _)), hq⟩

/-! ### heaps, written out -/
theorem getElem?_push' (A : Heap) (x : Blk) (i : Nat) : (A.push x)[i]? = if i = A.size then some x else A[i]? := Array.getElem?_push
theorem set_push (A : Heap) (x y : Blk) (i : Nat) : (A.push x).setIfInBounds i y = if i = A.size then A.push y else (A.setIfInBounds i y).push x := by
  apply Array.ext_getElem?
  intro j
  by_cases hi : i = A.size
  · subst hi
    simp only [if_true, Array.getElem?_setIfInBounds, Array.getElem?_push, Array.size_push]
    by_cases hj : A.size = j
    · subst hj; simp
    · have : ¬ j = A.size := fun h => hj h.symm
      simp [hj, this]
  · simp only [if_neg hi, Array.getElem?_setIfInBounds, Array.getElem?_push, Array.size_push, Array.size_setIfInBounds]
    by_cases hj : i = j
    · subst hj
      simp only [if_true, if_neg hi]
      by_cases h2 : i < A.size
      · simp [h2, show i < A.size + 1 by omega]
      · simp [h2, show ¬ i < A.size + 1 by omega]
    · simp [hj]
theorem extract_push (A : Heap) (x : Blk) (n : Nat) : (A.push x).extract 0 n = if n ≤ A.size then A.extract 0 n else A.push x := by
  split
  · rename_i h
    apply Array.ext_getElem?
    intro j
    simp only [Array.getElem?_extract, Array.size_push, Array.getElem?_push]
    by_cases hj : j < n
    · have e1 : j < min n (A.size + 1) - 0 := by omega
      have e2 : j < min n A.size - 0 := by omega
      rw [if_pos e1, if_pos e2, if_neg (by omega)]
    · have e1 : ¬ j < min n (A.size + 1) - 0 := by omega
      have e2 : ¬ j < min n A.size - 0 := by omega
      rw [if_neg e1, if_neg e2]
  · rename_i h
    apply Array.ext_getElem?
    intro j
    simp only [Array.getElem?_extract, Array.size_push]
    by_cases hj : j < A.size + 1
    · have e1 : j < min n (A.size + 1) - 0 := by omega
      rw [if_pos e1]
      simp
    · have e1 : ¬ j < min n (A.size + 1) - 0 := by omega
      rw [if_neg e1]
      have : (A.push x)[j]? = none := by simp; omega
      rw [this]
def rdB : Blk → Nat → Nat → Option (List Value)
  | .cells cs _, off, n => if off + n ≤ cs.length then some ((cs.drop off).take n) else none
  | _, _, _ => none
def wrB : Blk → Nat → List Value → Option Blk
  | .cells cs false, off, vs => if off + vs.length ≤ cs.length && vs.all one then some (.cells (splice cs off vs) false) else none
  | _, _, _ => none
theorem rd_push (A : Heap) (x : Blk) (b off n : Nat) : rd (A.push x) b off n = if b = A.size then rdB x off n else rd A b off n := by
  unfold rd
  rw [Array.getElem?_push]
  by_cases h : b = A.size
  · rw [if_pos h, if_pos h]
    cases x <;> rfl
  · rw [if_neg h, if_neg h]
theorem wr_push (A : Heap) (x : Blk) (b off : Nat) (vs : List Value) : wr (A.push x) b off vs = if b = A.size then (wrB x off vs).map (fun y => A.push y) else (wr A b off vs).map (fun A => A.push x) := by
  unfold wr
  rw [Array.getElem?_push]
  by_cases h : b = A.size
  · rw [if_pos h, if_pos h]
    subst h
    cases x with
    | cells cs ro =>
      cases ro with
      | true => rfl
      | false =>
        simp only [wrB]
        split
        · simp only [Option.map_some, set_push, if_true]
        · rfl
    | map _ _ => rfl
    | dead => rfl
  · rw [if_neg h, if_neg h]
    cases A[b]? with
    | none => rfl
    | some y =>
      cases y with
      | cells cs ro =>
        cases ro with
        | true => rfl
        | false =>
          simp only
          by_cases hc : (decide (off + vs.length ≤ cs.length) && vs.all one) = true
          · simp only [if_pos hc, Option.map_some, set_push, if_neg h]
          · simp only [if_neg hc]
            rfl
      | map _ _ => rfl
      | dead => rfl
theorem rdB_cons (a : Value) (cs : List Value) (ro : Bool) (off n : Nat) : rdB (.cells (a :: cs) ro) off n = if off + n ≤ (a :: cs).length then some (((a :: cs).drop off).take n) else none := rfl
theorem rdB_nil (ro : Bool) (off n : Nat) : rdB (.cells [] ro) off n = if off + n ≤ 0 then some [] else none := by simp [rdB]
theorem wrB_cons (a : Value) (cs : List Value) (off : Nat) (vs : List Value) : wrB (.cells (a :: cs) false) off vs = if off + vs.length ≤ (a :: cs).length && vs.all one then some (.cells (splice (a :: cs) off vs) false) else none := rfl
theorem splice_cons (a : Value) (cs : List Value) (off : Nat) (vs : List Value) : splice (a :: cs) off vs = (a :: cs).take off ++ vs ++ (a :: cs).drop (off + vs.length) := rfl
theorem rdB_ints {k : IntKind} {ys : List Int} {ro : Bool} {i : Nat} (h : i < ys.length) : rdB (.cells (ys.map (.int k)) ro) i 1 = some [.int k (ys.getD i 0)] := by
  simp only [rdB, List.length_map]
  rw [if_pos (by omega)]
  congr 1
  apply List.ext_getElem?
  intro j
  rw [List.getElem?_take]
  by_cases hj : j < 1
  · obtain rfl : j = 0 := by omega
    simp [h]
  · rw [if_neg hj]
    simp; omega
theorem splice_set {cs : List Value} {i : Nat} {v : Value} (h : i < cs.length) : splice cs i [v] = cs.set i v := by
  unfold splice
  rw [List.set_eq_take_append_cons_drop, if_pos h]
  simp
theorem wrB_ints {k : IntKind} {ys : List Int} {i : Nat} {x : Int} (h : i < ys.length) : wrB (.cells (ys.map (.int k)) false) i [.int k x] = some (.cells ((ys.set i x).map (.int k)) false) := by
  simp only [wrB, List.length_map, List.length_cons, List.length_nil]
  rw [if_pos (by simp [one]; omega), splice_set (by simpa using h), List.map_set]
theorem ne_add {b n : Nat} (h : b < n) (k : Nat) : (b = n + k) = False := by apply propext; constructor <;> intro h <;> first | omega | exact h.elim
theorem ne_self {b n : Nat} (h : b < n) : (b = n) = False := by apply propext; constructor <;> intro h <;> first | omega | exact h.elim
theorem rd_lt' {H : Heap} {b off n : Nat} {vs : List Value} (h : rd H b off n = some vs) : b < H.size := rd_lt h
theorem eq_add_k (n k : Nat) : (n = n + k) = (k = 0) := by apply propext; omega
theorem add_k_eq (n k : Nat) : (n + k = n) = (k = 0) := by apply propext; omega
theorem le_add_k (n k : Nat) : (n + (k + 1) ≤ n) = False := by apply propext; constructor <;> intro h <;> first | omega | exact h.elim
theorem add_k_le (n k : Nat) : (n ≤ n + k) = True := by apply propext; constructor <;> intro h <;> first | omega | trivial
theorem add_add_le (n k l : Nat) : (n + k ≤ n + l) = (k ≤ l) := by apply propext; omega
theorem extract_self (A : Heap) : A.extract 0 A.size = A := by simp

end
end Go.Proofs.Ytohclaopcejjnaa.G
