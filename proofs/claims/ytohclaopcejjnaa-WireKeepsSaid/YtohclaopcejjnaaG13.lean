/- Regions of open order, the plain side: what 'before' tells, what the order keeps, what an operation that is no act leaves. -/
import Derived.Test.YtohclaopcejjnaaG12
namespace Go.Proofs.Ytohclaopcejjnaa.G
open Go

/-! ### what stands ahead of what -/
/-- What an operation hangs on, out of what those ahead of it hang on. -/
def hangs (f : Nat → Nat) (o : Oper) : Nat := o.after.foldl (fun s e => if Region.binds .any e then s ||| 2 ^ e.on ||| f e.on else s) 0

theorem hangsL_testBit (f : Nat → Nat) (k : Nat) : ∀ (l : List Edge) (s : Nat),
    (l.foldl (fun s e => if Region.binds .any e then s ||| 2 ^ e.on ||| f e.on else s) s).testBit k = true ↔ s.testBit k = true ∨ ∃ e ∈ l, Region.binds .any e = true ∧ (e.on = k ∨ (f e.on).testBit k = true)
  | [], s => by simp
  | e :: l, s => by
    rw [List.foldl_cons, hangsL_testBit f k l]
    by_cases hb : Region.binds .any e = true
    · simp only [hb, if_true, Nat.testBit_or, Bool.or_eq_true, List.mem_cons, exists_eq_or_imp, true_and, Nat.testBit_two_pow, decide_eq_true_eq]
      simp only [or_assoc]
    · simp only [hb, Bool.false_eq_true, if_false, List.mem_cons, exists_eq_or_imp, false_and, false_or]

theorem hangs_testBit (f : Nat → Nat) (o : Oper) (k : Nat) : (hangs f o).testBit k = true ↔ ∃ e ∈ o.after.toList, Region.binds .any e = true ∧ (e.on = k ∨ (f e.on).testBit k = true) := by
  unfold hangs
  rw [← Array.foldl_toList, hangsL_testBit]
  simp

theorem before_fold : ∀ (l : List Oper) (acc : Array Nat), ∃ r : Array Nat, l.foldl (fun acc o => acc.push (hangs (fun k => acc.getD k 0) o)) acc = acc ++ r ∧ r.size = l.length ∧
    ∀ (j : Nat) o, l[j]? = some o → (acc ++ r).getD (acc.size + j) 0 = hangs (fun k => if k < acc.size + j then (acc ++ r).getD k 0 else 0) o
  | [], acc => ⟨#[], by simp, rfl, by simp⟩
  | o :: l, acc => by
    obtain ⟨r, h1, h2, h3⟩ := before_fold l (acc.push (hangs (fun k => acc.getD k 0) o))
    refine ⟨#[hangs (fun k => acc.getD k 0) o] ++ r, ?_, by simp [h2]; omega, fun j o' hj => ?_⟩
    · rw [List.foldl_cons, h1, ← Array.append_assoc]
      rfl
    · have hcat : acc ++ (#[hangs (fun k => acc.getD k 0) o] ++ r) = acc.push (hangs (fun k => acc.getD k 0) o) ++ r := by rw [← Array.append_assoc]; rfl
      rw [hcat]
      cases j with
      | zero =>
        simp at hj
        subst hj
        have e1 : (acc.push (hangs (fun k => acc.getD k 0) o) ++ r).getD (acc.size + 0) 0 = hangs (fun k => acc.getD k 0) o := by
          simp [Array.getElem?_append]
        rw [e1]
        congr 1
        funext k
        by_cases hk : k < acc.size
        · simp [hk, Array.getElem?_append, show k < acc.size + 1 by omega, Array.getElem_push]
        · simp [hk]
      | succ j =>
        have := h3 j o' (by simpa using hj)
        simp only [Array.size_push] at this
        rw [show acc.size + (j + 1) = acc.size + 1 + j by omega]
        exact this

theorem before_get (ops : Array Oper) {i : Nat} {o : Oper} (hi : ops[i]? = some o) :
    (Region.before ops).getD i 0 = hangs (fun k => if k < i then (Region.before ops).getD k 0 else 0) o := by
  obtain ⟨r, h1, h2, h3⟩ := before_fold ops.toList #[]
  have hb : Region.before ops = r := by
    have : Region.before ops = ops.toList.foldl (fun acc o => acc.push (hangs (fun k => acc.getD k 0) o)) #[] := by
      unfold Region.before
      rw [← Array.foldl_toList]
      rfl
    rw [this, h1]
    simp
  have := h3 i o (by simpa using hi)
  simp only [List.size_toArray, List.length_nil, Nat.zero_add, Array.empty_append] at this
  rw [hb]
  exact this

/-- Behind an edge: the edge's own end, and all that it hangs on. -/
theorem before_edge (ops : Array Oper) {i : Nat} {o : Oper} (hi : ops[i]? = some o) {e : Edge} (he : e ∈ o.after.toList) (hb : Region.binds .any e = true) : ((Region.before ops).getD i 0).testBit e.on = true := by
  rw [before_get ops hi, hangs_testBit]
  exact ⟨e, he, hb, .inl rfl⟩

theorem before_closed (ops : Array Oper) (S : Nat → Prop) (hS : ∀ i o, ops[i]? = some o → S i → ∀ e ∈ o.after.toList, Region.binds .any e = true → S e.on) :
    ∀ (i : Nat) o, ops[i]? = some o → (∀ e ∈ o.after.toList, Region.binds .any e = true → S e.on) → ∀ k, ((Region.before ops).getD i 0).testBit k = true → S k := by
  intro i
  induction i using Nat.strongRecOn with
  | _ i ih =>
    intro o hi hdir k hk
    rw [before_get ops hi, hangs_testBit] at hk
    obtain ⟨e, he, hb, hk⟩ := hk
    have hse := hdir e he hb
    rcases hk with rfl | hk
    · exact hse
    · split at hk
      · rename_i hlt
        cases ho : ops[e.on]? with
        | none =>
          exfalso
          have hsz : ops.size ≤ e.on := by simpa using ho
          have : i < ops.size := (Array.getElem?_eq_some_iff.1 hi).1
          omega
        | some o' => exact ih e.on hlt o' ho (hS e.on o' ho hse) k hk
      · simp at hk

/-! ### operations that are no acts -/
/-- What an operation reads. -/
def opdsS : SOp → List Operand
  | .mv x | .box _ x | .load _ _ x | .nilck x | .eqNil _ _ x | .un _ x | .conv _ x | .faddr _ x | .field _ _ _ x | .ext x _ | .len _ x | .lenM x | .clearS _ x | .clearM x => [x]
  | .pick c a b => [c, a, b]
  | .new _ | .newmap => []
  | .build _ ps | .bslice _ _ ps => ps.map (·.2.2)
  | .store _ x v | .bin _ x v | .eqB _ x v | .eqS _ x v | .eqAgg _ _ x v | .mkslice _ _ x v | .iaddr _ x v | .iaddrA _ _ x v | .append _ _ x v | .copy _ x v | .lookup _ _ x v | .del x v => [x, v]
  | .fn _ a b => a ++ b
  | .slice _ x lo hi mx | .sliceArr _ _ x lo hi mx => x :: (lo.toList ++ hi.toList ++ mx.toList)
  | .minmax _ l => l
  | .mapset m k v => [m, k, v]
  | .call _ args => args
  | .callv f args => f :: args

theorem evs_congr {e e' : Env} {ps : List (Nat × Nat × Operand)} (h : ∀ x ∈ ps.map (·.2.2), ev e x = ev e' x) : evs e ps = evs e' ps := by
  unfold evs
  refine List.map_congr_left fun p hp => ?_
  rw [h p.2.2 (List.mem_map.2 ⟨p, hp, rfl⟩)]
theorem map_congr_ev {e e' : Env} {l : List Operand} (h : ∀ x ∈ l, ev e x = ev e' x) : l.map (ev e) = l.map (ev e') := List.map_congr_left h

theorem exec_congr (C : Ctx) {e e' : Env} (o : SOp) (h : ∀ x ∈ opdsS o, ev e x = ev e' x) : exec C e o = exec C e' o := by
  cases o <;> simp only [opdsS, List.mem_cons, List.mem_append, List.not_mem_nil, or_false, forall_eq_or_imp, forall_eq, Option.mem_toList] at h <;> simp only [exec]
  case build t ps => rw [evs_congr (e := e) (e' := e') (fun x hx => h x hx)]
  case bslice t n ps => rw [evs_congr (e := e) (e' := e') (fun x hx => h x hx)]
  case fn f a b =>
    rw [map_congr_ev fun x hx => h x (.inl hx), map_congr_ev fun x hx => h x (.inr hx)]
  case slice sz x lo hi mx =>
    have e1 : lo.map (ev e) = lo.map (ev e') := by cases lo with | none => rfl | some y => simp [h.2 y (.inl (.inl rfl))]
    have e2 : hi.map (ev e) = hi.map (ev e') := by cases hi with | none => rfl | some y => simp [h.2 y (.inl (.inr rfl))]
    have e3 : mx.map (ev e) = mx.map (ev e') := by cases mx with | none => rfl | some y => simp [h.2 y (.inr rfl)]
    rw [h.1, e1, e2, e3]
  case sliceArr n sz x lo hi mx =>
    have e1 : lo.map (ev e) = lo.map (ev e') := by cases lo with | none => rfl | some y => simp [h.2 y (.inl (.inl rfl))]
    have e2 : hi.map (ev e) = hi.map (ev e') := by cases hi with | none => rfl | some y => simp [h.2 y (.inl (.inr rfl))]
    have e3 : mx.map (ev e) = mx.map (ev e') := by cases mx with | none => rfl | some y => simp [h.2 y (.inr rfl)]
    rw [h.1, e1, e2, e3]
  case minmax mx l => rw [map_congr_ev h]
  case call f l => rw [map_congr_ev h]
  case callv f l => rw [h.1, map_congr_ev fun x hx => h.2 x hx]
  all_goals simp only [h]

/-- New memory, and nothing else. -/
def isA : SOp → Bool
  | .new _ | .box .. | .bslice .. | .mkslice .. => true
  | _ => false

/-- What new memory holds, and how its place is told. -/
def freshOf (P : Program) (e : Env) : SOp → Option (List Value × (Nat → Value))
  | .new t => if (zc P t).all one then some (zc P t, fun b => .pointer (some ⟨b, 0, none⟩)) else none
  | .box _ x => if (cellsL (ev e x)).all one then some (cellsL (ev e x), fun b => .pointer (some ⟨b, 0, none⟩)) else none
  | .bslice t n ps =>
    match fillL (reps n (zc P t)) (evs e ps) with
    | some cs => if cs.all one then some (cs, fun b => .slice (some ⟨b, 0, none⟩) n n) else none
    | none => none
  | .mkslice t bytes l c =>
    match asNat (ev e l), asNat (ev e c) with
    | some n, some m => if n ≤ m ∧ fits m bytes ∧ ((reps m (zc P t)).all one = true) then some (reps m (zc P t), fun b => .slice (some ⟨b, 0, none⟩) n m) else none
    | _, _ => none
  | _ => none

theorem exec_fresh (C : Ctx) (e : Env) (o : SOp) (ha : isA o = true) (H : Heap) : exec C e o H = (freshOf C.P e o).map fun p => (p.2 H.size, H.push (.cells p.1 false)) := by
  cases o <;> simp [isA] at ha
  · simp only [exec, freshOf, anew]
    split <;> simp
  · simp only [exec, freshOf, anew]
    split <;> simp
  · simp only [exec, freshOf]
    split
    · split <;> simp_all
    · simp_all
  · simp only [exec, freshOf]
    split
    · split <;> simp_all
    · simp_all

theorem same_rd {H H2 : Heap} {b off n : Nat} (h : same H H2 (.range b off n) = true) : rd H b off n = rd H2 b off n := by simpa [same] using h

/-- What is no act and makes nothing leaves the heap, and hangs on what it looks at alone. -/
theorem exec_still (C : Ctx) (e : Env) (o : SOp) (hw : isW o = false) (ha : isA o = false) {H : Heap} {v : Value} {H' : Heap} (h : exec C e o H = some (v, H')) :
    H' = H ∧ ∀ H2, same H H2 (looks e o) = true → exec C e o H2 = some (v, H2) := by
  have lifted : ∀ {q : Option Value}, lift q H = some (v, H') → H' = H ∧ ∀ H2, lift q H2 = some (v, H2) := fun {q} hq => by
    obtain ⟨h1, h2⟩ := lift_some hq
    subst h1
    exact ⟨h2, fun H2 => rfl⟩
  cases o <;> simp [isW, isA] at hw ha
  case mv x => simp only [exec] at h ⊢; obtain ⟨h1, h2⟩ := lifted h; exact ⟨h1, fun H2 _ => h2 H2⟩
  case pick c x y =>
    simp only [exec] at h ⊢
    generalize ev e c = vc at h ⊢
    cases vc with
    | bool t => obtain ⟨h1, h2⟩ := lifted h; exact ⟨h1, fun H2 _ => h2 H2⟩
    | _ => simp [lift] at h
  case build t ps => simp only [exec] at h ⊢; obtain ⟨h1, h2⟩ := lifted h; exact ⟨h1, fun H2 _ => h2 H2⟩
  case load agg sz x =>
    simp only [exec, looks] at h ⊢
    generalize ev e x = vx at h ⊢
    unfold aload at h ⊢
    split at h
    · rename_i b off
      split at h
      · rename_i vs hr
        refine ⟨?_, fun H2 hs => ?_⟩
        · split at h
          · simp at h; exact h.2.symm
          · split at h
            · simp at h; exact h.2.symm
            · simp at h
        · have hr2 := same_rd hs
          rw [hr] at hr2
          rw [← hr2]
          split at h
          · rename_i hag; simp at h; simp [hag, h.1]
          · rename_i hag
            split at h
            · simp at h; simp [hag, h.1]
            · simp at h
      · simp at h
    · simp at h
  case nilck x =>
    simp only [exec] at h ⊢
    generalize ev e x = vx at h ⊢
    cases vx with
    | pointer p =>
      cases p with
      | none => simp [lift] at h
      | some p => obtain ⟨h1, h2⟩ := lifted h; exact ⟨h1, fun H2 _ => h2 H2⟩
    | func f p q =>
      cases f with
      | func f => obtain ⟨h1, h2⟩ := lifted h; exact ⟨h1, fun H2 _ => h2 H2⟩
      | _ => simp [lift] at h
    | _ => simp [lift] at h
  case bin op x y => simp only [exec] at h ⊢; obtain ⟨h1, h2⟩ := lifted h; exact ⟨h1, fun H2 _ => h2 H2⟩
  case eqNil neg k x => simp only [exec] at h ⊢; obtain ⟨h1, h2⟩ := lifted h; exact ⟨h1, fun H2 _ => h2 H2⟩
  case eqB neg x y =>
    simp only [exec] at h ⊢
    generalize ev e x = vx at h ⊢
    generalize ev e y = vy at h ⊢
    cases vx <;> try (simp [lift] at h; done)
    cases vy <;> try (simp [lift] at h; done)
    obtain ⟨h1, h2⟩ := lifted h; exact ⟨h1, fun H2 _ => h2 H2⟩
  case eqS neg x y =>
    simp only [exec] at h ⊢
    generalize ev e x = vx at h ⊢
    generalize ev e y = vy at h ⊢
    cases vx <;> try (simp [lift] at h; done)
    cases vy <;> try (simp [lift] at h; done)
    obtain ⟨h1, h2⟩ := lifted h; exact ⟨h1, fun H2 _ => h2 H2⟩
  case eqAgg neg t x y =>
    simp only [exec] at h ⊢
    generalize ev e x = vx at h ⊢
    generalize ev e y = vy at h ⊢
    cases vx <;> try (simp [lift] at h; done)
    cases vy <;> try (simp [lift] at h; done)
    simp only at h ⊢
    split at h
    · rename_i hc; rw [if_pos hc]; obtain ⟨h1, h2⟩ := lifted h; exact ⟨h1, fun H2 _ => h2 H2⟩
    · simp [lift] at h
  case un op x => simp only [exec] at h ⊢; obtain ⟨h1, h2⟩ := lifted h; exact ⟨h1, fun H2 _ => h2 H2⟩
  case conv k x =>
    simp only [exec] at h ⊢
    generalize ev e x = vx at h ⊢
    cases vx with
    | int k2 n => obtain ⟨h1, h2⟩ := lifted h; exact ⟨h1, fun H2 _ => h2 H2⟩
    | _ => simp [lift] at h
  case fn f p q => simp only [exec] at h ⊢; obtain ⟨h1, h2⟩ := lifted h; exact ⟨h1, fun H2 _ => h2 H2⟩
  case slice sz x lo hi mx => simp only [exec] at h ⊢; obtain ⟨h1, h2⟩ := lifted h; exact ⟨h1, fun H2 _ => h2 H2⟩
  case sliceArr n sz x lo hi mx =>
    simp only [exec] at h ⊢
    generalize ev e x = vx at h ⊢
    cases vx with
    | pointer p =>
      cases p with
      | none => simp [lift] at h
      | some p =>
        simp only at h ⊢
        split at h
        · rename_i hc; rw [if_pos hc]; obtain ⟨h1, h2⟩ := lifted h; exact ⟨h1, fun H2 _ => h2 H2⟩
        · simp [lift] at h
    | _ => simp [lift] at h
  case faddr off x =>
    simp only [exec] at h ⊢
    generalize ev e x = vx at h ⊢
    cases vx with
    | pointer p =>
      cases p with
      | none => simp [lift] at h
      | some p =>
        obtain ⟨b, o, sp⟩ := p
        cases sp with
        | none => obtain ⟨h1, h2⟩ := lifted h; exact ⟨h1, fun H2 _ => h2 H2⟩
        | some _ => simp [lift] at h
    | _ => simp [lift] at h
  case field agg off sz x =>
    simp only [exec] at h ⊢
    generalize ev e x = vx at h ⊢
    cases vx with
    | agg cs =>
      simp only at h ⊢
      split at h
      · rename_i hc
        rw [if_pos hc]
        split at h
        · rename_i hag; rw [if_pos hag]; obtain ⟨h1, h2⟩ := lifted h; exact ⟨h1, fun H2 _ => h2 H2⟩
        · rename_i hag; rw [if_neg hag]; obtain ⟨h1, h2⟩ := lifted h; exact ⟨h1, fun H2 _ => h2 H2⟩
      · simp [lift] at h
    | _ => simp [lift] at h
  case iaddr sz x i => simp only [exec] at h ⊢; obtain ⟨h1, h2⟩ := lifted h; exact ⟨h1, fun H2 _ => h2 H2⟩
  case iaddrA n sz x i => simp only [exec] at h ⊢; obtain ⟨h1, h2⟩ := lifted h; exact ⟨h1, fun H2 _ => h2 H2⟩
  case ext x i =>
    simp only [exec] at h ⊢
    generalize ev e x = vx at h ⊢
    cases vx with
    | tuple vs => obtain ⟨h1, h2⟩ := lifted h; exact ⟨h1, fun H2 _ => h2 H2⟩
    | _ => simp [lift] at h
  case len str x =>
    simp only [exec] at h ⊢
    generalize ev e x = vx at h ⊢
    cases vx with
    | slice a n k =>
      simp only at h ⊢
      split at h
      · simp [lift] at h
      · rename_i hc; rw [if_neg hc]; obtain ⟨h1, h2⟩ := lifted h; exact ⟨h1, fun H2 _ => h2 H2⟩
    | string s =>
      simp only at h ⊢
      split at h
      · rename_i hc; rw [if_pos hc]; obtain ⟨h1, h2⟩ := lifted h; exact ⟨h1, fun H2 _ => h2 H2⟩
      · simp [lift] at h
    | _ => simp [lift] at h
  case lenM x =>
    simp only [exec, looks] at h ⊢
    generalize ev e x = vx at h ⊢
    cases vx with
    | map p =>
      cases p with
      | none => simp at h; exact ⟨h.2.symm, fun H2 _ => by simp [h.1]⟩
      | some b =>
        simp only at h ⊢
        split at h
        · rename_i es k hb
          simp at h
          refine ⟨h.2.symm, fun H2 hs => ?_⟩
          have hs2 : H[b]? = H2[b]? := by simpa [same] using hs
          rw [← hs2, hb]
          simp [h.1]
        · simp at h
    | _ => simp at h
  case minmax mx l => simp only [exec] at h ⊢; obtain ⟨h1, h2⟩ := lifted h; exact ⟨h1, fun H2 _ => h2 H2⟩
  case lookup t ok m k =>
    simp only [exec, looks] at h ⊢
    generalize ev e m = vx at h ⊢
    unfold alookup at h ⊢
    cases vx with
    | map p =>
      cases p with
      | none =>
        simp only at h ⊢
        split at h
        · rename_i hp; simp at h; exact ⟨h.2.symm, fun H2 _ => by simp [hp, h.1]⟩
        · simp at h
      | some b =>
        simp only at h ⊢
        split at h
        · rename_i es c hb
          split at h
          · rename_i hg
            refine ⟨?_, fun H2 hs => ?_⟩
            · split at h <;> simp at h <;> exact h.2.symm
            · have hs2 : H[b]? = H2[b]? := by simpa [same] using hs
              rw [← hs2, hb]
              simp only [hg, if_true]
              split at h
              · simp at h; simp [h.1]
              · simp at h; simp [h.1]
          · simp at h
        · simp at h
    | _ => simp at h

end Go.Proofs.Ytohclaopcejjnaa.G
