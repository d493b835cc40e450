/- Regions of open order, taken in any order: the invariant, and that every order ends where the plain reading ends. -/
import Derived.Test.YtohclaopcejjnaaG15
namespace Go.Proofs.Ytohclaopcejjnaa.G
open Go

/-! ### the trace of a region -/
/-- What the plain reading does, instruction by instruction. -/
structure Trace (C : Ctx) (T : List SI) (E : Nat → Env) (Hs : Nat → Heap) (V : Nat → Value) : Prop where
  env : ∀ (p : Nat) (s : SI), T[p]? = some s → E (p + 1) = put (E p) s.dst (V p)
  val : ∀ (p : Nat) (s : SI), T[p]? = some s → (wants (E p) s.guard = some true ∧ exec C (E p) s.op (Hs p) = some (V p, Hs (p + 1))) ∨ (wants (E p) s.guard = some false ∧ V p = skipV ∧ Hs (p + 1) = Hs p)
  chk : ∀ (p : Nat) (s : SI), T[p]? = some s → ∀ j ∈ s.chk, ∀ (r : SI), j < p → T[j]? = some r → same (Hs p) (Hs (p + 1)) (looksI (E j) r) = true

theorem stepI_spec {C : Ctx} {e e' : Env} {s : SI} {H H' : Heap} (h : stepI C e s H = some (e', H')) : ∃ v, e' = put e s.dst v ∧ ((wants e s.guard = some true ∧ exec C e s.op H = some (v, H')) ∨ (wants e s.guard = some false ∧ v = skipV ∧ H' = H)) := by
  unfold stepI at h
  split at h
  · rename_i hw
    split at h
    · rename_i v H2 he
      simp only [Option.some.injEq, Prod.mk.injEq] at h
      obtain ⟨rfl, rfl⟩ := h
      exact ⟨v, rfl, .inl ⟨hw, he⟩⟩
    · simp at h
  · rename_i hw
    simp only [Option.some.injEq, Prod.mk.injEq] at h
    obtain ⟨rfl, rfl⟩ := h
    exact ⟨skipV, rfl, .inr ⟨hw, rfl, rfl⟩⟩
  · simp at h

theorem trace_of (C : Ctx) : ∀ (T : List SI) (ls : List Look) (e : Env) (H : Heap) (e' : Env) (H' : Heap), runD C T ls e H = some (e', H') →
    ∃ (E : Nat → Env) (Hs : Nat → Heap) (V : Nat → Value), E 0 = e ∧ Hs 0 = H ∧ E T.length = e' ∧ Hs T.length = H' ∧
      (∀ (p : Nat) (s : SI), T[p]? = some s → E (p + 1) = put (E p) s.dst (V p)) ∧
      (∀ (p : Nat) (s : SI), T[p]? = some s → (wants (E p) s.guard = some true ∧ exec C (E p) s.op (Hs p) = some (V p, Hs (p + 1))) ∨ (wants (E p) s.guard = some false ∧ V p = skipV ∧ Hs (p + 1) = Hs p)) ∧
      (∀ (p : Nat) (s : SI), T[p]? = some s → ∀ j ∈ s.chk, (∀ (k : Look), ls[j]? = some k → same (Hs p) (Hs (p + 1)) k = true) ∧ ∀ (i : Nat) (r : SI), j = ls.length + i → i < p → T[i]? = some r → same (Hs p) (Hs (p + 1)) (looksI (E i) r) = true)
  | [], ls, e, H, e', H', h => by
    simp only [runD, Option.some.injEq, Prod.mk.injEq] at h
    obtain ⟨rfl, rfl⟩ := h
    exact ⟨fun _ => e, fun _ => H, fun _ => undef, rfl, rfl, rfl, rfl, by simp, by simp, by simp⟩
  | s :: T, ls, e, H, e', H', h => by
    simp only [runD] at h
    split at h
    · rename_i e1 H1 hs
      split at h
      · rename_i hchk
        obtain ⟨E, Hs, V, h1, h2, h3, h4, h5, h6, h7⟩ := trace_of C T _ e1 H1 e' H' h
        obtain ⟨v, hv1, hv2⟩ := stepI_spec hs
        refine ⟨fun p => match p with | 0 => e | p + 1 => E p, fun p => match p with | 0 => H | p + 1 => Hs p, fun p => match p with | 0 => v | p + 1 => V p, rfl, rfl, h3, h4, ?_, ?_, ?_⟩
        · intro p r hp
          cases p with
          | zero => simp at hp; subst hp; simp only [h1]; exact hv1
          | succ p => exact h5 p r (by simpa using hp)
        · intro p r hp
          cases p with
          | zero => simp at hp; subst hp; simp only [h2]; exact hv2
          | succ p => exact h6 p r (by simpa using hp)
        · intro p r hp j hj
          cases p with
          | zero =>
            simp at hp; subst hp
            rw [List.all_eq_true] at hchk
            have := hchk j hj
            refine ⟨fun k hk => ?_, fun i r _ hi => by omega⟩
            simp only [List.getD_eq_getElem?_getD, hk, Option.getD_some] at this
            simp only [h2]
            exact this
          | succ p =>
            obtain ⟨g1, g2⟩ := h7 p r (by simpa using hp) j hj
            refine ⟨fun k hk => g1 k ?_, fun i r2 hji hi hr2 => ?_⟩
            · rw [List.getElem?_append_left (List.getElem?_eq_some_iff.1 hk).1]
              exact hk
            · cases i with
              | zero =>
                simp at hr2; subst hr2
                refine g1 _ ?_
                rw [hji, Nat.add_zero, List.getElem?_append_right (Nat.le_refl _)]
                simp
              | succ i =>
                exact g2 i r2 (by simp; omega) (by omega) (by simpa using hr2)
      · simp at h
    · simp at h

theorem Trace.of {C : Ctx} {T : List SI} {e e' : Env} {H H' : Heap} (h : runD C T [] e H = some (e', H')) : ∃ (E : Nat → Env) (Hs : Nat → Heap) (V : Nat → Value), E 0 = e ∧ Hs 0 = H ∧ E T.length = e' ∧ Hs T.length = H' ∧ Trace C T E Hs V := by
  obtain ⟨E, Hs, V, h1, h2, h3, h4, h5, h6, h7⟩ := trace_of C T [] e H e' H' h
  exact ⟨E, Hs, V, h1, h2, h3, h4, h5, h6, fun p s hp j hj r hjp hr => (h7 p s hp j hj).2 j r (by simp) hjp hr⟩

/-! ### who wrote a place last -/
/-- Of the instructions that D holds, the last one that has a place tells what it is. -/
def LW (T : List SI) (V : Nat → Value) (e0 : Env) (D : Nat → Prop) (f : Env) : Prop :=
  ∀ t, ((∀ (q : Nat) (s : SI), T[q]? = some s → D q → s.dst ≠ some t) ∧ get f t = get e0 t) ∨
    ∃ (q : Nat) (s : SI), T[q]? = some s ∧ D q ∧ s.dst = some t ∧ get f t = V q ∧ ∀ (q' : Nat) (s' : SI), T[q']? = some s' → D q' → s'.dst = some t → q' ≤ q

theorem LW.agree {T : List SI} {V : Nat → Value} {e0 : Env} {D1 D2 : Nat → Prop} {f g : Env} (h1 : LW T V e0 D1 f) (h2 : LW T V e0 D2 g) {t : Nat} (h : ∀ (q : Nat) (s : SI), T[q]? = some s → s.dst = some t → (D1 q ↔ D2 q)) : get f t = get g t := by
  rcases h1 t with ⟨a1, a2⟩ | ⟨q, s, a1, a2, a3, a4, a5⟩ <;> rcases h2 t with ⟨b1, b2⟩ | ⟨r, u, b1, b2, b3, b4, b5⟩
  · rw [a2, b2]
  · exact absurd b3 (a1 r u b1 ((h r u b1 b3).2 b2))
  · exact absurd a3 (b1 q s a1 ((h q s a1 a3).1 a2))
  · have e1 := b5 q s a1 ((h q s a1 a3).1 a2) a3
    have e2 := a5 r u b1 ((h r u b1 b3).2 b2) b3
    obtain rfl : q = r := by omega
    rw [a4, b4]

theorem LW.add {T : List SI} {V : Nat → Value} {e0 : Env} {D : Nat → Prop} {f : Env} (h : LW T V e0 D f) {p : Nat} {s : SI} (hp : T[p]? = some s) (hlast : ∀ (q : Nat) (r : SI) (d : Nat), T[q]? = some r → D q → s.dst = some d → r.dst = some d → q ≤ p) :
    LW T V e0 (fun q => D q ∨ q = p) (put f s.dst (V p)) := by
  intro t
  by_cases hd : s.dst = some t
  · refine .inr ⟨p, s, hp, .inr rfl, hd, ?_, ?_⟩
    · rw [hd]; simp [put, get]
    · intro q' s' hq' hD' hd'
      rcases hD' with hD' | rfl
      · exact hlast q' s' t hq' hD' hd hd'
      · exact Nat.le_refl _
  · have hg : get (put f s.dst (V p)) t = get f t := by
      cases hs : s.dst with
      | none => rfl
      | some d =>
        simp only [put, get]
        rw [if_neg]
        rintro rfl
        exact hd hs
    rcases h t with ⟨a1, a2⟩ | ⟨q, r, a1, a2, a3, a4, a5⟩
    · refine .inl ⟨fun q r hq hD => ?_, by rw [hg, a2]⟩
      rcases hD with hD | rfl
      · exact a1 q r hq hD
      · rw [hp] at hq
        cases hq
        exact hd
    · refine .inr ⟨q, r, a1, .inl a2, a3, by rw [hg, a4], fun q' s' hq' hD' hd' => ?_⟩
      rcases hD' with hD' | rfl
      · exact a5 q' s' hq' hD' hd'
      · rw [hp] at hq'
        cases hq'
        exact absurd hd' hd

theorem LW.iff {T : List SI} {V : Nat → Value} {e0 : Env} {D D' : Nat → Prop} {f : Env} (h : LW T V e0 D f) (hi : ∀ (q : Nat) (s : SI), T[q]? = some s → (D q ↔ D' q)) : LW T V e0 D' f := by
  intro t
  rcases h t with ⟨a1, a2⟩ | ⟨q, s, a1, a2, a3, a4, a5⟩
  · exact .inl ⟨fun q s hq hD => a1 q s hq ((hi q s hq).2 hD), a2⟩
  · exact .inr ⟨q, s, a1, (hi q s a1).1 a2, a3, a4, fun q' s' hq' hD' hd' => a5 q' s' hq' ((hi q' s' hq').2 hD') hd'⟩

theorem Trace.lw {C : Ctx} {T : List SI} {E : Nat → Env} {Hs : Nat → Heap} {V : Nat → Value} (h : Trace C T E Hs V) : ∀ p, p ≤ T.length → LW T V (E 0) (fun q => q < p) (E p)
  | 0, _ => fun t => .inl ⟨fun _ _ _ h => absurd h (by omega), rfl⟩
  | p + 1, hp => by
    have hs : T[p]? = some T[p] := List.getElem?_eq_getElem (by omega)
    have := (Trace.lw h p (by omega)).add hs (fun q r d _ hq _ _ => by omega)
    rw [← h.env p _ hs] at this
    exact this.iff fun q s _ => by omega

/-! ### the order -/
/-- A region of open order, and the order in which the plain reading takes it, told by places in that order. -/
structure Drawn (P : Program) (nt : Nat) (ops : Array Oper) (lt : Nat → Nat) (T : List SI) : Prop where
  len : T.length = ops.size
  inj : ∀ p q, p < ops.size → q < ops.size → lt p = lt q → p = q
  sur : ∀ i, i < ops.size → ∃ p, p < ops.size ∧ lt p = i
  bd : ∀ p, p < ops.size → lt p < ops.size
  made : ∀ (p : Nat) (s : SI), T[p]? = some s → ∃ o, ops[lt p]? = some o ∧ Made P nt ops o s
  edges : ∀ (i : Nat) (o : Oper), ops[i]? = some o → ∀ e ∈ o.after.toList, Region.binds .any e = true → e.on < ops.size
  tmps : ∀ (p q : Nat) (op oq : Oper) (d : Nat), p < ops.size → q < ops.size → p ≠ q → ops[lt p]? = some op → ops[lt q]? = some oq → op.dst = some d → d ∈ namesT oq →
    ((Region.before ops).getD (lt q) 0).testBit (lt p) = true ∨ ((Region.before ops).getD (lt p) 0).testBit (lt q) = true
  topo : ∀ p q, p < ops.size → q < ops.size → p ≤ q → ((Region.before ops).getD (lt p) 0).testBit (lt q) = false
  acts : ∀ (p q : Nat) (s : SI), p < ops.size → q < ops.size → T[p]? = some s → isW s.op = true → p < q → ((Region.before ops).getD (lt q) 0).testBit (lt p) = true
  chk : ∀ (p q : Nat) (s r : SI), T[p]? = some s → T[q]? = some r → p < q → isR s.op = true → isW r.op = true → ((Region.before ops).getD (lt q) 0).testBit (lt p) = false → p ∈ r.chk
  guards : ∀ (p : Nat) (s : SI) (t : Nat) (k : Bool), T[p]? = some s → s.guard = some (t, k) → ∃ q, q < ops.size ∧ ((Region.before ops).getD (lt p) 0).testBit (lt q) = true ∧ ∀ (q' : Nat) (s' : SI), T[q']? = some s' → s'.dst = some t → q' = q
  tsz : ∀ (j t : Nat), (ops[j]?).bind (fun o => o.dst) = some t → t < nt

section
variable {P : Program} {nt : Nat} {ops : Array Oper} {lt : Nat → Nat} {T : List SI} {C : Ctx} {E : Nat → Env} {Hs : Nat → Heap} {V : Nat → Value}

/-- p stands ahead of q. -/
def pre (ops : Array Oper) (lt : Nat → Nat) (p q : Nat) : Prop := ((Region.before ops).getD (lt q) 0).testBit (lt p) = true

theorem Drawn.at (hd : Drawn P nt ops lt T) {p : Nat} (hp : p < ops.size) : T[p]? = some (T[p]'(by rw [hd.len]; exact hp)) := List.getElem?_eq_getElem _
theorem Drawn.size {p : Nat} {s : SI} (hd : Drawn P nt ops lt T) (h : T[p]? = some s) : p < ops.size := by rw [← hd.len]; exact (List.getElem?_eq_some_iff.1 h).1

/-- No act: what it does to the heap. -/
theorem Trace.quiet (ht : Trace C T E Hs V) {p : Nat} {s : SI} (hp : T[p]? = some s) (hw : isW s.op = false) : Hs (p + 1) = Hs p ∨ ∃ cs, Hs (p + 1) = (Hs p).push (.cells cs false) := by
  rcases ht.val p s hp with ⟨_, he⟩ | ⟨_, _, h⟩
  · by_cases ha : isA s.op = true
    · rw [exec_fresh C _ _ ha] at he
      simp only [Option.map_eq_some_iff] at he
      obtain ⟨q, _, hq⟩ := he
      simp only [Prod.mk.injEq] at hq
      exact .inr ⟨q.1, hq.2.symm⟩
    · exact .inl (exec_still C _ _ hw (by simpa using ha) he).1
  · exact .inl h

/-- Over a run of no acts the heap only grows. -/
theorem Trace.grows (ht : Trace C T E Hs V) (p : Nat) : ∀ q, p ≤ q → q ≤ T.length → (∀ (x : Nat) (s : SI), p ≤ x → x < q → T[x]? = some s → isW s.op = false) → (Hs p).size ≤ (Hs q).size ∧ ∀ b, b < (Hs p).size → (Hs q)[b]? = (Hs p)[b]?
  | 0, h, _, _ => by
    obtain rfl : p = 0 := by omega
    exact ⟨Nat.le_refl _, fun _ _ => rfl⟩
  | q + 1, h, hl, hx => by
    by_cases hpq : p = q + 1
    · subst hpq; exact ⟨Nat.le_refl _, fun _ _ => rfl⟩
    · obtain ⟨g1, g2⟩ := Trace.grows ht p q (by omega) (by omega) (fun x s a b => hx x s a (by omega))
      have hs : T[q]? = some T[q] := List.getElem?_eq_getElem (by omega)
      rcases ht.quiet hs (hx q _ (by omega) (by omega) hs) with h1 | ⟨cs, h1⟩
      · rw [h1]; exact ⟨g1, g2⟩
      · rw [h1]
        refine ⟨by simp; omega, fun b hb => ?_⟩
        rw [Array.getElem?_push, if_neg (by omega)]
        exact g2 b hb

/-- The next act, if there is one. -/
theorem nextW (T : List SI) : ∀ (d k : Nat), T.length - k = d → k ≤ T.length → ∃ m, k ≤ m ∧ m ≤ T.length ∧ (∀ (x : Nat) (s : SI), k ≤ x → x < m → T[x]? = some s → isW s.op = false) ∧ (m < T.length → ∃ (s : SI), T[m]? = some s ∧ isW s.op = true)
  | 0, k, hd, hk => ⟨k, Nat.le_refl _, hk, fun x s h1 h2 => by omega, fun h => by omega⟩
  | d + 1, k, hd, hk => by
    have hs : T[k]? = some T[k] := List.getElem?_eq_getElem (by omega)
    by_cases hw : isW T[k].op = true
    · exact ⟨k, Nat.le_refl _, hk, fun x s h1 h2 => by omega, fun _ => ⟨_, hs, hw⟩⟩
    · obtain ⟨m, h1, h2, h3, h4⟩ := nextW T d (k + 1) (by omega) (by omega)
      refine ⟨m, by omega, h2, fun x s hx1 hx2 hxs => ?_, h4⟩
      by_cases hxk : x = k
      · subst hxk
        rw [hs] at hxs
        cases hxs
        simpa using hw
      · exact h3 x s (by omega) hx2 hxs

/-- Steps of no acts, of which the machine has taken none. -/
theorem Trace.aheads (ht : Trace C T E Hs V) {ι0 ι : Inj} {H0 : Heap} {w0 w : World} (p : Nat) (h : Stp ι0 H0 w0 ι (Hs p) w) : ∀ q, p ≤ q → q ≤ T.length → (∀ (x : Nat) (s : SI), p ≤ x → x < q → T[x]? = some s → isW s.op = false) → Stp ι0 H0 w0 ι (Hs q) w
  | 0, hpq, _, _ => by
    obtain rfl : p = 0 := by omega
    exact h
  | q + 1, hpq, hl, hx => by
    by_cases he : p = q + 1
    · subst he; exact h
    · have ih := Trace.aheads ht p h q (by omega) (by omega) (fun x s a b => hx x s a (by omega))
      have hs : T[q]? = some T[q] := List.getElem?_eq_getElem (by omega)
      rcases ht.quiet hs (hx q _ (by omega) (by omega) hs) with h1 | ⟨cs, h1⟩
      · rw [h1]; exact ih
      · rw [h1]; exact ih.ahead _

/-- What holds while a region of open order is taken: D tells which instructions have been; m is the next act. -/
structure Inv (nt : Nat) (ops : Array Oper) (lt : Nat → Nat) (T : List SI) (E : Nat → Env) (Hs : Nat → Heap) (V : Nat → Value) (ι0 : Inj) (w0 : World) (D : Nat → Prop) (a : Act) (w : World) (m : Nat) (f : Env) (ι : Inj) : Prop where
  closed : ∀ p q, p < ops.size → q < ops.size → D q → pre ops lt p q → D p
  mle : m ≤ T.length
  behind : ∀ q, q < ops.size → m ≤ q → ¬ D q
  acted : ∀ (q : Nat) (s : SI), q < m → T[q]? = some s → isW s.op = true → D q
  act : m < T.length → ∃ (s : SI), T[m]? = some s ∧ isW s.op = true
  lw : LW T V (E 0) (fun q => q < ops.size ∧ D q) f
  env : EnvR ι nt f a
  stp : Stp ι0 (Hs 0) w0 ι (Hs m) w
  mono : ∀ q r, q ≤ r → r ≤ m → (Hs q).size ≤ (Hs r).size
  unm : ∀ q, q < m → ¬ D q → ∀ cs, Hs (q + 1) = (Hs q).push (.cells cs false) → ι (Hs q).size = none ∧ (Hs m)[(Hs q).size]? = some (.cells cs false)

/-- What an instruction reads is as in the one order. -/
theorem reads_agree (hd : Drawn P nt ops lt T) (ht : Trace C T E Hs V) {D : Nat → Prop} {f : Env} (hcl : ∀ p q, p < ops.size → q < ops.size → D q → pre ops lt p q → D p)
    (hlw : LW T V (E 0) (fun q => q < ops.size ∧ D q) f) {p : Nat} {s : SI} (hp : T[p]? = some s) (hnp : ¬ D p) (hpre : ∀ q, q < ops.size → pre ops lt q p → D q) :
    (∀ x ∈ opdsS s.op, ev f x = ev (E p) x) ∧ wants f s.guard = wants (E p) s.guard := by
  have hps := hd.size hp
  obtain ⟨o, ho, hm⟩ := hd.made p s hp
  have hE := ht.lw p (by rw [hd.len]; omega)
  have key : ∀ t, (∀ (q : Nat) (r : SI), T[q]? = some r → r.dst = some t → q ≠ p → pre ops lt q p ∨ pre ops lt p q) → get f t = get (E p) t := by
    intro t hcomp
    refine hlw.agree hE fun q r hq hdst => ?_
    have hqs := hd.size hq
    by_cases hqp : q = p
    · subst hqp
      constructor
      · rintro ⟨_, h⟩; exact absurd h hnp
      · intro h; omega
    · rcases hcomp q r hq hdst hqp with h1 | h1
      · have hDq := hpre q hqs h1
        refine ⟨fun _ => ?_, fun _ => ⟨hqs, hDq⟩⟩
        rcases Nat.lt_or_ge q p with h2 | h2
        · exact h2
        · exfalso
          have := hd.topo p q hps hqs h2
          unfold pre at h1
          rw [h1] at this
          cases this
      · constructor
        · rintro ⟨_, hDq⟩
          exact absurd (hcl p q hps hqs hDq h1) hnp
        · intro hlt
          exfalso
          have := hd.topo q p hqs hps (by omega)
          unfold pre at h1
          rw [h1] at this
          cases this
  constructor
  · intro x hx
    cases x with
    | tmp t =>
      show get f t = get (E p) t
      refine key t fun q r hq hdst hqp => ?_
      have hqs := hd.size hq
      obtain ⟨oq, hoq, hmq⟩ := hd.made q r hq
      refine hd.tmps q p oq o t hqs hps hqp hoq ho (by rw [← hmq.2.1]; exact hdst) ?_
      have := opds_named hm.1 _ hx
      unfold namesT
      refine List.mem_append_right _ (List.mem_filterMap.2 ⟨.tmp t, this, rfl⟩)
    | _ => rfl
  · cases hg : s.guard with
    | none => rfl
    | some tk =>
      obtain ⟨t, k⟩ := tk
      obtain ⟨q, hqs, hbit, huniq⟩ := hd.guards p s t k hp hg
      have : get f t = get (E p) t := key t fun q' r hq' hdst _ => .inl (by rw [huniq q' r hq' hdst]; exact hbit)
      simp only [wants, this]

end
end Go.Proofs.Ytohclaopcejjnaa.G
