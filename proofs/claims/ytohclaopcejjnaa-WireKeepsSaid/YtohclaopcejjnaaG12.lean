/- Calls, guards, and a region in the order of its text: what the plain reading comes to, the machine comes to. -/
import Derived.Test.YtohclaopcejjnaaG11
namespace Go.Proofs.Ytohclaopcejjnaa.G
open Go

section
variable {P : Program} {ι : Inj} {H : Heap} {w : World}

/-- A call that is what the machine's call is. -/
def Good (P : Program) (f : FuncId) (args : List Value) (H : Heap) (v : Value) (H' : Heap) : Prop :=
  ∀ ι w cargs, Rel ι H w → VRL ι args cargs → (∀ w, (callFunc f cargs.toArray).run P w = .ok (.enter f cargs.toArray) w) ∧
    Calls P f cargs.toArray w fun e w' => ∃ ι' c, e = .returned c ∧ VR ι' v c ∧ Stp ι H w ι' H' w'

def CallsOK (C : Ctx) : Prop := ∀ f args H v H', C.call f args H = some (v, H') → Good C.P f args H v H'

/-- How a value comes to its place: by an operation, or by a call. -/
theorem op_wp (h : Rel ι H w) {nt : Nat} {e : Env} {a : Act} (hE : EnvR ι nt e a) {C : Ctx} (hC : C.P = P) (hcalls : CallsOK C) {o : Oper} {so : SOp} (hc : compileOp P o.op = some so) {v : Value} {H' : Heap}
    (he : exec C e so H = some (v, H')) (Q : Exit → Act → World → Prop) (K : Act → World → Prop)
    (hK : ∀ ι' c w', VR ι' v c → Stp ι H w ι' H' w' → K (a.put o.dst c) w') : o.wp P a w K Q := by
  by_cases hnc : isCall so = false
  · obtain ⟨ι', w', hst, hr⟩ := sim_exec h hE hC hc hnc he
    unfold Oper.wp
    rcases hr with ⟨c, hr, hv⟩ | ⟨hr, rfl⟩
    · rw [hr]
      exact hK ι' c w' hv hst
    · rw [hr]
      exact hK ι' undef w' (VR_undef _ _) hst
  · subst hC
    obtain ⟨dst, op, type, pos, after, guard⟩ := o
    simp only at hc
    unfold compileOp at hc
    split at hc
    · simp at hc
    rename_i hok
    simp only [Bool.not_eq_true, Bool.not_eq_false'] at hok
    cases op <;> simp only [Op.operands] at hok hc
    case call c =>
      obtain ⟨callee, args, ats⟩ := c
      have hargs : args.toList.all okOpd = true := by
        simp only [Call.operands, Array.all_append, Bool.and_eq_true] at hok
        simpa using hok.2
      have hev := hE.evs hargs
      simp only at hc
      split at hc
      · rename_i f
        simp at hc; subst hc
        simp only [exec] at he
        obtain ⟨g1, g2⟩ := hcalls f _ H v H' he ι w _ h hev
        have hm : (args.toList.map a.eval).toArray = args.map a.eval := by rw [← Array.toList_map, Array.toArray_toList]
        rw [hm] at g1 g2
        unfold Oper.wp
        simp only [execOp, resolve, Act.eval, Deferred.ofValue, Sem.run_bind, Sem.run_pure, Result.andThen_ok, invoke]
        have hx : (#[] : Array Value) ++ args.map a.eval ++ (#[] : Array Value) = args.map a.eval := by simp
        rw [hx, g1 w]
        simp only [Oper.upon]
        refine g2.mono fun e w' hh => ?_
        obtain ⟨ι', c, rfl, hv, hst⟩ := hh
        exact hK ι' c w' hv hst
      · rename_i f hnf
        simp at hc; subst hc
        have hokf : okOpd f = true := by
          simp only [Call.operands, Array.all_append, Bool.and_eq_true] at hok
          simpa using hok.1
        have hvf := hE.ev hokf
        simp only [exec] at he
        generalize hx : G.ev e f = vf at he hvf
        cases vf with
        | func fn first captured =>
          cases fn with
          | func g =>
            simp only at he
            simp only [VR] at hvf
            obtain ⟨first', captured', hcf, r1, r2⟩ := hvf
            obtain ⟨g1, g2⟩ := hcalls g _ H v H' he ι w (first'.toList ++ args.toList.map a.eval ++ captured'.toList) h (((VRA_iff.1 r1).append hev).append (VRA_iff.1 r2))
            have hm : (first'.toList ++ args.toList.map a.eval ++ captured'.toList).toArray = first' ++ args.map a.eval ++ captured' := by
              apply Array.ext'
              simp
            rw [hm] at g1 g2
            unfold Oper.wp
            simp only [execOp, resolve, hcf, Deferred.ofValue, Sem.run_bind, Sem.run_pure, Result.andThen_ok, invoke]
            have g1' := g1 w
            rw [g1']
            simp only [Oper.upon]
            refine g2.mono fun e w' hh => ?_
            obtain ⟨ι', c, rfl, hv, hst⟩ := hh
            exact hK ι' c w' hv hst
          | _ => simp [lift] at he
        | _ => simp [lift] at he
      all_goals (first
        | (simp at hc; subst hc; simp [isCall] at hnc; done)
        | (repeat' split at hc) <;> first | (simp at hc; done) | (simp at hc; subst hc; simp [isCall] at hnc; done))
    all_goals (first
      | (simp at hc; done)
      | (simp at hc; subst hc; simp [isCall] at hnc; done)
      | skip)
    all_goals ((repeat' split at hc) <;> first | (simp at hc; done) | (simp at hc; subst hc; simp [isCall] at hnc; done) | skip)
    all_goals (simp only [Option.bind_eq_bind, Option.bind_eq_some_iff] at hc; obtain ⟨ps, hps, hc⟩ := hc; simp at hc; subst hc; simp [isCall] at hnc)

/-! ### one instruction -/
theorem mapM_get {α β : Type} (f : α → Option β) : ∀ {l : List α} {m : List β}, l.mapM f = some m → l.length = m.length ∧ ∀ (i : Nat) x, l[i]? = some x → ∃ y, m[i]? = some y ∧ f x = some y
  | [], m, h => by
    simp at h; subst h
    exact ⟨rfl, by simp⟩
  | a :: l, m, h => by
    simp only [List.mapM_cons, Option.bind_eq_bind, Option.bind_eq_some_iff] at h
    obtain ⟨y, hy, ys, hys, h⟩ := h
    simp at h; subst h
    obtain ⟨h1, h2⟩ := mapM_get f hys
    refine ⟨by simp [h1], fun i x hx => ?_⟩
    cases i with
    | zero => simp at hx; subst hx; exact ⟨y, rfl, hy⟩
    | succ i => simpa using h2 i x (by simpa using hx)

/-- An instruction as it was made of the machine's. -/
def Made (P : Program) (nt : Nat) (ops : Array Oper) (o : Oper) (s : SI) : Prop :=
  compileOp P o.op = some s.op ∧ s.dst = o.dst ∧ o.dst.all (· < nt) = true ∧
    (match o.guard with | none => s.guard = none | some (j, k) => ∃ t, (ops[j]?).bind (·.dst) = some t ∧ s.guard = some (t, k))

theorem made_of {nt : Nat} {ops : Array Oper} {o : Oper} {s : SI} (h : compileSI P nt ops o = some s) : Made P nt ops o s := by
  unfold compileSI at h
  simp only [Option.bind_eq_bind, Option.bind_eq_some_iff] at h
  obtain ⟨op, hop, h⟩ := h
  cases hg : o.guard with
  | none =>
    simp only [hg, Option.pure_def] at h
    split at h
    · rename_i hd
      simp at h; subst h
      exact ⟨hop, rfl, hd, by simp [hg]⟩
    · simp at h
  | some jk =>
    obtain ⟨j, k⟩ := jk
    simp only [hg] at h
    cases ht : (ops[j]?).bind (·.dst) with
    | none => simp [ht] at h
    | some t =>
      simp only [ht, Option.pure_def] at h
      split at h
      · rename_i hd
        simp at h; subst h
        exact ⟨hop, rfl, hd, by rw [hg]; exact ⟨t, ht, rfl⟩⟩
      · simp at h

theorem wants_wanted {nt : Nat} {e : Env} {a : Act} (hE : EnvR ι nt e a) {ops : Array Oper} {o : Oper} {s : SI} (hm : Made P nt ops o s) (hsz : ∀ (j t : Nat), (ops[j]?).bind (fun o => o.dst) = some t → t < nt) {r : Bool} (hw : wants e s.guard = some r) :
    Region.wanted o (yielded ops a.tmps) = r := by
  obtain ⟨_, _, _, hg⟩ := hm
  cases hog : o.guard with
  | none =>
    rw [hog] at hg
    rw [hg] at hw
    simp [wants] at hw
    subst hw
    simp [Region.wanted, hog]
  | some jk =>
    obtain ⟨j, k⟩ := jk
    rw [hog] at hg
    obtain ⟨t, ht, hsg⟩ := hg
    rw [hsg] at hw
    simp only [wants] at hw
    have hv := hE.get t
    have hlt : t < a.tmps.size := by rw [hE.size]; exact hsz j t ht
    split at hw
    · rename_i b hb
      rw [hb] at hv
      simp only [VR] at hv
      have hat : a.tmps[t]? = some (.bool b) := by
        rw [Array.getElem?_eq_getElem hlt]
        simpa [hlt] using hv
      simp only [Region.wanted, hog, yielded, ht, Option.bind_some, hat]
      simpa using hw
    · rename_i q hb
      rw [hb] at hv
      simp only [VR] at hv
      have hat : a.tmps[t]? = some undef := by
        rw [Array.getElem?_eq_getElem hlt]
        simpa [hlt] using hv
      simp only [Region.wanted, hog, yielded, ht, Option.bind_some, hat]
      simp at hw
      subst hw
      rfl
    · simp at hw

/-- One instruction. -/
theorem step_wp (h : Rel ι H w) {nt : Nat} {e e' : Env} {a : Act} (hE : EnvR ι nt e a) {C : Ctx} (hC : C.P = P) (hcalls : CallsOK C) {ops : Array Oper} {i : Nat} {o : Oper} {s : SI} (ho : ops[i]? = some o) (hm : Made P nt ops o s)
    (hsz : ∀ (j t : Nat), (ops[j]?).bind (fun o => o.dst) = some t → t < nt) {H' : Heap} (hs : stepI C e s H = some (e', H')) (Q : Exit → Act → World → Prop) (K : Act → World → Prop)
    (hK : ∀ ι' v c w', e' = G.put e s.dst v → VR ι' v c → Stp ι H w ι' H' w' → EnvR ι' nt e' (a.put o.dst c) → K (a.put o.dst c) w') : wpOp P ops Q i K a w := by
  unfold stepI at hs
  unfold wpOp
  simp only [ho]
  split at hs
  · rename_i hw
    rw [wants_wanted hE hm hsz hw]
    simp only [if_true]
    split at hs
    · rename_i v H2 hex
      simp only [Option.some.injEq, Prod.mk.injEq] at hs
      obtain ⟨rfl, rfl⟩ := hs
      refine .inl (op_wp h hE hC hcalls hm.1 hex Q K fun ι' c w' hv hst => hK ι' v c w' rfl hv hst ?_)
      have := (hE.mono hst.le).put o.dst hm.2.2.1 hv
      rwa [← hm.2.1] at this ⊢
    · simp at hs
  · rename_i hw
    rw [wants_wanted hE hm hsz hw]
    simp only [Bool.false_eq_true, if_false]
    simp only [Option.some.injEq, Prod.mk.injEq] at hs
    obtain ⟨rfl, rfl⟩ := hs
    have hv : VR ι skipV undef := by simp [skipV, VR]
    refine hK ι skipV undef w rfl hv (.refl h) ?_
    have := hE.put o.dst hm.2.2.1 hv
    rwa [← hm.2.1] at this ⊢
  · simp at hs

/-! ### a region in the order of its text -/
theorem ops_wp {nt : Nat} {C : Ctx} (hC : C.P = P) (hcalls : CallsOK C) {ops : Array Oper} (hsz : ∀ (j t : Nat), (ops[j]?).bind (fun o => o.dst) = some t → t < nt) :
    ∀ (l : List SI) (k : Nat), (∀ (i : Nat) s, l[i]? = some s → ∃ o, ops[k + i]? = some o ∧ Made P nt ops o s) → ∀ {ι H w e a e' H'}, Rel ι H w → EnvR ι nt e a → runL C l e H = some (e', H') →
      ∀ (Q : Exit → Act → World → Prop), (∀ ι' a' w', EnvR ι' nt e' a' → Stp ι H w ι' H' w' → Q .normal a' w') → wpOps P ops Q ((List.range' k l.length)) a w
  | [], k, _, ι, H, w, e, a, e', H', h, hE, hr, Q, hQ => by
    simp only [runL, Option.some.injEq, Prod.mk.injEq] at hr
    obtain ⟨rfl, rfl⟩ := hr
    exact hQ ι a w hE (.refl h)
  | s :: l, k, hm, ι, H, w, e, a, e', H', h, hE, hr, Q, hQ => by
    simp only [runL] at hr
    split at hr
    · rename_i e1 H1 hs
      obtain ⟨o, ho, hmo⟩ := hm 0 s rfl
      simp only [Nat.add_zero] at ho
      rw [List.length_cons, List.range'_succ, wpOps_cons]
      refine step_wp h hE hC hcalls ho hmo hsz hs Q _ fun ι' v c w' _ hv hst hE' => ?_
      exact ops_wp hC hcalls hsz l (k + 1) (fun i s' hi => by
        obtain ⟨o', ho', hm'⟩ := hm (i + 1) s' (by simpa using hi)
        exact ⟨o', by rw [← ho']; congr 1; omega, hm'⟩) hst.rel hE' hr Q fun ι'' a' w'' g1 g2 => hQ ι'' a' w'' g1 (hst.trans g2)
    · simp at hr

end
end Go.Proofs.Ytohclaopcejjnaa.G
