/- Control flow and whole functions: what the plain reading comes to, every call of the machine comes to. -/
import Derived.Test.YtohclaopcejjnaaG18
import Derived.LoopN
namespace Go.Proofs.Ytohclaopcejjnaa.G
open Go

/-! ### code -/
def exOf : Exit → Ex → Prop
  | .normal, .nx => True
  | .exit i, .br j => i = j
  | .ret, .rt => True
  | _, _ => False

section
variable {P : Program} {nt : Nat} {C : Ctx}

theorem prune_get : ∀ (e : Env) (t : Nat), get (prune e) t = get e t
  | [], _ => rfl
  | (k, v) :: r, t => by
    simp only [prune, get]
    split
    · rfl
    · rename_i h
      have key : ∀ (l : Env), get (l.filter fun x => !(k == x.1)) t = get l t := by
        intro l
        induction l with
        | nil => rfl
        | cons x l ih =>
          obtain ⟨j, u⟩ := x
          simp only [List.filter_cons]
          by_cases hj : k = j
          · subst hj
            simp only [BEq.rfl, Bool.not_true, Bool.false_eq_true, if_false, get, if_neg h]
            exact ih
          · have : (k == j) = false := by simpa using hj
            simp only [this, Bool.not_false, if_true, get, ih]
      rw [key, prune_get r t]

theorem EnvR.prune {ι : Inj} {e : Env} {a : Act} (h : EnvR ι nt e a) : EnvR ι nt (prune e) a := ⟨fun t => by rw [prune_get]; exact h.get t, h.size, h.defers⟩

/-- The code does what the plain reading does. -/
def CodeOK (P : Program) (nt : Nat) (c : Code) (f : Env → M (Ex × Env)) : Prop :=
  ∀ ⦃ι : Inj⦄ ⦃H : Heap⦄ ⦃w : World⦄ ⦃e : Env⦄ ⦃a : Act⦄ ⦃x : Ex⦄ ⦃e' : Env⦄ ⦃H' : Heap⦄, Rel ι H w → EnvR ι nt e a → f e H = some ((x, e'), H') →
    ∀ (Q : Exit → Act → World → Prop), (∀ ι' a' w' y, exOf y x → EnvR ι' nt e' a' → Stp ι H w ι' H' w' → Q y a' w') → c.wp P Q a w

theorem loop_ok {c : Code} {f : Env → M (Ex × Env)} (hf : CodeOK P nt c f) : ∀ n, CodeOK P nt (.loop c) (loopN f n) := by
  intro n
  intro ι H w e a x e' H' h hE hr Q hQ
  refine wp_loop_rounds n ?_
  induction n generalizing ι H w e a with
  | zero => simp [loopN] at hr
  | succ n ih =>
    simp only [loopN] at hr
    rw [rounds_succ]
    cases hb : f (G.prune e) H with
    | none => rw [hb] at hr; simp at hr
    | some r =>
      obtain ⟨⟨x1, e1⟩, H1⟩ := r
      rw [hb] at hr
      refine hf h hE.prune hb _ fun ι' a' w' y hy hE' hst => ?_
      cases x1 with
      | nx =>
        simp only at hr
        cases y <;> simp only [exOf] at hy
        simp only [Exit.then]
        exact ih hst.rel hE' hr fun ι'' a'' w'' y hy g1 g2 => hQ ι'' a'' w'' y hy g1 (hst.trans g2)
      | br id =>
        simp only [Option.some.injEq, Prod.mk.injEq] at hr
        obtain ⟨⟨rfl, rfl⟩, rfl⟩ := hr
        cases y <;> simp only [exOf] at hy
        subst hy
        exact hQ ι' a' w' _ rfl hE' hst
      | rt =>
        simp only [Option.some.injEq, Prod.mk.injEq] at hr
        obtain ⟨⟨rfl, rfl⟩, rfl⟩ := hr
        cases y <;> simp only [exOf] at hy
        exact hQ ι' a' w' _ trivial hE' hst

theorem code_ok (hC : C.P = P) (hcalls : CallsOK C) (n : Nat) : ∀ (c : Code) (sc : SC), compile P nt c = some sc → CodeOK P nt c (run C n sc)
  | .skip, sc, hc => by
    simp only [compile, Option.some.injEq] at hc; subst hc
    intro ι H w e a x e' H' h hE hr Q hQ
    simp only [run, Option.some.injEq, Prod.mk.injEq] at hr
    obtain ⟨⟨rfl, rfl⟩, rfl⟩ := hr
    exact wp_skip (hQ ι a w _ trivial hE (.refl h))
  | .exit id, sc, hc => by
    simp only [compile, Option.some.injEq] at hc; subst hc
    intro ι H w e a x e' H' h hE hr Q hQ
    simp only [run, Option.some.injEq, Prod.mk.injEq] at hr
    obtain ⟨⟨rfl, rfl⟩, rfl⟩ := hr
    exact wp_exit (hQ ι a w _ rfl hE (.refl h))
  | .ret, sc, hc => by
    simp only [compile, Option.some.injEq] at hc; subst hc
    intro ι H w e a x e' H' h hE hr Q hQ
    simp only [run, Option.some.injEq, Prod.mk.injEq] at hr
    obtain ⟨⟨rfl, rfl⟩, rfl⟩ := hr
    exact wp_ret (hQ ι a w _ trivial hE (.refl h))
  | .seq c1 c2, sc, hc => by
    simp only [compile, Option.bind_eq_bind, Option.bind_eq_some_iff] at hc
    obtain ⟨s1, h1, s2, h2, hc⟩ := hc
    simp at hc; subst hc
    intro ι H w e a x e' H' h hE hr Q hQ
    simp only [run] at hr
    cases hb : run C n s1 e H with
    | none => rw [hb] at hr; simp at hr
    | some r =>
      obtain ⟨⟨x1, e1⟩, H1⟩ := r
      rw [hb] at hr
      refine wp_seq (code_ok hC hcalls n c1 s1 h1 h hE hb _ fun ι' a' w' y hy hE' hst => ?_)
      cases x1 with
      | nx =>
        simp only at hr
        cases y <;> simp only [exOf] at hy
        simp only [Exit.then]
        exact code_ok hC hcalls n c2 s2 h2 hst.rel hE' hr Q fun ι'' a'' w'' y hy g1 g2 => hQ ι'' a'' w'' y hy g1 (hst.trans g2)
      | br id =>
        simp only [Option.some.injEq, Prod.mk.injEq] at hr
        obtain ⟨⟨rfl, rfl⟩, rfl⟩ := hr
        cases y <;> simp only [exOf] at hy
        subst hy
        exact hQ ι' a' w' _ rfl hE' hst
      | rt =>
        simp only [Option.some.injEq, Prod.mk.injEq] at hr
        obtain ⟨⟨rfl, rfl⟩, rfl⟩ := hr
        cases y <;> simp only [exOf] at hy
        exact hQ ι' a' w' _ trivial hE' hst
  | .cond o c1 c2, sc, hc => by
    simp only [compile] at hc
    split at hc
    · rename_i ho
      simp only [Option.bind_eq_bind, Option.bind_eq_some_iff] at hc
      obtain ⟨s1, h1, s2, h2, hc⟩ := hc
      simp at hc; subst hc
      intro ι H w e a x e' H' h hE hr Q hQ
      simp only [run] at hr
      have hv := hE.ev ho
      split at hr
      · rename_i t ht
        rw [ht] at hv
        simp only [VR] at hv
        refine wp_cond hv ?_
        cases t with
        | true => simp only [if_true] at hr ⊢; exact code_ok hC hcalls n c1 s1 h1 h hE hr Q hQ
        | false => simp only [Bool.false_eq_true, if_false] at hr ⊢; exact code_ok hC hcalls n c2 s2 h2 h hE hr Q hQ
      · simp at hr
    · simp at hc
  | .block id c1, sc, hc => by
    simp only [compile, Option.bind_eq_bind, Option.bind_eq_some_iff] at hc
    obtain ⟨s1, h1, hc⟩ := hc
    simp at hc; subst hc
    intro ι H w e a x e' H' h hE hr Q hQ
    simp only [run] at hr
    cases hb : run C n s1 e H with
    | none => rw [hb] at hr; simp at hr
    | some r =>
      obtain ⟨⟨x1, e1⟩, H1⟩ := r
      rw [hb] at hr
      refine wp_block (code_ok hC hcalls n c1 s1 h1 h hE hb _ fun ι' a' w' y hy hE' hst => ?_)
      cases x1 with
      | nx =>
        simp only [Option.some.injEq, Prod.mk.injEq] at hr
        obtain ⟨⟨rfl, rfl⟩, rfl⟩ := hr
        cases y <;> simp only [exOf] at hy
        exact hQ ι' a' w' _ trivial hE' hst
      | br j =>
        cases y <;> simp only [exOf] at hy
        subst hy
        simp only [Exit.inBlock]
        simp only at hr
        split at hr
        · rename_i he
          simp only [Option.some.injEq, Prod.mk.injEq] at hr
          obtain ⟨⟨rfl, rfl⟩, rfl⟩ := hr
          rw [if_pos he]
          exact hQ ι' a' w' _ trivial hE' hst
        · rename_i he
          simp only [Option.some.injEq, Prod.mk.injEq] at hr
          obtain ⟨⟨rfl, rfl⟩, rfl⟩ := hr
          rw [if_neg he]
          exact hQ ι' a' w' _ rfl hE' hst
      | rt =>
        simp only [Option.some.injEq, Prod.mk.injEq] at hr
        obtain ⟨⟨rfl, rfl⟩, rfl⟩ := hr
        cases y <;> simp only [exOf] at hy
        exact hQ ι' a' w' _ trivial hE' hst
  | .loop c1, sc, hc => by
    simp only [compile, Option.bind_eq_bind, Option.bind_eq_some_iff] at hc
    obtain ⟨s1, h1, hc⟩ := hc
    simp at hc; subst hc
    intro ι H w e a x e' H' h hE hr Q hQ
    simp only [run] at hr
    exact loop_ok (code_ok hC hcalls n c1 s1 h1) n h hE hr Q hQ
  | .region id ops draw, sc, hc => by
    simp only [compile, compileReg, Option.bind_eq_bind, Option.bind_eq_some_iff] at hc
    obtain ⟨ss, hss, hc⟩ := hc
    intro ι H w e a x e' H' h hE hr Q hQ
    cases draw with
    | false =>
      simp at hc; subst hc
      simp only [run] at hr
      cases hb : runL C ss e H with
      | none => rw [hb] at hr; simp at hr
      | some r =>
        obtain ⟨e1, H1⟩ := r
        rw [hb] at hr
        simp only [Option.some.injEq, Prod.mk.injEq] at hr
        obtain ⟨⟨rfl, rfl⟩, rfl⟩ := hr
        obtain ⟨hl, hg⟩ := mapM_get _ hss
        refine wp_region ?_
        have hrange : List.range ops.size = List.range' 0 ss.length := by
          rw [List.range_eq_range', ← hl]; simp
        rw [hrange]
        refine ops_wp hC hcalls (nt := nt) (fun j t hjt => ?_) ss 0 (fun i s hi => ?_) h hE hb Q fun ι' a' w' g1 g2 => hQ ι' a' w' _ trivial g1 g2
        · cases ho : ops[j]? with
          | none => simp [ho] at hjt
          | some o =>
            rw [ho] at hjt
            obtain ⟨y, _, hy⟩ := hg j o (by simpa using ho)
            have := (made_of hy).2.2.1
            simp only [Option.bind_some] at hjt
            rw [hjt] at this
            simpa using this
        · have hlt : i < ops.size := by
            have := (List.getElem?_eq_some_iff.1 hi).1
            simp at hl
            omega
          obtain ⟨y, hy, hf⟩ := hg i ops[i] (by simp [hlt])
          rw [hi] at hy
          cases hy
          exact ⟨ops[i], by simp [hlt], made_of hf⟩
    | true =>
      simp only [Bool.not_true, Bool.false_eq_true, if_false] at hc
      split at hc
      · rename_i hok
        simp only [Bool.and_eq_true] at hok
        simp at hc; subst hc
        simp only [run] at hr
        cases hb : runD C (withChk (Region.before ops) ss.toArray [] (orderL ops.size (Region.before ops) (fun i => isW (ss.toArray.getD i default).op) ops.size 0)) [] e H with
        | none =>
          simp only [Array.getD_eq_getD_getElem?, List.getElem?_toArray] at hb hr
          rw [hb] at hr; simp at hr
        | some r =>
          obtain ⟨e1, H1⟩ := r
          have hb' := hb
          simp only [Array.getD_eq_getD_getElem?, List.getElem?_toArray] at hb hr
          rw [hb] at hr
          simp only [Option.some.injEq, Prod.mk.injEq] at hr
          obtain ⟨⟨rfl, rfl⟩, rfl⟩ := hr
          exact drawn_wp (drawn_of hss hok.2) hC hcalls hok.1 h hE hb' id Q fun ι' a' w' g1 g2 => hQ ι' a' w' _ trivial g1 g2
      · simp at hc
  | .goto _, sc, hc => by simp [compile] at hc
  | .label _, sc, hc => by simp [compile] at hc
  | .scope _, sc, hc => by simp [compile] at hc

/-! ### answers -/
theorem load_res {ι : Inj} {H : Heap} {w : World} (h : Rel ι H w) {t : TypeId} (hs : sized P t = true) {p cp v : Value} {H' : Heap} (hp : VR ι p cp) (he : aload (isAggT P t) (P.cellsOf t) p H = some (v, H')) :
    H' = H ∧ ∃ c, (do loadVar t (← asAddr cp) : Sem Value).run P w = .ok c w ∧ VR ι v c := by
  obtain ⟨i, z, d, hi, hz, hd, _, _, _, hc, _⟩ := sized_spec hs
  unfold aload at he
  split at he
  · rename_i b off
    simp only [VR] at hp
    obtain ⟨l, hb, _, rfl⟩ := hp
    split at he
    · rename_i vs hr
      obtain ⟨us, h1, h2, h3, h4, h5⟩ := rd_rel h hb hr
      have hl := run_loadCells_list (P := P) w ⟨l.blk, l.δ + off, none⟩ us (fun j u hu => by rw [Addr.add_lit]; exact h5 j u hu)
      rw [h2] at hl
      by_cases hag : isAggT P t = true
      · simp only [hag, if_true, Option.some.injEq, Prod.mk.injEq] at he hl
        obtain ⟨rfl, rfl⟩ := he
        refine ⟨rfl, .agg us.toArray, ?_, VR_agg_of h1 h4⟩
        simp only [asAddr, loadVar, Sem.run_bind, Sem.run_pure, Result.andThen_ok, run_isAgg hd, hag, if_true, run_sizeOf hi]
        rw [← hc, hl]
        rfl
      · have hag' : isAggT P t = false := by simpa using hag
        simp only [hag', Bool.false_eq_true, if_false] at he h2 h3
        match vs, us, he, h1, h2, h3 with
        | [v'], [u], he, h1, h2, h3 =>
          simp at he
          obtain ⟨rfl, rfl⟩ := he
          simp only [VRL] at h1
          refine ⟨rfl, u, ?_, h1.1⟩
          have h6 := h5 0 u rfl
          simp only [asAddr, loadVar, Sem.run_bind, Sem.run_pure, Result.andThen_ok, run_isAgg hd, hag', Bool.false_eq_true, if_false, run_load]
          simp only [Nat.add_zero] at h6
          rw [h6]
    · simp at he
  · simp at he

def resSem (a : Array Value) : ResultVar → Sem Value
  | .tmp t => pure (a.getD t undef)
  | .cell x t => do loadVar t (← asAddr (a.getD x undef))

theorem resAll_ok {ι : Inj} {H : Heap} {w : World} (h : Rel ι H w) {e : Env} {a : Act} (hE : EnvR ι nt e a) : ∀ (l : List ResultVar), l.all (okRes P) = true → ∀ {vs : List Value} {H' : Heap}, resAll P e l H = some (vs, H') →
    H' = H ∧ ∃ cs, (l.mapM (m := Sem) (resSem a.tmps)).run P w = .ok cs w ∧ VRL ι vs cs
  | [], _, vs, H', hr => by
    simp only [resAll, Option.some.injEq, Prod.mk.injEq] at hr
    obtain ⟨rfl, rfl⟩ := hr
    exact ⟨rfl, [], by simp, by simp [VRL]⟩
  | r :: l, hok, vs, H', hr => by
    simp only [List.all_cons, Bool.and_eq_true] at hok
    simp only [resAll] at hr
    split at hr
    · rename_i v H1 hv
      split at hr
      · rename_i vs' H2 hvs
        simp only [Option.some.injEq, Prod.mk.injEq] at hr
        obtain ⟨rfl, rfl⟩ := hr
        have h1 : H1 = H ∧ ∃ c, (resSem a.tmps r).run P w = .ok c w ∧ VR ι v c := by
          cases r with
          | tmp t =>
            simp only [resOf, lift, Option.some.injEq, Prod.mk.injEq] at hv
            obtain ⟨rfl, rfl⟩ := hv
            exact ⟨rfl, _, by simp only [resSem, Sem.run_pure], hE.get t⟩
          | cell x t =>
            refine load_res h (t := t) (by simpa [okRes] using hok.1) (hE.get x) ?_
            rw [← hv]
            simp only [resOf, isAggT]
            cases P.underlying t with
            | none => rfl
            | some d => cases d <;> rfl
        obtain ⟨rfl, c, hc, hvc⟩ := h1
        obtain ⟨rfl, cs, hcs, hvs2⟩ := resAll_ok h hE l hok.2 hvs
        refine ⟨rfl, c :: cs, ?_, by simp only [VRL]; exact ⟨hvc, hvs2⟩⟩
        simp only [List.mapM_cons, Sem.run_bind, Sem.run_pure]
        rw [hc]
        simp only [Result.andThen_ok]
        rw [hcs]
        rfl
      · simp at hr
    · simp at hr

theorem tup_ok {ι : Inj} {vs cs : List Value} (h : VRL ι vs cs) : VR ι (tup vs) (if h : cs.toArray.size = 1 then cs.toArray[0] else .tuple cs.toArray) := by
  match vs, cs, h with
  | [], [], _ => simp [tup, VR]
  | [v], [c], h =>
    simp only [VRL] at h
    simpa [tup] using h.1
  | a :: b :: vs, c :: d :: cs, h => simp [tup, VR, VRA, h]
  | [], _ :: _, h => simp [VRL] at h
  | _ :: _, [], h => simp [VRL] at h
  | [_], _ :: _ :: _, h => simp [VRL] at h
  | _ :: _ :: _, [_], h => simp [VRL] at h

theorem results_ok {ι : Inj} {H : Heap} {w : World} (h : Rel ι H w) {e : Env} {a : Act} (hE : EnvR ι nt e a) {fn : Func} (hok : fn.results.toList.all (okRes P) = true) {vs : List Value} {H' : Heap} (hr : resAll P e fn.results.toList H = some (vs, H')) :
    H' = H ∧ ∃ c, (results fn a.tmps).run P w = .ok c w ∧ VR ι (tup vs) c := by
  obtain ⟨h1, cs, h2, h3⟩ := resAll_ok h hE _ hok hr
  refine ⟨h1, _, ?_, tup_ok h3⟩
  have hres : results fn a.tmps = (do
      let vs ← fn.results.mapM (m := Sem) (resSem a.tmps)
      pure (if h : vs.size = 1 then vs[0] else .tuple vs)) := rfl
  rw [hres, Array.mapM_eq_mapM_toList]
  simp only [Sem.run_bind, Sem.run_map, Sem.run_pure]
  rw [h2]
  simp only [Result.andThen_ok]

theorem env0_get : ∀ (l : List Value) (k t : Nat), k ≤ t → get (env0 l k) t = (l[t - k]?).getD undef
  | [], _, _, _ => by simp [env0, get]
  | v :: l, k, t, h => by
    simp only [env0, get]
    split
    · rename_i e; subst e; simp
    · rename_i hne
      rw [env0_get l (k + 1) t (by omega)]
      obtain ⟨d, rfl⟩ : ∃ d, t = k + 1 + d := ⟨t - (k + 1), by omega⟩
      rw [show k + 1 + d - (k + 1) = d by omega, show k + 1 + d - k = d + 1 by omega]
      simp

mutual
theorem VR_noRef {ι ι' : Inj} : (v c : Value) → noRef v = true → VR ι v c → VR ι' v c
  | .bool _, _, _, h | .int _ _, _, _, h | .float _ _, _, _, h | .complex _ _ _, _, _, h | .string _, _, _, h | .nilFunc, _, _, h | .nilIface, _, _, h | .chan none, _, _, h | .chan (some _), _, _, h => by simpa [VR] using h
  | .pointer none, _, _, h | .map none, _, _, h | .slice none _ _, _, _, h => by simpa [VR] using h
  | .pointer (some a), c, hn, h => by simp [noRef] at hn
  | .slice (some a) n k, c, hn, h => by simp [noRef] at hn
  | .map (some b), c, hn, h => by simp [noRef] at hn
  | .func f a b, c, hn, h => by
    simp only [noRef, Bool.and_eq_true] at hn
    simp only [VR] at h ⊢
    obtain ⟨a', b', h1, h2, h3⟩ := h
    exact ⟨a', b', h1, VRA_noRef a a' hn.1 h2, VRA_noRef b b' hn.2 h3⟩
  | .iface t v, c, hn, h => by
    simp only [noRef] at hn
    simp only [VR] at h ⊢
    obtain ⟨v', h1, h2⟩ := h
    exact ⟨v', h1, VR_noRef v v' hn h2⟩
  | .agg a, c, hn, h => by
    simp only [noRef] at hn
    simp only [VR] at h ⊢
    obtain ⟨a', h1, h2, h3⟩ := h
    exact ⟨a', h1, VRA_noRef a a' hn h2, h3⟩
  | .tuple a, c, hn, h => by
    simp only [noRef] at hn
    simp only [VR] at h ⊢
    rcases h with h | ⟨a', h1, h2⟩
    · exact .inl h
    · exact .inr ⟨a', h1, VRA_noRef a a' hn h2⟩
theorem VRA_noRef {ι ι' : Inj} : (a c : Array Value) → noRefA a = true → VRA ι a c → VRA ι' a c
  | ⟨a⟩, ⟨c⟩, hn, h => by
    simp only [noRefA] at hn
    simp only [VRA] at h ⊢
    exact VRL_noRef a c hn h
theorem VRL_noRef {ι ι' : Inj} : (a c : List Value) → noRefL a = true → VRL ι a c → VRL ι' a c
  | [], [], _, _ => by simp [VRL]
  | [], _ :: _, _, h => by simp [VRL] at h
  | _ :: _, [], _, h => by simp [VRL] at h
  | a :: x, b :: y, hn, h => by
    simp only [noRefL, Bool.and_eq_true] at hn
    simp only [VRL] at h ⊢
    exact ⟨VR_noRef a b hn.1 h.1, VRL_noRef x y hn.2 h.2⟩
end

mutual
/-- Of a value whose places are known already, nothing new is asked. -/
theorem VR_back {ι ι' : Inj} (hl : Le ι ι') : (v c0 c : Value) → VR ι v c0 → VR ι' v c → VR ι v c
  | .bool _, _, _, _, h | .int _ _, _, _, _, h | .float _ _, _, _, _, h | .complex _ _ _, _, _, _, h | .string _, _, _, _, h | .nilFunc, _, _, _, h | .nilIface, _, _, _, h | .chan none, _, _, _, h | .chan (some _), _, _, _, h => by simpa [VR] using h
  | .pointer none, _, _, _, h | .map none, _, _, _, h | .slice none _ _, _, _, _, h => by simpa [VR] using h
  | .pointer (some a), c0, c, g, h => by
    simp only [VR] at g h ⊢
    obtain ⟨l, h1, _⟩ := g
    obtain ⟨m, g1, g2⟩ := h
    rw [hl _ _ h1] at g1
    cases g1
    exact ⟨l, h1, g2⟩
  | .slice (some a) n k, c0, c, g, h => by
    simp only [VR] at g h ⊢
    obtain ⟨l, h1, _⟩ := g
    obtain ⟨m, g1, g2⟩ := h
    rw [hl _ _ h1] at g1
    cases g1
    exact ⟨l, h1, g2⟩
  | .map (some b), c0, c, g, h => by
    simp only [VR] at g h ⊢
    obtain ⟨l, h1, _⟩ := g
    obtain ⟨m, g1, g2⟩ := h
    rw [hl _ _ h1] at g1
    cases g1
    exact ⟨l, h1, g2⟩
  | .func f a b, c0, c, g, h => by
    simp only [VR] at g h ⊢
    obtain ⟨a0, b0, _, g2, g3⟩ := g
    obtain ⟨a', b', h1, h2, h3⟩ := h
    exact ⟨a', b', h1, VRA_back hl a a0 a' g2 h2, VRA_back hl b b0 b' g3 h3⟩
  | .iface t v, c0, c, g, h => by
    simp only [VR] at g h ⊢
    obtain ⟨v0, _, g2⟩ := g
    obtain ⟨v', h1, h2⟩ := h
    exact ⟨v', h1, VR_back hl v v0 v' g2 h2⟩
  | .agg a, c0, c, g, h => by
    simp only [VR] at g h ⊢
    obtain ⟨a0, _, g2, _⟩ := g
    obtain ⟨a', h1, h2, h3⟩ := h
    exact ⟨a', h1, VRA_back hl a a0 a' g2 h2, h3⟩
  | .tuple a, c0, c, g, h => by
    simp only [VR] at g h ⊢
    rcases h with h | ⟨a', h1, h2⟩
    · exact .inl h
    · rcases g with g | ⟨a0, _, g2⟩
      · exact .inl g
      · exact .inr ⟨a', h1, VRA_back hl a a0 a' g2 h2⟩
theorem VRA_back {ι ι' : Inj} (hl : Le ι ι') : (a c0 c : Array Value) → VRA ι a c0 → VRA ι' a c → VRA ι a c
  | ⟨a⟩, ⟨c0⟩, ⟨c⟩, g, h => by
    simp only [VRA] at g h ⊢
    exact VRL_back hl a c0 c g h
theorem VRL_back {ι ι' : Inj} (hl : Le ι ι') : (a c0 c : List Value) → VRL ι a c0 → VRL ι' a c → VRL ι a c
  | [], _, [], _, _ => by simp [VRL]
  | [], _, _ :: _, _, h => by simp [VRL] at h
  | _ :: _, _, [], _, h => by simp [VRL] at h
  | _ :: _, [], _ :: _, g, _ => by simp [VRL] at g
  | a :: x, b0 :: y0, b :: y, g, h => by
    simp only [VRL] at g h ⊢
    exact ⟨VR_back hl a b0 b g.1 h.1, VRL_back hl x y0 y g.2 h.2⟩
end
theorem ER_back {ι ι' : Inj} (hl : Le ι ι') : (a : List Ent) → (c0 c : List MapEntry) → ER ι a c0 → ER ι' a c → ER ι a c
  | [], _, [], _, _ => by simp [ER]
  | [], _, _ :: _, _, h => by simp [ER] at h
  | _ :: _, _, [], _, h => by simp [ER] at h
  | _ :: _, [], _ :: _, g, _ => by simp [ER] at g
  | a :: x, b0 :: y0, b :: y, g, h => by
    simp only [ER] at g h ⊢
    exact ⟨h.1, h.2.1, VR_back hl _ _ _ g.2.2.1 h.2.2.1, h.2.2.2.1, ER_back hl x y0 y g.2.2.2.2 h.2.2.2.2⟩

/-! ### functions -/
theorem fn_ok (hC : C.P = P) (hcalls : CallsOK C) (n : Nat) {f : FuncId} {s : SFn} (hs : compileFn P f = some s) {args : List Value} {H : Heap} {v : Value} {H' : Heap} (hr : runFn C n s args H = some (v, H')) : Good P f args H v H' := by
  unfold compileFn at hs
  simp only [Option.bind_eq_bind, Option.bind_eq_some_iff] at hs
  obtain ⟨fn, hf, hs⟩ := hs
  split at hs
  · simp at hs
  rename_i hck
  simp only [Option.bind_eq_some_iff] at hs
  obtain ⟨c, hb, sc, hsc, hs⟩ := hs
  simp at hs; subst hs
  simp only [Bool.or_eq_true, beq_iff_eq, Bool.not_eq_true', decide_eq_false_iff_not, not_or, Decidable.not_not, Bool.not_eq_false] at hck
  obtain ⟨⟨hname, hpar⟩, hres⟩ := hck
  intro ι w cargs h hargs
  refine ⟨fun w => ?_, ?_⟩
  · have hname' : (fn.name == "runtime.NumGoroutine") = false := by simpa using hname
    have hprog : (program).run P w = .ok P w := rfl
    unfold callFunc
    simp only [Sem.run_bind, hprog, Result.andThen_ok, hf, hname', Bool.false_eq_true, if_false, hb, Option.isNone_some, Sem.run_pure]
  · refine calls_of_wp hf hb ?_
    unfold runFn at hr
    split at hr
    · simp at hr
    rename_i hle
    have hlen := hargs.length
    have hE : EnvR ι fn.ntmps (env0 args 0) { tmps := cargs.toArray ++ Array.replicate (fn.ntmps - cargs.toArray.size) undef, defers := [] } := by
      refine ⟨fun t => ?_, ?_, rfl⟩
      · rw [env0_get args 0 t (Nat.zero_le _)]
        simp only [Nat.sub_zero]
        cases hv : args[t]? with
        | none => simp only [Option.getD_none]; exact VR_undef _ _
        | some v =>
          obtain ⟨u, hu, hr⟩ := hargs.get hv
          have : t < cargs.length := (List.getElem?_eq_some_iff.1 hu).1
          have : (cargs.toArray ++ Array.replicate (fn.ntmps - cargs.toArray.size) undef)[t]? = some u := by
            rw [Array.getElem?_append_left (by simpa using this)]
            simpa using hu
          rw [Array.getD_eq_getD_getElem?, this]
          exact hr
      · simp
        simp only [Nat.not_lt] at hle
        omega
    have key : ∀ (x : Ex) (e : Env) (H1 : Heap) vs H2, (x = .nx ∨ x = .rt) → run C n sc (env0 args 0) H = some ((x, e), H1) → resAll C.P e fn.results.toList H1 = some (vs, H2) → v = tup vs → H' = H2 →
        c.wp P (bodyPost P fn fun e w' => ∃ ι' c, e = .returned c ∧ VR ι' v c ∧ Stp ι H w ι' H' w') { tmps := cargs.toArray ++ Array.replicate (fn.ntmps - cargs.toArray.size) undef, defers := [] } w := by
      rintro x e H1 vs H2 hx hrun hres' rfl rfl
      refine code_ok hC hcalls n c sc hsc h hE hrun _ fun ι' a' w' y hy hE' hst => ?_
      rw [hC] at hres'
      obtain ⟨rfl, cv, hcv, hvr⟩ := results_ok hst.rel hE' (by simpa using hres) hres'
      rcases hx with rfl | rfl
      · cases y <;> simp only [exOf] at hy
        exact ⟨hE'.defers, cv, hcv, ι', cv, rfl, hvr, hst⟩
      · cases y <;> simp only [exOf] at hy
        exact ⟨hE'.defers, cv, hcv, ι', cv, rfl, hvr, hst⟩
    split at hr
    · rename_i e H1 hrun
      split at hr
      · rename_i vs H2 hres'
        simp only [Option.some.injEq, Prod.mk.injEq] at hr
        exact key .nx e H1 vs H2 (.inl rfl) hrun hres' hr.1.symm hr.2.symm
      · simp at hr
    · rename_i e H1 hrun
      split at hr
      · rename_i vs H2 hres'
        simp only [Option.some.injEq, Prod.mk.injEq] at hr
        exact key .rt e H1 vs H2 (.inr rfl) hrun hres' hr.1.symm hr.2.symm
      · simp at hr
    · simp at hr

/-- What a call made is forgotten. -/
theorem Good.clean {f : FuncId} {args : List Value} {H : Heap} {v : Value} {H' : Heap} (hg : Good P f args H v H') (hn : noRef v = true) (hH : H'.extract 0 H.size = H) : Good P f args H v H := by
  intro ι w cargs h hargs
  obtain ⟨g1, g2⟩ := hg ι w cargs h hargs
  refine ⟨g1, g2.mono fun e w' hh => ?_⟩
  obtain ⟨ι', c, rfl, hv, hst⟩ := hh
  have hsame : ∀ b, b < H.size → H'[b]? = H[b]? := fun b hb => by
    have hb' : b < H'.size := Nat.lt_of_lt_of_le hb hst.size
    have : (H'.extract 0 H.size)[b]? = H'[b]? := by
      rw [Array.getElem?_extract, if_pos (by omega)]
      simp
    rw [← this, hH]
  refine ⟨ι, c, rfl, VR_noRef v c hn hv, ⟨⟨h.dom, ?_, ?_, ?_, ?_, h.inj⟩, .refl _, fun _ _ => rfl, Nat.le_refl _, hst.wsize, fun _ _ _ => rfl, hst.keep, fun b l hb ho => .inr ⟨b, l, hb, ho, rfl⟩, hst.os, hst.tape, hst.output⟩⟩
  · intro b l hb; exact Nat.lt_of_lt_of_le (h.bound b l hb) hst.wsize
  · intro b l cs ro hb hc
    intro i u hu
    obtain ⟨h1, cu, h2, h3⟩ := hst.rel.cells b l cs ro (hst.le b l hb) (by rw [hsame b (h.dom b l hb)]; exact hc) i u hu
    obtain ⟨_, c0, _, h4⟩ := h.cells b l cs ro hb hc i u hu
    exact ⟨h1, cu, h2, VR_back hst.le u c0 cu h4 h3⟩
  · intro b l cs hb hc
    exact hst.rel.rw b l cs (hst.le b l hb) (by rw [hsame b (h.dom b l hb)]; exact hc)
  · intro b l es k hb hc
    obtain ⟨es', h1, h2⟩ := hst.rel.maps b l es k (hst.le b l hb) (by rw [hsame b (h.dom b l hb)]; exact hc)
    obtain ⟨es0, _, h4⟩ := h.maps b l es k hb hc
    exact ⟨es', h1, ER_back hst.le es _ _ h4 h2⟩

/-- What is asked of a book. -/
structure BookOK (B : Book) : Prop where
  fns : ∀ f s, B.fn f = some s → compileFn B.P f = some s
  given : ∀ f g, B.given f = some g → ∀ args H v H', g args H = some (v, H') → Good B.P f args H v H'

theorem acall_ok {B : Book} (hB : BookOK B) : ∀ n f args H v H', acall B n f args H = some (v, H') → Good B.P f args H v H'
  | 0, f, args, H, v, H', h => by simp [acall] at h
  | n + 1, f, args, H, v, H', h => by
    simp only [acall] at h
    split at h
    · rename_i g hg
      exact hB.given f g hg args H v H' h
    · split at h
      · simp at h
      · rename_i s hs
        have hcalls : CallsOK ⟨B.P, acall B n⟩ := fun f args H v H' hc => acall_ok hB n f args H v H' hc
        split at h
        · exact fn_ok (C := ⟨B.P, acall B n⟩) rfl hcalls n (hB.fns f s hs) h
        · split at h
          · rename_i v1 H1 hr
            split at h
            · rename_i hcl
              simp only [Option.some.injEq, Prod.mk.injEq] at h
              obtain ⟨rfl, rfl⟩ := h
              exact (fn_ok (C := ⟨B.P, acall B n⟩) rfl hcalls n (hB.fns f s hs) hr).clean hcl.1 hcl.2
            · simp at h
          · simp at h

end
end Go.Proofs.Ytohclaopcejjnaa.G
