/- Regions of open order: every order that the machine may take ends where the plain reading ends. -/
import Derived.Test.YtohclaopcejjnaaG16
namespace Go.Proofs.Ytohclaopcejjnaa.G
open Go

theorem freshOf_congr (P : Program) {e e' : Env} (o : SOp) (h : ∀ x ∈ opdsS o, ev e x = ev e' x) : freshOf P e o = freshOf P e' o := by
  cases o <;> simp only [opdsS, List.mem_cons, List.not_mem_nil, or_false, forall_eq_or_imp, forall_eq] at h <;> simp only [freshOf]
  case box t x => rw [h]
  case bslice t n ps => rw [evs_congr (e := e) (e' := e') (fun x hx => h x hx)]
  case mkslice t b l c => rw [h.1, h.2]

section
variable {P : Program} {nt : Nat} {ops : Array Oper} {lt : Nat → Nat} {T : List SI} {C : Ctx} {E : Nat → Env} {Hs : Nat → Heap} {V : Nat → Value} {ι0 ι : Inj} {w0 w : World} {D : Nat → Prop} {a : Act} {m : Nat} {f : Env}

theorem Inv.same_look (hd : Drawn P nt ops lt T) (ht : Trace C T E Hs V) (hi : Inv nt ops lt T E Hs V ι0 w0 D a w m f ι) {p : Nat} {s : SI} (hp : T[p]? = some s) (hnp : ¬ D p) (hw : isW s.op = false) (hwant : wants (E p) s.guard = some true)
    {v : Value} {H' : Heap} (he : exec C (E p) s.op (Hs p) = some (v, H')) : ∀ x, p ≤ x → x ≤ m → same (Hs p) (Hs x) (looks (E p) s.op) = true := by
  intro x
  induction x with
  | zero =>
    intro h _
    obtain rfl : p = 0 := by omega
    exact same_refl _ _
  | succ x ih =>
    intro h hx
    by_cases hpx : p = x + 1
    · subst hpx; exact same_refl _ _
    · have hih := ih (by omega) (by omega)
      have hxs : T[x]? = some (T[x]'(by have := hi.mle; omega)) := List.getElem?_eq_getElem _
      generalize hs' : T[x]'(by have := hi.mle; omega) = s' at hxs
      refine same_trans hih ?_
      by_cases hwx : isW s'.op = true
      · have hDx := hi.acted x s' (by omega) hxs hwx
        by_cases hr : isR s.op = false
        · rw [looks_notR _ _ hr]; rfl
        · have hpx2 : p < x := by
            rcases Nat.lt_or_ge p x with h1 | h1
            · exact h1
            · exfalso
              obtain rfl : p = x := by omega
              exact hnp hDx
          have hbit : ((Region.before ops).getD (lt x) 0).testBit (lt p) = false := by
            rw [Bool.eq_false_iff]
            intro hb
            exact hnp (hi.closed p x (hd.size hp) (hd.size hxs) hDx hb)
          have hc := hd.chk p x s s' hp hxs hpx2 (by simpa using hr) hwx hbit
          have := ht.chk x s' hxs p hc s hpx2 hp
          unfold looksI at this
          rwa [if_pos hwant] at this
      · rcases ht.quiet hxs (by simpa using hwx) with h1 | ⟨cs, h1⟩
        · rw [h1]; exact same_refl _ _
        · rw [h1]
          refine same_push _ fun b hb => ?_
          have h2 := looks_lt C (E p) s.op he b hb
          have h3 := hi.mono p x (by omega) (by omega)
          omega

theorem Inv.done (hd : Drawn P nt ops lt T) (ht : Trace C T E Hs V) (hi : Inv nt ops lt T E Hs V ι0 w0 D a w m f ι) (hall : ∀ q, q < ops.size → D q) : EnvR ι nt (E T.length) a ∧ Stp ι0 (Hs 0) w0 ι (Hs T.length) w := by
  have hm : m = T.length := by
    rcases Nat.lt_or_ge m T.length with h | h
    · exact absurd (hall m (by rw [← hd.len]; exact h)) (hi.behind m (by rw [← hd.len]; exact h) (Nat.le_refl _))
    · have := hi.mle; omega
  refine ⟨⟨fun t => ?_, hi.env.size, hi.env.defers⟩, hm ▸ hi.stp⟩
  have : get f t = get (E T.length) t := hi.lw.agree (ht.lw T.length (Nat.le_refl _)) fun q s hq _ => by
    have := hd.size hq
    constructor
    · intro _; rw [hd.len]; exact this
    · intro _; exact ⟨this, hall q this⟩
  rw [← this]
  exact hi.env.get t

/-- One more instruction, whichever is ready. -/
theorem Inv.step (hd : Drawn P nt ops lt T) (ht : Trace C T E Hs V) (hC : C.P = P) (hcalls : CallsOK C) (hi : Inv nt ops lt T E Hs V ι0 w0 D a w m f ι) {p : Nat} {s : SI} (hp : T[p]? = some s) (hnp : ¬ D p)
    (hpre : ∀ q, q < ops.size → pre ops lt q p → D q) (Q : Exit → Act → World → Prop) (K : Act → World → Prop)
    (hK : ∀ ι' a' w' m' f', Inv nt ops lt T E Hs V ι0 w0 (fun q => D q ∨ q = p) a' w' m' f' ι' → K a' w') : wpOp P ops Q (lt p) K a w := by
  have hps := hd.size hp
  obtain ⟨o, ho, hm⟩ := hd.made p s hp
  obtain ⟨hev, hwa⟩ := reads_agree hd ht hi.closed hi.lw hp hnp hpre
  have hlen := hd.len
  have hclosed : ∀ p' q, p' < ops.size → q < ops.size → (D q ∨ q = p) → pre ops lt p' q → (D p' ∨ p' = p) := by
    intro p' q hp' hq hD hb
    rcases hD with hD | rfl
    · exact .inl (hi.closed p' q hp' hq hD hb)
    · exact .inl (hpre p' hp' hb)
  by_cases hw : isW s.op = true
  · -- an act: it is the next one
    have hpm : p = m := by
      rcases Nat.lt_trichotomy p m with h | h | h
      · exact absurd (hi.acted p s h hp hw) hnp
      · exact h
      · exfalso
        have hml : m < T.length := by rw [hlen]; omega
        obtain ⟨s', hs', hw'⟩ := hi.act hml
        exact hi.behind m (by rw [← hlen]; exact hml) (Nat.le_refl _) (hpre m (by rw [← hlen]; exact hml) (hd.acts m p s' (by rw [← hlen]; exact hml) hps hs' hw' h))
    subst hpm
    have hstep : stepI C f s (Hs p) = some (put f s.dst (V p), Hs (p + 1)) := by
      unfold stepI
      rw [hwa]
      rcases ht.val p s hp with ⟨h1, h2⟩ | ⟨h1, h2, h3⟩
      · rw [h1, exec_congr C s.op hev]
        simp only [h2]
      · rw [h1]
        simp only [h2, h3]
    refine step_wp hi.stp.rel hi.env hC hcalls ho hm hd.tsz hstep Q K fun ι' v c w' hv1 hv2 hst henv => ?_
    obtain ⟨m', g1, g2, g3, g4⟩ := nextW T (T.length - (p + 1)) (p + 1) rfl (by omega)
    have hst2 := hi.stp.trans hst
    have hst3 := ht.aheads (p + 1) hst2 m' g1 g2 g3
    refine hK ι' _ w' m' (put f s.dst (V p)) ⟨hclosed, g2, ?_, ?_, g4, ?_, henv, hst3, ?_, ?_⟩
    · intro q hq hmq hD
      rcases hD with hD | rfl
      · exact hi.behind q hq (by omega) hD
      · omega
    · intro q s' hq hs' hw'
      rcases Nat.lt_trichotomy q p with h | h | h
      · exact .inl (hi.acted q s' h hs' hw')
      · exact .inr h
      · have := g3 q s' (by omega) hq hs'
        rw [hw'] at this
        cases this
    · refine (hi.lw.add hp fun q r d hq hDq _ _ => ?_).iff fun q s' hq => ?_
      · rcases Nat.lt_or_ge q p with h | h
        · omega
        · exact absurd hDq.2 (hi.behind q hDq.1 h)
      · have := hd.size hq
        constructor
        · rintro (⟨h1, h2⟩ | rfl)
          · exact ⟨h1, .inl h2⟩
          · exact ⟨this, .inr rfl⟩
        · rintro ⟨h1, h2 | rfl⟩
          · exact .inl ⟨h1, h2⟩
          · exact .inr rfl
    · have hone : (Hs p).size ≤ (Hs (p + 1)).size := hst.size
      intro q r hqr hr
      rcases Nat.lt_or_ge r (p + 1) with h | h
      · exact hi.mono q r hqr (by omega)
      · have hgr := (ht.grows (p + 1) r (by omega) (by omega) (fun x s' a b => g3 x s' a (by omega))).1
        rcases Nat.lt_or_ge q (p + 1) with h2 | h2
        · have := hi.mono q p (by omega) (Nat.le_refl _)
          omega
        · exact (ht.grows q r hqr (by omega) (fun x s' a b => g3 x s' (by omega) (by omega))).1
    · intro q hq hnD cs hcs
      have hnDq : ¬ D q := fun h => hnD (.inl h)
      have hnqp : q ≠ p := fun h => hnD (.inr h)
      rcases Nat.lt_or_ge q p with h | h
      · obtain ⟨u1, u2⟩ := hi.unm q h hnDq cs hcs
        have hlt := (Array.getElem?_eq_some_iff.1 u2).1
        refine ⟨by rw [hst.old _ hlt]; exact u1, ?_⟩
        have e1 := hst.unm _ hlt u1
        have hlt2 : (Hs q).size < (Hs (p + 1)).size := Nat.lt_of_lt_of_le hlt hst.size
        rw [(ht.grows (p + 1) m' g1 g2 g3).2 _ hlt2, e1]
        exact u2
      · have hge : (Hs (p + 1)).size ≤ (Hs q).size := (ht.grows (p + 1) q (by omega) (by omega) (fun x s' a b => g3 x s' a (by omega))).1
        refine ⟨?_, ?_⟩
        · cases hx : ι' (Hs q).size with
          | none => rfl
          | some l => have := hst.rel.dom _ l hx; omega
        · have hlt2 : (Hs q).size < (Hs (q + 1)).size := by rw [hcs]; simp
          rw [(ht.grows (q + 1) m' (by omega) g2 (fun x s' a b => g3 x s' (by omega) b)).2 _ hlt2, hcs]
          simp
  · -- no act: an act that is still to come stands behind it
    have hw' : isW s.op = false := by simpa using hw
    have hpm : p < m := by
      rcases Nat.lt_or_ge p m with h | h
      · exact h
      · exfalso
        have hml : m < T.length := by rw [hlen]; omega
        obtain ⟨s', hs', hw2⟩ := hi.act hml
        by_cases hpe : p = m
        · subst hpe
          rw [hp] at hs'
          cases hs'
          exact hw hw2
        · exact hi.behind m (by rw [← hlen]; exact hml) (Nat.le_refl _) (hpre m (by rw [← hlen]; exact hml) (hd.acts m p s' (by rw [← hlen]; exact hml) hps hs' hw2 (by omega)))
    have hlast : ∀ (q : Nat) (r : SI) (d : Nat), T[q]? = some r → (q < ops.size ∧ D q) → s.dst = some d → r.dst = some d → q ≤ p := by
      intro q r d hq hDq hsd hrd
      rcases Nat.lt_or_ge p q with h | h
      · exfalso
        obtain ⟨oq, hoq, hmq⟩ := hd.made q r hq
        have hnames : d ∈ namesT oq := by unfold namesT; exact List.mem_append_left _ (by rw [← hmq.2.1, hrd]; simp)
        rcases hd.tmps p q o oq d hps hDq.1 (by omega) ho hoq (by rw [← hm.2.1]; exact hsd) hnames with hb | hb
        · exact hnp (hi.closed p q hps hDq.1 hDq.2 hb)
        · have := hd.topo p q hps hDq.1 (by omega)
          rw [hb] at this
          cases this
      · exact h
    have hinv : ∀ ι' c w', VR ι' (V p) c → Le ι ι' → EnvR ι' nt (put f s.dst (V p)) (a.put o.dst c) → Stp ι0 (Hs 0) w0 ι' (Hs m) w' →
        (∀ q, q < m → ¬ D q → q ≠ p → ∀ cs, Hs (q + 1) = (Hs q).push (.cells cs false) → ι' (Hs q).size = none) → K (a.put o.dst c) w' := by
      intro ι' c w' _ _ henv hst hun
      refine hK ι' _ w' m (put f s.dst (V p)) ⟨hclosed, hi.mle, ?_, ?_, hi.act, ?_, henv, hst, hi.mono, ?_⟩
      · intro q hq hmq hD
        rcases hD with hD | rfl
        · exact hi.behind q hq hmq hD
        · omega
      · intro q s' hq hs' hw2
        exact .inl (hi.acted q s' hq hs' hw2)
      · refine (hi.lw.add hp hlast).iff fun q s' hq => ?_
        have := hd.size hq
        constructor
        · rintro (⟨h1, h2⟩ | rfl)
          · exact ⟨h1, .inl h2⟩
          · exact ⟨this, .inr rfl⟩
        · rintro ⟨h1, h2 | rfl⟩
          · exact .inl ⟨h1, h2⟩
          · exact .inr rfl
      · intro q hq hnD cs hcs
        have hnDq : ¬ D q := fun h => hnD (.inl h)
        have hnqp : q ≠ p := fun h => hnD (.inr h)
        exact ⟨hun q hq hnDq hnqp cs hcs, (hi.unm q hq hnDq cs hcs).2⟩
    have oldun : ∀ ι', Stp ι (Hs m) w ι' (Hs m) w → True := fun _ _ => trivial
    rcases ht.val p s hp with ⟨h1, h2⟩ | ⟨h1, h2, h3⟩
    · by_cases ha : isA s.op = true
      · -- new memory, perhaps later than its turn
        rw [exec_fresh C _ _ ha] at h2
        simp only [Option.map_eq_some_iff] at h2
        obtain ⟨⟨cs, mk⟩, hf, hq⟩ := h2
        simp only [Prod.mk.injEq] at hq
        obtain ⟨hq1, hq2⟩ := hq
        rw [← freshOf_congr C.P s.op hev] at hf
        subst hC
        obtain ⟨us, t, c, hrun, hone, hvr, hval⟩ := fresh_run hi.env hm.1 ha hf w
        obtain ⟨u1, u2⟩ := hi.unm p hpm hnp cs hq2.symm
        have hlate := hi.stp.late t (hi.mono 0 p (by omega) (by omega)) u2 u1 hvr hone
        have hle : Le ι (ext ι (Hs p).size ⟨w.heap.size, 0, us.size⟩) := by
          intro b l hb
          simp only [ext]
          split
          · rename_i e; subst e; rw [u1] at hb; cases hb
          · exact hb
        have hv : VR (ext ι (Hs p).size ⟨w.heap.size, 0, us.size⟩) (V p) c := by
          rw [← hq1]
          exact hval _ _ (ext_new _ _)
        unfold wpOp
        simp only [ho]
        rw [wants_wanted hi.env hm hd.tsz (hwa.trans h1)]
        simp only [if_true]
        refine .inl ?_
        unfold Oper.wp
        rw [hrun]
        refine hinv _ c _ hv hle ?_ hlate ?_
        · have := (hi.env.mono hle).put o.dst hm.2.2.1 hv
          rwa [← hm.2.1] at this ⊢
        · intro q hq hnD hne cs' hcs'
          have e1 := (hi.unm q hq hnD cs' hcs').1
          simp only [ext]
          rw [if_neg]
          · exact e1
          · intro he
            have s1 : (Hs q).size < (Hs (q + 1)).size := by rw [hcs']; simp
            have s2 : (Hs p).size < (Hs (p + 1)).size := by rw [← hq2]; simp
            rcases Nat.lt_or_ge q p with h | h
            · have := hi.mono (q + 1) p (by omega) (by omega); omega
            · have := hi.mono (p + 1) q (by omega) (by omega); omega
      · -- it only reads
        have ha' : isA s.op = false := by simpa using ha
        obtain ⟨hH, hsame⟩ := exec_still C _ _ hw' ha' h2
        have hsm := hi.same_look hd ht hp hnp hw' h1 h2 m (by omega) (Nat.le_refl _)
        have hex := hsame (Hs m) hsm
        have hstep : stepI C f s (Hs m) = some (put f s.dst (V p), Hs m) := by
          unfold stepI
          rw [hwa, h1, exec_congr C s.op hev]
          simp only [hex]
        refine step_wp hi.stp.rel hi.env hC hcalls ho hm hd.tsz hstep Q K fun ι' v c w' hv1 hv2 hst henv => ?_
        have hvp : VR ι' (V p) c ∨ True := .inr trivial
        refine hK ι' _ w' m (put f s.dst (V p)) ⟨hclosed, hi.mle, ?_, fun q s' hq hs' hw2 => .inl (hi.acted q s' hq hs' hw2), hi.act, ?_, henv, hi.stp.trans hst, hi.mono, ?_⟩
        · intro q hq hmq hD
          rcases hD with hD | rfl
          · exact hi.behind q hq hmq hD
          · omega
        · refine (hi.lw.add hp hlast).iff fun q s' hq => ?_
          have := hd.size hq
          constructor
          · rintro (⟨h1, h2⟩ | rfl)
            · exact ⟨h1, .inl h2⟩
            · exact ⟨this, .inr rfl⟩
          · rintro ⟨h1, h2 | rfl⟩
            · exact .inl ⟨h1, h2⟩
            · exact .inr rfl
        · intro q hq hnD cs hcs
          obtain ⟨e1, e2⟩ := hi.unm q hq (fun h => hnD (.inl h)) cs hcs
          have hlt := (Array.getElem?_eq_some_iff.1 e2).1
          exact ⟨by rw [hst.old _ hlt]; exact e1, e2⟩
    · -- it isn't wanted
      have hstep : stepI C f s (Hs m) = some (put f s.dst (V p), Hs m) := by
        unfold stepI
        rw [hwa, h1]
        simp only [h2]
      refine step_wp hi.stp.rel hi.env hC hcalls ho hm hd.tsz hstep Q K fun ι' v c w' hv1 hv2 hst henv => ?_
      refine hK ι' _ w' m (put f s.dst (V p)) ⟨hclosed, hi.mle, ?_, fun q s' hq hs' hw2 => .inl (hi.acted q s' hq hs' hw2), hi.act, ?_, henv, hi.stp.trans hst, hi.mono, ?_⟩
      · intro q hq hmq hD
        rcases hD with hD | rfl
        · exact hi.behind q hq hmq hD
        · omega
      · refine (hi.lw.add hp hlast).iff fun q s' hq => ?_
        have := hd.size hq
        constructor
        · rintro (⟨h1, h2⟩ | rfl)
          · exact ⟨h1, .inl h2⟩
          · exact ⟨this, .inr rfl⟩
        · rintro ⟨h1, h2 | rfl⟩
          · exact .inl ⟨h1, h2⟩
          · exact .inr rfl
      · intro q hq hnD cs hcs
        obtain ⟨e1, e2⟩ := hi.unm q hq (fun h => hnD (.inl h)) cs hcs
        have hlt := (Array.getElem?_eq_some_iff.1 e2).1
        exact ⟨by rw [hst.old _ hlt]; exact e1, e2⟩

end
end Go.Proofs.Ytohclaopcejjnaa.G
