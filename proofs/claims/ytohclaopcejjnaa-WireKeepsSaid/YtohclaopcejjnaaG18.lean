/- Regions of open order: what is asked of one, read out; and its wp. -/
import Derived.Test.YtohclaopcejjnaaG17
namespace Go.Proofs.Ytohclaopcejjnaa.G
open Go

/-! ### what the check says -/
def chkOf (b : Array Nat) (ss : Array SI) (done : List Nat) (i : Nat) : List Nat :=
  if isW (ss.getD i default).op then (done.zipIdx.filter fun (j, _) => isR (ss.getD j default).op && !(b.getD i 0).testBit j).map (·.2) else []

theorem withChk_length (b : Array Nat) (ss : Array SI) : ∀ (l done : List Nat), (withChk b ss done l).length = l.length
  | [], _ => rfl
  | i :: r, done => by simp [withChk, withChk_length b ss r]

theorem withChk_get (b : Array Nat) (ss : Array SI) : ∀ (l done : List Nat) (p i : Nat), l[p]? = some i → (withChk b ss done l)[p]? = some { ss.getD i default with chk := chkOf b ss (done ++ l.take p) i }
  | [], _, _, _, h => by simp at h
  | i :: r, done, 0, j, h => by
    simp at h; subst h
    simp [withChk, chkOf]
  | i :: r, done, p + 1, j, h => by
    have := withChk_get b ss r (done ++ [i]) p j (by simpa using h)
    simp only [withChk, List.getElem?_cons_succ, List.take_succ_cons]
    rw [this]
    simp

theorem drawn_of {P : Program} {nt : Nat} {ops : Array Oper} {l : List Nat} {ss : List SI} (hs : ops.toList.mapM (compileSI P nt ops) = some ss) (hok : drawOk ops (Region.before ops) ss.toArray l = true) :
    Drawn P nt ops (fun p => l.getD p 0) (withChk (Region.before ops) ss.toArray [] l) := by
  unfold drawOk at hok
  simp only [Bool.and_eq_true, decide_eq_true_eq, List.all_eq_true, List.mem_range] at hok
  obtain ⟨⟨⟨⟨⟨⟨⟨⟨hlen, hnd⟩, hbd⟩, hsur⟩, hedge⟩, htmp⟩, htopo⟩, hact⟩, hguard⟩ := hok
  obtain ⟨hsl, hsg⟩ := mapM_get _ hs
  have hget : ∀ p, p < ops.size → l[p]? = some (l.getD p 0) := fun p hp => by
    rw [List.getD_eq_getElem?_getD, List.getElem?_eq_getElem (by omega)]; rfl
  have hlt : ∀ p, p < ops.size → l.getD p 0 < ops.size := fun p hp => hbd _ (List.mem_of_getElem? (hget p hp))
  have hss : ∀ i (hi : i < ops.size), Made P nt ops ops[i] (ss.toArray.getD i default) := fun i hi => by
    obtain ⟨y, hy, hf⟩ := hsg i ops[i] (by simp [hi])
    have : ss.toArray.getD i default = y := by simp [hy]
    rw [this]
    exact made_of hf
  have hopd : ∀ i (hi : i < ops.size), ops.getD i default = ops[i] := fun i hi => by simp [hi]
  have htl : (withChk (Region.before ops) ss.toArray [] l).length = ops.size := by rw [withChk_length, hlen]
  have hT : ∀ (p : Nat) (s : SI), (withChk (Region.before ops) ss.toArray [] l)[p]? = some s → p < ops.size ∧ s = { ss.toArray.getD (l.getD p 0) default with chk := chkOf (Region.before ops) ss.toArray ([] ++ l.take p) (l.getD p 0) } := fun p s h => by
    have hp : p < ops.size := by rw [← htl]; exact (List.getElem?_eq_some_iff.1 h).1
    rw [withChk_get _ _ l [] p _ (hget p hp)] at h
    cases h
    exact ⟨hp, rfl⟩
  refine ⟨htl, ?_, ?_, hlt, ?_, ?_, ?_, ?_, ?_, ?_, ?_, ?_⟩
  · intro p q hp hq h
    have h1 := hget p hp
    have h2 := hget q hq
    rw [← h] at h2
    exact (List.getElem?_inj (by omega) hnd).1 (h1.trans h2.symm)
  · intro i hi
    have := hsur i hi
    simp only [List.contains_eq_mem, decide_eq_true_eq] at this
    obtain ⟨p, hp, rfl⟩ := List.mem_iff_getElem.1 this
    exact ⟨p, by omega, by simp [hp]⟩
  · intro p s h
    obtain ⟨hp, rfl⟩ := hT p s h
    have hi := hlt p hp
    refine ⟨ops[l.getD p 0], by simp only [Array.getElem?_eq_getElem hi], ?_⟩
    exact hss _ hi
  · intro i o ho e he hb
    have := hedge o (by simpa using Array.mem_of_getElem? ho) e he
    simpa [hb] using this
  · intro p q op oq d hp hq hpq hop hoq hd hn
    have hi := hlt p hp
    have hj := hlt q hq
    have := htmp _ hi
    have e1 : ops.getD (l.getD p 0) default = op := by rw [Array.getD_eq_getD_getElem?, hop]; rfl
    have e2 : ops.getD (l.getD q 0) default = oq := by rw [Array.getD_eq_getD_getElem?, hoq]; rfl
    rw [e1, hd] at this
    simp only [List.all_eq_true, List.mem_range] at this
    have := this _ hj
    rw [e2] at this
    simp only [Bool.or_eq_true, beq_iff_eq, Bool.not_eq_true', List.contains_eq_mem, decide_eq_false_iff_not] at this
    rcases this with (h | h) | h
    · exfalso
      have h1 := hget p hp
      have h2 := hget q hq
      rw [← h] at h2
      exact hpq ((List.getElem?_inj (by omega) hnd).1 (h1.trans h2.symm))
    · exact absurd hn h
    · rcases Nat.le_total (l.getD p 0) (l.getD q 0) with hle | hle
      · rw [Nat.max_eq_right hle, Nat.min_eq_left hle] at h
        exact .inl h
      · rw [Nat.max_eq_left hle, Nat.min_eq_right hle] at h
        exact .inr h
  · intro p q hp hq hle
    have := htopo q hq p (by omega)
    simpa using this
  · intro p q s hp hq hs' hw hpq
    obtain ⟨_, rfl⟩ := hT p s hs'
    have := hact p hp
    simp only [Bool.or_eq_true, Bool.not_eq_true', List.all_eq_true, List.mem_range, decide_eq_true_eq] at this
    rcases this with h | h
    · simp only at hw
      rw [h] at hw; cases hw
    · rcases h q hq with h | h
      · omega
      · exact h
  · intro p q s r hp hq hpq hr hw hb
    obtain ⟨hps, rfl⟩ := hT p s hp
    obtain ⟨hqs, rfl⟩ := hT q r hq
    simp only [chkOf, List.nil_append] at hw ⊢
    rw [if_pos hw]
    refine List.mem_map.2 ⟨(l.getD p 0, p), List.mem_filter.2 ⟨?_, ?_⟩, rfl⟩
    · rw [List.mem_zipIdx_iff_getElem?]
      rw [List.getElem?_take_of_lt hpq]
      exact hget p hps
    · show (isR (ss.toArray.getD (l.getD p 0) default).op && !((Region.before ops).getD (l.getD q 0) 0).testBit (l.getD p 0)) = true
      have hr' : isR (ss.toArray.getD (l.getD p 0) default).op = true := hr
      rw [hr', hb]
      rfl
  · intro p s t k hp hg
    obtain ⟨hps, rfl⟩ := hT p s hp
    have hi := hlt p hps
    have hm := hss _ hi
    obtain ⟨_, _, _, hmg⟩ := hm
    have := hguard _ hi
    rw [hopd _ hi] at this
    simp only at hg
    cases hog : (ops[l.getD p 0]).guard with
    | none => rw [hog] at hmg; simp only at hmg; rw [hmg] at hg; cases hg
    | some jk =>
      obtain ⟨j, k'⟩ := jk
      rw [hog] at hmg this
      simp only [Bool.and_eq_true, decide_eq_true_eq] at this
      obtain ⟨t', ht', hsg'⟩ := hmg
      rw [hsg'] at hg
      cases hg
      obtain ⟨⟨hbit, hj⟩, hu⟩ := this
      rw [hopd _ hj] at hu
      have hdj : ops[j].dst = some t := by
        rw [Array.getElem?_eq_getElem hj] at ht'
        simpa using ht'
      rw [hdj] at hu
      simp only [List.all_eq_true, List.mem_range, Bool.or_eq_true, beq_iff_eq, bne_iff_ne, ne_eq] at hu
      have hmem := hsur j hj
      simp only [List.contains_eq_mem, decide_eq_true_eq] at hmem
      obtain ⟨q, hq, hqj⟩ := List.mem_iff_getElem.1 hmem
      have hqd : l.getD q 0 = j := by simp [hq, hqj]
      refine ⟨q, by omega, by rw [hqd]; exact hbit, fun q' s' hq' hd' => ?_⟩
      obtain ⟨hqs', rfl⟩ := hT q' s' hq'
      have hi' := hlt q' hqs'
      have hm' := (hss _ hi').2.1
      simp only at hd'
      rw [hm'] at hd'
      rcases hu _ hi' with h | h
      · have h1 := hget q' hqs'
        have h2 := hget q (by omega)
        rw [hqd, ← h] at h2
        exact (List.getElem?_inj (by omega) hnd).1 (h1.trans h2.symm)
      · rw [hopd _ hi'] at h
        exact absurd hd' h
  · intro j t h
    cases ho : ops[j]? with
    | none => simp [ho] at h
    | some o =>
      rw [ho] at h
      obtain ⟨hj, hoj⟩ := Array.getElem?_eq_some_iff.1 ho
      have := (hss j hj).2.2.1
      rw [hoj] at this
      simp only [Option.bind_some] at h
      rw [h] at this
      simpa using this

/-! ### the wp -/
section
variable {P : Program} {nt : Nat} {ops : Array Oper} {lt : Nat → Nat} {T : List SI} {C : Ctx} {E : Nat → Env} {Hs : Nat → Heap} {V : Nat → Value} {ι0 : Inj} {w0 : World}

theorem count_set {l : List Bool} {i : Nat} (h : l[i]? = some false) : (l.set i true).count false + 1 = l.count false := by
  induction l generalizing i with
  | nil => simp at h
  | cons a l ih =>
    cases i with
    | zero => simp at h; subst h; simp
    | succ i =>
      have := ih (i := i) (by simpa using h)
      simp only [List.set_cons_succ, List.count_cons]
      omega

theorem Inv.iff {D D' : Nat → Prop} {a : Act} {w : World} {m : Nat} {f : Env} {ι : Inj} (h : Inv nt ops lt T E Hs V ι0 w0 D a w m f ι) (hD : ∀ q, D q ↔ D' q) : Inv nt ops lt T E Hs V ι0 w0 D' a w m f ι := by
  obtain rfl : D = D' := funext fun q => propext (hD q)
  exact h

theorem any_wp (hd : Drawn P nt ops lt T) (ht : Trace C T E Hs V) (hC : C.P = P) (hcalls : CallsOK C) (Q : Exit → Act → World → Prop)
    (hQ : ∀ ι a w, EnvR ι nt (E T.length) a → Stp ι0 (Hs 0) w0 ι (Hs T.length) w → Q .normal a w) :
    ∀ (fuel : Nat) (listed : Array Bool), listed.size = ops.size → listed.toList.count false ≤ fuel → ∀ (D : Nat → Prop) a w m f ι, (∀ q, D q ↔ q < ops.size ∧ listed.getD (lt q) false = true) →
      Inv nt ops lt T E Hs V ι0 w0 D a w m f ι → wpAny P .any ops Q fuel listed a w := by
  have lD : ∀ (listed : Array Bool) (D : Nat → Prop), listed.size = ops.size → (∀ q, D q ↔ q < ops.size ∧ listed.getD (lt q) false = true) → ∀ i, i < ops.size → listed.getD i false = true → ∃ q, q < ops.size ∧ lt q = i ∧ D q := by
    intro listed D hsz hD i hi hl
    obtain ⟨q, hq, rfl⟩ := hd.sur i hi
    exact ⟨q, hq, rfl, (hD q).2 ⟨hq, hl⟩⟩
  have allD : ∀ (listed : Array Bool) (D : Nat → Prop) a w m f ι, listed.size = ops.size → (∀ q, D q ↔ q < ops.size ∧ listed.getD (lt q) false = true) → Inv nt ops lt T E Hs V ι0 w0 D a w m f ι →
      Region.ready .any ops listed = [] → ∀ q, q < ops.size → D q := by
    intro listed D a w m f ι hsz hD hi hr q
    induction q using Nat.strongRecOn with
    | _ q ih =>
      intro hq
      refine Classical.byContradiction fun hn => ?_
      have hlq := hd.bd q hq
      have : lt q ∈ Region.ready .any ops listed := by
        rw [mem_ready]
        refine ⟨?_, ops[lt q], by simp [hlq], fun e he hb => ?_⟩
        · cases hv : listed.getD (lt q) true with
          | false => rfl
          | true =>
            exfalso
            refine hn ((hD q).2 ⟨hq, ?_⟩)
            have hl : lt q < listed.size := by omega
            simp [hl] at hv ⊢
            exact hv
        · have he' : e ∈ (ops[lt q]).after.toList := by simpa using he
          have hon := hd.edges (lt q) ops[lt q] (by simp [hlq]) e he' hb
          obtain ⟨r, hr1, hr2⟩ := hd.sur e.on hon
          have hbit := before_edge ops (i := lt q) (o := ops[lt q]) (by simp [hlq]) he' hb
          have hrq : r < q := by
            rcases Nat.lt_or_ge r q with h | h
            · exact h
            · have := hd.topo q r hq hr1 h
              rw [hr2, hbit] at this
              cases this
          have := (hD r).1 (ih r hrq hr1)
          rw [← hr2]
          exact this.2
      rw [hr] at this
      cases this
  intro fuel
  induction fuel with
  | zero =>
    intro listed hsz hcnt D a w m f ι hD hi
    have hall : ∀ i, i < ops.size → listed.getD i false = true := by
      intro i hi'
      have h0 : listed.toList.count false = 0 := by omega
      rw [List.count_eq_zero] at h0
      have hl : i < listed.size := by omega
      simp [hl]
      cases hv : listed[i] with
      | true => rfl
      | false => exact absurd (by rw [← hv]; simp) h0
    have hAll : ∀ q, q < ops.size → D q := fun q hq => (hD q).2 ⟨hq, hall _ (hd.bd q hq)⟩
    obtain ⟨h1, h2⟩ := hi.done hd ht hAll
    refine ⟨?_, hQ ι a w h1 h2⟩
    rw [List.eq_nil_iff_forall_not_mem]
    intro j hj
    rw [mem_ready] at hj
    obtain ⟨hj1, o, ho, _⟩ := hj
    have hjl := (Array.getElem?_eq_some_iff.1 ho).1
    have hl : j < listed.size := by omega
    have := hall j hjl
    simp [hl] at this hj1
    rw [this] at hj1
    cases hj1
  | succ fuel ihf =>
    intro listed hsz hcnt D a w m f ι hD hi
    refine ⟨fun hr => ?_, fun i hir => ?_⟩
    · obtain ⟨h1, h2⟩ := hi.done hd ht (allD listed D a w m f ι hsz hD hi hr)
      exact hQ ι a w h1 h2
    · rw [mem_ready] at hir
      obtain ⟨hi1, o, ho, hedges⟩ := hir
      have hil := (Array.getElem?_eq_some_iff.1 ho).1
      obtain ⟨p, hp, rfl⟩ := hd.sur i hil
      have hlb : lt p < listed.size := by omega
      have hf : listed.getD (lt p) false = false := by
        simp [hlb] at hi1 ⊢
        exact hi1
      have hnp : ¬ D p := fun h => by
        have := ((hD p).1 h).2
        rw [hf] at this
        cases this
      have hTp := hd.at hp
      have hpre : ∀ q, q < ops.size → pre ops lt q p → D q := by
        intro q hq hb
        refine (hD q).2 ⟨hq, ?_⟩
        refine before_closed ops (fun k => listed.getD k false = true) ?_ (lt p) o ho (fun e he hb => hedges e (by simpa using he) hb) (lt q) hb
        intro i' o' ho' hS e he hb'
        have hil' := (Array.getElem?_eq_some_iff.1 ho').1
        obtain ⟨q', hq', rfl, hDq'⟩ := lD listed D hsz hD i' hil' hS
        have hon := hd.edges _ o' ho' e he hb'
        obtain ⟨r, hr1, hr2⟩ := hd.sur e.on hon
        have hbit := before_edge ops ho' he hb'
        have := (hD r).1 (hi.closed r q' hr1 hq' hDq' (by unfold pre; rw [hr2]; exact hbit))
        rw [← hr2]
        exact this.2
      refine hi.step hd ht hC hcalls hTp hnp hpre Q _ fun ι' a' w' m' f' hi' => ?_
      have hcs : (listed.setIfInBounds (lt p) true).toList.count false + 1 = listed.toList.count false := by
        have : (listed.setIfInBounds (lt p) true).toList = listed.toList.set (lt p) true := by simp
        rw [this]
        refine count_set ?_
        simp [hlb] at hf ⊢
        exact hf
      refine ihf _ (by simp [hsz]) (by omega) (fun q => D q ∨ q = p) a' w' m' f' ι' (fun q => ?_) hi'
      constructor
      · rintro (h | rfl)
        · have := (hD q).1 h
          exact ⟨this.1, getD_set_true this.2⟩
        · refine ⟨hp, ?_⟩
          simp [hlb]
      · rintro ⟨h1, h2⟩
        by_cases hqp : q = p
        · exact .inr hqp
        · refine .inl ((hD q).2 ⟨h1, ?_⟩)
          rwa [getD_set_ne] at h2
          intro h
          exact hqp (hd.inj q p h1 hp h.symm)

theorem drawn_wp (hd : Drawn P nt ops lt T) (hC : C.P = P) (hcalls : CallsOK C) (hm : P.follows .mixedOrders = true) {ι : Inj} {H H' : Heap} {w : World} {e e' : Env} {a : Act} (h : Rel ι H w) (hE : EnvR ι nt e a) (hr : runD C T [] e H = some (e', H'))
    (id : Nat) (Q : Exit → Act → World → Prop) (hQ : ∀ ι' a' w', EnvR ι' nt e' a' → Stp ι H w ι' H' w' → Q .normal a' w') : (Code.region id ops true).wp P Q a w := by
  obtain ⟨E, Hs, V, h1, h2, h3, h4, ht⟩ := Trace.of hr
  subst h1 h2 h3 h4
  refine wp_region_any hm ?_
  obtain ⟨m, g1, g2, g3, g4⟩ := nextW T (T.length - 0) 0 rfl (Nat.zero_le _)
  have hrd : Rel ι (Hs 0) { w with drawn := w.drawn + 1 } := h.drew _
  have hst := ht.aheads 0 (.refl hrd) m g1 g2 g3
  refine any_wp (w0 := { w with drawn := w.drawn + 1 }) hd ht hC hcalls Q (fun ι' a' w' x y => hQ ι' a' w' x y.of_drew) ops.size _ (by simp) ?_ (fun _ => False) a _ m (E 0) ι (fun q => ?_) ⟨?_, g2, ?_, ?_, g4, ?_, hE, hst, ?_, ?_⟩
  · simp
  · constructor
    · exact False.elim
    · rintro ⟨hq, hl⟩
      have := hd.bd q hq
      simp [this] at hl
  · intro p q _ _ h; exact h.elim
  · intro q _ _ h; exact h
  · intro q s hq hs hw
    have := g3 q s (by omega) hq hs
    rw [hw] at this
    cases this
  · intro t
    exact .inl ⟨fun q s _ h => h.2.elim, rfl⟩
  · intro q r hqr hrm
    exact (ht.grows q r hqr (by omega) (fun x s a b => g3 x s (by omega) (by omega))).1
  · intro q hq _ cs hcs
    have hge := (ht.grows 0 q (by omega) (by omega) (fun x s a b => g3 x s (by omega) (by omega))).1
    refine ⟨?_, ?_⟩
    · cases hx : ι (Hs q).size with
      | none => rfl
      | some l => have := h.dom _ l hx; omega
    · have hlt2 : (Hs q).size < (Hs (q + 1)).size := by rw [hcs]; simp
      rw [(ht.grows (q + 1) m (by omega) g2 (fun x s a b => g3 x s (by omega) b)).2 _ hlt2, hcs]
      simp

end
end Go.Proofs.Ytohclaopcejjnaa.G
