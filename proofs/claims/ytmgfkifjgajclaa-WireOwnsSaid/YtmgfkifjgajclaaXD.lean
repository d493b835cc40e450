/- Joined: I6 to I9. -/
import Derived.Test.YtmgfkifjgajclaaXC
set_option linter.unusedVariables false
set_option linter.unusedSimpArgs false
set_option maxRecDepth 20000
set_option maxHeartbeats 2000000
namespace Go.Proofs.Ytmgfkifjgajclaa.G
open Go
section
variable {W : Wd} {J : JH} {H : Heap}
mutual
theorem CR.restr {W W' : Wd} (hF : ∀ β cs, W.F β = some cs → W'.F β = some cs) : (x : IV) → (vs : List Value) → (∀ b ∈ irefs x, W'.M b = W.M b) → CR W x vs → CR W' x vs
 | .sc v, vs, _, h => by simpa [CR] using h
 | .agg cs, vs, hp, h => by
  simp only [CR] at h ⊢
  exact CRL.restr hF cs vs hp h
 | .tup _, vs, _, h => by simp [CR] at h
 | .ptr b v off, vs, hp, h => by
  simp only [CR] at h ⊢
  rw [hp b (by simp [irefs])]
  exact h
 | .rptr e off, vs, hp, h => by
  simp only [CR] at h ⊢
  obtain ⟨β, o, cs, h1, h2, h3, h4⟩ := h
  exact ⟨β, o, cs, hF β cs h1, h2, h3, CR.pure hF e _ h4.2 h4.1, h4.2⟩
 | .map b, vs, hp, h => by
  simp only [CR] at h ⊢
  rw [hp b (by simp [irefs])]
  exact h
 | .fn f a c, vs, hp, h => by
  simp only [CR] at h ⊢
  obtain ⟨a', c', h1, h2, h3⟩ := h
  exact ⟨a', c', h1, CRL.restr hF a _ (fun b hb => hp b (by simp [irefs, hb])) h2, CRL.restr hF c _ (fun b hb => hp b (by simp [irefs, hb])) h3⟩
 | .sl b v off n cap sz, vs, hp, h => by
  simp only [CR] at h ⊢
  rw [hp b (by simp [irefs])]
  exact h
 | .lst sz full xs, vs, _, h => by
  simp only [CR] at h ⊢
  obtain ⟨β, o, cap, cs, h1, h2, h3, h4, h5, h6, h7, h8⟩ := h
  exact ⟨β, o, cap, cs, hF β cs h1, h2, h3, h4, h5, h6, h7, CRF.pure hF sz xs _ h7 h8⟩
theorem CRL.restr {W W' : Wd} (hF : ∀ β cs, W.F β = some cs → W'.F β = some cs) : (l : List IV) → (vs : List Value) → (∀ b ∈ irefsL l, W'.M b = W.M b) → CRL W l vs → CRL W' l vs
 | [], vs, _, h => by simpa [CRL] using h
 | x :: r, vs, hp, h => by
  simp only [CRL] at h ⊢
  obtain ⟨v, vs', h1, h2, h3, h4, h5⟩ := h
  exact ⟨v, vs', h1, h2, h3, CR.restr hF x _ (fun b hb => hp b (by simp [irefsL, hb])) h4, CRL.restr hF r _ (fun b hb => hp b (by simp [irefsL, hb])) h5⟩
end
mutual
theorem IR.restr {W W' : Wd} (hF : ∀ β cs, W.F β = some cs → W'.F β = some cs) : (x : IV) → (c : Value) → (∀ b ∈ irefs x, W'.M b = W.M b) → IR W x c → IR W' x c
 | .sc v, c, _, h => by simpa [IR] using h
 | .agg cs, c, hp, h => by
  simp only [IR] at h ⊢
  obtain ⟨a, h1, h2⟩ := h
  exact ⟨a, h1, CRL.restr hF cs _ hp h2⟩
 | .tup vs, c, hp, h => by
  simp only [IR] at h ⊢
  rcases h with h | ⟨a, h1, h2⟩
  ·exact .inl h
  ·exact .inr ⟨a, h1, IRL.restr hF vs _ hp h2⟩
 | .ptr b v o, c, hp, h => by simp only [IR] at h ⊢; exact CR.restr hF _ _ hp h
 | .rptr e o, c, hp, h => by simp only [IR] at h ⊢; exact CR.restr hF _ _ hp h
 | .map b, c, hp, h => by simp only [IR] at h ⊢; exact CR.restr hF _ _ hp h
 | .fn f a b, c, hp, h => by simp only [IR] at h ⊢; exact CR.restr hF _ _ hp h
 | .sl b v o n k z, c, hp, h => by simp only [IR] at h ⊢; exact CR.restr hF _ _ hp h
 | .lst z f xs, c, hp, h => by simp only [IR] at h ⊢; exact CR.restr hF _ _ hp h
theorem IRL.restr {W W' : Wd} (hF : ∀ β cs, W.F β = some cs → W'.F β = some cs) : (l : List IV) → (vs : List Value) → (∀ b ∈ irefsL l, W'.M b = W.M b) → IRL W l vs → IRL W' l vs
 | [], vs, _, h => by simpa [IRL] using h
 | x :: r, vs, hp, h => by
  simp only [IRL] at h ⊢
  obtain ⟨v, vs', h1, h2, h3⟩ := h
  exact ⟨v, vs', h1, IR.restr hF x _ (fun b hb => hp b (by simp [irefsL, hb])) h2, IRL.restr hF r _ (fun b hb => hp b (by simp [irefsL, hb])) h3⟩
end
theorem IER.restr {W W' : Wd} (hF : ∀ β cs, W.F β = some cs → W'.F β = some cs) : ∀ {a : List IEnt} {b : List Ent}, (∀ x ∈ a, ∀ b ∈ irefs x.val, W'.M b = W.M b) → IER W a b → IER W' a b
 | [], [], _, _ => trivial
 | [], _ :: _, _, h => by simp [IER] at h
 | _ :: _, [], _, h => by simp [IER] at h
 | a :: x, b :: y, hp, h => by
  simp only [IER] at h ⊢
  exact ⟨h.1, h.2.1.restr hF _ _ (hp a (by simp)), h.2.2.1, IER.restr hF (fun z hz => hp z (by simp [hz])) h.2.2.2⟩
mutual
theorem CR.refs : (x : IV) → (vs : List Value) → CR W x vs → ∀ b ∈ irefs x, ∃ q, W.M b = some q
 | .sc v, vs, h, b, hb => by simp [irefs] at hb
 | .agg cs, vs, h, b, hb => by
  simp only [CR] at h
  simp only [irefs] at hb
  exact CRL.refs cs vs h b hb
 | .tup _, vs, h, b, hb => by simp [CR] at h
 | .ptr b0 v off, vs, h, b, hb => by
  simp only [CR] at h
  obtain ⟨w, β, γ, h1, _⟩ := h
  simp [irefs] at hb
  subst hb
  exact ⟨_, h1⟩
 | .rptr e off, vs, h, b, hb => by simp [irefs] at hb
 | .map b0, vs, h, b, hb => by
  simp only [CR] at h
  obtain ⟨w, β, γ, h1, _⟩ := h
  simp [irefs] at hb
  subst hb
  exact ⟨_, h1⟩
 | .fn f a c, vs, h, b, hb => by
  simp only [CR] at h
  obtain ⟨a', c', h1, h2, h3⟩ := h
  simp only [irefs, List.mem_append] at hb
  rcases hb with hb | hb
  ·exact CRL.refs a _ h2 b hb
  ·exact CRL.refs c _ h3 b hb
 | .sl b0 v off n cap sz, vs, h, b, hb => by
  simp only [CR] at h
  obtain ⟨w, β, γ, h1, _⟩ := h
  simp [irefs] at hb
  subst hb
  exact ⟨_, h1⟩
 | .lst sz full xs, vs, _, b, hb => by simp [irefs] at hb
theorem CRL.refs : (l : List IV) → (vs : List Value) → CRL W l vs → ∀ b ∈ irefsL l, ∃ q, W.M b = some q
 | [], vs, _, b, hb => by simp [irefsL] at hb
 | x :: r, vs, h, b, hb => by
  simp only [CRL] at h
  obtain ⟨v, vs', h1, h2, h3, h4, h5⟩ := h
  simp only [irefsL, List.mem_append] at hb
  rcases hb with hb | hb
  ·exact CR.refs x _ h4 b hb
  ·exact CRL.refs r _ h5 b hb
end
mutual
theorem IR.refs : (x : IV) → (c : Value) → IR W x c → ∀ b ∈ irefs x, ∃ q, W.M b = some q
 | .sc v, c, h, b, hb => by simp [irefs] at hb
 | .agg cs, c, h, b, hb => by
  simp only [IR] at h
  obtain ⟨a, h1, h2⟩ := h
  exact CRL.refs cs _ h2 b hb
 | .tup vs, c, h, b, hb => by
  simp only [IR] at h
  rcases h with rfl | ⟨a, h1, h2⟩
  ·simp [irefs, irefsL] at hb
  ·exact IRL.refs vs _ h2 b hb
 | .ptr b0 v o, c, h, b, hb => by simp only [IR] at h; exact CR.refs _ _ h b hb
 | .rptr e o, c, h, b, hb => by simp only [IR] at h; exact CR.refs _ _ h b hb
 | .map b0, c, h, b, hb => by simp only [IR] at h; exact CR.refs _ _ h b hb
 | .fn f a b0, c, h, b, hb => by simp only [IR] at h; exact CR.refs _ _ h b hb
 | .sl b0 v o n k z, c, h, b, hb => by simp only [IR] at h; exact CR.refs _ _ h b hb
 | .lst z f xs, c, h, b, hb => by simp only [IR] at h; exact CR.refs _ _ h b hb
theorem IRL.refs : (l : List IV) → (vs : List Value) → IRL W l vs → ∀ b ∈ irefsL l, ∃ q, W.M b = some q
 | [], vs, _, b, hb => by simp [irefsL] at hb
 | x :: r, vs, h, b, hb => by
  simp only [IRL] at h
  obtain ⟨v, vs', h1, h2, h3⟩ := h
  simp only [irefsL, List.mem_append] at hb
  rcases hb with hb | hb
  ·exact IR.refs x _ h2 b hb
  ·exact IRL.refs r _ h3 b hb
end
theorem IER.refs : ∀ {a : List IEnt} {b : List Ent}, IER W a b → ∀ x ∈ a, ∀ b ∈ irefs x.val, ∃ q, W.M b = some q
 | [], [], _, x, hx => by simp at hx
 | [], _ :: _, h, _, _ => by simp [IER] at h
 | _ :: _, [], h, _, _ => by simp [IER] at h
 | a :: x, b :: y, h, z, hz => by
  simp only [IER] at h
  rcases List.mem_cons.1 hz with rfl | hz
  ·exact IR.refs _ _ h.2.1
  ·exact IER.refs h.2.2.2 z hz
theorem ione_ptr {x : IV} (h : ione x = true) (k : Nat) {y : IV} (hf : frz J k x = some y) : ione y = true := by
 cases k with
 | zero =>
  simp only [frz] at hf
  split at hf
  ·simp only [Option.some.injEq] at hf; subst hf; exact h
  ·simp at hf
 | succ k =>
  simp only [frz] at hf
  split at hf
  ·simp only [Option.some.injEq] at hf; subst hf; exact h
  ·cases x with
   | agg cs => simp [ione] at h
   | tup cs => simp [ione] at h
   | fn f a b =>
    simp only at hf
    split at hf
    ·simp only [Option.some.injEq] at hf; subst hf; rfl
    ·simp at hf
   | sl b v off n cap sz =>
    simp only at hf
    split at hf
    ·simp at hf
    ·split at hf
     ·split at hf
      ·split at hf
       ·simp only [Option.some.injEq] at hf; subst hf; rfl
       ·simp at hf
      ·simp at hf
     ·simp at hf
   | _ => simp at hf
theorem mapM_some {α β : Type} {f : α → Option β} : ∀ {l : List α} {m : List β}, l.mapM f = some m → (l = [] ∧ m = []) ∨ ∃ x r y s, l = x :: r ∧ m = y :: s ∧ f x = some y ∧ r.mapM f = some s
 | [], m, h => by simp at h; exact .inl ⟨rfl, h⟩
 | x :: r, m, h => by
  rw [List.mapM_cons] at h
  cases hx : f x with
  | none => rw [hx] at h; simp at h
  | some y =>
   cases hr : r.mapM f with
   | none => rw [hx, hr] at h; simp at h
   | some s =>
    rw [hx, hr] at h
    simp at h
    exact .inr ⟨x, r, y, s, rfl, h.symm, hx, hr⟩
theorem CRF.of_take {sz : Nat} : ∀ {xs : List IV} {vs : List Value}, CRF W sz xs (vs.take (xs.length * sz)) → CRF W sz xs vs
 | [], vs, _ => by simp [CRF]
 | x :: r, vs, h => by
  simp only [CRF] at h ⊢
  refine ⟨h.1, ?_, CRF.of_take ?_⟩
  ·have := h.2.1
   rw [List.take_take, Nat.min_eq_left (by simp [Nat.succ_mul])] at this
   exact this
  ·have := h.2.2
   rw [List.drop_take] at this
   rw [show (x :: r).length * sz - sz = r.length * sz by simp [Nat.succ_mul]] at this
   exact this
def Told (W : Wd) (J : JH) (H : Heap) (W2 : Wd) (l : List Nat) : Prop := ∀ b ∈ l, ∀ w β cs ro, W.M b = some (w, β) → J[b]? = some (.cells w cs ro) → ∃ cs' r, H[β]? = some (.cells cs' r) ∧ W2.F β = some cs'
theorem frz_ok (h : HR W J H) {W2 : Wd} (hF : ∀ β cs, W.F β = some cs → W2.F β = some cs) : ∀ (k : Nat) {v u : IV} {c : Value}, IR W v c → frz J k v = some u → Told W J H W2 (shows J k v) → IR W2 u c ∧ ipure u = true := by
 intro k
 induction k with
 | zero =>
  intro v u c hv hf ht
  simp only [frz] at hf
  split at hf
  ·rename_i hp
   simp only [Option.some.injEq] at hf
   subst hf
   exact ⟨hv.pure hF _ _ hp, hp⟩
  ·simp at hf
 | succ k ih =>
  intro v u c hv hf ht
  have cells : ∀ {l m : List IV} {x : List Value}, CRL W l x → l.mapM (frz J k) = some m → Told W J H W2 (l.flatMap (shows J k)) → CRL W2 m x ∧ ipureL m = true := by
   intro l
   induction l with
   | nil =>
    intro m x hc hm _
    rcases mapM_some hm with ⟨_, rfl⟩ | ⟨_, _, _, _, h0, _⟩
    ·rw [CRL.nil_iff.1 hc]; exact ⟨by simp [CRL], rfl⟩
    ·cases h0
   | cons p l ihl =>
    intro m x hc hm ht
    rcases mapM_some hm with ⟨h0, _⟩ | ⟨p', r, y, s, h0, rfl, hp, hr⟩
    ·cases h0
    ·cases h0
     obtain ⟨v, vs, rfl, h2, h3, h4, h5⟩ := CRL.cons_iff.1 hc
     obtain ⟨i1, i2⟩ := ih (h4.toIR h2) hp (fun b hb => ht b (by simp [hb]))
     obtain ⟨i3, i4⟩ := ihl h5 hr (fun b hb => ht b (by simp only [List.flatMap_cons, List.mem_append]; exact .inr hb))
     have h6 := ione_ptr h2 k hp
     obtain ⟨i5, i6⟩ := i1.toCR h6
     exact ⟨CRL.cons_iff.2 ⟨v, vs, rfl, h6, i6, i5, i3⟩, by simp [ipureL, i2, i4]⟩
  have vals : ∀ {l m : List IV} {x : List Value}, IRL W l x → l.mapM (frz J k) = some m → Told W J H W2 (l.flatMap (shows J k)) → IRL W2 m x ∧ ipureL m = true := by
   intro l
   induction l with
   | nil =>
    intro m x hc hm _
    rcases mapM_some hm with ⟨_, rfl⟩ | ⟨_, _, _, _, h0, _⟩
    ·rw [IRL.nil_iff.1 hc]; exact ⟨by simp [IRL], rfl⟩
    ·cases h0
   | cons p l ihl =>
    intro m x hc hm ht
    rcases mapM_some hm with ⟨h0, _⟩ | ⟨p', r, y, s, h0, rfl, hp, hr⟩
    ·cases h0
    ·cases h0
     obtain ⟨v, vs, rfl, h4, h5⟩ := IRL.cons_iff.1 hc
     obtain ⟨i1, i2⟩ := ih h4 hp (fun b hb => ht b (by simp [hb]))
     obtain ⟨i3, i4⟩ := ihl h5 hr (fun b hb => ht b (by simp only [List.flatMap_cons, List.mem_append]; exact .inr hb))
     exact ⟨IRL.cons_iff.2 ⟨v, vs, rfl, i1, i3⟩, by simp [ipureL, i2, i4]⟩
  simp only [frz] at hf
  by_cases hp : ipure v = true
  ·rw [if_pos hp] at hf
   simp only [Option.some.injEq] at hf
   subst hf
   exact ⟨hv.pure hF _ _ hp, hp⟩
  rw [if_neg hp] at hf
  simp only [shows, if_neg hp] at ht
  cases v with
  | agg cs =>
   simp only at hf ht
   cases hm : cs.mapM (frz J k) with
   | none => rw [hm] at hf; simp at hf
   | some m =>
    rw [hm] at hf
    simp at hf
    subst hf
    obtain ⟨a, rfl, h2⟩ := hv.agg
    obtain ⟨i1, i2⟩ := cells h2 hm ht
    exact ⟨by simp only [IR]; exact ⟨a, rfl, i1⟩, by simpa [ipure] using i2⟩
  | tup cs =>
   simp only at hf ht
   cases hm : cs.mapM (frz J k) with
   | none => rw [hm] at hf; simp at hf
   | some m =>
    rw [hm] at hf
    simp at hf
    subst hf
    simp only [IR] at hv
    rcases hv with rfl | ⟨a, rfl, h2⟩
    ·simp [ipure, ipureL] at hp
    ·obtain ⟨i1, i2⟩ := vals h2 hm ht
     exact ⟨by simp only [IR]; exact .inr ⟨a, rfl, i1⟩, by simpa [ipure] using i2⟩
  | fn f a b =>
   simp only at hf ht
   split at hf
   ·rename_i a2 b2 ha hb
    simp only [Option.some.injEq] at hf
    subst hf
    simp only [IR, CR] at hv
    obtain ⟨a', c', hc, h2, h3⟩ := hv
    obtain ⟨i1, i2⟩ := cells h2 ha (fun x hx => ht x (by simp only [List.flatMap_append, List.mem_append]; exact .inl hx))
    obtain ⟨i3, i4⟩ := cells h3 hb (fun x hx => ht x (by simp only [List.flatMap_append, List.mem_append]; exact .inr hx))
    refine ⟨?_, by simp [ipure, i2, i4]⟩
    simp only [IR, CR]
    exact ⟨a', c', hc, i1, i3⟩
   ·simp at hf
  | sl b v off n cap sz =>
   obtain ⟨w, β, γ, hM, hle, rfl, hz, hcap, hγ⟩ := hv.sl
   simp only at hf ht
   split at hf
   ·simp at hf
   ·split at hf
    ·rename_i cs hrd
     obtain ⟨rfl, vs, hvs, hcr⟩ := h.read hM hrd
     obtain rfl := hγ rfl
     rw [hrd] at ht
     simp only at ht
     split at hf
     ·rename_i cs2 hm
      split at hf
      ·rename_i hall
       simp only [Option.some.injEq] at hf
       subst hf
       obtain ⟨i1, i2⟩ := cells hcr hm (fun x hx => ht x (by simp only [List.mem_cons]; exact .inr hx))
       have hJ : ∃ es ro, J[b]? = some (.cells v es ro) := by
        unfold ird at hrd
        split at hrd
        ·rename_i w' es ro hJ
         split at hrd
         ·rename_i hc; exact ⟨es, ro, by rw [hJ, hc.1]⟩
         ·simp at hrd
        ·simp at hrd
       obtain ⟨es, ro, hJ⟩ := hJ
       obtain ⟨cs', r, hH, hW2⟩ := ht b (by simp) v γ es ro hM hJ
       have hvs2 : off + n * sz ≤ cs'.length ∧ vs = (cs'.drop off).take (n * sz) := by
        unfold rd at hvs
        rw [hH] at hvs
        simp only at hvs
        split at hvs
        ·rename_i hle2; simp only [Option.some.injEq] at hvs; exact ⟨hle2, hvs.symm⟩
        ·simp at hvs
       obtain ⟨hle2, rfl⟩ := hvs2
       have hcl : cs2.length = n * sz := by rw [← i1.len]; simp; omega
       refine ⟨.mk_lst hW2 (grp_len _ _).symm hz (by rw [grp_len]; exact hle2) (by rw [grp_len]; exact hcap) ?_ (ipureL_iff.2 (ipure_grp n (ipureL_iff.1 i2))) ?_, rfl⟩
       ·intro e
        simp only [Bool.and_eq_true, beq_iff_eq, decide_eq_true_eq] at e
        rw [grp_len]; exact ⟨e.1.symm, e.2⟩
       ·apply CRF.of_take
        rw [grp_len]
        exact grp_CRF n (by omega) i1
      ·simp at hf
     ·simp at hf
    ·simp at hf
  | sc v => simp [ipure] at hp
  | lst z f xs => simp [ipure] at hp
  | ptr b v o => simp at hf
  | rptr e o => simp at hf
  | map b => simp at hf
theorem frzL_ok (h : HR W J H) {W2 : Wd} (hF : ∀ β cs, W.F β = some cs → W2.F β = some cs) (k : Nat) : ∀ {l m : List IV} {x : List Value}, IRL W l x → l.mapM (frz J k) = some m → Told W J H W2 (l.flatMap (shows J k)) → IRL W2 m x ∧ ipureL m = true := by
 intro l
 induction l with
 | nil =>
  intro m x hc hm _
  rcases mapM_some hm with ⟨_, rfl⟩ | ⟨_, _, _, _, h0, _⟩
  ·rw [IRL.nil_iff.1 hc]; exact ⟨by simp [IRL], rfl⟩
  ·cases h0
 | cons p l ihl =>
  intro m x hc hm ht
  rcases mapM_some hm with ⟨h0, _⟩ | ⟨p', r, y, s, h0, rfl, hp, hr⟩
  ·cases h0
  ·cases h0
   obtain ⟨v, vs, rfl, h4, h5⟩ := IRL.cons_iff.1 hc
   obtain ⟨i1, i2⟩ := frz_ok h hF k h4 hp (fun b hb => ht b (by simp [hb]))
   obtain ⟨i3, i4⟩ := ihl h5 hr (fun b hb => ht b (by simp only [List.flatMap_cons, List.mem_append]; exact .inr hb))
   exact ⟨IRL.cons_iff.2 ⟨v, vs, rfl, i1, i3⟩, by simp [ipureL, i2, i4]⟩
theorem shows_dom (h : HR W J H) : ∀ (k : Nat) {v : IV} {c : Value}, IR W v c → ∀ b ∈ shows J k v, ∃ q, W.M b = some q := by
 intro k
 induction k with
 | zero => intro v c _ b hb; simp [shows] at hb
 | succ k ih =>
  intro v c hv b hb
  have cells : ∀ {l : List IV} {x : List Value}, CRL W l x → ∀ b ∈ l.flatMap (shows J k), ∃ q, W.M b = some q := by
   intro l
   induction l with
   | nil => intro x _ b hb; simp at hb
   | cons p l ihl =>
    intro x hc b hb
    obtain ⟨v, vs, rfl, h2, h3, h4, h5⟩ := CRL.cons_iff.1 hc
    simp only [List.flatMap_cons, List.mem_append] at hb
    rcases hb with hb | hb
    ·exact ih (h4.toIR h2) b hb
    ·exact ihl h5 b hb
  have vals : ∀ {l : List IV} {x : List Value}, IRL W l x → ∀ b ∈ l.flatMap (shows J k), ∃ q, W.M b = some q := by
   intro l
   induction l with
   | nil => intro x _ b hb; simp at hb
   | cons p l ihl =>
    intro x hc b hb
    obtain ⟨v, vs, rfl, h4, h5⟩ := IRL.cons_iff.1 hc
    simp only [List.flatMap_cons, List.mem_append] at hb
    rcases hb with hb | hb
    ·exact ih h4 b hb
    ·exact ihl h5 b hb
  simp only [shows] at hb
  split at hb
  ·simp at hb
  ·cases v with
   | agg cs => obtain ⟨a, rfl, h2⟩ := hv.agg; exact cells h2 b hb
   | tup cs =>
    simp only [IR] at hv
    rcases hv with rfl | ⟨a, rfl, h2⟩
    ·simp at hb
    ·exact vals h2 b hb
   | fn f a d =>
    simp only [IR, CR] at hv
    obtain ⟨a', c', hc, h2, h3⟩ := hv
    simp only [List.flatMap_append, List.mem_append] at hb
    rcases hb with hb | hb
    ·exact cells h2 b hb
    ·exact cells h3 b hb
   | sl b0 v off n cap sz =>
    obtain ⟨w, β, γ, hM, hle, rfl, hz, hcap, hγ⟩ := hv.sl
    simp only [List.mem_cons] at hb
    rcases hb with rfl | hb
    ·exact ⟨_, hM⟩
    ·split at hb
     ·rename_i cs hrd
      obtain ⟨rfl, vs, hvs, hcr⟩ := h.read hM hrd
      exact cells hcr b hb
     ·simp at hb
   | _ => simp at hb
theorem showsL_dom (h : HR W J H) (k : Nat) {l : List IV} {x : List Value} (hl : IRL W l x) : ∀ b ∈ l.flatMap (shows J k), ∃ q, W.M b = some q := by
 induction l generalizing x with
 | nil => intro b hb; simp at hb
 | cons p l ihl =>
  intro b hb
  obtain ⟨v, vs, rfl, h4, h5⟩ := IRL.cons_iff.1 hl
  simp only [List.flatMap_cons, List.mem_append] at hb
  rcases hb with hb | hb
  ·exact shows_dom h k h4 b hb
  ·exact ihl h5 b hb
mutual
theorem CR.scal {W W' : Wd} : (x : IV) → (vs : List Value) → iscal x = true → CR W x vs → CR W' x vs
 | .sc v, vs, _, h => by simpa [CR] using h
 | .agg cs, vs, hp, h => by
  simp only [CR] at h ⊢
  simp only [iscal] at hp
  exact CRL.scal cs vs hp h
 | .tup _, vs, _, h => by simp [CR] at h
 | .ptr b v off, vs, hp, h => by simp [iscal] at hp
 | .rptr e off, vs, hp, h => by simp [iscal] at hp
 | .map b, vs, hp, h => by simp [iscal] at hp
 | .fn f a c, vs, hp, h => by simp [iscal] at hp
 | .sl b v off n cap sz, vs, hp, h => by simp [iscal] at hp
 | .lst sz full xs, vs, hp, h => by simp [iscal] at hp
theorem CRL.scal {W W' : Wd} : (l : List IV) → (vs : List Value) → iscalL l = true → CRL W l vs → CRL W' l vs
 | [], vs, _, h => by simpa [CRL] using h
 | x :: r, vs, hp, h => by
  simp only [CRL] at h ⊢
  simp only [iscalL, Bool.and_eq_true] at hp
  obtain ⟨v, vs', h1, h2, h3, h4, h5⟩ := h
  exact ⟨v, vs', h1, h2, h3, CR.scal x _ hp.1 h4, CRL.scal r _ hp.2 h5⟩
end
mutual
theorem IR.scal {W W' : Wd} : (x : IV) → (c : Value) → iscal x = true → IR W x c → IR W' x c
 | .sc v, c, _, h => by simpa [IR] using h
 | .agg cs, c, hp, h => by
  simp only [IR] at h ⊢
  simp only [iscal] at hp
  obtain ⟨a, h1, h2⟩ := h
  exact ⟨a, h1, CRL.scal cs _ hp h2⟩
 | .tup vs, c, hp, h => by
  simp only [IR] at h ⊢
  simp only [iscal] at hp
  rcases h with h | ⟨a, h1, h2⟩
  ·exact .inl h
  ·exact .inr ⟨a, h1, IRL.scal vs _ hp h2⟩
 | .ptr b v o, c, hp, h => by simp [iscal] at hp
 | .rptr e o, c, hp, h => by simp [iscal] at hp
 | .map b, c, hp, h => by simp [iscal] at hp
 | .fn f a b, c, hp, h => by simp [iscal] at hp
 | .sl b v o n k z, c, hp, h => by simp [iscal] at hp
 | .lst z f xs, c, hp, h => by simp [iscal] at hp
theorem IRL.scal {W W' : Wd} : (l : List IV) → (vs : List Value) → iscalL l = true → IRL W l vs → IRL W' l vs
 | [], vs, _, h => by simpa [IRL] using h
 | x :: r, vs, hp, h => by
  simp only [IRL] at h ⊢
  simp only [iscalL, Bool.and_eq_true] at hp
  obtain ⟨v, vs', h1, h2, h3⟩ := h
  exact ⟨v, vs', h1, IR.scal x _ hp.1 h2, IRL.scal r _ hp.2 h3⟩
end
theorem mark1_get (J : JH) (b i : Nat) : (mark1 J b)[i]? = if i = b then (match J[b]? with | some (.cells w cs _) => some (.cells w cs true) | x => x) else J[i]? := by
 unfold mark1
 by_cases h : i = b
 ·subst h
  rw [if_pos rfl]
  cases hJ : J[i]? with
  | none => simp [hJ]
  | some x =>
   cases x with
   | cells w cs ro =>
    have hlt : i < J.size := by
     rcases Nat.lt_or_ge i J.size with h | h
     ·exact h
     ·rw [Array.getElem?_eq_none h] at hJ; cases hJ
    simp only
    rw [get_set hlt, if_pos rfl]
   | map es k => simp [hJ]
 ·rw [if_neg h]
  split
  ·rename_i w cs ro hJ
   have hlt : b < J.size := by
    rcases Nat.lt_or_ge b J.size with h | h
    ·exact h
    ·rw [Array.getElem?_eq_none h] at hJ; cases hJ
   rw [get_set hlt, if_neg (fun e => h e.symm)]
  ·rfl
theorem markA_get : ∀ (l : List Nat) (J : JH) (i : Nat), (markA J l)[i]? = if i ∈ l then (match J[i]? with | some (.cells w cs _) => some (.cells w cs true) | x => x) else J[i]?
 | [], J, i => by simp [markA]
 | b :: l, J, i => by
  have : markA J (b :: l) = markA (mark1 J b) l := rfl
  rw [this, markA_get l, mark1_get]
  by_cases h1 : i ∈ l <;> by_cases h2 : i = b
  ·subst h2
   rw [if_pos h1, if_pos rfl, if_pos (by simp)]
   cases hJ : J[i]? with
   | none => rfl
   | some x => cases x <;> rfl
  ·rw [if_pos h1, if_neg h2, if_pos (by simp [h1])]
  ·rw [if_neg h1, if_pos h2, if_pos (by simp [h2]), h2]
  ·rw [if_neg h1, if_neg h2, if_neg (by simp [h1, h2])]
theorem mark1_size (J : JH) (b : Nat) : (mark1 J b).size = J.size := by
 unfold mark1
 split <;> simp
theorem markA_size : ∀ (l : List Nat) (J : JH), (markA J l).size = J.size
 | [], J => rfl
 | b :: l, J => by
  have : markA J (b :: l) = markA (mark1 J b) l := rfl
  rw [this, markA_size l, mark1_size]
open Classical in
noncomputable def withF (W : Wd) (H : Heap) (l : List Nat) (M : Nat → Option (Nat × Nat)) : Wd :=
 { M := M, F := fun β => if ∃ b ∈ l, ∃ w, W.M b = some (w, β) then (match H[β]? with | some (.cells cs _) => some cs | _ => none) else W.F β }
theorem withF_le (h : HR W J H) (l : List Nat) (M : Nat → Option (Nat × Nat)) : ∀ β cs, W.F β = some cs → (withF W H l M).F β = some cs := by
 intro β cs hF
 simp only [withF]
 split
 ·obtain ⟨r, hr⟩ := h.fro β cs hF
  rw [hr]
 ·exact hF
theorem withF_fro (h : HR W J H) (l : List Nat) (M : Nat → Option (Nat × Nat)) : ∀ β cs, (withF W H l M).F β = some cs → ∃ r, H[β]? = some (.cells cs r) := by
 intro β cs hF
 simp only [withF] at hF
 split at hF
 ·split at hF
  ·rename_i cs' r hr
   simp only [Option.some.injEq] at hF
   subst hF
   exact ⟨r, hr⟩
  ·simp at hF
 ·exact h.fro β cs hF
theorem withF_told (h : HR W J H) (l : List Nat) (M : Nat → Option (Nat × Nat)) : Told W J H (withF W H l M) l := by
 intro b hb w β cs ro hM hJ
 obtain ⟨cs', r, h1, _⟩ := h.cells b w β cs ro hM hJ
 refine ⟨cs', r, h1, ?_⟩
 simp only [withF]
 rw [if_pos ⟨b, hb, w, hM⟩, h1]
def CallOK (C : ICall) (Cg : Ctx) : Prop := ∀ f args J v J', C f args J = some (v, J') → ∀ W H cargs, HR W J H → IRL W args cargs →
 ∃ W' c H', Cg.call f cargs H = some (c, H') ∧ SS W J H W' J' H' (fun _ => True) ∧ IR W' v c
theorem pure_sim {C : ICall} {Cg : Ctx} (hC : CallOK C Cg) (h : HR W J H) {f : FuncId} {args : List IV} {cargs : List Value} (ha : IRL W args cargs) {v : IV} {J' : JH} (he : doCall C .pure f args J = some (v, J')) :
  Goal W J H T0 (Cg.call f cargs H) v J' := by
 simp only [doCall] at he
 split at he
 ·rename_i as has
  split at he
  ·rename_i v1 J1 hc
   split at he
   ·rename_i u hu
    simp only [Option.some.injEq, Prod.mk.injEq] at he
    obtain ⟨rfl, rfl⟩ := he
    generalize hl : args.flatMap (shows J DEP) = l
    let Wc : Wd := withF W H l (fun _ => none)
    have hWc : HR Wc #[] H := ⟨fun b w β hb => by simp [Wc, withF] at hb, fun b w β cs ro hb => by simp [Wc, withF] at hb, fun b w β es k hb => by simp [Wc, withF] at hb, fun b c w v β hb => by simp [Wc, withF] at hb, withF_fro h l _⟩
    obtain ⟨i1, i2⟩ := frzL_ok h (withF_le h l (fun _ => none)) DEP ha has (by rw [hl]; exact withF_told h l _)
    obtain ⟨W1, c, H1, k1, k2, k3⟩ := hC f as #[] v1 J1 hc Wc H cargs hWc i1
    have hold : ∀ β, β < H.size → H1[β]? = H[β]? := fun β hβ => k2.frG β hβ fun b w hb => by simp [Wc, withF] at hb
    by_cases hs : iscal u = true
    ·rw [if_pos hs]
     have hu2 := (frz_ok k2.hr (withF_le k2.hr (shows J1 DEP v1) W.M) DEP k3 hu (withF_told k2.hr _ _)).1
     refine ⟨W, c, H1, k1, ⟨.refl W, ⟨h.dom, ?_, ?_, h.inj, ?_⟩, fun b w β hb => .inl ⟨w, β, hb, .inl rfl⟩, fun β cs hF => .inl hF, k2.hs, Nat.le_refl _, fun β hβ _ => hold β hβ, fun _ _ _ => rfl⟩, hu2.scal _ _ hs⟩
     ·intro b w β cs ro hM hJ
      rw [hold β (h.lt hM).2]
      exact h.cells b w β cs ro hM hJ
     ·intro b w β es k hM hJ
      rw [hold β (h.lt hM).2]
      exact h.maps b w β es k hM hJ
     ·intro β cs hF
      obtain ⟨r, hr⟩ := h.fro β cs hF
      refine ⟨r, ?_⟩
      rw [hold β]
      ·exact hr
      ·rcases Nat.lt_or_ge β H.size with h | h
       ·exact h
       ·rw [Array.getElem?_eq_none h] at hr; cases hr
    ·rw [if_neg hs]
     let W3 : Wd := withF W1 H1 (shows J1 DEP v1) W.M
     have hF13 := withF_le k2.hr (shows J1 DEP v1) W.M
     have hFW : ∀ β cs, W.F β = some cs → W3.F β = some cs := fun β cs hF => hF13 β cs (k2.le.F β cs (withF_le h l _ β cs hF))
     have hu2 := (frz_ok k2.hr hF13 DEP k3 hu (withF_told k2.hr _ _)).1
     have hle : Wle W W3 := ⟨fun b w β hb => ⟨w, β, hb, .inl ⟨rfl, rfl⟩⟩, hFW⟩
     -- of blocks that were there ahead of it
     have hF3 : ∀ β cs, β < H.size → W3.F β = some cs → (∃ b ∈ l, ∃ w, W.M b = some (w, β)) ∨ W.F β = some cs := by
      intro β cs hβ hF
      have hnew : ∀ b w, W1.M b = some (w, β) → False := by
       intro b w hb
       rcases k2.newM b w β hb with ⟨w0, β0, h3, _⟩ | ⟨_, h4⟩
       ·simp [Wc, withF] at h3
       ·omega
      have h1 : W1.F β = some cs := by
       simp only [W3, withF] at hF
       split at hF
       ·rename_i hex
        obtain ⟨b, _, w, hb⟩ := hex
        exact (hnew b w hb).elim
       ·exact hF
      rcases k2.newF β cs h1 with h2 | ⟨b, w, h2⟩ | h2
      ·simp only [Wc, withF] at h2
       split at h2
       ·rename_i hex; exact .inl hex
       ·exact .inr h2
      ·simp [Wc, withF] at h2
      ·omega
     have hF3l : ∀ b ∈ l, ∀ w β cs ro, W.M b = some (w, β) → J[b]? = some (.cells w cs ro) → ∃ cs' r, H[β]? = some (.cells cs' r) ∧ W3.F β = some cs' := by
      intro b hb w β cs ro hM hJ
      obtain ⟨cs', r, h1, h2⟩ := withF_told h l (fun _ => none) b hb w β cs ro hM hJ
      exact ⟨cs', r, h1, hF13 β cs' (k2.le.F β cs' h2)⟩
     refine ⟨W3, c, H1, k1, ⟨hle, ⟨?_, ?_, ?_, h.inj, ?_⟩, fun b w β hb => .inl ⟨w, β, hb, .inl rfl⟩, ?_, k2.hs, by rw [markA_size]; exact Nat.le_refl _, fun β hβ _ => hold β hβ, ?_⟩, hu2⟩
     ·intro b w β hM
      have hM' : W.M b = some (w, β) := hM
      rw [markA_get]
      rcases h.dom b w β hM' with ⟨cs, ro, h1⟩ | ⟨h0, es, k, h1⟩
      ·rw [h1]
       split
       ·exact .inl ⟨cs, true, rfl⟩
       ·exact .inl ⟨cs, ro, rfl⟩
      ·rw [h1]
       refine .inr ⟨h0, es, k, ?_⟩
       split <;> rfl
     ·intro b w β cs ro hM hJ
      have hM' : W.M b = some (w, β) := hM
      rw [markA_get] at hJ
      rw [hold β (h.lt hM').2]
      by_cases hb : b ∈ l
      ·rw [if_pos hb] at hJ
       cases hJb : J[b]? with
       | none => rw [hJb] at hJ; simp at hJ
       | some x =>
        cases x with
        | map es k => rw [hJb] at hJ; simp at hJ
        | cells w' cs1 ro1 =>
         rw [hJb] at hJ
         simp only [Option.some.injEq, IB.cells.injEq] at hJ
         obtain ⟨rfl, rfl, rfl⟩ := hJ
         obtain ⟨cs', r, h1, h2, h3, h4⟩ := h.cells b w' β cs1 ro1 hM' hJb
         refine ⟨cs', r, h1, h2.mono hle, fun e => (by cases e), fun _ => ?_⟩
         obtain ⟨cs2, r2, h5, h6⟩ := hF3l b hb w' β cs1 ro1 hM' hJb
         rw [h1] at h5
         cases h5
         exact h6
      ·rw [if_neg hb] at hJ
       obtain ⟨cs', r, h1, h2, h3, h4⟩ := h.cells b w β cs ro hM' hJ
       refine ⟨cs', r, h1, h2.mono hle, fun e => ⟨(h3 e).1, ?_⟩, fun e => hFW β cs' (h4 e)⟩
       cases hq : W3.F β with
       | none => rfl
       | some q =>
        rcases hF3 β q (h.lt hM').2 hq with ⟨b2, hb2, w2, hM2⟩ | h5
        ·exact absurd (h.inj b2 b _ _ _ hM2 hM' ▸ hb2) hb
        ·rw [(h3 e).2] at h5; cases h5
     ·intro b w β es k hM hJ
      have hM' : W.M b = some (w, β) := hM
      rw [markA_get] at hJ
      rw [hold β (h.lt hM').2]
      have hJ' : J[b]? = some (.map es k) := by
       split at hJ
       ·split at hJ
        ·simp at hJ
        ·exact hJ
       ·exact hJ
      obtain ⟨es', h1, h2⟩ := h.maps b w β es k hM' hJ'
      exact ⟨es', h1, h2.mono hle⟩
     ·exact withF_fro k2.hr _ _
     ·intro β cs hF
      rcases Nat.lt_or_ge β H.size with hβ | hβ
      ·rcases hF3 β cs hβ hF with ⟨b, _, w, hb⟩ | h5
       ·exact .inr (.inl ⟨b, w, hb⟩)
       ·exact .inl h5
      ·exact .inr (.inr hβ)
     ·intro b hb hn
      rw [markA_get, if_neg]
      intro hbl
      obtain ⟨q, hq⟩ := showsL_dom h DEP ha b (by rw [hl]; exact hbl)
      rw [hn] at hq; cases hq
   ·simp at he
  ·simp at he
 ·simp at he
theorem HR.part (h : HR W J H) {S : List Nat} (hS : ∀ b ∈ S, ∀ x ∈ refsB J b, x ∈ S) : HR { W with M := fun b => if b ∈ S then W.M b else none } J H := by
 have hb : ∀ {b : Nat} {q}, (if b ∈ S then W.M b else none) = some q → b ∈ S ∧ W.M b = some q := fun {b q} hq => by
  split at hq
  ·rename_i hm; exact ⟨hm, hq⟩
  ·simp at hq
 refine ⟨fun b w β hM => h.dom b w β (hb hM).2, fun b w β cs ro hM hJ => ?_, fun b w β es k hM hJ => ?_, fun b c w v β h1 h2 => h.inj b c w v β (hb h1).2 (hb h2).2, h.fro⟩
 ·obtain ⟨cs', r, h1, h2, h3⟩ := h.cells b w β cs ro (hb hM).2 hJ
  refine ⟨cs', r, h1, h2.restr (W := W) (W' := { W with M := fun b => if b ∈ S then W.M b else none }) (fun _ _ e => e) _ _ (fun x hx => ?_), h3⟩
  have : x ∈ S := hS b (hb hM).1 x (by unfold refsB; rw [hJ]; exact hx)
  simp [this]
 ·obtain ⟨es', h1, h2⟩ := h.maps b w β es k (hb hM).2 hJ
  refine ⟨es', h1, h2.restr (W := W) (W' := { W with M := fun b => if b ∈ S then W.M b else none }) (fun _ _ e => e) (fun y hy x hx => ?_)⟩
  have : x ∈ S := hS b (hb hM).1 x (by unfold refsB; rw [hJ]; simp only [List.mem_flatMap]; exact ⟨y, hy, hx⟩)
  simp [this]
theorem raw_sim {C : ICall} {Cg : Ctx} (hC : CallOK C Cg) (h : HR W J H) {f : FuncId} {args : List IV} {cargs : List Value} (ha : IRL W args cargs) {v : IV} {J1 : JH} (hc : C f args J = some (v, J1)) :
  Goal W J H (TT (reach J args)) (Cg.call f cargs H) v J1 := by
 cases hr : reach J args with
 | none =>
  obtain ⟨W', c, H', k1, k2, k3⟩ := hC f args J v J1 hc W H cargs h ha
  exact ⟨W', c, H', k1, k2, k3⟩
 | some S =>
  unfold reach at hr
  simp only at hr
  split at hr
  ·rename_i hcl
   simp only [Option.some.injEq] at hr
   rw [hr] at hcl
   simp only [Bool.and_eq_true, List.all_eq_true, List.contains_iff_mem] at hcl
   obtain ⟨hc1, hc2⟩ := hcl
   have hS : ∀ b ∈ S, ∀ x ∈ refsB J b, x ∈ S := hc2
   generalize hWS : ({ W with M := fun b => if b ∈ S then W.M b else none } : Wd) = WS
   have hWSM : ∀ b, WS.M b = if b ∈ S then W.M b else none := fun b => by rw [← hWS]
   have hWSF : WS.F = W.F := by rw [← hWS]
   have hp : HR WS J H := by rw [← hWS]; exact h.part hS
   have ha2 : IRL WS args cargs := ha.restr (fun β cs e => by rw [hWSF]; exact e) _ _ fun b hb => by rw [hWSM, if_pos (hc1 b hb)]
   obtain ⟨W1, c, H1, k1, k2, k3⟩ := hC f args J v J1 hc WS H cargs hp ha2
   have hWb : ∀ {b q}, WS.M b = some q → b ∈ S ∧ W.M b = some q := fun {b q} hq => by
    rw [hWSM] at hq
    split at hq
    ·rename_i hm; exact ⟨hm, hq⟩
    ·simp at hq
   open Classical in
   let W' : Wd := { M := fun b => if b ∈ S ∨ J.size ≤ b then W1.M b else W.M b, F := W1.F }
   have hM' : ∀ b, W'.M b = if b ∈ S ∨ J.size ≤ b then W1.M b else W.M b := fun b => rfl
   have hW1 : ∀ {b q}, W1.M b = some q → b ∈ S ∨ J.size ≤ b := fun {b q} hq => by
    obtain ⟨w, β⟩ := q
    rcases k2.newM b w β hq with ⟨w0, β0, h3, _⟩ | ⟨h3, _⟩
    ·exact .inl (hWb h3).1
    ·exact .inr h3
   have le1 : Wle W1 W' := ⟨fun b w β hb => ⟨w, β, by rw [hM', if_pos (hW1 hb)]; exact hb, .inl ⟨rfl, rfl⟩⟩, fun _ _ e => e⟩
   have le0 : Wle W W' := by
    refine ⟨fun b w β hb => ?_, fun β cs hF => k2.le.F β cs (by rw [hWSF]; exact hF)⟩
    by_cases hbS : b ∈ S
    ·obtain ⟨w', β', h1, h2⟩ := k2.le.M b w β (by rw [hWSM, if_pos hbS]; exact hb)
     exact ⟨w', β', by rw [hM', if_pos (.inl hbS)]; exact h1, h2⟩
    ·refine ⟨w, β, ?_, .inl ⟨rfl, rfl⟩⟩
     rw [hM', if_neg]
     ·exact hb
     ·rintro (h1 | h1)
      ·exact hbS h1
      ·have := (h.lt hb).1; omega
   -- blocks that weren't reached
   have hout : ∀ {b w β}, b ∉ S → W.M b = some (w, β) → J1[b]? = J[b]? ∧ H1[β]? = H[β]? := fun {b w β} hbS hb => by
    refine ⟨k2.frI b (h.lt hb).1 (by rw [hWSM, if_neg hbS]), k2.frG β (h.lt hb).2 fun x v hx => ?_⟩
    obtain ⟨h1, h2⟩ := hWb hx
    exact absurd (h.inj x b _ _ _ h2 hb ▸ h1) hbS
   have hcase : ∀ {b w β}, W'.M b = some (w, β) → ((b ∈ S ∨ J.size ≤ b) ∧ W1.M b = some (w, β)) ∨ (b ∉ S ∧ W.M b = some (w, β)) := fun {b w β} hb => by
    rw [hM'] at hb
    split at hb
    ·rename_i hx; exact .inl ⟨hx, hb⟩
    ·rename_i hx; exact .inr ⟨fun e => hx (.inl e), hb⟩
   have hFold : ∀ {b w β cs}, b ∉ S → W.M b = some (w, β) → W1.F β = some cs → W.F β = some cs := fun {b w β cs} hbS hb hF => by
    rcases k2.newF β cs hF with h1 | ⟨x, v, h1⟩ | h1
    ·rw [hWSF] at h1; exact h1
    ·obtain ⟨h2, h3⟩ := hWb h1
     exact absurd (h.inj x b _ _ _ h3 hb ▸ h2) hbS
    ·have := (h.lt hb).2; omega
   refine ⟨W', c, H1, k1, ⟨le0, ⟨?_, ?_, ?_, ?_, k2.hr.fro⟩, ?_, ?_, k2.hs, k2.js, ?_, ?_⟩, k3.mono le1⟩
   ·intro b w β hb
    rcases hcase hb with ⟨_, h1⟩ | ⟨hbS, h1⟩
    ·exact k2.hr.dom b w β h1
    ·rw [(hout hbS h1).1]; exact h.dom b w β h1
   ·intro b w β cs ro hb hJ
    rcases hcase hb with ⟨_, h1⟩ | ⟨hbS, h1⟩
    ·obtain ⟨cs', r, h2, h3, h4⟩ := k2.hr.cells b w β cs ro h1 hJ
     exact ⟨cs', r, h2, h3.mono le1, h4⟩
    ·rw [(hout hbS h1).1] at hJ
     rw [(hout hbS h1).2]
     obtain ⟨cs', r, h2, h3, h4, h5⟩ := h.cells b w β cs ro h1 hJ
     refine ⟨cs', r, h2, h3.mono le0, fun e => ⟨(h4 e).1, ?_⟩, fun e => le0.F β cs' (h5 e)⟩
     cases hq : W'.F β with
     | none => rfl
     | some q =>
      have := hFold hbS h1 hq
      rw [(h4 e).2] at this; cases this
   ·intro b w β es k hb hJ
    rcases hcase hb with ⟨_, h1⟩ | ⟨hbS, h1⟩
    ·obtain ⟨es', h2, h3⟩ := k2.hr.maps b w β es k h1 hJ
     exact ⟨es', h2, h3.mono le1⟩
    ·rw [(hout hbS h1).1] at hJ
     rw [(hout hbS h1).2]
     obtain ⟨es', h2, h3⟩ := h.maps b w β es k h1 hJ
     exact ⟨es', h2, h3.mono le0⟩
   ·have cross : ∀ {b x w v β}, W1.M b = some (w, β) → x ∉ S → W.M x = some (v, β) → False := fun {b x w v β} h1 hx h2 => by
     rcases k2.newM b w β h1 with ⟨w0, β0, h3, rfl | h4⟩ | ⟨_, h4⟩
     ·obtain ⟨h5, h6⟩ := hWb h3
      exact hx (h.inj b x _ _ _ h6 h2 ▸ h5)
     ·have := (h.lt h2).2; omega
     ·have := (h.lt h2).2; omega
    intro b x w v β h1 h2
    rcases hcase h1 with ⟨_, h3⟩ | ⟨hbS, h3⟩ <;> rcases hcase h2 with ⟨_, h4⟩ | ⟨hxS, h4⟩
    ·exact k2.hr.inj b x w v β h3 h4
    ·exact (cross h3 hxS h4).elim
    ·exact (cross h4 hbS h3).elim
    ·exact h.inj b x w v β h3 h4
   ·intro b w β hb
    rcases hcase hb with ⟨_, h1⟩ | ⟨hbS, h1⟩
    ·rcases k2.newM b w β h1 with ⟨w0, β0, h3, h4⟩ | h3
     ·exact .inl ⟨w0, β0, (hWb h3).2, h4⟩
     ·exact .inr h3
    ·exact .inl ⟨w, β, h1, .inl rfl⟩
   ·intro β cs hF
    rcases k2.newF β cs hF with h1 | ⟨x, v, h1⟩ | h1
    ·rw [hWSF] at h1; exact .inl h1
    ·exact .inr (.inl ⟨x, v, (hWb h1).2⟩)
    ·exact .inr (.inr h1)
   ·intro β hβ hn
    refine k2.frG β hβ fun b w hb _ => ?_
    obtain ⟨h1, h2⟩ := hWb hb
    exact hn b w h2 h1
   ·intro b hb hn
    refine k2.frI b hb ?_
    rw [hWSM]
    split
    ·exact hn
    ·rfl
  ·simp at hr
theorem loc_sim {C : ICall} {Cg : Ctx} (hC : CallOK C Cg) (h : HR W J H) {f : FuncId} {args : List IV} {cargs : List Value} (ha : IRL W args cargs) {v : IV} {J' : JH} (he : doCall C .loc f args J = some (v, J')) :
  Goal W J H (TT (reach J args)) (Cg.call f cargs H) v J' := by
 simp only [doCall] at he
 split at he
 ·rename_i v1 J1 hc
  split at he
  ·rename_i hcond
   obtain ⟨hlow, hJ⟩ := hcond
   simp only [Option.some.injEq, Prod.mk.injEq] at he
   obtain ⟨rfl, rfl⟩ := he
   obtain ⟨W1, c, H1, k1, k2, k3⟩ := raw_sim hC h ha hc
   have hJb : ∀ b, b < J.size → J1[b]? = J[b]? := fun b hb => by
    have h1 : (J1.extract 0 J.size)[b]? = J1[b]? := by
     rw [Array.getElem?_extract, if_pos (by have := k2.js; omega)]
     simp
    rw [← h1, hJ]
   let W' : Wd := { M := fun b => if b < J.size then W1.M b else none, F := W1.F }
   have hM' : ∀ b, W'.M b = if b < J.size then W1.M b else none := fun b => rfl
   have hb' : ∀ {b q}, W'.M b = some q → b < J.size ∧ W1.M b = some q := fun {b q} hq => by
    rw [hM'] at hq
    split at hq
    ·rename_i hm; exact ⟨hm, hq⟩
    ·simp at hq
   have hold : ∀ {b w β}, b < J.size → W1.M b = some (w, β) → ∃ w0 β0, W.M b = some (w0, β0) := fun {b w β} hb h1 => by
    rcases k2.newM b w β h1 with ⟨w0, β0, h3, _⟩ | ⟨h3, _⟩
    ·exact ⟨w0, β0, h3⟩
    ·omega
   have hver : ∀ {b w β}, b < J.size → W1.M b = some (w, β) → ∃ β0, W.M b = some (w, β0) := fun {b w β} hb h1 => by
    obtain ⟨w0, β0, h3⟩ := hold hb h1
    have h4 := k2.hr.dom b w β h1
    rw [hJb b hb] at h4
    rcases h.dom b w0 β0 h3 with ⟨cs, ro, h5⟩ | ⟨h0, es, k, h5⟩ <;> rcases h4 with ⟨cs', ro', h6⟩ | ⟨h0', es', k', h6⟩ <;> rw [h5] at h6 <;> cases h6
    ·exact ⟨β0, h3⟩
    ·exact ⟨β0, by rw [h3, h0, h0']⟩
   refine ⟨W', c, H1, k1, ⟨⟨fun b w β hb => ?_, k2.le.F⟩, ⟨?_, ?_, ?_, fun b x w v β h1 h2 => k2.hr.inj b x w v β (hb' h1).2 (hb' h2).2, k2.hr.fro⟩, ?_, k2.newF, k2.hs, Nat.le_refl _, k2.frG, fun _ _ _ => rfl⟩, ?_⟩
   ·obtain ⟨w', β', h1, h2⟩ := k2.le.M b w β hb
    exact ⟨w', β', by rw [hM', if_pos (h.lt hb).1]; exact h1, h2⟩
   ·intro b w β hb
    obtain ⟨h1, h2⟩ := hb' hb
    rw [← hJb b h1]
    exact k2.hr.dom b w β h2
   ·intro b w β cs ro hb hJx
    obtain ⟨h1, h2⟩ := hb' hb
    obtain ⟨β0, h3⟩ := hver h1 h2
    obtain ⟨c0, r0, _, h4, _⟩ := h.cells b w β0 cs ro h3 hJx
    rw [← hJb b h1] at hJx
    obtain ⟨cs', r, h5, h6, h7⟩ := k2.hr.cells b w β cs ro h2 hJx
    refine ⟨cs', r, h5, h6.restr (W := W1) (W' := W') (fun _ _ e => e) _ _ fun x hx => ?_, h7⟩
    obtain ⟨⟨w2, β2⟩, h8⟩ := h4.refs _ _ x hx
    rw [hM', if_pos (h.lt h8).1]
   ·intro b w β es k hb hJx
    obtain ⟨h1, h2⟩ := hb' hb
    obtain ⟨β0, h3⟩ := hver h1 h2
    obtain ⟨es0, _, h4⟩ := h.maps b w β0 es k h3 hJx
    rw [← hJb b h1] at hJx
    obtain ⟨es', h5, h6⟩ := k2.hr.maps b w β es k h2 hJx
    refine ⟨es', h5, h6.restr (W := W1) (W' := W') (fun _ _ e => e) fun y hy x hx => ?_⟩
    obtain ⟨⟨w2, β2⟩, h8⟩ := h4.refs y hy x hx
    rw [hM', if_pos (h.lt h8).1]
   ·intro b w β hb
    obtain ⟨h1, h2⟩ := hb' hb
    rcases k2.newM b w β h2 with h3 | ⟨h3, _⟩
    ·exact .inl h3
    ·omega
   ·refine k3.restr (W := W1) (W' := W') (fun _ _ e => e) _ _ fun x hx => ?_
    have : x < J.size := by
     unfold ilow at hlow
     exact of_decide_eq_true (List.all_eq_true.1 hlow x hx)
    rw [hM', if_pos this]
  ·simp at he
 ·simp at he
theorem doCall_sim {C : ICall} {Cg : Ctx} (hC : CallOK C Cg) (h : HR W J H) {md : Md} {f : FuncId} {args : List IV} {cargs : List Value} (ha : IRL W args cargs) {v : IV} {J' : JH} (he : doCall C md f args J = some (v, J')) :
  Goal W J H (TT (ctouch md args J)) (Cg.call f cargs H) v J' := by
 cases md with
 | pure =>
  obtain ⟨W', c, H', k1, k2, k3⟩ := pure_sim hC h ha he
  exact ⟨W', c, H', k1, k2.weak fun b hb => hb.elim, k3⟩
 | raw => exact raw_sim hC h ha he
 | loc => exact loc_sim hC h ha he
end
end Go.Proofs.Ytmgfkifjgajclaa.G
namespace Go.Proofs.Ytmgfkifjgajclaa.G
open Go
section
variable {W : Wd} {J : JH} {H : Heap} {ρI : List IV} {ρG : List Value}
theorem wants_sim (hρ : IRL W ρI ρG) {g : Option (Operand × Bool)} {b : Bool} (h : wantsI ρI g = some b) : wantsG ρG g = some b := by
 cases g with
 | none => exact h
 | some g =>
  obtain ⟨x, w⟩ := g
  have hx := evI_IR hρ x
  simp only [wantsI] at h
  split at h
  ·rename_i v heq
   rw [heq] at hx
   simp only [wantsG, hx.sc.1]
   exact h
  ·simp at h
theorem CRL.toIRL : ∀ {a : List IV} {x : List Value}, CRL W a x → IRL W a x
 | [], x, h => by rw [CRL.nil_iff.1 h]; simp [IRL]
 | p :: a, x, h => by
  obtain ⟨v, vs, rfl, h2, h3, h4, h5⟩ := CRL.cons_iff.1 h
  exact IRL.cons_iff.2 ⟨v, vs, rfl, h4.toIR h2, CRL.toIRL h5⟩
theorem scals_ok : ∀ {vs : List IV} {cs x : List Value}, CRL W vs cs → scalsOf vs = some x → cs = x
 | [], cs, x, h, hs => by rw [CRL.nil_iff.1 h]; simpa [scalsOf] using hs
 | p :: vs, cs, x, h, hs => by
  obtain ⟨v, us, rfl, h2, h3, h4, h5⟩ := CRL.cons_iff.1 h
  cases p with
  | sc u =>
   simp only [scalsOf] at hs
   cases hr : scalsOf vs with
   | none => rw [hr] at hs; simp at hs
   | some r =>
    rw [hr] at hs
    simp only [Option.map_some, Option.some.injEq] at hs
    subst hs
    rw [scals_ok h5 hr]
    simp only [CR, List.cons.injEq, and_true] at h4
    rw [h4.1]
  | _ => simp [scalsOf] at hs
theorem exec_all {B : IBook} {P : Program} (hB : TabOK B P) (h : HR W J H) (hρ : IRL W ρI ρG) {C : ICall} {Cg : Ctx} (hP : Cg.P = P) (hC : CallOK C Cg) {md : Md} {o : SOp} {v : IV} {J' : JH} (he : iexec B C md ρI o J = some (v, J')) :
  Goal W J H (TT (itouch B md ρI o J)) (exec Cg (env0 ρG 0) o H) v J' := by
 by_cases hc : isCall o = false
 ·exact exec_sim hB h hρ hP hc he
 ·cases o <;> simp [isCall] at hc
  case call f args =>
   simp only [iexec] at he
   exact doCall_sim hC h (map_IRL hρ args) he
  case callv f args =>
   simp only [iexec] at he
   have hf := evI_IR hρ f
   split at he
   ·rename_i g first captured heq
    rw [heq] at hf
    simp only [IR, CR] at hf
    obtain ⟨a', c', hc, h2, h3⟩ := hf
    simp only [List.cons.injEq, and_true] at hc
    simp only [exec, hc, itouch, heq]
    exact doCall_sim hC h ((h2.toIRL.append (map_IRL hρ args)).append h3.toIRL) he
   ·simp [ilift] at he
theorem rd_congr {H H' : Heap} {β : Nat} (h : H'[β]? = H[β]?) (off n : Nat) : rd H β off n = rd H' β off n := by unfold rd; rw [h]
theorem same_range {H H' : Heap} {β off n : Nat} (h : rd H β off n = rd H' β off n) : same H H' (.range β off n) = true := by simp [same, h]
theorem same_sim {W' : Wd} {J' : JH} {H' : Heap} {t : Option (List Nat)} (h : HR W J H) (hs : SS W J H W' J' H' (TT t)) (hρ : IRL W ρI ρG) {o : SOp} {k : ILook} (hk : ilooks ρI o = some k) (hi : isame J J' t k = true) : same H H' (looks (env0 ρG 0) o) = true := by
 have hunt : ∀ {b w β}, W.M b = some (w, β) → untouched t b = true → H'[β]? = H[β]? := fun {b w β} hM hu => by
  refine hs.frG β (h.lt hM).2 fun b' w' hM' hT => ?_
  have := h.inj b' b _ _ _ hM' hM
  subst this
  cases t with
  | none => simp [untouched] at hu
  | some l =>
   simp only [untouched, Bool.not_eq_true', ← Bool.not_eq_true, List.contains_iff_mem] at hu
   exact hu hT
 have hmap : ∀ {m : IV} {c : Value}, IR W m c → (match m with | .map b => some (ILook.whole b) | .sc _ => some .nothing | _ => none) = some k → same H H' (match c with | .map (some b) => .whole b | _ => .nothing) = true := by
  intro m c hm hk
  cases m with
  | map b =>
   obtain ⟨w, β, γ, hM, rfl, hγ⟩ := hm.map
   simp only [Option.some.injEq] at hk
   subst hk
   simp only [isame, Bool.and_eq_true] at hi
   obtain ⟨h1, h2⟩ := hi
   split at h1
   ·rename_i es k0 hJ
    obtain rfl := hγ (h.M_map hM hJ)
    simp [same, hunt hM h2]
   ·simp at h1
  | sc v =>
   obtain ⟨rfl, hok⟩ := hm.sc
   cases c <;> try (simp [same]; done)
   rename_i a
   cases a <;> simp [scOK] at hok
   simp [same]
  | _ => simp at hk
 cases o with
 | load ag sz x =>
  simp only [ilooks] at hk
  simp only [looks]
  have hx := evI_IR hρ x
  split at hk
  ·rename_i b v off heq
   rw [heq] at hx
   obtain ⟨w, β, γ, hM, hle, hc, hγ⟩ := hx.ptr
   simp only [Option.some.injEq] at hk
   subst hk
   simp only [hc]
   simp only [isame, Bool.and_eq_true, Bool.or_eq_true] at hi
   obtain ⟨h1, h2⟩ := hi
   cases hr : ird J b v off (if ag = true then sz else 1) with
   | none => rw [hr] at h1; simp at h1
   | some vs =>
    obtain ⟨rfl, cs, hcs, hcr⟩ := h.read hM hr
    obtain rfl := hγ rfl
    apply same_range
    rcases h2 with h2 | h2
    ·exact rd_congr (hunt hM h2) _ _
    ·rw [hr] at h2
     split at h2
     ·rename_i a1 b1 hx1 hy1
      simp only [Option.bind_some] at hx1
      cases hr' : ird J' b v off (if ag = true then sz else 1) with
      | none => rw [hr'] at hy1; simp at hy1
      | some vs' =>
       rw [hr'] at hy1
       simp only [Option.bind_some] at hy1
       obtain ⟨w', β', hM', hv⟩ := hs.le.M b v γ hM
       obtain ⟨rfl, cs', hcs', hcr'⟩ := hs.hr.read hM' hr'
       rcases hv with ⟨_, rfl⟩ | hv
       ·rw [hcs, hcs', scals_ok hcr hx1, scals_ok hcr' hy1, eq_of_veqL _ _ h2]
       ·omega
     ·simp at h2
  ·rename_i e off heq
   rw [heq] at hx
   obtain ⟨β, o, cs, hF, hc, hle, hcr, _⟩ := hx.rptr
   simp only [hc]
   obtain ⟨r, hr⟩ := h.fro β cs hF
   obtain ⟨r', hr'⟩ := hs.hr.fro β cs (hs.le.F β cs hF)
   apply same_range
   unfold rd
   rw [hr, hr']
  ·rename_i v heq
   rw [heq] at hx
   obtain ⟨hc, hok⟩ := hx.sc
   rw [hc]
   cases v <;> try (simp [same]; done)
   rename_i a
   cases a <;> simp [scOK] at hok
   simp [same]
  ·simp at hk
 | lookup t ks ok m kk =>
  simp only [ilooks] at hk
  simp only [looks]
  exact hmap (evI_IR hρ m) hk
 | b2s x =>
  simp only [ilooks] at hk
  simp only [looks]
  have hx := evI_IR hρ x
  split at hk
  ·rename_i b v off n cp z heq
   rw [heq] at hx
   obtain ⟨w, β, γ, hM, hle, hc, _, _, hγ⟩ := hx.sl
   simp only [Option.some.injEq] at hk
   subst hk
   simp only [hc]
   simp only [isame, Bool.and_eq_true, Bool.or_eq_true] at hi
   obtain ⟨h1, h2⟩ := hi
   cases hr : ird J b v off n with
   | none => rw [hr] at h1; simp at h1
   | some vs =>
    obtain ⟨rfl, cs, hcs, hcr⟩ := h.read hM hr
    obtain rfl := hγ rfl
    apply same_range
    rcases h2 with h2 | h2
    ·exact rd_congr (hunt hM h2) _ _
    ·rw [hr] at h2
     split at h2
     ·rename_i a1 b1 hx1 hy1
      simp only [Option.bind_some] at hx1
      cases hr' : ird J' b v off n with
      | none => rw [hr'] at hy1; simp at hy1
      | some vs' =>
       rw [hr'] at hy1
       simp only [Option.bind_some] at hy1
       obtain ⟨w', β', hM', hv⟩ := hs.le.M b v γ hM
       obtain ⟨rfl, cs', hcs', hcr'⟩ := hs.hr.read hM' hr'
       rcases hv with ⟨_, rfl⟩ | hv
       ·rw [hcs, hcs', scals_ok hcr hx1, scals_ok hcr' hy1, eq_of_veqL _ _ h2]
       ·omega
     ·simp at h2
  ·rename_i z f xs heq
   rw [heq] at hx
   obtain ⟨β, o, cap, cs, hF, hc, _⟩ := hx.lst
   simp only [hc]
   obtain ⟨r, hr⟩ := h.fro β cs hF
   obtain ⟨r', hr'⟩ := hs.hr.fro β cs (hs.le.F β cs hF)
   apply same_range
   unfold rd
   rw [hr, hr']
  ·rename_i v heq
   rw [heq] at hx
   obtain ⟨hc, hok⟩ := hx.sc
   rw [hc]
   cases v <;> try (simp [same]; done)
   rename_i a _ _
   cases a <;> simp [scOK] at hok
   simp [same]
  ·simp at hk
 | lenM x =>
  simp only [ilooks] at hk
  simp only [looks]
  exact hmap (evI_IR hρ x) hk
 | _ => simp [looks, same]
theorem step_sim {B : IBook} {P : Program} (hB : TabOK B P) (h : HR W J H) (hρ : IRL W ρI ρG) {C : ICall} {Cg : Ctx} (hP : Cg.P = P) (hC : CallOK C Cg) {i : LI} {v : IV} {J' : JH} (he : stepI' B C ρI i J = some (v, J')) :
  Goal W J H (fun _ => True) (stepG Cg ρG i H) v J' := by
 unfold stepI' at he
 unfold stepG
 split at he
 ·rename_i hw
  simp only [wants_sim hρ hw]
  split at he
  ·rename_i v1 J1 hex
   split at he
   ·rename_i hchk
    simp only [Option.some.injEq, Prod.mk.injEq] at he
    obtain ⟨rfl, rfl⟩ := he
    obtain ⟨W', c, H', h1, h2, h3⟩ := exec_all hB h hρ hP hC hex
    rw [h1]
    simp only
    rw [if_pos]
    ·exact ⟨W', c, H', rfl, h2.all, h3⟩
    ·rw [List.all_eq_true] at hchk ⊢
     intro q hq
     have hc := hchk q hq
     obtain ⟨g, o⟩ := q
     unfold ichk at hc
     simp only at hc
     split at hc
     ·rename_i hg
      split at hc
      ·rename_i k hk
       simp only [looksG, wants_sim hρ hg, if_true]
       exact same_sim h h2 hρ hk hc
      ·simp at hc
     ·rename_i hg
      simp [looksG, wants_sim hρ hg, same]
     ·simp at hc
   ·simp at he
  ·simp at he
 ·rename_i hw
  simp only [wants_sim hρ hw]
  simp only [Option.some.injEq, Prod.mk.injEq] at he
  obtain ⟨rfl, rfl⟩ := he
  exact .same h _ (.mk_sc rfl)
 ·simp at he
def OutR (W : Wd) : Out IV → Out Value → Prop
 | .goto l vs, .goto m cs => l = m ∧ IRL W vs cs
 | .ret vs, .ret cs => IRL W vs cs
 | _, _ => False
def DenR (W : Wd) (J : JH) (H : Heap) (r : Option (Out IV × JH)) (s : Option (Out Value × Heap)) : Prop :=
 ∀ o J', r = some (o, J') → ∃ W' q H', s = some (q, H') ∧ SS W J H W' J' H' (fun _ => True) ∧ OutR W' o q
theorem den_op {V Hp : Type} (S : Sem V Hp) (n : Nat) (i : LI) (k : L) (ρ : List V) (h : Hp) : den S n (.op i k) ρ h = (match S.step ρ i h with
  | some (v, h') => den S n k (ρ ++ [v]) h'
  | none => none) := by
 rw [den]
 cases S.step ρ i h <;> rfl
theorem den_ite {V Hp : Type} (S : Sem V Hp) (n : Nat) (c : Operand) (a b : L) (ρ : List V) (h : Hp) : den S n (.ite c a b) ρ h = (match S.tst (S.ev ρ c) with
  | some t => if t then den S n a ρ h else den S n b ρ h
  | none => none) := by
 rw [den]
 cases S.tst (S.ev ρ c) <;> rfl
theorem den_join' {V Hp : Type} (S : Sem V Hp) (n l : Nat) (a b : L) (ρ : List V) (h : Hp) : den S n (.join l a b) ρ h = (match den S n a ρ h with
  | some (.goto j vs, h') => if j = l then den S n b vs h' else some (.goto j vs, h')
  | r => r) := by
 rw [den]
 cases den S n a ρ h with
 | none => rfl
 | some q =>
  obtain ⟨o, h'⟩ := q
  cases o <;> rfl
theorem den_sim {B : IBook} {P : Program} (hB : TabOK B P) {C : ICall} {Cg : Ctx} (hP : Cg.P = P) (hC : CallOK C Cg) (n : Nat) : ∀ (l : L) {W : Wd} {J : JH} {H : Heap} {ρI : List IV} {ρG : List Value}, HR W J H → IRL W ρI ρG →
  DenR W J H (den (semI B C) n l ρI J) (den (semG Cg) n l ρG H) := by
 intro l
 induction l with
 | op i k ih =>
  intro W J H ρI ρG h hρ o J' he
  rw [den_op] at he ⊢
  simp only [semI] at he
  simp only [semG]
  split at he
  ·rename_i v J1 hs
   obtain ⟨W1, c, H1, h1, h2, h3⟩ := step_sim hB h hρ hP hC hs
   rw [h1]
   obtain ⟨W2, q, H2, h4, h5, h6⟩ := ih h2.hr ((IRL.mono h2.le _ _ hρ).append (IRL.cons_iff.2 ⟨c, [], rfl, h3, IRL.nil_iff.2 rfl⟩)) o J' he
   exact ⟨W2, q, H2, h4, h2.trans h5, h6⟩
  ·simp at he
 | ite c a b iha ihb =>
  intro W J H ρI ρG h hρ o J' he
  rw [den_ite] at he ⊢
  have hx := evI_IR hρ c
  simp only [semI] at he
  simp only [semG]
  cases hv : evI ρI c with
  | sc v =>
   rw [hv] at he hx
   rw [hx.sc.1]
   cases v <;> simp only at he <;> try (simp at he; done)
   rename_i t
   cases t with
   | true => simp only [if_true] at he ⊢; exact iha h hρ o J' he
   | false => simp only [Bool.false_eq_true, if_false] at he ⊢; exact ihb h hρ o J' he
  | _ => rw [hv] at he; simp at he
 | join lv a b iha ihb =>
  intro W J H ρI ρG h hρ o J' he
  rw [den_join'] at he ⊢
  cases ha : den (semI B C) n a ρI J with
  | none => rw [ha] at he; simp at he
  | some q =>
   obtain ⟨o1, J1⟩ := q
   obtain ⟨W1, q1, H1, h1, h2, h3⟩ := iha h hρ o1 J1 ha
   rw [ha] at he
   rw [h1]
   cases o1 with
   | goto j vs =>
    cases q1 with
    | goto m cs =>
     obtain ⟨rfl, h3⟩ := h3
     simp only at he ⊢
     by_cases hj : j = lv
     ·rw [if_pos hj] at he ⊢
      obtain ⟨W2, q, H2, h4, h5, h6⟩ := ihb h2.hr h3 o J' he
      exact ⟨W2, q, H2, h4, h2.trans h5, h6⟩
     ·rw [if_neg hj] at he ⊢
      simp only [Option.some.injEq, Prod.mk.injEq] at he
      obtain ⟨rfl, rfl⟩ := he
      exact ⟨W1, _, H1, rfl, h2, rfl, h3⟩
    | ret cs => exact h3.elim
   | ret vs =>
    cases q1 with
    | goto m cs => exact h3.elim
    | ret cs =>
     simp only [Option.some.injEq, Prod.mk.injEq] at he
     obtain ⟨rfl, rfl⟩ := he
     exact ⟨W1, _, H1, rfl, h2, h3⟩
 | loop lv init b ih =>
  intro W J H ρI ρG h hρ o J' he
  simp only [den] at he ⊢
  have key : ∀ k {W1 : Wd} {J1 : JH} {H1 : Heap} {vs : List IV} {cs : List Value}, SS W J H W1 J1 H1 (fun _ => True) → IRL W1 vs cs → iterN (fun vs h => den (semI B C) n b vs h) lv k vs J1 = some (o, J') →
    ∃ W' q H', iterN (fun vs h => den (semG Cg) n b vs h) lv k cs H1 = some (q, H') ∧ SS W J H W' J' H' (fun _ => True) ∧ OutR W' o q := by
   intro k
   induction k with
   | zero => intro W1 J1 H1 vs cs _ _ hi; simp [iterN] at hi
   | succ k ihk =>
    intro W1 J1 H1 vs cs hs hv hi
    simp only [iterN] at hi ⊢
    cases hd : den (semI B C) n b vs J1 with
    | none => rw [hd] at hi; simp at hi
    | some q =>
     obtain ⟨o1, J2⟩ := q
     obtain ⟨W2, q1, H2, h1, h2, h3⟩ := ih hs.hr hv o1 J2 hd
     rw [hd] at hi
     rw [h1]
     cases o1 with
     | goto j ws =>
      cases q1 with
      | goto m ds =>
       obtain ⟨rfl, h3⟩ := h3
       simp only at hi ⊢
       by_cases hj : j = lv
       ·rw [if_pos hj] at hi ⊢
        exact ihk (hs.trans h2) h3 hi
       ·rw [if_neg hj] at hi ⊢
        simp only [Option.some.injEq, Prod.mk.injEq] at hi
        obtain ⟨rfl, rfl⟩ := hi
        exact ⟨W2, _, H2, rfl, hs.trans h2, rfl, h3⟩
      | ret ds => exact h3.elim
     | ret ws =>
      cases q1 with
      | goto m ds => exact h3.elim
      | ret ds =>
       simp only [Option.some.injEq, Prod.mk.injEq] at hi
       obtain ⟨rfl, rfl⟩ := hi
       exact ⟨W2, _, H2, rfl, hs.trans h2, h3⟩
  exact key n (SS.refl h _) (map_IRL hρ init) he
 | goto lv vs =>
  intro W J H ρI ρG h hρ o J' he
  simp only [den, Option.some.injEq, Prod.mk.injEq] at he
  obtain ⟨rfl, rfl⟩ := he
  exact ⟨W, .goto lv (vs.map (ev (env0 ρG 0))), H, by simp only [den]; rfl, .refl h _, ⟨rfl, map_IRL hρ vs⟩⟩
 | ret vs =>
  intro W J H ρI ρG h hρ o J' he
  simp only [den, Option.some.injEq, Prod.mk.injEq] at he
  obtain ⟨rfl, rfl⟩ := he
  exact ⟨W, .ret (vs.map (ev (env0 ρG 0))), H, by simp only [den]; rfl, .refl h _, map_IRL (W := W) hρ vs⟩
theorem itup_ok {vs : List IV} {cs : List Value} (h : IRL W vs cs) : IR W (itup vs) (tup cs) := by
 match vs, h with
 | [], h => rw [IRL.nil_iff.1 h]; exact .mk_unit
 | [v], h =>
  obtain ⟨c, ds, rfl, h2, h3⟩ := IRL.cons_iff.1 h
  rw [IRL.nil_iff.1 h3]
  exact h2
 | a :: b :: r, h =>
  obtain ⟨c, ds, rfl, h2, h3⟩ := IRL.cons_iff.1 h
  obtain ⟨d, es, rfl, h4, h5⟩ := IRL.cons_iff.1 h3
  simp only [itup, tup, IR]
  exact .inr ⟨_, rfl, IRL.cons_iff.2 ⟨_, _, rfl, h2, IRL.cons_iff.2 ⟨_, _, rfl, h4, h5⟩⟩⟩
structure IBookOK (B : IBook) (Bg : Book) : Prop where
 tab : TabOK B Bg.P
 fns : ∀ f l, B.fn f = some l → Bg.given f = none ∧ Bg.mode f = .raw ∧ ∃ s md np, Bg.fn f = some s ∧ liftFn Bg.P md np s = some l
 given : ∀ f g, B.given f = some g → ∀ n args J v J', g args J = some (v, J') → ∀ W H cargs, HR W J H → IRL W args cargs →
  ∃ W' c H', acall Bg (n + 1) f cargs H = some (c, H') ∧ SS W J H W' J' H' (fun _ => True) ∧ IR W' v c
theorem icall_ok {B : IBook} {Bg : Book} (hB : IBookOK B Bg) : ∀ n, CallOK (icall B n) ⟨Bg.P, acall Bg n⟩ := by
 intro n
 induction n with
 | zero => intro f args J v J' he; simp [icall] at he
 | succ n ih =>
  intro f args J v J' he W H cargs h ha
  simp only [icall] at he
  split at he
  ·rename_i g hg
   exact hB.given f g hg n args J v J' he W H cargs h ha
  ·split at he
   ·simp at he
   ·rename_i l hl
    obtain ⟨hg, hm, s, md, np, hs, hlift⟩ := hB.fns f l hl
    split at he
    ·rename_i hlen
     split at he
     ·rename_i vs J1 hd
      simp only [Option.some.injEq, Prod.mk.injEq] at he
      obtain ⟨rfl, rfl⟩ := he
      obtain ⟨W', q, H', h1, h2, h3⟩ := den_sim hB.tab (Cg := ⟨Bg.P, acall Bg n⟩) rfl ih n l.body h ha _ _ hd
      cases q with
      | goto m cs => exact h3.elim
      | ret cs =>
       refine ⟨W', tup cs, H', ?_, h2, itup_ok h3⟩
       have := liftFn_ok (C := ⟨Bg.P, acall Bg n⟩) (n := n) hlift (by rw [ha.len, hlen]) h1
       simp only [acall, hg, hs, hm]
       exact this
     ·simp at he
    ·simp at he
end
#print axioms icall_ok
end Go.Proofs.Ytmgfkifjgajclaa.G
namespace Go.Proofs.Ytmgfkifjgajclaa.G
open Go
def CLe (C C' : ICall) : Prop := ∀ f args J r, C f args J = some r → C' f args J = some r
theorem doCall_mono {C C' : ICall} (h : CLe C C') {md : Md} {f : FuncId} {args : List IV} {J : JH} {r} (he : doCall C md f args J = some r) : doCall C' md f args J = some r := by
 cases md with
 | raw => exact h _ _ _ _ he
 | loc =>
  simp only [doCall] at he ⊢
  split at he
  ·rename_i v J' hc; rw [h _ _ _ _ hc]; exact he
  ·simp at he
 | pure =>
  simp only [doCall] at he ⊢
  split at he
  ·rename_i as has
   try rw [has]
   split at he
   ·rename_i v J1 hc; simp only [h _ _ _ _ hc]; exact he
   ·simp at he
  ·simp at he
theorem iexec_mono {B : IBook} {C C' : ICall} (h : CLe C C') {md : Md} {ρ : List IV} {o : SOp} {J : JH} {r} (he : iexec B C md ρ o J = some r) : iexec B C' md ρ o J = some r := by
 cases o with
 | call f args => simp only [iexec] at he ⊢; exact doCall_mono h he
 | callv f args =>
  simp only [iexec] at he ⊢
  split at he
  ·exact doCall_mono h he
  ·simp [ilift] at he
 | _ => exact he
theorem step_mono {B : IBook} {C C' : ICall} (h : CLe C C') {ρ : List IV} {i : LI} {J : JH} {r} (he : stepI' B C ρ i J = some r) : stepI' B C' ρ i J = some r := by
 unfold stepI' at he ⊢
 split at he
 ·rename_i hw
  try rw [hw]
  split at he
  ·rename_i v J' hx
   simp only [iexec_mono h hx]
   exact he
  ·simp at he
 ·rename_i hw; (try rw [hw]); exact he
 ·simp at he
theorem iterN_mono {V H : Type} {f g : List V → H → Option (Out V × H)} (hfg : ∀ vs h r, f vs h = some r → g vs h = some r) {l : Nat} : ∀ {n m : Nat}, n ≤ m → ∀ {vs : List V} {h : H} {r}, iterN f l n vs h = some r → iterN g l m vs h = some r
 | 0, m, _, vs, h, r, he => by simp [iterN] at he
 | n + 1, m, hm, vs, h, r, he => by
  obtain ⟨m', rfl⟩ : ∃ m', m = m' + 1 := ⟨m - 1, by omega⟩
  simp only [iterN] at he ⊢
  cases hf : f vs h with
  | none => rw [hf] at he; simp at he
  | some q =>
   obtain ⟨o, h'⟩ := q
   rw [hf] at he
   rw [hfg _ _ _ hf]
   cases o with
   | goto j ws =>
    simp only at he ⊢
    by_cases hj : j = l
    ·rw [if_pos hj] at he ⊢; exact iterN_mono hfg (by omega) he
    ·rw [if_neg hj] at he ⊢; exact he
   | ret ws => exact he
theorem den_mono {B : IBook} {C C' : ICall} (h : CLe C C') {n m : Nat} (hm : n ≤ m) : ∀ (l : L) {ρ : List IV} {J : JH} {r}, den (semI B C) n l ρ J = some r → den (semI B C') m l ρ J = some r := by
 intro l
 induction l with
 | op i k ih =>
  intro ρ J r he
  rw [den_op] at he ⊢
  simp only [semI] at he ⊢
  split at he
  ·rename_i v J1 hs
   rw [step_mono h hs]
   exact ih he
  ·simp at he
 | ite c a b iha ihb =>
  intro ρ J r he
  rw [den_ite] at he ⊢
  simp only [semI] at he ⊢
  split at he
  ·rename_i t ht
   try rw [ht]
   cases t with
   | true => simp only [if_true] at he ⊢; exact iha he
   | false => simp only [Bool.false_eq_true, if_false] at he ⊢; exact ihb he
  ·simp at he
 | join lv a b iha ihb =>
  intro ρ J r he
  rw [den_join'] at he ⊢
  cases ha : den (semI B C) n a ρ J with
  | none => rw [ha] at he; simp at he
  | some q =>
   obtain ⟨o, J1⟩ := q
   rw [ha] at he
   rw [iha ha]
   cases o with
   | goto j vs =>
    simp only at he ⊢
    by_cases hj : j = lv
    ·rw [if_pos hj] at he ⊢; exact ihb he
    ·rw [if_neg hj] at he ⊢; exact he
   | ret vs => exact he
 | loop lv init b ih =>
  intro ρ J r he
  simp only [den] at he ⊢
  exact iterN_mono (fun vs h r hr => ih hr) hm he
 | goto lv vs => intro ρ J r he; exact he
 | ret vs => intro ρ J r he; exact he
theorem icall_mono1 {B : IBook} : ∀ n, CLe (icall B n) (icall B (n + 1)) := by
 intro n
 induction n with
 | zero => intro f args J r he; simp [icall] at he
 | succ n ih =>
  intro f args J r he
  rw [icall] at he ⊢
  simp only at he ⊢
  split at he
  ·rename_i g hg; (try rw [hg]); exact he
  ·rename_i hg
   try rw [hg]
   split at he
   ·simp at he
   ·rename_i l hl
    try rw [hl]
    try simp only
    split at he
    ·rename_i hlen
     try rw [if_pos hlen]
     split at he
     ·rename_i vs J' hd
      rw [den_mono ih (Nat.le_succ n) l.body hd]
      exact he
     ·simp at he
    ·simp at he
theorem icall_mono {B : IBook} {n m : Nat} (h : n ≤ m) : CLe (icall B n) (icall B m) := by
 induction m with
 | zero => obtain rfl : n = 0 := by omega
           exact fun _ _ _ _ h => h
 | succ m ih =>
  by_cases hn : n = m + 1
  ·subst hn; exact fun _ _ _ _ h => h
  ·intro f args J r he
   exact icall_mono1 m f args J r (ih (by omega) f args J r he)
open Classical in
noncomputable def lim {α : Type} (f : Nat → Option α) : Option α := if h : ∃ r, ∃ n, f n = some r then some (Classical.choose h) else none
theorem lim_eq {α : Type} {f : Nat → Option α} (hm : ∀ n m r, n ≤ m → f n = some r → f m = some r) {n : Nat} {r : α} (h : f n = some r) : lim f = some r := by
 have hex : ∃ r, ∃ n, f n = some r := ⟨r, n, h⟩
 unfold lim
 rw [dif_pos hex]
 obtain ⟨m, hm'⟩ := Classical.choose_spec hex
 have h1 := hm n (max n m) r (Nat.le_max_left _ _) h
 have h2 := hm m (max n m) _ (Nat.le_max_right _ _) hm'
 rw [h1] at h2
 simp only [Option.some.injEq] at h2
 rw [← h2]
theorem lim_some {α : Type} {f : Nat → Option α} {r : α} (h : lim f = some r) : ∃ n, f n = some r := by
 unfold lim at h
 split at h
 ·rename_i hex
  simp only [Option.some.injEq] at h
  obtain ⟨n, hn⟩ := Classical.choose_spec hex
  exact ⟨n, by rw [hn, h]⟩
 ·simp at h
noncomputable def ic (B : IBook) : ICall := fun f args J => lim fun n => icall B n f args J
noncomputable def iter (f : List IV → JH → Option (Out IV × JH)) (l : Nat) (vs : List IV) (J : JH) : Option (Out IV × JH) := lim fun n => iterN f l n vs J
noncomputable def dn (B : IBook) : L → List IV → JH → Option (Out IV × JH)
 | .op i k, ρ, J => match stepI' B (ic B) ρ i J with
  | some (v, J') => dn B k (ρ ++ [v]) J'
  | none => none
 | .ite c a b, ρ, J => match evI ρ c with
  | .sc (.bool t) => if t = true then dn B a ρ J else dn B b ρ J
  | _ => none
 | .join l a b, ρ, J => match dn B a ρ J with
  | some (.goto j vs, J') => if j = l then dn B b vs J' else some (.goto j vs, J')
  | r => r
 | .loop l init b, ρ, J => iter (fun vs J => dn B b vs J) l (init.map (evI ρ)) J
 | .goto l vs, ρ, J => some (.goto l (vs.map (evI ρ)), J)
 | .ret vs, ρ, J => some (.ret (vs.map (evI ρ)), J)
theorem iter_step {f : List IV → JH → Option (Out IV × JH)} {l : Nat} {vs ws : List IV} {J J' : JH} {r} (h : f vs J = some (.goto l ws, J')) (k : iter f l ws J' = some r) : iter f l vs J = some r := by
 obtain ⟨n, hn⟩ := lim_some k
 refine lim_eq (fun n m r hnm hr => iterN_mono (fun _ _ _ h => h) hnm hr) (n := n + 1) ?_
 simp only [iterN, h, if_true]
 exact hn
theorem iter_out {f : List IV → JH → Option (Out IV × JH)} {l j : Nat} {vs ws : List IV} {J J' : JH} (h : f vs J = some (.goto j ws, J')) (hj : j ≠ l) : iter f l vs J = some (.goto j ws, J') := by
 refine lim_eq (fun n m r hnm hr => iterN_mono (fun _ _ _ h => h) hnm hr) (n := 1) ?_
 simp only [iterN, h, if_neg hj]
theorem iter_ret {f : List IV → JH → Option (Out IV × JH)} {l : Nat} {vs ws : List IV} {J J' : JH} (h : f vs J = some (.ret ws, J')) : iter f l vs J = some (.ret ws, J') := by
 refine lim_eq (fun n m r hnm hr => iterN_mono (fun _ _ _ h => h) hnm hr) (n := 1) ?_
 simp only [iterN, h]
theorem ic_lim {B : IBook} {f : FuncId} {args : List IV} {J : JH} {r} (h : ic B f args J = some r) : ∃ n, icall B n f args J = some r := lim_some h
theorem lim_ic {B : IBook} {f : FuncId} {args : List IV} {J : JH} {r} {n : Nat} (h : icall B n f args J = some r) : ic B f args J = some r :=
 lim_eq (fun n m r hnm hr => icall_mono hnm _ _ _ _ hr) h
theorem doCall_lim {B : IBook} {md : Md} {f : FuncId} {args : List IV} {J : JH} {r} (he : doCall (ic B) md f args J = some r) : ∃ n, doCall (icall B n) md f args J = some r := by
 cases md with
 | raw => exact ic_lim he
 | loc =>
  simp only [doCall] at he ⊢
  split at he
  ·rename_i v J' hc
   obtain ⟨n, hn⟩ := ic_lim hc
   exact ⟨n, by rw [hn]; exact he⟩
  ·simp at he
 | pure =>
  simp only [doCall] at he ⊢
  split at he
  ·rename_i as has
   split at he
   ·rename_i v J1 hc
    obtain ⟨n, hn⟩ := ic_lim hc
    exact ⟨n, by (try rw [has]); simp only [hn]; exact he⟩
   ·simp at he
  ·simp at he
theorem iexec_lim {B : IBook} {md : Md} {ρ : List IV} {o : SOp} {J : JH} {r} (he : iexec B (ic B) md ρ o J = some r) : ∃ n, iexec B (icall B n) md ρ o J = some r := by
 cases o with
 | call f args => simp only [iexec] at he ⊢; exact doCall_lim he
 | callv f args =>
  simp only [iexec] at he ⊢
  split at he
  ·obtain ⟨n, hn⟩ := doCall_lim he
   exact ⟨n, hn⟩
  ·simp [ilift] at he
 | _ => exact ⟨0, he⟩
theorem step_lim {B : IBook} {ρ : List IV} {i : LI} {J : JH} {r} (he : stepI' B (ic B) ρ i J = some r) : ∃ n, stepI' B (icall B n) ρ i J = some r := by
 unfold stepI' at he ⊢
 split at he
 ·rename_i hw
  try rw [hw]
  split at he
  ·rename_i v J' hx
   obtain ⟨n, hn⟩ := iexec_lim hx
   exact ⟨n, by simp only [hn]; exact he⟩
  ·simp at he
 ·rename_i hw; (try rw [hw]); exact ⟨0, he⟩
 ·simp at he
theorem dn_lim {B : IBook} : ∀ (l : L) {ρ : List IV} {J : JH} {r}, dn B l ρ J = some r → ∃ n, den (semI B (icall B n)) n l ρ J = some r := by
 intro l
 induction l with
 | op i k ih =>
  intro ρ J r he
  simp only [dn] at he
  split at he
  ·rename_i v J1 hs
   obtain ⟨n, hn⟩ := step_lim hs
   obtain ⟨m, hm⟩ := ih he
   refine ⟨max n m, ?_⟩
   rw [den_op]
   simp only [semI]
   rw [step_mono (icall_mono (Nat.le_max_left n m)) hn]
   exact den_mono (icall_mono (Nat.le_max_right n m)) (Nat.le_max_right n m) k hm
  ·simp at he
 | ite c a b iha ihb =>
  intro ρ J r he
  simp only [dn] at he
  split at he
  ·rename_i t ht
   cases t with
   | true =>
    simp only [if_true] at he
    obtain ⟨n, hn⟩ := iha he
    exact ⟨n, by rw [den_ite]; simp only [semI, ht, if_true]; exact hn⟩
   | false =>
    simp only [Bool.false_eq_true, if_false] at he
    obtain ⟨n, hn⟩ := ihb he
    exact ⟨n, by rw [den_ite]; simp only [semI, ht, Bool.false_eq_true, if_false]; exact hn⟩
  ·simp at he
 | join lv a b iha ihb =>
  intro ρ J r he
  simp only [dn] at he
  cases ha : dn B a ρ J with
  | none => rw [ha] at he; simp at he
  | some q =>
   obtain ⟨o, J1⟩ := q
   obtain ⟨n, hn⟩ := iha ha
   rw [ha] at he
   cases o with
   | goto j vs =>
    simp only at he
    by_cases hj : j = lv
    ·rw [if_pos hj] at he
     obtain ⟨m, hm⟩ := ihb he
     refine ⟨max n m, ?_⟩
     rw [den_join', den_mono (icall_mono (Nat.le_max_left n m)) (Nat.le_max_left n m) a hn]
     simp only [if_pos hj]
     exact den_mono (icall_mono (Nat.le_max_right n m)) (Nat.le_max_right n m) b hm
    ·rw [if_neg hj] at he
     refine ⟨n, ?_⟩
     rw [den_join', hn]
     simp only [if_neg hj]
     exact he
   | ret vs =>
    refine ⟨n, ?_⟩
    rw [den_join', hn]
    exact he
 | loop lv init b ih =>
  intro ρ J r he
  simp only [dn] at he
  obtain ⟨k, hk⟩ := lim_some he
  have key : ∀ k vs J r, iterN (fun vs J => dn B b vs J) lv k vs J = some r → ∃ n, iterN (fun vs J => den (semI B (icall B n)) n b vs J) lv k vs J = some r := by
   intro k
   induction k with
   | zero => intro vs J r h; simp [iterN] at h
   | succ k ihk =>
    intro vs J r h
    simp only [iterN] at h
    cases hd : dn B b vs J with
    | none => rw [hd] at h; simp at h
    | some q =>
     obtain ⟨o, J1⟩ := q
     obtain ⟨n, hn⟩ := ih hd
     rw [hd] at h
     cases o with
     | goto j ws =>
      simp only at h
      by_cases hj : j = lv
      ·rw [if_pos hj] at h
       obtain ⟨m, hm⟩ := ihk ws J1 r h
       refine ⟨max n m, ?_⟩
       simp only [iterN, den_mono (icall_mono (Nat.le_max_left n m)) (Nat.le_max_left n m) b hn, if_pos hj]
       exact iterN_mono (fun vs h r hr => den_mono (icall_mono (Nat.le_max_right n m)) (Nat.le_max_right n m) b hr) (Nat.le_refl _) hm
      ·rw [if_neg hj] at h
       exact ⟨n, by simp only [iterN, hn, if_neg hj]; exact h⟩
     | ret ws => exact ⟨n, by simp only [iterN, hn]; exact h⟩
  obtain ⟨n, hn⟩ := key k _ _ _ hk
  refine ⟨max n k, ?_⟩
  simp only [den]
  exact iterN_mono (fun vs h r hr => den_mono (icall_mono (Nat.le_max_left n k)) (Nat.le_max_left n k) b hr) (Nat.le_max_right n k) hn
 | goto lv vs => intro ρ J r he; exact ⟨0, he⟩
 | ret vs => intro ρ J r he; exact ⟨0, he⟩
theorem ic_intro {B : IBook} {f : FuncId} {l : LFn} {args vs : List IV} {J J' : JH} (hg : B.given f = none) (hf : B.fn f = some l) (hl : args.length = l.np) (hd : dn B l.body args J = some (.ret vs, J')) : ic B f args J = some (itup vs, J') := by
 obtain ⟨n, hn⟩ := dn_lim l.body hd
 refine lim_ic (n := n + 1) ?_
 simp only [icall, hg, hf, hl, if_true, hn]
noncomputable def pc (B : IBook) (f : FuncId) (args : List IV) : Option IV := match ic B f args #[] with
 | some (v, J) => frz J DEP v
 | none => none
theorem frz_pure (J : JH) (k : Nat) {v : IV} (h : ipure v = true) : frz J k v = some v := by
 cases k <;> simp [frz, h]
theorem shows_pure (J : JH) (k : Nat) {v : IV} (h : ipure v = true) : shows J k v = [] := by
 cases k <;> simp [shows, h]
theorem frzL_pure (J : JH) (k : Nat) : ∀ {l : List IV}, ipureL l = true → l.mapM (frz J k) = some l
 | [], _ => rfl
 | v :: l, h => by
  simp only [ipureL, Bool.and_eq_true] at h
  rw [List.mapM_cons, frz_pure J k h.1, frzL_pure J k h.2]
  rfl
theorem showsL_pure (J : JH) (k : Nat) : ∀ {l : List IV}, ipureL l = true → l.flatMap (shows J k) = []
 | [], _ => rfl
 | v :: l, h => by
  simp only [ipureL, Bool.and_eq_true] at h
  rw [List.flatMap_cons, shows_pure J k h.1, showsL_pure J k h.2]
  rfl
theorem doCall_pure {B : IBook} {f : FuncId} {args : List IV} {u : IV} {J : JH} (h : ipureL args = true) (hp : pc B f args = some u) : doCall (ic B) .pure f args J = some (u, J) := by
 unfold pc at hp
 simp only [doCall, frzL_pure J DEP h]
 split at hp
 ·rename_i v J1 hc
  simp only [hc, hp, showsL_pure J DEP h]
  simp [markA]
 ·simp at hp
theorem pc_intro {B : IBook} {f : FuncId} {l : LFn} {args vs : List IV} {u : IV} {J' : JH} (hg : B.given f = none) (hf : B.fn f = some l) (hl : args.length = l.np) (hd : dn B l.body args #[] = some (.ret vs, J')) (hz : frz J' DEP (itup vs) = some u) : pc B f args = some u := by
 unfold pc
 rw [ic_intro hg hf hl hd]
 exact hz
end Go.Proofs.Ytmgfkifjgajclaa.G
namespace Go.Proofs.Ytmgfkifjgajclaa.G
open Go
def lf (P : Program) (md : FuncId → FuncId → Md) (f : FuncId) : Option LFn :=
 match P.funcs[f]? with
 | some fn =>
  match compileFn P f with
  | some s => liftFn P (fun o => match o with | .call g _ => md f g | _ => .raw) (fn.params.size + fn.nfree) s
  | none => none
 | none => none
def plainBook (P : Program) : Book := { P := P, fn := fun f => compileFn P f, mode := fun _ => .raw, given := fun _ => none }
def gvL {α : Type} : List (FuncId × α) → FuncId → Option α
 | [], _ => none
 | (k, g) :: r, f => if f = k then some g else gvL r f
theorem plainBook_ok (P : Program) : BookOK (plainBook P) := ⟨fun f s h => h, fun f g h => by simp [plainBook] at h⟩
theorem lf_ok {P : Program} {md : FuncId → FuncId → Md} {f : FuncId} {l : LFn} (h : lf P md f = some l) : ∃ s md np, (plainBook P).fn f = some s ∧ liftFn P md np s = some l := by
 unfold lf at h
 split at h
 ·split at h
  ·rename_i s hs
   exact ⟨s, _, _, hs, h⟩
  ·simp at h
 ·simp at h
def mdOf (bits : Nat) (raws : List (FuncId × FuncId)) (f g : FuncId) : Md := if raws.contains (f, g) then .raw else if bits.testBit g then .pure else .raw
end Go.Proofs.Ytmgfkifjgajclaa.G
