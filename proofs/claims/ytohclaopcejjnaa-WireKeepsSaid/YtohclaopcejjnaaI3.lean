/- Each operation but calls: what the one reading does, the other does. Heap steps. -/
import Derived.Test.YtohclaopcejjnaaI2
namespace Go.Proofs.Ytohclaopcejjnaa.G
open Go
set_option linter.unusedSimpArgs false
set_option linter.unusedVariables false
section
variable {W : Wd} {J : JH} {H : Heap}

def TT : Option (List Nat) → Nat → Prop
  | some l => fun b => b ∈ l
  | none => fun _ => True
def T0 : Nat → Prop := fun _ => False
theorem SS.weak {W' : Wd} {J' : JH} {H' : Heap} {T T' : Nat → Prop} (h : SS W J H W' J' H' T) (hT : ∀ b, T b → T' b) : SS W J H W' J' H' T' :=
  ⟨h.le, h.hr, h.newM, h.newF, h.hs, h.js, fun β hβ hn => h.frG β hβ fun b w hb ht => hn b w hb (hT b ht), h.frI⟩

/-- One more block. -/
def Wd.add (W : Wd) (b β : Nat) : Wd := { W with M := fun x => if x = b then some (0, β) else W.M x }
theorem HR.M_size (h : HR W J H) : W.M J.size = none := by
  cases hM : W.M J.size with
  | none => rfl
  | some q => exact absurd (h.lt hM).1 (Nat.lt_irrefl _)
theorem HR.F_size (h : HR W J H) : W.F H.size = none := by
  cases hF : W.F H.size with
  | none => rfl
  | some q =>
    obtain ⟨r, hr⟩ := h.fro _ _ hF
    rw [Array.getElem?_eq_none (Nat.le_refl _)] at hr
    cases hr
theorem Wle.add (h : HR W J H) : Wle W (W.add J.size H.size) := by
  refine ⟨fun b w β hb => ⟨w, β, ?_, .inl ⟨rfl, rfl⟩⟩, fun _ _ h => h⟩
  simp only [Wd.add]
  rw [if_neg (Nat.ne_of_lt (h.lt hb).1)]
  exact hb
theorem get_push_lt {α : Type} {A : Array α} {x : α} {i : Nat} (h : i < A.size) : (A.push x)[i]? = A[i]? := by
  rw [Array.getElem?_push, if_neg (Nat.ne_of_lt h)]
theorem HR.push (h : HR W J H) {X : IB} {Y : Blk}
    (hX : (∃ cs cs', X = .cells 0 cs false ∧ Y = .cells cs' false ∧ CRL W cs cs') ∨ (∃ k, X = .map [] k ∧ Y = .map [] k)) :
    SS W J H (W.add J.size H.size) (J.push X) (H.push Y) T0 := by
  have hle := Wle.add h
  have hnew : (W.add J.size H.size).M J.size = some (0, H.size) := by simp [Wd.add]
  have hold : ∀ {b w β}, (W.add J.size H.size).M b = some (w, β) → b ≠ J.size → W.M b = some (w, β) := fun {b w β} hb hne => by
    simpa [Wd.add, hne] using hb
  refine ⟨hle, ⟨?_, ?_, ?_, ?_, ?_⟩, ?_, fun β cs hF => .inl hF, by simp, by simp, fun β hβ _ => get_push_lt hβ, fun b hb _ => get_push_lt hb⟩
  · intro b w β hb
    by_cases hbs : b = J.size
    · subst hbs
      rw [hnew] at hb
      cases hb
      rw [Array.getElem?_push, if_pos rfl]
      rcases hX with ⟨cs, cs', rfl, _⟩ | ⟨k, rfl, _⟩
      · exact .inl ⟨cs, false, rfl⟩
      · exact .inr ⟨rfl, [], k, rfl⟩
    · have hb' := hold hb hbs
      rw [get_push_lt (h.lt hb').1]
      exact h.dom b w β hb'
  · intro b w β cs ro hb hJ
    by_cases hbs : b = J.size
    · subst hbs
      rw [hnew] at hb
      cases hb
      rw [Array.getElem?_push, if_pos rfl] at hJ
      simp only [Option.some.injEq] at hJ
      rcases hX with ⟨cs1, cs', hx, rfl, hc⟩ | ⟨k, hx, _⟩
      · rw [hx] at hJ
        cases hJ
        refine ⟨cs', false, by simp, hc.mono hle, fun _ => ⟨rfl, h.F_size⟩, fun e => by cases e⟩
      · rw [hx] at hJ; cases hJ
    · have hb' := hold hb hbs
      rw [get_push_lt (h.lt hb').1] at hJ
      rw [get_push_lt (h.lt hb').2]
      obtain ⟨cs', r, h1, h2, h3⟩ := h.cells b w β cs ro hb' hJ
      exact ⟨cs', r, h1, h2.mono hle, h3⟩
  · intro b w β es k hb hJ
    by_cases hbs : b = J.size
    · subst hbs
      rw [hnew] at hb
      cases hb
      rw [Array.getElem?_push, if_pos rfl] at hJ
      simp only [Option.some.injEq] at hJ
      rcases hX with ⟨cs1, cs', hx, _⟩ | ⟨k', hx, rfl⟩
      · rw [hx] at hJ; cases hJ
      · rw [hx] at hJ
        cases hJ
        exact ⟨[], by simp, trivial⟩
    · have hb' := hold hb hbs
      rw [get_push_lt (h.lt hb').1] at hJ
      rw [get_push_lt (h.lt hb').2]
      obtain ⟨es', h1, h2⟩ := h.maps b w β es k hb' hJ
      exact ⟨es', h1, h2.mono hle⟩
  · intro b c w v β hb hc
    by_cases hbs : b = J.size <;> by_cases hcs : c = J.size
    · rw [hbs, hcs]
    · subst hbs
      rw [hnew] at hb
      cases hb
      exact absurd (h.lt (hold hc hcs)).2 (Nat.lt_irrefl _)
    · subst hcs
      rw [hnew] at hc
      cases hc
      exact absurd (h.lt (hold hb hbs)).2 (Nat.lt_irrefl _)
    · exact h.inj b c w v β (hold hb hbs) (hold hc hcs)
  · intro β cs hF
    obtain ⟨r, hr⟩ := h.fro β cs hF
    refine ⟨r, ?_⟩
    rw [get_push_lt]
    · exact hr
    · rcases Nat.lt_or_ge β H.size with h | h
      · exact h
      · rw [Array.getElem?_eq_none h] at hr; cases hr
  · intro b w β hb
    by_cases hbs : b = J.size
    · subst hbs
      rw [hnew] at hb
      cases hb
      exact .inr ⟨Nat.le_refl _, Nat.le_refl _⟩
    · exact .inl ⟨w, β, hold hb hbs, .inl rfl⟩

/-- One more block that is not written any more. -/
def Wd.addF (W : Wd) (β : Nat) (cs : List Value) : Wd := { W with F := fun x => if x = β then some cs else W.F x }
theorem newF_addF {cs : List Value} : ∀ β ds, (W.addF H.size cs).F β = some ds → W.F β = some ds ∨ (∃ b w, W.M b = some (w, β)) ∨ H.size ≤ β := by
  intro β ds hF
  simp only [Wd.addF] at hF
  split at hF
  · exact .inr (.inr (by omega))
  · exact .inl hF
theorem HR.pushF (h : HR W J H) (cs : List Value) : SS W J H (W.addF H.size cs) J (H.push (.cells cs false)) T0 := by
  have hle : Wle W (W.addF H.size cs) := by
    refine ⟨fun b w β hb => ⟨w, β, hb, .inl ⟨rfl, rfl⟩⟩, fun β ds hF => ?_⟩
    simp only [Wd.addF]
    rw [if_neg]
    · exact hF
    · rintro rfl; rw [h.F_size] at hF; cases hF
  refine ⟨hle, ⟨h.dom, ?_, ?_, h.inj, ?_⟩, fun b w β hb => .inl ⟨w, β, hb, .inl rfl⟩, newF_addF, by simp, Nat.le_refl _, fun β hβ _ => get_push_lt hβ, fun b hb _ => rfl⟩
  · intro b w β ds ro hb hJ
    obtain ⟨cs', r, h1, h2, h3, h4⟩ := h.cells b w β ds ro hb hJ
    have hlt := (h.lt hb).2
    refine ⟨cs', r, by rw [get_push_lt hlt]; exact h1, h2.mono hle, fun e => ?_, fun e => ?_⟩
    · simp only [Wd.addF]; rw [if_neg (Nat.ne_of_lt hlt)]; exact h3 e
    · simp only [Wd.addF]; rw [if_neg (Nat.ne_of_lt hlt)]; exact h4 e
  · intro b w β es k hb hJ
    obtain ⟨es', h1, h2⟩ := h.maps b w β es k hb hJ
    exact ⟨es', by rw [get_push_lt (h.lt hb).2]; exact h1, h2.mono hle⟩
  · intro β ds hF
    simp only [Wd.addF] at hF
    split at hF
    · rename_i hβ
      simp only [Option.some.injEq] at hF
      subst hF hβ
      exact ⟨false, by simp⟩
    · obtain ⟨r, hr⟩ := h.fro β ds hF
      refine ⟨r, ?_⟩
      rw [get_push_lt]
      · exact hr
      · rcases Nat.lt_or_ge β H.size with h | h
        · exact h
        · rw [Array.getElem?_eq_none h] at hr; cases hr

theorem get_set {α : Type} {A : Array α} {i j : Nat} {x : α} (hi : i < A.size) : (A.setIfInBounds i x)[j]? = if i = j then some x else A[j]? := by
  rw [Array.getElem?_setIfInBounds]
  by_cases h : i = j
  · subst h; simp [hi]
  · simp [h]

/-- A block gets other cells, or a map other entries. -/
theorem HR.set (h : HR W J H) {b w β : Nat} (hM : W.M b = some (w, β)) {X : IB} {Y : Blk}
    (hX : (∃ cs cs', (∃ ds, J[b]? = some (.cells w ds false)) ∧ X = .cells w cs false ∧ Y = .cells cs' false ∧ CRL W cs cs') ∨ (∃ es es' k, (∃ fs l, J[b]? = some (.map fs l)) ∧ X = .map es k ∧ Y = .map es' k ∧ IER W es es')) :
    SS W J H W (J.setIfInBounds b X) (H.setIfInBounds β Y) (fun x => x = b) := by
  obtain ⟨hbJ, hβH⟩ := h.lt hM
  have hFβ : ∀ cs, W.F β = some cs → False := by
    intro cs hF
    rcases hX with ⟨_, _, ⟨ds, hJ⟩, _⟩ | ⟨_, _, _, ⟨fs, l, hJ⟩, _⟩
    · obtain ⟨cs', r, _, _, h3, _⟩ := h.cells b w β ds false hM hJ
      rw [(h3 rfl).2] at hF; cases hF
    · obtain ⟨es', h1, _⟩ := h.maps b w β fs l hM hJ
      obtain ⟨r, hr⟩ := h.fro β cs hF
      rw [h1] at hr; cases hr
  refine ⟨.refl W, ⟨?_, ?_, ?_, h.inj, ?_⟩, fun x w β hb => .inl ⟨w, β, hb, .inl rfl⟩, fun β cs hF => .inl hF, by simp, by simp, ?_, ?_⟩
  · intro x v γ hx
    rw [get_set hbJ]
    by_cases hxb : b = x
    · subst hxb
      rw [hM] at hx
      cases hx
      simp only [if_true]
      rcases hX with ⟨cs, cs', _, rfl, _⟩ | ⟨es, es', k, ⟨fs, l, hJ⟩, rfl, _⟩
      · exact .inl ⟨cs, false, rfl⟩
      · rcases h.dom b w β hM with ⟨cs, ro, h1⟩ | ⟨h0, _⟩
        · rw [hJ] at h1; cases h1
        · exact .inr ⟨h0, es, k, rfl⟩
    · rw [if_neg hxb]; exact h.dom x v γ hx
  · intro x v γ cs ro hx hJ
    rw [get_set hbJ] at hJ
    by_cases hxb : b = x
    · subst hxb
      rw [hM] at hx
      cases hx
      simp only [if_true, Option.some.injEq] at hJ
      rcases hX with ⟨cs1, cs', _, rfl, rfl, hc⟩ | ⟨es, es', k, _, rfl, _⟩
      · cases hJ
        refine ⟨cs', false, by rw [get_set hβH]; simp, hc, fun _ => ⟨rfl, ?_⟩, fun e => by cases e⟩
        cases hF : W.F β with
        | none => rfl
        | some cs => exact (hFβ cs hF).elim
      · cases hJ
    · rw [if_neg hxb] at hJ
      obtain ⟨cs', r, h1, h2⟩ := h.cells x v γ cs ro hx hJ
      refine ⟨cs', r, ?_, h2⟩
      rw [get_set hβH, if_neg]
      · exact h1
      · rintro rfl; exact hxb (h.inj b x _ _ _ hM hx)
  · intro x v γ es k hx hJ
    rw [get_set hbJ] at hJ
    by_cases hxb : b = x
    · subst hxb
      rw [hM] at hx
      cases hx
      simp only [if_true, Option.some.injEq] at hJ
      rcases hX with ⟨cs1, cs', _, rfl, rfl, hc⟩ | ⟨es1, es', k1, _, rfl, rfl, hc⟩
      · cases hJ
      · cases hJ
        exact ⟨es', by rw [get_set hβH]; simp, hc⟩
    · rw [if_neg hxb] at hJ
      obtain ⟨es', h1, h2⟩ := h.maps x v γ es k hx hJ
      refine ⟨es', ?_, h2⟩
      rw [get_set hβH, if_neg]
      · exact h1
      · rintro rfl; exact hxb (h.inj b x _ _ _ hM hx)
  · intro γ cs hF
    rw [get_set hβH, if_neg]
    · exact h.fro γ cs hF
    · rintro rfl; exact hFβ cs hF
  · intro γ hγ hn
    rw [get_set hβH, if_neg]
    rintro rfl
    exact hn b w hM rfl
  · intro x hx hn
    rw [get_set hbJ, if_neg]
    rintro rfl
    rw [hM] at hn; cases hn

/-- What is written. -/
theorem HR.write (h : HR W J H) {b v off w β : Nat} {vs : List IV} {us : List Value} {J' : JH} (hM : W.M b = some (w, β)) (hw : iwr J b v off vs = some J') (hv : vs.all ione = true → CRL W vs us) :
    v = w ∧ ∃ H', wr H β off us = some H' ∧ SS W J H W J' H' (fun x => x = b) := by
  unfold iwr at hw
  split at hw
  · rename_i w' cs hJ
    split at hw
    · rename_i hc
      obtain ⟨rfl, hle, hall⟩ := hc
      simp only [Option.some.injEq] at hw
      subst hw
      have hw' : v = w := by
        rcases h.dom b w β hM with ⟨cs2, ro2, h2⟩ | ⟨_, es, k, h2⟩
        · rw [hJ] at h2; cases h2; rfl
        · rw [hJ] at h2; cases h2
      subst hw'
      have hu := hv hall
      obtain ⟨cs', r, h3, h4, h5, _⟩ := h.cells b v β cs false hM hJ
      obtain ⟨rfl, _⟩ := h5 rfl
      refine ⟨rfl, _, ?_, h.set hM (.inl ⟨_, _, ⟨cs, hJ⟩, rfl, rfl, h4.splice hu off⟩)⟩
      unfold wr
      rw [h3]
      simp only [h4.len, hu.len, hu.ones.2, Bool.and_true, decide_eq_true_eq]
      rw [if_pos hle]
    · simp at hw
  · simp at hw

/-- A block grows: it is another one behind it. -/
def Wd.bump (W : Wd) (b w β : Nat) : Wd := { W with M := fun x => if x = b then some (w, β) else W.M x }
theorem HR.grow (h : HR W J H) {b w β : Nat} {cs : List IV} {cs' : List Value} {es : List IV} (hM : W.M b = some (w, β)) (hJ : J[b]? = some (.cells w es false)) (hc : CRL W cs cs') :
    SS W J H (W.bump b (w + 1) H.size) (J.setIfInBounds b (.cells (w + 1) cs false)) ((H.setIfInBounds β .dead).push (.cells cs' false)) (fun x => x = b) := by
  obtain ⟨hbJ, hβH⟩ := h.lt hM
  have hFβ : W.F β = none := by
    obtain ⟨cs', r, _, _, h3, _⟩ := h.cells b w β es false hM hJ
    exact (h3 rfl).2
  have hle : Wle W (W.bump b (w + 1) H.size) := by
    refine ⟨fun x v γ hx => ?_, fun _ _ h => h⟩
    simp only [Wd.bump]
    by_cases hxb : x = b
    · subst hxb
      rw [hM] at hx
      cases hx
      exact ⟨w + 1, H.size, by simp, .inr (by omega)⟩
    · exact ⟨v, γ, by rw [if_neg hxb]; exact hx, .inl ⟨rfl, rfl⟩⟩
  have hnew : (W.bump b (w + 1) H.size).M b = some (w + 1, H.size) := by simp [Wd.bump]
  have hold : ∀ {x v γ}, (W.bump b (w + 1) H.size).M x = some (v, γ) → x ≠ b → W.M x = some (v, γ) := fun {x v γ} hb hne => by simpa [Wd.bump, hne] using hb
  have hgH : ∀ {γ : Nat}, γ < H.size → γ ≠ β → ((H.setIfInBounds β .dead).push (.cells cs' false))[γ]? = H[γ]? := fun {γ} h1 h2 => by
    rw [get_push_lt (by simpa using h1), get_set hβH, if_neg (fun e => h2 e.symm)]
  refine ⟨hle, ⟨?_, ?_, ?_, ?_, ?_⟩, ?_, fun β cs hF => .inl hF, by simp, by simp, ?_, ?_⟩
  · intro x v γ hx
    rw [get_set hbJ]
    by_cases hxb : b = x
    · subst hxb
      rw [hnew] at hx
      cases hx
      exact .inl ⟨cs, false, by simp⟩
    · rw [if_neg hxb]; exact h.dom x v γ (hold hx (fun e => hxb e.symm))
  · intro x v γ ds ro hx hJx
    rw [get_set hbJ] at hJx
    by_cases hxb : b = x
    · subst hxb
      rw [hnew] at hx
      cases hx
      simp only [if_true, Option.some.injEq, IB.cells.injEq] at hJx
      obtain ⟨_, rfl, rfl⟩ := hJx
      refine ⟨cs', false, ?_, hc.mono hle, fun _ => ⟨rfl, h.F_size⟩, fun e => by cases e⟩
      rw [Array.getElem?_push, if_pos (by simp)]
    · rw [if_neg hxb] at hJx
      have hx' := hold hx (fun e => hxb e.symm)
      obtain ⟨ds', r, h1, h2, h3⟩ := h.cells x v γ ds ro hx' hJx
      refine ⟨ds', r, ?_, h2.mono hle, h3⟩
      rw [hgH (h.lt hx').2]
      · exact h1
      · rintro rfl; exact hxb (h.inj b x _ _ _ hM hx')
  · intro x v γ fs k hx hJx
    rw [get_set hbJ] at hJx
    by_cases hxb : b = x
    · subst hxb
      simp at hJx
    · rw [if_neg hxb] at hJx
      have hx' := hold hx (fun e => hxb e.symm)
      obtain ⟨es', h1, h2⟩ := h.maps x v γ fs k hx' hJx
      refine ⟨es', ?_, h2.mono hle⟩
      rw [hgH (h.lt hx').2]
      · exact h1
      · rintro rfl; exact hxb (h.inj b x _ _ _ hM hx')
  · intro x y v u γ hx hy
    by_cases hxb : x = b <;> by_cases hyb : y = b
    · rw [hxb, hyb]
    · subst hxb
      rw [hnew] at hx
      cases hx
      exact absurd (h.lt (hold hy hyb)).2 (Nat.lt_irrefl _)
    · subst hyb
      rw [hnew] at hy
      cases hy
      exact absurd (h.lt (hold hx hxb)).2 (Nat.lt_irrefl _)
    · exact h.inj x y v u γ (hold hx hxb) (hold hy hyb)
  · intro γ ds hF
    have hF' : W.F γ = some ds := hF
    obtain ⟨r, hr⟩ := h.fro γ ds hF'
    refine ⟨r, ?_⟩
    rw [hgH]
    · exact hr
    · rcases Nat.lt_or_ge γ H.size with h | h
      · exact h
      · rw [Array.getElem?_eq_none h] at hr; cases hr
    · rintro rfl; rw [hFβ] at hF'; cases hF'
  · intro x v γ hx
    by_cases hxb : x = b
    · subst hxb
      rw [hnew] at hx
      cases hx
      exact .inl ⟨w, β, hM, .inr (Nat.le_refl _)⟩
    · exact .inl ⟨v, γ, hold hx hxb, .inl rfl⟩
  · intro γ hγ hn
    refine hgH hγ ?_
    rintro rfl
    exact hn b w hM rfl
  · intro x hx hn
    rw [get_set hbJ, if_neg]
    rintro rfl
    rw [hM] at hn; cases hn

/-! ### one by one -/
def Goal (W : Wd) (J : JH) (H : Heap) (t : Nat → Prop) (o : Option (Value × Heap)) (v : IV) (J' : JH) : Prop :=
  ∃ W' c H', o = some (c, H') ∧ SS W J H W' J' H' t ∧ IR W' v c
theorem Goal.same (h : HR W J H) (t : Nat → Prop) {c : Value} {v : IV} (hv : IR W v c) : Goal W J H t (some (c, H)) v J := ⟨W, c, H, rfl, .refl h t, hv⟩
theorem ilift_ok {o : Option IV} {v : IV} {J' : JH} (h : ilift o J = some (v, J')) : o = some v ∧ J' = J := by
  cases o with
  | none => simp [ilift] at h
  | some u => simp only [ilift, Option.some.injEq, Prod.mk.injEq] at h; exact ⟨by rw [h.1], h.2.symm⟩
theorem Goal.lift (h : HR W J H) (t : Nat → Prop) {o : Option IV} {v : IV} {J' : JH} (he : ilift o J = some (v, J')) {p : Option Value} (hp : ∀ u, o = some u → ∃ c, p = some c ∧ IR W u c) : Goal W J H t (G.lift p H) v J' := by
  obtain ⟨h1, rfl⟩ := ilift_ok he
  obtain ⟨c, hc, hi⟩ := hp v h1
  subst hc
  exact .same h t hi

/-- What pointers and slices look like. -/
theorem IR.ptr {b v off : Nat} {c : Value} (h : IR W (.ptr b v off) c) : ∃ w β γ, W.M b = some (w, β) ∧ v ≤ w ∧ c = .pointer (some ⟨γ, off, none⟩) ∧ (v = w → γ = β) := by
  simp only [IR, CR, List.cons.injEq, and_true] at h; exact h
theorem IR.mk_ptr {b v off w β γ : Nat} (h1 : W.M b = some (w, β)) (h2 : v ≤ w) (h3 : v = w → γ = β) : IR W (.ptr b v off) (.pointer (some ⟨γ, off, none⟩)) := by
  simp only [IR, CR]; exact ⟨w, β, γ, h1, h2, rfl, h3⟩
theorem IR.sl {b v off n cap sz : Nat} {c : Value} (h : IR W (.sl b v off n cap sz) c) : ∃ w β γ, W.M b = some (w, β) ∧ v ≤ w ∧ c = .slice (some ⟨γ, off, none⟩) n cap ∧ 0 < sz ∧ (cap < UNK ∧ n ≤ cap ∨ cap = UNK + sz) ∧ (v = w → γ = β) := by
  simp only [IR, CR, List.cons.injEq, and_true] at h; exact h
theorem IR.mk_sl {b v off n cap sz w β γ : Nat} (h1 : W.M b = some (w, β)) (h2 : v ≤ w) (h4 : 0 < sz) (h5 : cap < UNK ∧ n ≤ cap ∨ cap = UNK + sz) (h3 : v = w → γ = β) : IR W (.sl b v off n cap sz) (.slice (some ⟨γ, off, none⟩) n cap) := by
  simp only [IR, CR]; exact ⟨w, β, γ, h1, h2, rfl, h4, h5, h3⟩
theorem IR.lst {sz : Nat} {full : Bool} {xs : List IV} {c : Value} (h : IR W (.lst sz full xs) c) : ∃ β o cap cs, W.F β = some cs ∧ c = .slice (some ⟨β, o, none⟩) xs.length cap ∧ 0 < sz ∧ o + xs.length * sz ≤ cs.length ∧ (cap < UNK ∧ xs.length ≤ cap ∨ cap = UNK + sz) ∧ (full = true → cap = xs.length ∧ cap < UNK) ∧ ipureL xs = true ∧ CRF W sz xs (cs.drop o) := by
  simp only [IR, CR, List.cons.injEq, and_true] at h; exact h
theorem IR.mk_lst {sz : Nat} {full : Bool} {xs : List IV} {β o cap : Nat} {cs : List Value} {n : Nat} (h1 : W.F β = some cs) (hn : n = xs.length) (h2 : 0 < sz) (h3 : o + xs.length * sz ≤ cs.length) (h4 : cap < UNK ∧ xs.length ≤ cap ∨ cap = UNK + sz) (h5 : full = true → cap = xs.length ∧ cap < UNK) (h6 : ipureL xs = true) (h7 : CRF W sz xs (cs.drop o)) : IR W (.lst sz full xs) (.slice (some ⟨β, o, none⟩) n cap) := by
  subst hn
  simp only [IR, CR]; exact ⟨β, o, cap, cs, h1, rfl, h2, h3, h4, h5, h6, h7⟩
theorem IR.map {b : Nat} {c : Value} (h : IR W (.map b) c) : ∃ w β γ, W.M b = some (w, β) ∧ c = .map (some γ) ∧ (w = 0 → γ = β) := by
  simp only [IR, CR, List.cons.injEq, and_true] at h; exact h
theorem IR.rptr {e : IV} {off : Nat} {c : Value} (h : IR W (.rptr e off) c) : ∃ β o cs, W.F β = some cs ∧ c = .pointer (some ⟨β, o + off, none⟩) ∧ o + (icells e).length ≤ cs.length ∧ CR W e ((cs.drop o).take (icells e).length) ∧ ipure e = true := by
  simp only [IR, CR, List.cons.injEq, and_true] at h; exact h
theorem IR.sc {v c : Value} (h : IR W (.sc v) c) : c = v ∧ scOK v = true := by simpa only [IR] using h
theorem IR.mk_sc {v : Value} (h : scOK v = true) : IR W (.sc v) v := by simp only [IR, true_and]; exact h
theorem IR.agg {cs : List IV} {c : Value} (h : IR W (.agg cs) c) : ∃ a, c = .agg a ∧ CRL W cs a.toList := by simpa only [IR] using h
theorem IR.mk_agg {cs : List IV} {l : List Value} (h : CRL W cs l) : IR W (.agg cs) (.agg l.toArray) := by simp only [IR]; exact ⟨l.toArray, rfl, h⟩
theorem IR.mk_unit {c : Value} : IR W (.tup []) c := by simp [IR]

theorem HR.M_map (h : HR W J H) {b w β : Nat} {es : List IEnt} {k : Nat} (hM : W.M b = some (w, β)) (hJ : J[b]? = some (.map es k)) : w = 0 := by
  rcases h.dom b w β hM with ⟨cs, ro, h1⟩ | ⟨h0, _⟩
  · rw [hJ] at h1; cases h1
  · exact h0

theorem load_sim (h : HR W J H) (t : Nat → Prop) {ag : Bool} {sz : Nat} {p v : IV} {c : Value} {J' : JH} (hp : IR W p c) (he : iload ag sz p J = some (v, J')) : Goal W J H t (aload ag sz c H) v J' := by
  cases p with
  | ptr b w off =>
    obtain ⟨w0, β, γ, hM, hle, rfl, hγ⟩ := hp.ptr
    simp only [iload] at he
    split at he
    · rename_i vs hrd
      obtain ⟨rfl, cs, hcs, hcr⟩ := h.read hM hrd
      obtain rfl := hγ rfl
      simp only [aload, hcs]
      cases ag with
      | true =>
        simp only [if_true, Option.some.injEq, Prod.mk.injEq] at he ⊢
        obtain ⟨rfl, rfl⟩ := he
        exact .same h t (.mk_agg hcr)
      | false =>
        simp only [Bool.false_eq_true, if_false] at he ⊢
        split at he
        · rename_i x
          simp only [Option.some.injEq, Prod.mk.injEq] at he
          obtain ⟨rfl, rfl⟩ := he
          obtain ⟨u, us, rfl, h2, h3, h4, h5⟩ := CRL.cons_iff.1 hcr
          rw [CRL.nil_iff.1 h5]
          exact .same h t (h4.toIR h2)
        · simp at he
    · simp at he
  | rptr e off =>
    obtain ⟨β, o, cs, hF, rfl, hle, hcr, _⟩ := hp.rptr
    obtain ⟨r, hH⟩ := h.fro β cs hF
    have hcr2 := hcr.cells
    have hrd : ∀ n, off + n ≤ (icells e).length → rd H β (o + off) n = some ((cs.drop (o + off)).take n) := fun n hn => by
      unfold rd; rw [hH]; simp only; rw [if_pos (by omega)]
    have hwin : ∀ n, off + n ≤ (icells e).length → ((((cs.drop o).take (icells e).length).drop off).take n) = (cs.drop (o + off)).take n := fun n hn => by
      rw [List.drop_take, List.take_take, List.drop_drop, Nat.min_eq_left (by omega)]
    cases ag with
    | true =>
      simp only [iload, if_true] at he
      split at he
      · rename_i hb
        simp only [Option.some.injEq, Prod.mk.injEq] at he
        obtain ⟨rfl, rfl⟩ := he
        simp only [aload, if_true, hrd sz hb]
        have := (hcr2.drop off).take sz
        rw [hwin sz hb] at this
        exact .same h t (.mk_agg this)
      · simp at he
    | false =>
      simp only [iload, Bool.false_eq_true, if_false] at he
      split at he
      · rename_i hb
        simp only [aload, Bool.false_eq_true, if_false, hrd 1 hb]
        have := (hcr2.drop off).take 1
        rw [hwin 1 hb] at this
        split at he
        · rename_i x hx
          simp only [Option.some.injEq, Prod.mk.injEq] at he
          obtain ⟨rfl, rfl⟩ := he
          rw [hx] at this
          obtain ⟨u, us, hu, h2, h3, h4, h5⟩ := CRL.cons_iff.1 this
          rw [CRL.nil_iff.1 h5] at hu
          rw [hu]
          exact .same h t (h4.toIR h2)
        · simp at he
      · simp at he
  | _ => simp [iload] at he

theorem store_sim (h : HR W J H) {sz : Nat} {p v u : IV} {c d : Value} {J' : JH} (hp : IR W p c) (hv : IR W v d) (he : istore sz p v J = some (u, J')) : ∃ l, blkOf p = some l ∧ Goal W J H (· ∈ l) (astore sz c d H) u J' := by
  cases p with
  | ptr b w off =>
    obtain ⟨w0, β, γ, hM, hle, rfl, hγ⟩ := hp.ptr
    refine ⟨[b], rfl, ?_⟩
    simp only [istore] at he
    split at he
    · rename_i hsz
      split at he
      · rename_i J1 hwr
        simp only [Option.some.injEq, Prod.mk.injEq] at he
        obtain ⟨rfl, rfl⟩ := he
        have hall : (icells v).all ione = true := by
          unfold iwr at hwr
          split at hwr
          · split at hwr
            · rename_i hc; exact hc.2.2
            · simp at hwr
          · simp at hwr
        have hcl := hv.cells hall
        obtain ⟨rfl, H1, h1, h2⟩ := h.write hM hwr (fun _ => hcl)
        obtain rfl := hγ rfl
        refine ⟨W, undef, H1, ?_, h2.weak (fun x hx => by simp [hx]), .mk_unit⟩
        simp only [astore, hcl.len, hsz, if_true, h1]
      · simp at he
    · simp at he
  | _ => simp [istore] at he

theorem new_sim (h : HR W J H) (t : Nat → Prop) {cs : List IV} {cs' : List Value} {v : IV} {J' : JH} (hc : cs.all ione = true → CRL W cs cs') (he : inew cs J = some (v, J')) : Goal W J H t (anew cs' H) v J' := by
  unfold inew at he
  split at he
  · rename_i hall
    simp only [Option.some.injEq, Prod.mk.injEq] at he
    obtain ⟨rfl, rfl⟩ := he
    have hc' := hc hall
    refine ⟨_, _, _, ?_, (h.push (X := .cells 0 cs false) (.inl ⟨cs, cs', rfl, rfl, hc'⟩)).weak (fun _ hx => hx.elim), .mk_ptr (w := 0) (β := H.size) (by simp [Wd.add]) (Nat.le_refl _) (fun _ => rfl)⟩
    simp only [anew, hc'.ones.2, if_true]
  · simp at he

theorem ilen_ok {x : IV} {c : Value} (hx : IR W x c) {n : Nat} (hl : ilen x = some n) : alen c = some n := by
  cases x with
  | sc v =>
    obtain ⟨rfl, h2⟩ := hx.sc
    unfold ilen at hl
    split at hl <;> simp_all [alen]
  | sl b v off m cap sz =>
    obtain ⟨w, β, γ, _, _, rfl, _⟩ := hx.sl
    simp only [ilen] at hl
    simpa [alen] using hl
  | lst sz f xs =>
    obtain ⟨β, o, cap, cs, _, rfl, _⟩ := hx.lst
    simp only [ilen] at hl
    simpa [alen] using hl
  | _ => simp [ilen] at hl

theorem iscells_ok (h : HR W J H) {sz : Nat} {x : IV} {c : Value} (hx : IR W x c) {xs : List IV} (hs : iscells J sz x = some xs) :
    ∃ cs, sliceCells H sz c = some cs ∧ CRL W xs cs ∧ ∃ n, ilen x = some n ∧ (n = 0 → xs = []) ∧ xs.length = n * sz := by
  cases x with
  | sc v =>
    obtain ⟨rfl, h2⟩ := hx.sc
    unfold iscells at hs
    split at hs
    · rename_i heq
      simp only [IV.sc.injEq] at heq
      subst heq
      simp only [Option.some.injEq] at hs
      subst hs
      exact ⟨[], rfl, by simp [CRL], 0, rfl, fun _ => rfl, by simp⟩
    · rename_i heq; cases heq
    · rename_i heq; cases heq
    · simp at hs
  | sl b v off m cap z =>
    obtain ⟨w, β, γ, hM, hle, rfl, _, _, hγ⟩ := hx.sl
    simp only [iscells] at hs
    obtain ⟨rfl, cs, h1, h2⟩ := h.read hM hs
    obtain rfl := hγ rfl
    have hlen : xs.length = m * sz := by
      unfold ird at hs
      split at hs
      · split at hs
        · simp only [Option.some.injEq] at hs
          subst hs
          simp; omega
        · simp at hs
      · simp at hs
    refine ⟨cs, ?_, h2, m, rfl, fun e => ?_, hlen⟩
    · simp only [sliceCells, h1]
    · subst e; simp at hlen; exact hlen
  | lst z f ys =>
    obtain ⟨β, o, cap, cs, hF, rfl, hz, hle, _, _, _, hcr⟩ := hx.lst
    simp only [iscells] at hs
    split at hs
    · rename_i hzs
      subst hzs
      simp only [Option.some.injEq] at hs
      subst hs
      obtain ⟨r, hH⟩ := h.fro β cs hF
      have hfl := hcr.flat (by simp; omega)
      refine ⟨(cs.drop o).take (ys.length * z), ?_, hfl, ys.length, rfl, fun e => ?_, ?_⟩
      · simp only [sliceCells]; unfold rd; rw [hH]; simp only; rw [if_pos hle]
      · rw [List.length_eq_zero_iff] at e; subst e; rfl
      · have := hfl.len; rw [← this]; simp; omega
    · simp at hs
  | _ => simp [iscells] at hs

end
end Go.Proofs.Ytohclaopcejjnaa.G
