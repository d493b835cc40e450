/- What the code with places by order comes to, the plain code comes to. -/
import Derived.Test.YtohclaopcejjnaaL1
namespace Go.Proofs.Ytohclaopcejjnaa.G
open Go
set_option linter.unusedSimpArgs false
set_option linter.unusedVariables false

def EV (ρ : List Value) (x : Operand) : Value := ev (env0 ρ 0) x
def inR (d : Nat) : Operand → Prop
  | .tmp i => i < d
  | _ => True
theorem EV_tmp (ρ : List Value) (i : Nat) : EV ρ (.tmp i) = (ρ[i]?).getD undef := by
  simp only [EV, ev]
  rw [env0_get ρ 0 i (Nat.zero_le _)]
  simp
theorem EV_app {ρ ρ' : List Value} {x : Operand} (hp : ρ <+: ρ') (h : inR ρ.length x) : EV ρ' x = EV ρ x := by
  cases x with
  | tmp i =>
    obtain ⟨s, rfl⟩ := hp
    simp only [inR] at h
    rw [EV_tmp, EV_tmp, List.getElem?_append_left h]
  | const v => rfl
  | global g => rfl
  | func f => rfl
theorem inR.mono {d d' : Nat} {x : Operand} (h : inR d x) (hd : d ≤ d') : inR d' x := by
  cases x with
  | tmp i => exact Nat.lt_of_lt_of_le h hd
  | const v => trivial
  | global g => trivial
  | func f => trivial

def RelS (σ : Sg) (ρ : List Value) (e : Env) : Prop := ∀ t x, lk σ t = some x → inR ρ.length x ∧ get e t = EV ρ x
theorem RelS.app {σ : Sg} {ρ ρ' : List Value} {e : Env} (h : RelS σ ρ e) (hp : ρ <+: ρ') : RelS σ ρ' e := by
  intro t x hx
  obtain ⟨h1, h2⟩ := h t x hx
  exact ⟨h1.mono hp.length_le, by rw [h2, EV_app hp h1]⟩
theorem lk_filter (p : Nat → Bool) : ∀ (σ : Sg) (t : Nat), lk (σ.filter fun x => p x.1) t = if p t = true then lk σ t else none
  | [], t => by simp [lk]
  | (k, x) :: r, t => by
    by_cases hp : p k = true
    · rw [List.filter_cons_of_pos (by simpa using hp)]
      simp only [lk]
      by_cases h : t = k
      · subst h; simp [hp]
      · simp only [if_neg h]; exact lk_filter p r t
    · rw [List.filter_cons_of_neg (by simpa using hp)]
      simp only [lk]
      by_cases h : t = k
      · subst h
        rw [lk_filter p r t]
        simp [hp]
      · simp only [if_neg h]; exact lk_filter p r t
theorem RelS.only {σ : Sg} {ρ : List Value} {e : Env} (h : RelS σ ρ e) (w : Nat) : RelS (onlyS σ w) ρ e := by
  intro t x hx
  unfold onlyS at hx
  rw [lk_filter (fun k => w.testBit k)] at hx
  split at hx
  · exact h t x hx
  · simp at hx
theorem get_put (e : Env) (d : Option Nat) (v : Value) (t : Nat) : get (put e d v) t = if d = some t then v else get e t := by
  cases d with
  | none => simp [put]
  | some d =>
    simp only [put, get, Option.some.injEq]
    by_cases h : t = d
    · subst h; simp
    · rw [if_neg h, if_neg (fun h' => h h'.symm)]
theorem RelS.upd {σ : Sg} {ρ : List Value} {e : Env} (h : RelS σ ρ e) {d : Option Nat} {x : Operand} {v : Value} (h1 : inR ρ.length x) (h2 : v = EV ρ x) : RelS (upd σ d x) ρ (put e d v) := by
  intro t y hy
  rw [get_put]
  cases d with
  | none => simpa using h t y hy
  | some d =>
    simp only [G.upd, lk] at hy
    by_cases ht : t = d
    · subst ht
      simp only [if_true, Option.some.injEq] at hy
      subst hy
      exact ⟨h1, by simp [h2]⟩
    · rw [if_neg ht, lk_filter (fun k => !(k == d))] at hy
      rw [if_pos (by simpa using ht)] at hy
      rw [if_neg (by simp; exact fun h => ht h.symm)]
      exact h t y hy

theorem rn_ok {σ : Sg} {ρ : List Value} {e : Env} (h : RelS σ ρ e) {x y : Operand} (hx : rn σ x = some y) : inR ρ.length y ∧ ev e x = EV ρ y := by
  cases x with
  | tmp t => exact h t y hx
  | const v => simp [rn] at hx; subst hx; exact ⟨trivial, rfl⟩
  | global v => simp [rn] at hx; subst hx; exact ⟨trivial, rfl⟩
  | func v => simp [rn] at hx; subst hx; exact ⟨trivial, rfl⟩
theorem rnL_ok {σ : Sg} {ρ : List Value} {e : Env} (h : RelS σ ρ e) : ∀ {l m : List Operand}, rnL σ l = some m → l.map (ev e) = m.map (EV ρ)
  | [], m, hm => by simp [rnL] at hm; subst hm; rfl
  | x :: l, m, hm => by
    simp only [rnL] at hm
    split at hm
    · rename_i y q hy hq
      simp only [Option.some.injEq] at hm
      subst hm
      simp [(rn_ok h hy).2, rnL_ok h hq]
    · simp at hm
theorem rnO_ok {σ : Sg} {ρ : List Value} {e : Env} (h : RelS σ ρ e) {x y : Option Operand} (hx : rnO σ x = some y) : x.map (ev e) = y.map (EV ρ) := by
  cases x with
  | none => simp [rnO] at hx; subst hx; rfl
  | some x =>
    simp only [rnO] at hx
    split at hx
    · rename_i z hz
      simp only [Option.some.injEq] at hx
      subst hx
      simp [(rn_ok h hz).2]
    · simp at hx
theorem rnP_ok {σ : Sg} {ρ : List Value} {e : Env} (h : RelS σ ρ e) : ∀ {l m : List (Nat × Nat × Operand)}, rnP σ l = some m → evs e l = evs (env0 ρ 0) m
  | [], m, hm => by simp [rnP] at hm; subst hm; rfl
  | (a, b, x) :: l, m, hm => by
    simp only [rnP] at hm
    split at hm
    · rename_i y q hy hq
      simp only [Option.some.injEq] at hm
      subst hm
      have h1 := (rn_ok h hy).2
      have h2 := rnP_ok h hq
      simp only [evs, List.map_cons] at h2 ⊢
      rw [h2, h1]; rfl
    · simp at hm

theorem rn1_ok {σ : Sg} {x : Operand} {k : Operand → SOp} {o : SOp} (h : rn1 σ x k = some o) : ∃ y, rn σ x = some y ∧ o = k y := by
  unfold rn1 at h
  split at h
  · rename_i y hy; exact ⟨y, hy, by simpa using h.symm⟩
  · simp at h
theorem rn2_ok {σ : Sg} {x y : Operand} {k : Operand → Operand → SOp} {o : SOp} (h : rn2 σ x y k = some o) : ∃ a b, rn σ x = some a ∧ rn σ y = some b ∧ o = k a b := by
  unfold rn2 at h
  split at h
  · rename_i a b ha hb; exact ⟨a, b, ha, hb, by simpa using h.symm⟩
  · simp at h
theorem rn3_ok {σ : Sg} {x y z : Operand} {k : Operand → Operand → Operand → SOp} {o : SOp} (h : rn3 σ x y z k = some o) : ∃ a b c, rn σ x = some a ∧ rn σ y = some b ∧ rn σ z = some c ∧ o = k a b c := by
  unfold rn3 at h
  split at h
  · rename_i a b c ha hb hc; exact ⟨a, b, c, ha, hb, hc, by simpa using h.symm⟩
  · simp at h

theorem exec_rn {σ : Sg} {ρ : List Value} {e : Env} (h : RelS σ ρ e) (C : Ctx) : ∀ {o o' : SOp}, rnOp σ o = some o' → exec C e o = exec C (env0 ρ 0) o' := by
  intro o o' ho
  have E : ∀ {x y}, rn σ x = some y → ev e x = ev (env0 ρ 0) y := fun hx => (rn_ok h hx).2
  cases o <;> simp only [rnOp] at ho
  all_goals first
    | (obtain ⟨y, hy, rfl⟩ := rn1_ok ho; simp only [exec, E hy])
    | (obtain ⟨a, b, ha, hb, rfl⟩ := rn2_ok ho; simp only [exec, E ha, E hb])
    | (obtain ⟨a, b, c, ha, hb, hc, rfl⟩ := rn3_ok ho; simp only [exec, E ha, E hb, E hc])
    | (simp only [Option.some.injEq] at ho; subst ho; rfl)
    | skip
  case build t ps =>
    split at ho
    · rename_i q hq; simp only [Option.some.injEq] at ho; subst ho; simp only [exec, rnP_ok h hq]
    · simp at ho
  case bslice t n ps =>
    split at ho
    · rename_i q hq; simp only [Option.some.injEq] at ho; subst ho; simp only [exec, rnP_ok h hq]
    · simp at ho
  case fn f a b =>
    split at ho
    · rename_i q r hq hr; simp only [Option.some.injEq] at ho; subst ho
      have h1 := rnL_ok h hq
      have h2 := rnL_ok h hr
      simp only [exec, h1, h2]; rfl
    · simp at ho
  case slice s x a b c =>
    split at ho
    · rename_i x' a' b' c' hx ha hb hc; simp only [Option.some.injEq] at ho; subst ho
      have h1 := rnO_ok h ha
      have h2 := rnO_ok h hb
      have h3 := rnO_ok h hc
      simp only [exec, E hx, h1, h2, h3]; rfl
    · simp at ho
  case sliceArr n s x a b c =>
    split at ho
    · rename_i x' a' b' c' hx ha hb hc; simp only [Option.some.injEq] at ho; subst ho
      have h1 := rnO_ok h ha
      have h2 := rnO_ok h hb
      have h3 := rnO_ok h hc
      simp only [exec, E hx, h1, h2, h3]; rfl
    · simp at ho
  case minmax m l =>
    split at ho
    · rename_i q hq; simp only [Option.some.injEq] at ho; subst ho
      have h1 := rnL_ok h hq
      simp only [exec, h1]; rfl
    · simp at ho
  case call f l =>
    split at ho
    · rename_i q hq; simp only [Option.some.injEq] at ho; subst ho
      have h1 := rnL_ok h hq
      simp only [exec, h1]; rfl
    · simp at ho
  case callv f l =>
    split at ho
    · rename_i g q hg hq; simp only [Option.some.injEq] at ho; subst ho
      have h1 := rnL_ok h hq
      simp only [exec, E hg, h1]; rfl
    · simp at ho

def lookO : SOp → Option Operand
  | .load _ _ x => some x
  | .lookup _ _ m _ => some m
  | .lenM x => some x
  | _ => none
theorem looks_congr {e e' : Env} (o : SOp) (h : ∀ x, lookO o = some x → ev e x = ev e' x) : looks e o = looks e' o := by
  cases o <;> simp only [looks] <;> (try rfl) <;> rw [h _ rfl]
theorem rnOp_look {σ : Sg} {ρ : List Value} {e : Env} (h : RelS σ ρ e) {o o' : SOp} (ho : rnOp σ o = some o') : looks e o = looks (env0 ρ 0) o' ∧ ∀ x, lookO o' = some x → inR ρ.length x := by
  cases o <;> simp only [rnOp] at ho
  all_goals first
    | (obtain ⟨y, hy, rfl⟩ := rn1_ok ho
       have h1 := rn_ok h hy
       refine ⟨?_, fun x hx => ?_⟩
       · simp only [looks] <;> (try rfl) <;> (try (rw [h1.2]; rfl))
       · first | (simp [lookO] at hx; done) | (simp only [lookO, Option.some.injEq] at hx; subst hx; exact h1.1))
    | (obtain ⟨a, b, ha, hb, rfl⟩ := rn2_ok ho
       have h1 := rn_ok h ha
       refine ⟨?_, fun x hx => ?_⟩
       · simp only [looks] <;> (try rfl) <;> (try (rw [h1.2]; rfl))
       · first | (simp [lookO] at hx; done) | (simp only [lookO, Option.some.injEq] at hx; subst hx; exact h1.1))
    | (obtain ⟨a, b, c, ha, hb, hc, rfl⟩ := rn3_ok ho
       refine ⟨?_, fun x hx => ?_⟩
       · simp only [looks]
       · (simp [lookO] at hx; done))
    | (simp only [Option.some.injEq] at ho; subst ho
       refine ⟨?_, fun x hx => ?_⟩
       · simp only [looks]
       · (simp [lookO] at hx; done))
    | (split at ho
       · simp only [Option.some.injEq] at ho; subst ho
         refine ⟨?_, fun x hx => ?_⟩
         · simp only [looks]
         · (simp [lookO] at hx; done)
       · (simp at ho; done))

theorem rnG_ok {σ : Sg} {ρ : List Value} {e : Env} (h : RelS σ ρ e) {g : Option (Nat × Bool)} {g' : Option (Operand × Bool)} (hg : rnG σ g = some g') :
    wants e g = wantsG ρ g' ∧ ∀ x, g' = some x → inR ρ.length x.1 := by
  cases g with
  | none => simp [rnG] at hg; subst hg; exact ⟨rfl, by simp⟩
  | some g =>
    obtain ⟨t, w⟩ := g
    simp only [rnG] at hg
    split at hg
    · rename_i x hx
      simp only [Option.some.injEq] at hg
      subst hg
      obtain ⟨h1, h2⟩ := h t x hx
      refine ⟨?_, fun y hy => by simp only [Option.some.injEq] at hy; subst hy; exact h1⟩
      simp only [wants, wantsG, h2]
      change _ = wantsV (EV ρ x) w
      rfl
    · simp at hg

abbrev LkE := Option (Option (Operand × Bool) × SOp)
/-- What was looked at, by both tellings. -/
def inC (d : Nat) (c : Option (Operand × Bool) × SOp) : Prop := (∀ x, c.1 = some x → inR d x.1) ∧ ∀ x, lookO c.2 = some x → inR d x
def RelL (ρ : List Value) (ls : List LkE) (lg : List Look) : Prop :=
  ∀ j : Nat, match ls.getD j none with
    | some c => inC ρ.length c ∧ lg.getD j .nothing = looksG ρ c
    | none => lg.getD j .nothing = .nothing
theorem looksG_app {ρ ρ' : List Value} (hp : ρ <+: ρ') {c : Option (Operand × Bool) × SOp} (h : inC ρ.length c) : looksG ρ' c = looksG ρ c := by
  obtain ⟨g, o⟩ := c
  obtain ⟨h1, h2⟩ := h
  have e1 : wantsG ρ' g = wantsG ρ g := by
    cases g with
    | none => rfl
    | some g =>
      have := EV_app hp (h1 g rfl)
      simp only [wantsG]
      change wantsV (EV ρ' g.1) g.2 = wantsV (EV ρ g.1) g.2
      rw [this]
  have e2 : looks (env0 ρ' 0) o = looks (env0 ρ 0) o := looks_congr o fun x hx => EV_app hp (h2 x hx)
  simp only [looksG, e1, e2]
theorem RelL.app {ρ ρ' : List Value} {ls : List LkE} {lg : List Look} (h : RelL ρ ls lg) (hp : ρ <+: ρ') : RelL ρ' ls lg := by
  intro j
  have := h j
  split
  · rename_i c hc
    rw [hc] at this
    exact ⟨⟨fun x hx => (this.1.1 x hx).mono hp.length_le, fun x hx => (this.1.2 x hx).mono hp.length_le⟩, by rw [looksG_app hp this.1]; exact this.2⟩
  · rename_i hc
    rw [hc] at this
    exact this
theorem getD_snoc {α : Type} (l : List α) (x d : α) (j : Nat) : (l ++ [x]).getD j d = if j = l.length then x else l.getD j d := by
  simp only [List.getD_eq_getElem?_getD]
  rcases Nat.lt_trichotomy j l.length with h | h | h
  · rw [List.getElem?_append_left h, if_neg (by omega)]
  · subst h; simp
  · rw [if_neg (by omega), List.getElem?_eq_none (by simp; omega), List.getElem?_eq_none (by omega)]
theorem RelL.snoc {ρ : List Value} {ls : List LkE} {lg : List Look} (h : RelL ρ ls lg) (hl : ls.length = lg.length) {c : LkE} {k : Look}
    (hc : match c with | some c => inC ρ.length c ∧ k = looksG ρ c | none => k = .nothing) : RelL ρ (ls ++ [c]) (lg ++ [k]) := by
  intro j
  rw [getD_snoc, getD_snoc, hl]
  by_cases hj : j = lg.length
  · rw [if_pos hj, if_pos hj]; exact hc
  · rw [if_neg hj, if_neg hj]; exact h j
theorem chksOf_ok {ρ : List Value} {ls : List LkE} {lg : List Look} (h : RelL ρ ls lg) (H H' : Heap) : ∀ l : List Nat, ((chksOf ls l).all fun c => same H H' (looksG ρ c)) = l.all fun j => same H H' (lg.getD j .nothing)
  | [] => rfl
  | j :: r => by
    simp only [chksOf]
    have := h j
    split
    · rename_i c hc
      rw [hc] at this
      simp only [List.all_cons, chksOf_ok h H H' r, this.2]
    · rename_i hc
      rw [hc] at this
      simp only [List.all_cons, chksOf_ok h H H' r, this]
      simp [same]

theorem runL_runD (C : Ctx) : ∀ (l : List SI), l.all (fun i => i.chk.isEmpty) = true → ∀ (ls : List Look) (e : Env) (H : Heap), runL C l e H = runD C l ls e H
  | [], _, _, _, _ => rfl
  | i :: r, h, ls, e, H => by
    simp only [List.all_cons, Bool.and_eq_true] at h
    simp only [runL, runD]
    cases stepI C e i H with
    | none => rfl
    | some q =>
      obtain ⟨e', H'⟩ := q
      have : i.chk = [] := by simpa using h.1
      simp only [this, List.all_nil, if_true]
      exact runL_runD C r h.2 _ _ _

abbrev Res := Option (Out Value × Heap)
variable {C : Ctx} {n : Nat}

def RelK (κ : Kw) (ρ : List Value) : Prop := ∀ p ∈ κ, inR ρ.length p.1 ∧ EV ρ p.1 = .bool p.2
theorem RelK.app {κ : Kw} {ρ ρ' : List Value} (h : RelK κ ρ) (hp : ρ <+: ρ') : RelK κ ρ' := fun p hm => ⟨(h p hm).1.mono hp.length_le, by rw [EV_app hp (h p hm).1]; exact (h p hm).2⟩
theorem RelK.cons {κ : Kw} {ρ : List Value} (h : RelK κ ρ) {x : Operand} {b : Bool} (h1 : inR ρ.length x) (h2 : EV ρ x = .bool b) : RelK ((x, b) :: κ) ρ := fun p hm => by
  rcases List.mem_cons.1 hm with rfl | hm
  · exact ⟨h1, h2⟩
  · exact h p hm
theorem known_ok {ρ : List Value} : ∀ {κ : Kw} {x : Operand} {w b : Bool}, RelK κ ρ → known κ x w = some b → wantsV (EV ρ x) w = some b := by
  intro κ
  induction κ with
  | nil =>
    intro x w b h hk
    cases x with
    | const v => exact hk
    | _ => simp [known] at hk
  | cons p κ ih =>
    intro x w b h hk
    obtain ⟨y, c⟩ := p
    have ih' := ih (x := x) (w := w) (b := b) (fun q hq => h q (List.mem_cons_of_mem _ hq))
    have hy := h (y, c) (by simp)
    cases x with
    | const v => exact hk
    | tmp t =>
      simp only [known] at hk
      split at hk
      · rename_i he
        rw [eq_of_oeq _ _ he, hy.2]
        exact hk
      · exact ih' hk
    | global t =>
      simp only [known] at hk
      split at hk
      · rename_i he
        rw [eq_of_oeq _ _ he, hy.2]
        exact hk
      · exact ih' hk
    | func t =>
      simp only [known] at hk
      split at hk
      · rename_i he
        rw [eq_of_oeq _ _ he, hy.2]
        exact hk
      · exact ih' hk
theorem truth_ok {ρ : List Value} : ∀ {κ : Kw} {x : Operand} {t : Bool}, RelK κ ρ → truth κ x = some t → EV ρ x = .bool t := by
  intro κ
  induction κ with
  | nil =>
    intro x t h hk
    unfold truth at hk
    split at hk
    · simp only [Option.some.injEq] at hk; subst hk; rfl
    · simp at hk
  | cons p κ ih =>
    intro x t h hk
    obtain ⟨y, c⟩ := p
    have ih' := ih (x := x) (t := t) (fun q hq => h q (List.mem_cons_of_mem _ hq))
    have hy := h (y, c) (by simp)
    unfold truth at hk
    split at hk
    · simp only [Option.some.injEq] at hk; subst hk; rfl
    · simp only at hk
      split at hk
      · rename_i he
        simp only [Option.some.injEq] at hk
        subst hk
        rw [eq_of_oeq _ _ he]; exact hy.2
      · exact ih' hk
theorem rnOp_alias {σ : Sg} {ρ : List Value} {e : Env} (h : RelS σ ρ e) {κ : Kw} (hκ : RelK κ ρ) {o o' : SOp} {y : Operand} (ho : rnOp σ o = some o') (ha : aliasOf κ o' = some y) :
    inR ρ.length y ∧ (∀ (C : Ctx) H, exec C e o H = some (EV ρ y, H)) ∧ looks e o = .nothing := by
  cases o' with
  | mv x =>
    simp only [aliasOf, Option.some.injEq] at ha
    subst ha
    have hl := (rnOp_look h ho).1
    cases o <;> simp only [rnOp, rn1, rn2, rn3] at ho <;> (try split at ho) <;> simp at ho
    rename_i x0 _ y' hy
    subst ho
    obtain ⟨h1, h2⟩ := rn_ok h hy
    exact ⟨h1, fun C H => by simp only [exec, lift, h2], rfl⟩
  | pick c a b =>
    simp only [aliasOf] at ha
    split at ha
    · rename_i t ht
      have htr := truth_ok hκ ht
      simp only [Option.some.injEq] at ha
      subst ha
      cases o <;> simp only [rnOp, rn1, rn2, rn3] at ho <;> (try split at ho) <;> simp at ho
      rename_i c0 a0 b0 _ _ _ c1 a1 b1 hc ha hb
      obtain ⟨rfl, rfl, rfl⟩ := ho
      obtain ⟨_, h1⟩ := rn_ok h hc
      obtain ⟨h2, h3⟩ := rn_ok h ha
      obtain ⟨h4, h5⟩ := rn_ok h hb
      have h1' : ev e c0 = .bool t := h1.trans htr
      refine ⟨by cases t <;> simp [h2, h4], fun C H => ?_, rfl⟩
      simp only [exec, h1', lift, h3, h5]
      cases t <;> rfl
    · simp at ha
  | _ => simp [aliasOf] at ha

theorem den_op0 (S : Sem Value Heap) (n : Nat) (i : LI) (k : L) (ρ : List Value) (h : Heap) : den S n (.op i k) ρ h = (match S.step ρ i h with
    | some (v, h') => den S n k (ρ ++ [v]) h'
    | none => none) := by
  rw [den]
  cases S.step ρ i h <;> rfl
theorem den_ite0 (S : Sem Value Heap) (n : Nat) (c : Operand) (a b : L) (ρ : List Value) (h : Heap) : den S n (.ite c a b) ρ h = (match S.tst (S.ev ρ c) with
    | some t => if t then den S n a ρ h else den S n b ρ h
    | none => none) := by
  rw [den]
  cases S.tst (S.ev ρ c) <;> rfl

theorem liftR_ok {md : SOp → Md} {K : Env → Heap → Res} : ∀ (l : List SI) {σ : Sg} {d : Nat} {κ : Kw} {ls : List LkE} {k : Sg → Nat → Option L} {x : L}, liftR md l σ d κ ls k = some x →
    ∀ {ρ0 ρ : List Value} {e : Env} {H : Heap} {lg : List Look} {r}, ρ0 <+: ρ → RelS σ ρ e → d = ρ.length → RelK κ ρ → ls.length = lg.length → RelL ρ ls lg →
    (∀ σ' d' x' ρ' e' H' r', k σ' d' = some x' → ρ0 <+: ρ' → RelS σ' ρ' e' → d' = ρ'.length → den (semG C) n x' ρ' H' = some r' → K e' H' = some r') →
    den (semG C) n x ρ H = some r → (match runD C l lg e H with | some (e', H') => K e' H' | none => none) = some r
  | [], σ, d, κ, ls, k, x, hx, ρ0, ρ, e, H, lg, r, hp, hr, hd, hκ, hl, hL, hk, hden => by
    simp only [liftR] at hx
    simp only [runD]
    exact hk σ d x ρ e H r hx hp hr hd hden
  | i :: l, σ, d, κ, ls, k, x, hx, ρ0, ρ, e, H, lg, r, hp, hr, hd, hκ, hl, hL, hk, hden => by
    simp only [liftR] at hx
    split at hx
    · rename_i g o hg ho
      obtain ⟨hw, hgi⟩ := rnG_ok hr hg
      have hex := exec_rn hr C ho
      obtain ⟨hlook, hlo⟩ := rnOp_look hr ho
      -- it isn't wanted
      have no : ∀ {κ : Kw} {x : L} {r}, RelK κ ρ → wants e i.guard = some false → liftR md l (upd σ i.dst (.const skipV)) d κ (ls ++ [none]) k = some x → den (semG C) n x ρ H = some r →
          (match runD C (i :: l) lg e H with | some (e', H') => K e' H' | none => none) = some r := by
        intro κ x r hκ hwf hx hden
        simp only [runD, stepI, hwf]
        have hall : (i.chk.all fun j => same H H (lg.getD j .nothing)) = true := by simp [same_refl]
        simp only [hall, if_true]
        refine liftR_ok l hx hp (hr.upd trivial rfl) hd hκ (by simp [hl]) (hL.snoc hl ?_) hk hden
        simp only [looksI, hwf, Option.some.injEq, Bool.false_eq_true, if_false]
      -- it is
      have yes : ∀ {κ : Kw} {x : L} {r}, RelK κ ρ → wants e i.guard = some true → (match aliasOf κ o with
          | some x => liftR md l (upd σ i.dst x) d κ (ls ++ [none]) k
          | none => match liftR md l (upd σ i.dst (.tmp d)) (d + 1) κ (ls ++ [some (none, o)]) k with
            | some l => some (.op ⟨none, o, md i.op, chksOf ls i.chk⟩ l)
            | none => none) = some x → den (semG C) n x ρ H = some r →
          (match runD C (i :: l) lg e H with | some (e', H') => K e' H' | none => none) = some r := by
        intro κ x r hκ hwt hx hden
        split at hx
        · rename_i y hal
          obtain ⟨h1, h2, h3⟩ := rnOp_alias hr hκ ho hal
          simp only [runD, stepI, hwt, h2]
          have hall : (i.chk.all fun j => same H H (lg.getD j .nothing)) = true := by simp [same_refl]
          simp only [hall, if_true]
          refine liftR_ok l hx hp (hr.upd h1 rfl) hd hκ (by simp [hl]) (hL.snoc hl ?_) hk hden
          simp only [looksI, hwt, if_true, h3]
        · split at hx
          · rename_i x' hx'
            simp only [Option.some.injEq] at hx
            subst hx
            rw [den_op0] at hden
            simp only [semG, stepG, wantsG] at hden
            simp only [runD, stepI, hwt]
            have hlI : looksI e i = looksG ρ (none, o) := by simp only [looksI, looksG, hwt, hlook, wantsG]
            rw [hex]
            cases he : exec C (env0 ρ 0) o H with
            | none => simp [he] at hden
            | some q =>
              obtain ⟨v, H'⟩ := q
              simp only [he] at hden ⊢
              rw [chksOf_ok hL] at hden
              split at hden
              · rename_i v2 H2 heq
                split at heq
                · rename_i hall
                  simp only [Option.some.injEq, Prod.mk.injEq] at heq
                  obtain ⟨rfl, rfl⟩ := heq
                  simp only [hall, if_true]
                  refine liftR_ok l hx' (hp.trans (List.prefix_append _ _)) ((hr.app (List.prefix_append _ [v])).upd (by simp [inR, hd]) (by rw [EV_tmp, hd]; simp)) (by simp [hd]) (hκ.app (List.prefix_append _ _)) (by simp [hl]) (((hL.app (List.prefix_append _ [v])).snoc hl ?_)) hk hden
                  refine ⟨⟨fun x hx => by simp at hx, fun x hx => (hlo x hx).mono (by simp)⟩, ?_⟩
                  rw [hlI, looksG_app (List.prefix_append _ _) ⟨fun x hx => by simp at hx, hlo⟩]
                · simp at heq
              · simp at hden
          · simp at hx
      split at hx
      · exact yes hκ hw hx hden
      · rename_i x0 w
        have hgi' := hgi (x0, w) rfl
        simp only at hgi'
        have hwv : wants e i.guard = wantsV (EV ρ x0) w := hw
        split at hx
        · rename_i hkn; exact yes hκ (by rw [hwv]; exact known_ok hκ hkn) hx hden
        · rename_i hkn; exact no hκ (by rw [hwv]; exact known_ok hκ hkn) hx hden
        · split at hx
          · rename_i a b ha hb
            simp only [Option.some.injEq] at hx
            have hbr : ∃ t, EV ρ x0 = .bool t ∧ den (semG C) n (if t = w then a else b) ρ H = some r := by
              subst hx
              cases w with
              | true =>
                simp only [if_true] at hden
                rw [den_ite0] at hden
                change (match (semG C).tst (EV ρ x0) with | some t => _ | none => none) = _ at hden
                cases hv : EV ρ x0 <;> rw [hv] at hden <;> simp only [semG] at hden <;> try (simp at hden; done)
                rename_i t
                exact ⟨t, rfl, by cases t <;> (simp at hden ⊢; exact hden)⟩
              | false =>
                simp only [Bool.false_eq_true, if_false] at hden
                rw [den_ite0] at hden
                change (match (semG C).tst (EV ρ x0) with | some t => _ | none => none) = _ at hden
                cases hv : EV ρ x0 <;> rw [hv] at hden <;> simp only [semG] at hden <;> try (simp at hden; done)
                rename_i t
                exact ⟨t, rfl, by cases t <;> (simp at hden ⊢; exact hden)⟩
            obtain ⟨t, hev, hden'⟩ := hbr
            by_cases ht : t = w
            · rw [if_pos ht] at hden'
              subst ht
              exact yes (hκ.cons hgi' hev) (by rw [hwv, hev]; simp [wantsV]) ha hden'
            · rw [if_neg ht] at hden'
              have htw : t = !w := by cases t <;> cases w <;> simp_all
              exact no (hκ.cons hgi' (by rw [hev, htw])) (by rw [hwv, hev, htw]; cases w <;> simp [wantsV]) hb hden'
          · simp at hx
    · simp at hx

/-! ### code -/
def aft (Kn : Env → Heap → Res) (Kb : Nat → Env → Heap → Res) (Kr : Env → Heap → Res) : Option ((Ex × Env) × Heap) → Res
  | some ((.nx, e), H) => Kn e H
  | some ((.br j, e), H) => Kb j e H
  | some ((.rt, e), H) => Kr e H
  | none => none
def KOK (C : Ctx) (n : Nat) (k : Kn) (K : Env → Heap → Res) (lb : Nat) : Prop :=
  ∀ σ d lb' x ρ' e H r, k σ d lb' = some x → lb ≤ lb' → RelS σ ρ' e → d = ρ'.length → den (semG C) n x ρ' H = some r → K e H = some r
def KLab (K : Env → Heap → Res) (lb : Nat) : Prop := ∀ e H j vs H', K e H = some (.goto j vs, H') → j < lb
theorem KOK.mono {k : Kn} {K : Env → Heap → Res} {lb lb' : Nat} (h : KOK C n k K lb) (hl : lb ≤ lb') : KOK C n k K lb' :=
  fun σ d lb'' x ρ'' e H r hk hlb hr hd hden => h σ d lb'' x ρ'' e H r hk (Nat.le_trans hl hlb) hr hd hden
theorem KLab.mono {K : Env → Heap → Res} {lb lb' : Nat} (h : KLab K lb) (hl : lb ≤ lb') : KLab K lb' := fun e H j vs H' hk => Nat.lt_of_lt_of_le (h e H j vs H' hk) hl
theorem aft_lab {Kn : Env → Heap → Res} {Kb : Nat → Env → Heap → Res} {Kr : Env → Heap → Res} {lb : Nat} (h1 : KLab Kn lb) (h2 : ∀ j, KLab (Kb j) lb) (h3 : KLab Kr lb) (f : Env → Heap → Option ((Ex × Env) × Heap)) : KLab (fun e H => aft Kn Kb Kr (f e H)) lb := by
  intro e H j vs H' h
  simp only at h
  cases hf : f e H with
  | none => rw [hf] at h; simp [aft] at h
  | some q =>
    obtain ⟨⟨x, e1⟩, H1⟩ := q
    rw [hf] at h
    cases x with
    | nx => exact h1 _ _ _ _ _ h
    | br j => exact h2 _ _ _ _ _ _ h
    | rt => exact h3 _ _ _ _ _ h

theorem lks_ok {σ : Sg} {ρ : List Value} {e : Env} (h : RelS σ ρ e) : ∀ {ps : List Nat} {vs : List Operand}, lks σ ps = some vs → vs.map (EV ρ) = ps.map (get e)
  | [], vs, hv => by simp [lks] at hv; subst hv; rfl
  | t :: r, vs, hv => by
    simp only [lks] at hv
    split at hv
    · rename_i x l hx hl
      simp only [Option.some.injEq] at hv
      subst hv
      simp [lks_ok h hl, (h t x hx).2]
    · simp at hv
theorem lk_params : ∀ (ps : List Nat) (d t : Nat) (x : Operand), lk (params d ps) t = some x → ∃ i, ps[i]? = some t ∧ x = .tmp (d + i)
  | [], d, t, x, h => by simp [params, lk] at h
  | p :: ps, d, t, x, h => by
    simp only [params, lk] at h
    by_cases ht : t = p
    · rw [if_pos ht] at h
      simp only [Option.some.injEq] at h
      exact ⟨0, by simp [ht], by simp [h]⟩
    · rw [if_neg ht] at h
      obtain ⟨i, h1, h2⟩ := lk_params ps (d + 1) t x h
      exact ⟨i + 1, by simpa using h1, by rw [h2, show d + 1 + i = d + (i + 1) by omega]⟩
/-- Behind a join: what was carried. -/
theorem RelS.join (ps : List Nat) (e : Env) : RelS (params 0 ps) (ps.map (get e)) e := by
  intro t x hx
  obtain ⟨i, h1, rfl⟩ := lk_params _ _ _ _ hx
  have hi : i < ps.length := by
    rcases Nat.lt_or_ge i ps.length with h | h
    · exact h
    · rw [List.getElem?_eq_none h] at h1; simp at h1
  refine ⟨by simp [inR]; omega, ?_⟩
  rw [EV_tmp]
  simp [h1]
def KJ (lb : Nat) (ps : List Nat) : Env → Heap → Res := fun e H => some (.goto lb (ps.map (get e)), H)
theorem jump_ok {lb : Nat} {ps : List Nat} (lb' : Nat) : KOK C n (jump lb ps) (KJ lb ps) lb' := by
  intro σ d lb'' x ρ' e H r hj hlb hr hd hden
  unfold jump at hj
  split at hj
  · rename_i vs hvs
    simp only [Option.some.injEq] at hj
    subst hj
    have hd' : den (semG C) n (.goto lb vs) ρ' H = some (.goto lb (vs.map (EV ρ')), H) := rfl
    rw [hd'] at hden
    simp only [Option.some.injEq] at hden
    subst hden
    unfold KJ
    rw [lks_ok hr hvs]
  · simp at hj
theorem KJ_lab {lb : Nat} {ps : List Nat} : KLab (KJ lb ps) (lb + 1) := by
  intro e H j vs H' h
  simp only [KJ, Option.some.injEq, Prod.mk.injEq, Out.goto.injEq] at h
  omega

theorem den_join (S : Sem Value Heap) (n l : Nat) (a b : L) (ρ : List Value) (h : Heap) : den S n (.join l a b) ρ h = (match den S n a ρ h with
    | some (.goto j vs, h') => if j = l then den S n b vs h' else some (.goto j vs, h')
    | r => r) := by
  rw [den]
  cases den S n a ρ h with
  | none => rfl
  | some q =>
    obtain ⟨o, h'⟩ := q
    cases o <;> rfl

theorem liftC_ok {X : LCtx} : ∀ (c : SC) {σ : Sg} {d lb : Nat} {lv : Lv} {kn : Kn} {kb : Nat → Kn} {kr : Kn} {x : L}, liftC X c σ d lb lv kn kb kr = some x →
    ∀ {ρ : List Value} {e : Env} {H : Heap} {r} {Kn : Env → Heap → Res} {Kb : Nat → Env → Heap → Res} {Kr : Env → Heap → Res}, RelS σ ρ e → d = ρ.length →
    KOK C n kn Kn lb → (∀ j, KOK C n (kb j) (Kb j) lb) → KOK C n kr Kr lb → KLab Kn lb → (∀ j, KLab (Kb j) lb) → KLab Kr lb →
    den (semG C) n x ρ H = some r → aft Kn Kb Kr (run C n c e H) = some r := by
  intro c
  induction c with
  | skip =>
    intro σ d lb lv kn kb kr x hx ρ e H r Kn Kb Kr hr hd hkn hkb hkr l1 l2 l3 hden
    simp only [liftC] at hx
    exact hkn σ d lb x ρ e H r hx (Nat.le_refl _) hr hd hden
  | exit i =>
    intro σ d lb lv kn kb kr x hx ρ e H r Kn Kb Kr hr hd hkn hkb hkr l1 l2 l3 hden
    simp only [liftC] at hx
    exact hkb i σ d lb x ρ e H r hx (Nat.le_refl _) hr hd hden
  | ret =>
    intro σ d lb lv kn kb kr x hx ρ e H r Kn Kb Kr hr hd hkn hkb hkr l1 l2 l3 hden
    simp only [liftC] at hx
    exact hkr σ d lb x ρ e H r hx (Nat.le_refl _) hr hd hden
  | drw l =>
    intro σ d lb lv kn kb kr x hx ρ e H r Kn Kb Kr hr hd hkn hkb hkr l1 l2 l3 hden
    simp only [liftC] at hx
    have := liftR_ok (C := C) (n := n) (K := Kn) l hx (ρ0 := ρ) (H := H) (lg := []) (List.prefix_refl _) hr hd (fun p hp => by simp at hp) rfl (fun j => by simp) (fun σ' d' x' ρ' e' H' r' hk hp hr' hd' hden' => hkn (onlyS σ' lv.1) d' lb x' ρ' e' H' r' hk (Nat.le_refl _) (hr'.only lv.1) hd' hden') hden
    simp only [run]
    cases hrun : runD C l [] e H with
    | none => rw [hrun] at this; simp at this
    | some q => rw [hrun] at this; simpa [aft] using this
  | reg l =>
    intro σ d lb lv kn kb kr x hx ρ e H r Kn Kb Kr hr hd hkn hkb hkr l1 l2 l3 hden
    simp only [liftC] at hx
    split at hx
    · rename_i hall
      have := liftR_ok (C := C) (n := n) (K := Kn) l hx (ρ0 := ρ) (H := H) (lg := []) (List.prefix_refl _) hr hd (fun p hp => by simp at hp) rfl (fun j => by simp) (fun σ' d' x' ρ' e' H' r' hk hp hr' hd' hden' => hkn (onlyS σ' lv.1) d' lb x' ρ' e' H' r' hk (Nat.le_refl _) (hr'.only lv.1) hd' hden') hden
      simp only [run, runL_runD C l hall []]
      cases hrun : runD C l [] e H with
      | none => rw [hrun] at this; simp at this
      | some q => rw [hrun] at this; simpa [aft] using this
    · simp at hx
  | blk i b ih =>
    intro σ d lb lv kn kb kr x hx ρ e H r Kn Kb Kr hr hd hkn hkb hkr l1 l2 l3 hden
    simp only [liftC] at hx
    have := ih hx (Kn := Kn) (Kb := fun j => if j = i then Kn else Kb j) (Kr := Kr) hr hd hkn (fun j => by by_cases h : j = i <;> simp [h, hkn, hkb]) hkr l1 (fun j => by by_cases h : j = i <;> simp [h, l1, l2]) l3 hden
    simp only [run]
    cases hrun : run C n b e H with
    | none => rw [hrun] at this; simp [aft] at this
    | some q =>
      obtain ⟨⟨x, e1⟩, H1⟩ := q
      rw [hrun] at this
      cases x with
      | nx => simpa [aft] using this
      | rt => simpa [aft] using this
      | br j =>
        by_cases h : j = i
        · simpa [aft, h] using this
        · simpa [aft, h] using this
  | cond c a b iha ihb =>
    intro σ d lb lv kn kb kr x hx ρ e H r Kn Kb Kr hr hd hkn hkb hkr l1 l2 l3 hden
    simp only [liftC] at hx
    split at hx
    · rename_i hc
      have hev : ev e c = .bool true := (rn_ok hr hc).2
      simp only [run, hev, if_true]
      exact iha hx hr hd hkn hkb hkr l1 l2 l3 hden
    · rename_i hc
      have hev : ev e c = .bool false := (rn_ok hr hc).2
      simp only [run, hev, Bool.false_eq_true, if_false]
      exact ihb hx hr hd hkn hkb hkr l1 l2 l3 hden
    · rename_i c' _ _ hc
      split at hx
      · rename_i xa xb ha hb
        simp only [Option.some.injEq] at hx
        subst hx
        obtain ⟨_, hev⟩ := rn_ok hr hc
        rw [den_ite0] at hden
        simp only [run, hev]
        change (match (semG C).tst (EV ρ c') with | some t => _ | none => none) = _ at hden
        cases hv : EV ρ c' <;> rw [hv] at hden <;> simp only [semG] at hden <;> try (simp at hden; done)
        rename_i t
        cases t with
        | true => simp only [if_true] at hden ⊢; exact iha ha hr hd hkn hkb hkr l1 l2 l3 hden
        | false => simp only [Bool.false_eq_true, if_false] at hden ⊢; exact ihb hb hr hd hkn hkb hkr l1 l2 l3 hden
      · simp at hx
    · simp at hx
  | seq a b iha ihb =>
    intro σ d lb lv kn kb kr x hx ρ e H r Kn Kb Kr hr hd hkn hkb hkr l1 l2 l3 hden
    simp only [liftC] at hx
    have hseq : ∀ q : Option ((Ex × Env) × Heap), run C n a e H = q → aft (fun e H => aft Kn Kb Kr (run C n b e H)) Kb Kr q = aft Kn Kb Kr (run C n (.seq a b) e H) := by
      intro q hq
      simp only [run, hq]
      cases q with
      | none => rfl
      | some q =>
        obtain ⟨⟨x, e1⟩, H1⟩ := q
        cases x <;> rfl
    split at hx
    · split at hx
      · rename_i x1 x2 ha hb
        simp only [Option.some.injEq] at hx
        subst hx
        rw [den_join] at hden
        generalize hps : bitsOf X.nt _ = ps at ha hb
        cases h1 : den (semG C) n x1 ρ H with
        | none => rw [h1] at hden; simp at hden
        | some q =>
          obtain ⟨o, H1⟩ := q
          have IH := iha ha (H := H) (Kn := KJ lb ps) (Kb := Kb) (Kr := Kr) hr hd (jump_ok _) (fun j => (hkb j).mono (Nat.le_succ _)) (hkr.mono (Nat.le_succ _)) KJ_lab (fun j => (l2 j).mono (Nat.le_succ _)) (l3.mono (Nat.le_succ _)) h1
          rw [h1] at hden
          cases hrun : run C n a e H with
          | none => rw [hrun] at IH; simp [aft] at IH
          | some q =>
            obtain ⟨⟨ex, e1⟩, H2⟩ := q
            rw [hrun] at IH
            cases ex with
            | nx =>
              simp only [aft, KJ, Option.some.injEq, Prod.mk.injEq] at IH
              obtain ⟨rfl, rfl⟩ := IH
              simp only [if_true] at hden
              simp only [run, hrun]
              exact ihb hb (ρ := ps.map (get e1)) (.join ps e1) (by simp) (hkn.mono (Nat.le_succ _)) (fun j => (hkb j).mono (Nat.le_succ _)) (hkr.mono (Nat.le_succ _)) (l1.mono (Nat.le_succ _)) (fun j => (l2 j).mono (Nat.le_succ _)) (l3.mono (Nat.le_succ _)) hden
            | br i =>
              simp only [aft] at IH
              simp only [run, hrun, aft]
              cases o with
              | goto j vs =>
                have := l2 i _ _ _ _ _ IH
                simp only [if_neg (Nat.ne_of_lt this)] at hden
                rw [← hden]; exact IH
              | ret vs => rw [← hden]; exact IH
            | rt =>
              simp only [aft] at IH
              simp only [run, hrun, aft]
              cases o with
              | goto j vs =>
                have := l3 _ _ _ _ _ IH
                simp only [if_neg (Nat.ne_of_lt this)] at hden
                rw [← hden]; exact IH
              | ret vs => rw [← hden]; exact IH
      · simp at hx
    · rw [← hseq _ rfl]
      refine iha hx hr hd ?_ hkb hkr (aft_lab l1 l2 l3 _) l2 l3 hden
      intro σ' d' lb' x' ρ' e' H' r' hk hlb hr' hd' hden'
      exact ihb hk hr' hd' (hkn.mono hlb) (fun j => (hkb j).mono hlb) (hkr.mono hlb) (l1.mono hlb) (fun j => (l2 j).mono hlb) (l3.mono hlb) hden'
  | loop b ih =>
    intro σ d lb lv kn kb kr x hx ρ e H r Kn Kb Kr hr hd hkn hkb hkr l1 l2 l3 hden
    simp only [liftC] at hx
    split at hx
    · rename_i init x1 hin hb
      simp only [Option.some.injEq] at hx
      subst hx
      generalize hps : List.filter _ (bitsOf X.nt _) = ps at hin hb
      have hinit : init.map (EV ρ) = ps.map (get e) := lks_ok hr hin
      simp only [den] at hden
      have hi2 : List.map ((semG C).ev ρ) init = ps.map (get e) := hinit
      rw [hi2] at hden
      simp only [run]
      have key : ∀ k e H r, iterN (fun vs h => den (semG C) n x1 vs h) lb k (ps.map (get e)) H = some r → aft Kn Kb Kr (loopN (fun e => run C n b e) k e H) = some r := by
        intro k
        induction k with
        | zero => intro e H r h; simp [iterN] at h
        | succ k ihk =>
          intro e H r h
          simp only [iterN] at h
          simp only [loopN]
          have hpr : ∀ t, get (prune e) t = get e t := prune_get e
          have hmap : ps.map (get e) = ps.map (get (prune e)) := List.map_congr_left fun t _ => (hpr t).symm
          have hrel : RelS (params 0 ps) (ps.map (get e)) (prune e) := by
            rw [hmap]
            exact .join ps _
          cases h1 : den (semG C) n x1 (ps.map (get e)) H with
          | none => rw [h1] at h; simp at h
          | some q =>
            obtain ⟨o, H1⟩ := q
            rw [h1] at h
            have IH := ih hb (Kn := KJ lb ps) (Kb := Kb) (Kr := Kr) hrel (by simp) (jump_ok _) (fun j => (hkb j).mono (Nat.le_succ _)) (hkr.mono (Nat.le_succ _)) KJ_lab (fun j => (l2 j).mono (Nat.le_succ _)) (l3.mono (Nat.le_succ _)) h1
            cases hrun : run C n b (prune e) H with
            | none => rw [hrun] at IH; simp [aft] at IH
            | some q =>
              obtain ⟨⟨ex, e1⟩, H2⟩ := q
              rw [hrun] at IH
              cases ex with
              | nx =>
                simp only [aft, KJ, Option.some.injEq, Prod.mk.injEq] at IH
                obtain ⟨rfl, rfl⟩ := IH
                simp only [if_true] at h
                exact ihk e1 H2 r h
              | br i =>
                simp only [aft] at IH ⊢
                cases o with
                | goto j vs =>
                  have := l2 i _ _ _ _ _ IH
                  simp only [if_neg (Nat.ne_of_lt this)] at h
                  rw [← h]; exact IH
                | ret vs => rw [← h]; exact IH
              | rt =>
                simp only [aft] at IH ⊢
                cases o with
                | goto j vs =>
                  have := l3 _ _ _ _ _ IH
                  simp only [if_neg (Nat.ne_of_lt this)] at h
                  rw [← h]; exact IH
                | ret vs => rw [← h]; exact IH
      exact key n e H r hden
    · simp at hx

theorem resOf_cell' (P : Program) (e : Env) (a : Nat) (t : TypeId) : resOf P e (.cell a t) = aload (isAggT P t) (P.cellsOf t) (get e a) := by
  simp only [resOf, isAggT]
  cases P.underlying t with
  | none => rfl
  | some d => cases d <;> rfl
theorem liftRes_ok : ∀ (l : List ResultVar) {vs : List Operand} {σ : Sg} {d : Nat} {x : L}, liftRes C.P l vs σ d = some x →
    ∀ {ρ : List Value} {e : Env} {H : Heap} {r}, RelS σ ρ e → d = ρ.length → (∀ y ∈ vs, inR ρ.length y) → den (semG C) n x ρ H = some r →
    (match resAll C.P e l H with | some (ws, H') => (some (.ret (vs.map (EV ρ) ++ ws), H') : Res) | none => none) = some r
  | [], vs, σ, d, x, hx, ρ, e, H, r, hr, hd, hv, hden => by
    simp only [liftRes, Option.some.injEq] at hx
    subst hx
    simp only [resAll, List.append_nil]
    exact hden
  | .tmp t :: l, vs, σ, d, x, hx, ρ, e, H, r, hr, hd, hv, hden => by
    simp only [liftRes] at hx
    split at hx
    · rename_i y hy
      have := liftRes_ok l hx hr hd (fun z hz => by
        rcases List.mem_append.1 hz with h | h
        · exact hv z h
        · simp at h; subst h; exact (hr t _ hy).1) hden
      simp only [resAll, resOf, lift]
      cases hq : resAll C.P e l H with
      | none => rw [hq] at this; simp at this
      | some q =>
        rw [hq] at this
        simp only at this ⊢
        rw [← this, (hr t y hy).2]
        simp
    · simp at hx
  | .cell a t :: l, vs, σ, d, x, hx, ρ, e, H, r, hr, hd, hv, hden => by
    simp only [liftRes] at hx
    split at hx
    · rename_i y hy
      split at hx
      · rename_i x' hx'
        simp only [Option.some.injEq] at hx
        subst hx
        simp only [den, semG, stepG, wantsG, exec, List.all_nil, if_true] at hden
        simp only [resAll, resOf_cell']
        have hev : ev (env0 ρ 0) y = get e a := (hr a y hy).2.symm
        rw [hev] at hden
        cases hq : aload (isAggT C.P t) (C.P.cellsOf t) (get e a) H with
        | none => rw [hq] at hden; simp at hden
        | some q =>
          obtain ⟨v, H1⟩ := q
          rw [hq] at hden
          simp only at hden ⊢
          have := liftRes_ok l hx' (hr.app (List.prefix_append _ [v])) (by simp [hd]) (fun z hz => by
            rcases List.mem_append.1 hz with h | h
            · exact (hv z h).mono (by simp)
            · simp at h; subst h; simp [inR, hd]) hden
          cases hq2 : resAll C.P e l H1 with
          | none => rw [hq2] at this; simp at this
          | some q =>
            rw [hq2] at this
            simp only at this ⊢
            rw [← this]
            simp only [List.map_append, List.map_cons, List.map_nil, EV_tmp, hd]
            rw [List.map_congr_left fun y hy => EV_app (List.prefix_append _ _) (hv y hy)]
            simp
      · simp at hx
    · simp at hx

theorem liftFn_ok {md : SOp → Md} {np : Nat} {s : SFn} {l : LFn} (hl : liftFn C.P md np s = some l) {args vs : List Value} {H H' : Heap} (ha : args.length = l.np) (hden : den (semG C) n l.body args H = some (.ret vs, H')) : runFn C n s args H = some (tup vs, H') := by
  unfold liftFn at hl
  split at hl
  · simp at hl
  rename_i hnt
  split at hl
  · rename_i x hx
    simp only [Option.some.injEq] at hl
    subst hl
    simp only at ha hden
    have h0 : RelS (params 0 (List.range np)) args (env0 args 0) := by
      intro t y hy
      obtain ⟨i, h1, rfl⟩ := lk_params _ _ _ _ hy
      have hi : i < np := by
        rcases Nat.lt_or_ge i np with h | h
        · exact h
        · rw [List.getElem?_eq_none (by simpa using h)] at h1; simp at h1
      rw [List.getElem?_range hi] at h1
      simp only [Option.some.injEq] at h1
      subst h1
      refine ⟨by simp [inR, ha, hi], ?_⟩
      simp [EV, ev]
    let K : Env → Heap → Res := fun e H => match resAll C.P e s.res H with | some (ws, H') => some (.ret ws, H') | none => none
    have hK : KLab K 0 := by
      intro e H j vs H' h
      simp only [K] at h
      split at h <;> simp at h
    have hK' : KOK C n (fun σ d _ => liftRes C.P s.res [] σ d) K 0 := by
      intro σ d lb x ρ' e H r hx _ hr hd hden
      have := liftRes_ok s.res hx hr hd (by simp) hden
      simpa [K] using this
    have := liftC_ok (C := C) (n := n) s.body hx (Kn := K) (Kb := fun _ _ _ => none) (Kr := K) h0 ha.symm hK' (fun j σ d lb x ρ' e H r h => by simp at h) hK' hK (fun j e H i vs H' h => by simp at h) hK hden
    unfold runFn
    rw [if_neg (by omega)]
    cases hrun : run C n s.body (env0 args 0) H with
    | none => rw [hrun] at this; simp [aft] at this
    | some q =>
      obtain ⟨⟨ex, e1⟩, H1⟩ := q
      rw [hrun] at this
      cases ex with
      | br j => simp [aft] at this
      | nx | rt =>
        simp only [aft, K] at this
        simp only
        cases hq : resAll C.P e1 s.res H1 with
        | none => rw [hq] at this; simp at this
        | some q =>
          rw [hq] at this
          simp only [Option.some.injEq, Prod.mk.injEq, Out.ret.injEq] at this ⊢
          obtain ⟨rfl, rfl⟩ := this
          exact ⟨rfl, rfl⟩
  · simp at hl

end Go.Proofs.Ytohclaopcejjnaa.G
