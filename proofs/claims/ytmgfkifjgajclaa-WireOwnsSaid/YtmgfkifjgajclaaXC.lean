/- Joined: L2 to I5. -/
import Derived.Test.YtmgfkifjgajclaaXB
set_option linter.unusedVariables false
set_option linter.unusedSimpArgs false
set_option maxRecDepth 20000
set_option maxHeartbeats 2000000
namespace Go.Proofs.Ytmgfkifjgajclaa.G
open Go
def EV (ρ : List Value) (x : Operand) : Value := ev (env0 ρ 0) x
def inR (d : Nat) : Operand → Prop
 | .tmp i => i < d
 | _ => True
theorem EV_tmp (ρ : List Value) (i : Nat) : EV ρ (.tmp i) = (ρ[i]?).getD undef := by
 simp only [EV, ev]
 rw [env0_get ρ 0 i (Nat.zero_le _)]
 simp
theorem EV_app {ρ ρ' : List Value} {x : Operand} (hp : ρ <+: ρ') (h : inR ρ.length x) : EV ρ' x = EV ρ x := by
 cases x with
 | tmp i =>
  obtain ⟨s, rfl⟩ := hp
  simp only [inR] at h
  rw [EV_tmp, EV_tmp, List.getElem?_append_left h]
 | const v => rfl
 | global g => rfl
 | func f => rfl
theorem inR.mono {d d' : Nat} {x : Operand} (h : inR d x) (hd : d ≤ d') : inR d' x := by
 cases x with
 | tmp i => exact Nat.lt_of_lt_of_le h hd
 | const v => trivial
 | global g => trivial
 | func f => trivial
def RelS (σ : Sg) (ρ : List Value) (e : Env) : Prop := ∀ t x, lk σ t = some x → inR ρ.length x ∧ get e t = EV ρ x
theorem RelS.app {σ : Sg} {ρ ρ' : List Value} {e : Env} (h : RelS σ ρ e) (hp : ρ <+: ρ') : RelS σ ρ' e := by
 intro t x hx
 obtain ⟨h1, h2⟩ := h t x hx
 exact ⟨h1.mono hp.length_le, by rw [h2, EV_app hp h1]⟩
theorem lk_filter (p : Nat → Bool) : ∀ (σ : Sg) (t : Nat), lk (σ.filter fun x => p x.1) t = if p t = true then lk σ t else none
 | [], t => by simp [lk]
 | (k, x) :: r, t => by
  by_cases hp : p k = true
  ·rw [List.filter_cons_of_pos (by simpa using hp)]
   simp only [lk]
   by_cases h : t = k
   ·subst h; simp [hp]
   ·simp only [if_neg h]; exact lk_filter p r t
  ·rw [List.filter_cons_of_neg (by simpa using hp)]
   simp only [lk]
   by_cases h : t = k
   ·subst h
    rw [lk_filter p r t]
    simp [hp]
   ·simp only [if_neg h]; exact lk_filter p r t
theorem RelS.only {σ : Sg} {ρ : List Value} {e : Env} (h : RelS σ ρ e) (w : Nat) : RelS (onlyS σ w) ρ e := by
 intro t x hx
 unfold onlyS at hx
 rw [lk_filter (fun k => w.testBit k)] at hx
 split at hx
 ·exact h t x hx
 ·simp at hx
theorem get_put (e : Env) (d : Option Nat) (v : Value) (t : Nat) : get (put e d v) t = if d = some t then v else get e t := by
 cases d with
 | none => simp [put]
 | some d =>
  simp only [put, get, Option.some.injEq]
  by_cases h : t = d
  ·subst h; simp
  ·rw [if_neg h, if_neg (fun h' => h h'.symm)]
theorem RelS.upd {σ : Sg} {ρ : List Value} {e : Env} (h : RelS σ ρ e) {d : Option Nat} {x : Operand} {v : Value} (h1 : inR ρ.length x) (h2 : v = EV ρ x) : RelS (upd σ d x) ρ (put e d v) := by
 intro t y hy
 rw [get_put]
 cases d with
 | none => simpa using h t y hy
 | some d =>
  simp only [G.upd, lk] at hy
  by_cases ht : t = d
  ·subst ht
   simp only [if_true, Option.some.injEq] at hy
   subst hy
   exact ⟨h1, by simp [h2]⟩
  ·rw [if_neg ht, lk_filter (fun k => !(k == d))] at hy
   rw [if_pos (by simpa using ht)] at hy
   rw [if_neg (by simp; exact fun h => ht h.symm)]
   exact h t y hy
theorem rn_ok {σ : Sg} {ρ : List Value} {e : Env} (h : RelS σ ρ e) {x y : Operand} (hx : rn σ x = some y) : inR ρ.length y ∧ ev e x = EV ρ y := by
 cases x with
 | tmp t => exact h t y hx
 | const v => simp [rn] at hx; subst hx; exact ⟨trivial, rfl⟩
 | global v => simp [rn] at hx; subst hx; exact ⟨trivial, rfl⟩
 | func v => simp [rn] at hx; subst hx; exact ⟨trivial, rfl⟩
theorem rnL_ok {σ : Sg} {ρ : List Value} {e : Env} (h : RelS σ ρ e) : ∀ {l m : List Operand}, rnL σ l = some m → l.map (ev e) = m.map (EV ρ)
 | [], m, hm => by simp [rnL] at hm; subst hm; rfl
 | x :: l, m, hm => by
  simp only [rnL] at hm
  split at hm
  ·rename_i y q hy hq
   simp only [Option.some.injEq] at hm
   subst hm
   simp [(rn_ok h hy).2, rnL_ok h hq]
  ·simp at hm
theorem rnO_ok {σ : Sg} {ρ : List Value} {e : Env} (h : RelS σ ρ e) {x y : Option Operand} (hx : rnO σ x = some y) : x.map (ev e) = y.map (EV ρ) := by
 cases x with
 | none => simp [rnO] at hx; subst hx; rfl
 | some x =>
  simp only [rnO] at hx
  split at hx
  ·rename_i z hz
   simp only [Option.some.injEq] at hx
   subst hx
   simp [(rn_ok h hz).2]
  ·simp at hx
theorem rnP_ok {σ : Sg} {ρ : List Value} {e : Env} (h : RelS σ ρ e) : ∀ {l m : List (Nat × Nat × Operand)}, rnP σ l = some m → evs e l = evs (env0 ρ 0) m
 | [], m, hm => by simp [rnP] at hm; subst hm; rfl
 | (a, b, x) :: l, m, hm => by
  simp only [rnP] at hm
  split at hm
  ·rename_i y q hy hq
   simp only [Option.some.injEq] at hm
   subst hm
   have h1 := (rn_ok h hy).2
   have h2 := rnP_ok h hq
   simp only [evs, List.map_cons] at h2 ⊢
   rw [h2, h1]; rfl
  ·simp at hm
theorem rn1_ok {σ : Sg} {x : Operand} {k : Operand → SOp} {o : SOp} (h : rn1 σ x k = some o) : ∃ y, rn σ x = some y ∧ o = k y := by
 unfold rn1 at h
 split at h
 ·rename_i y hy; exact ⟨y, hy, by simpa using h.symm⟩
 ·simp at h
theorem rn2_ok {σ : Sg} {x y : Operand} {k : Operand → Operand → SOp} {o : SOp} (h : rn2 σ x y k = some o) : ∃ a b, rn σ x = some a ∧ rn σ y = some b ∧ o = k a b := by
 unfold rn2 at h
 split at h
 ·rename_i a b ha hb; exact ⟨a, b, ha, hb, by simpa using h.symm⟩
 ·simp at h
theorem rn3_ok {σ : Sg} {x y z : Operand} {k : Operand → Operand → Operand → SOp} {o : SOp} (h : rn3 σ x y z k = some o) : ∃ a b c, rn σ x = some a ∧ rn σ y = some b ∧ rn σ z = some c ∧ o = k a b c := by
 unfold rn3 at h
 split at h
 ·rename_i a b c ha hb hc; exact ⟨a, b, c, ha, hb, hc, by simpa using h.symm⟩
 ·simp at h
theorem exec_rn {σ : Sg} {ρ : List Value} {e : Env} (h : RelS σ ρ e) (C : Ctx) : ∀ {o o' : SOp}, rnOp σ o = some o' → exec C e o = exec C (env0 ρ 0) o' := by
 intro o o' ho
 have E : ∀ {x y}, rn σ x = some y → ev e x = ev (env0 ρ 0) y := fun hx => (rn_ok h hx).2
 cases o <;> simp only [rnOp] at ho
 all_goals first
  | (obtain ⟨y, hy, rfl⟩ := rn1_ok ho; simp only [exec, E hy])
  | (obtain ⟨a, b, ha, hb, rfl⟩ := rn2_ok ho; simp only [exec, E ha, E hb])
  | (obtain ⟨a, b, c, ha, hb, hc, rfl⟩ := rn3_ok ho; simp only [exec, E ha, E hb, E hc])
  | (simp only [Option.some.injEq] at ho; subst ho; rfl)
  | skip
 case build t ps =>
  split at ho
  ·rename_i q hq; simp only [Option.some.injEq] at ho; subst ho; simp only [exec, rnP_ok h hq]
  ·simp at ho
 case bslice t n ps =>
  split at ho
  ·rename_i q hq; simp only [Option.some.injEq] at ho; subst ho; simp only [exec, rnP_ok h hq]
  ·simp at ho
 case fn f a b =>
  split at ho
  ·rename_i q r hq hr; simp only [Option.some.injEq] at ho; subst ho
   have h1 := rnL_ok h hq
   have h2 := rnL_ok h hr
   simp only [exec, h1, h2]; rfl
  ·simp at ho
 case slice s x a b c =>
  split at ho
  ·rename_i x' a' b' c' hx ha hb hc; simp only [Option.some.injEq] at ho; subst ho
   have h1 := rnO_ok h ha
   have h2 := rnO_ok h hb
   have h3 := rnO_ok h hc
   simp only [exec, E hx, h1, h2, h3]; rfl
  ·simp at ho
 case sslice x a b =>
  split at ho
  ·rename_i x' a' b' hx ha hb; simp only [Option.some.injEq] at ho; subst ho
   have h1 := rnO_ok h ha
   have h2 := rnO_ok h hb
   simp only [exec, E hx, h1, h2]; rfl
  ·simp at ho
 case sliceArr n s x a b c =>
  split at ho
  ·rename_i x' a' b' c' hx ha hb hc; simp only [Option.some.injEq] at ho; subst ho
   have h1 := rnO_ok h ha
   have h2 := rnO_ok h hb
   have h3 := rnO_ok h hc
   simp only [exec, E hx, h1, h2, h3]; rfl
  ·simp at ho
 case minmax m l =>
  split at ho
  ·rename_i q hq; simp only [Option.some.injEq] at ho; subst ho
   have h1 := rnL_ok h hq
   simp only [exec, h1]; rfl
  ·simp at ho
 case call f l =>
  split at ho
  ·rename_i q hq; simp only [Option.some.injEq] at ho; subst ho
   have h1 := rnL_ok h hq
   simp only [exec, h1]; rfl
  ·simp at ho
 case callv f l =>
  split at ho
  ·rename_i g q hg hq; simp only [Option.some.injEq] at ho; subst ho
   have h1 := rnL_ok h hq
   simp only [exec, E hg, h1]; rfl
  ·simp at ho
def lookO : SOp → Option Operand
 | .load _ _ x => some x
 | .lookup _ _ _ m _ => some m
 | .lenM x => some x
 | .b2s x => some x
 | _ => none
theorem looks_congr {e e' : Env} (o : SOp) (h : ∀ x, lookO o = some x → ev e x = ev e' x) : looks e o = looks e' o := by
 cases o <;> simp only [looks] <;> (try rfl) <;> rw [h _ rfl]
theorem rnOp_look {σ : Sg} {ρ : List Value} {e : Env} (h : RelS σ ρ e) {o o' : SOp} (ho : rnOp σ o = some o') : looks e o = looks (env0 ρ 0) o' ∧ ∀ x, lookO o' = some x → inR ρ.length x := by
 cases o <;> simp only [rnOp] at ho
 all_goals first
  | (obtain ⟨y, hy, rfl⟩ := rn1_ok ho
     have h1 := rn_ok h hy
     refine ⟨?_, fun x hx => ?_⟩
     ·simp only [looks] <;> (try rfl) <;> (try (rw [h1.2]; rfl))
     ·first | (simp [lookO] at hx; done) | (simp only [lookO, Option.some.injEq] at hx; subst hx; exact h1.1))
  | (obtain ⟨a, b, ha, hb, rfl⟩ := rn2_ok ho
     have h1 := rn_ok h ha
     refine ⟨?_, fun x hx => ?_⟩
     ·simp only [looks] <;> (try rfl) <;> (try (rw [h1.2]; rfl))
     ·first | (simp [lookO] at hx; done) | (simp only [lookO, Option.some.injEq] at hx; subst hx; exact h1.1))
  | (obtain ⟨a, b, c, ha, hb, hc, rfl⟩ := rn3_ok ho
     refine ⟨?_, fun x hx => ?_⟩
     ·simp only [looks]
     ·(simp [lookO] at hx; done))
  | (simp only [Option.some.injEq] at ho; subst ho
     refine ⟨?_, fun x hx => ?_⟩
     ·simp only [looks]
     ·(simp [lookO] at hx; done))
  | (split at ho
     ·simp only [Option.some.injEq] at ho; subst ho
      refine ⟨?_, fun x hx => ?_⟩
      ·simp only [looks]
      ·(simp [lookO] at hx; done)
     ·(simp at ho; done))
theorem rnG_ok {σ : Sg} {ρ : List Value} {e : Env} (h : RelS σ ρ e) {g : Option (Nat × Bool)} {g' : Option (Operand × Bool)} (hg : rnG σ g = some g') :
  wants e g = wantsG ρ g' ∧ ∀ x, g' = some x → inR ρ.length x.1 := by
 cases g with
 | none => simp [rnG] at hg; subst hg; exact ⟨rfl, by simp⟩
 | some g =>
  obtain ⟨t, w⟩ := g
  simp only [rnG] at hg
  split at hg
  ·rename_i x hx
   simp only [Option.some.injEq] at hg
   subst hg
   obtain ⟨h1, h2⟩ := h t x hx
   refine ⟨?_, fun y hy => by simp only [Option.some.injEq] at hy; subst hy; exact h1⟩
   simp only [wants, wantsG, h2]
   change _ = wantsV (EV ρ x) w
   rfl
  ·simp at hg
abbrev LkE := Option (Option (Operand × Bool) × SOp)
def inC (d : Nat) (c : Option (Operand × Bool) × SOp) : Prop := (∀ x, c.1 = some x → inR d x.1) ∧ ∀ x, lookO c.2 = some x → inR d x
def RelL (ρ : List Value) (ls : List LkE) (lg : List Look) : Prop :=
 ∀ j : Nat, match ls.getD j none with
  | some c => inC ρ.length c ∧ lg.getD j .nothing = looksG ρ c
  | none => lg.getD j .nothing = .nothing
theorem looksG_app {ρ ρ' : List Value} (hp : ρ <+: ρ') {c : Option (Operand × Bool) × SOp} (h : inC ρ.length c) : looksG ρ' c = looksG ρ c := by
 obtain ⟨g, o⟩ := c
 obtain ⟨h1, h2⟩ := h
 have e1 : wantsG ρ' g = wantsG ρ g := by
  cases g with
  | none => rfl
  | some g =>
   have := EV_app hp (h1 g rfl)
   simp only [wantsG]
   change wantsV (EV ρ' g.1) g.2 = wantsV (EV ρ g.1) g.2
   rw [this]
 have e2 : looks (env0 ρ' 0) o = looks (env0 ρ 0) o := looks_congr o fun x hx => EV_app hp (h2 x hx)
 simp only [looksG, e1, e2]
theorem RelL.app {ρ ρ' : List Value} {ls : List LkE} {lg : List Look} (h : RelL ρ ls lg) (hp : ρ <+: ρ') : RelL ρ' ls lg := by
 intro j
 have := h j
 split
 ·rename_i c hc
  rw [hc] at this
  exact ⟨⟨fun x hx => (this.1.1 x hx).mono hp.length_le, fun x hx => (this.1.2 x hx).mono hp.length_le⟩, by rw [looksG_app hp this.1]; exact this.2⟩
 ·rename_i hc
  rw [hc] at this
  exact this
theorem getD_snoc {α : Type} (l : List α) (x d : α) (j : Nat) : (l ++ [x]).getD j d = if j = l.length then x else l.getD j d := by
 simp only [List.getD_eq_getElem?_getD]
 rcases Nat.lt_trichotomy j l.length with h | h | h
 ·rw [List.getElem?_append_left h, if_neg (by omega)]
 ·subst h; simp
 ·rw [if_neg (by omega), List.getElem?_eq_none (by simp; omega), List.getElem?_eq_none (by omega)]
theorem RelL.snoc {ρ : List Value} {ls : List LkE} {lg : List Look} (h : RelL ρ ls lg) (hl : ls.length = lg.length) {c : LkE} {k : Look}
  (hc : match c with | some c => inC ρ.length c ∧ k = looksG ρ c | none => k = .nothing) : RelL ρ (ls ++ [c]) (lg ++ [k]) := by
 intro j
 rw [getD_snoc, getD_snoc, hl]
 by_cases hj : j = lg.length
 ·rw [if_pos hj, if_pos hj]; exact hc
 ·rw [if_neg hj, if_neg hj]; exact h j
theorem chksOf_ok {ρ : List Value} {ls : List LkE} {lg : List Look} (h : RelL ρ ls lg) (H H' : Heap) : ∀ l : List Nat, ((chksOf ls l).all fun c => same H H' (looksG ρ c)) = l.all fun j => same H H' (lg.getD j .nothing)
 | [] => rfl
 | j :: r => by
  simp only [chksOf]
  have := h j
  split
  ·rename_i c hc
   rw [hc] at this
   simp only [List.all_cons, chksOf_ok h H H' r, this.2]
  ·rename_i hc
   rw [hc] at this
   simp only [List.all_cons, chksOf_ok h H H' r, this]
   simp [same]
theorem runL_runD (C : Ctx) : ∀ (l : List SI), l.all (fun i => i.chk.isEmpty) = true → ∀ (ls : List Look) (e : Env) (H : Heap), runL C l e H = runD C l ls e H
 | [], _, _, _, _ => rfl
 | i :: r, h, ls, e, H => by
  simp only [List.all_cons, Bool.and_eq_true] at h
  simp only [runL, runD]
  cases stepI C e i H with
  | none => rfl
  | some q =>
   obtain ⟨e', H'⟩ := q
   have : i.chk = [] := by simpa using h.1
   simp only [this, List.all_nil, if_true]
   exact runL_runD C r h.2 _ _ _
abbrev Res := Option (Out Value × Heap)
variable {C : Ctx} {n : Nat}
def RelK (κ : Kw) (ρ : List Value) : Prop := ∀ p ∈ κ, inR ρ.length p.1 ∧ EV ρ p.1 = .bool p.2
theorem RelK.app {κ : Kw} {ρ ρ' : List Value} (h : RelK κ ρ) (hp : ρ <+: ρ') : RelK κ ρ' := fun p hm => ⟨(h p hm).1.mono hp.length_le, by rw [EV_app hp (h p hm).1]; exact (h p hm).2⟩
theorem RelK.cons {κ : Kw} {ρ : List Value} (h : RelK κ ρ) {x : Operand} {b : Bool} (h1 : inR ρ.length x) (h2 : EV ρ x = .bool b) : RelK ((x, b) :: κ) ρ := fun p hm => by
 rcases List.mem_cons.1 hm with rfl | hm
 ·exact ⟨h1, h2⟩
 ·exact h p hm
theorem known_ok {ρ : List Value} : ∀ {κ : Kw} {x : Operand} {w b : Bool}, RelK κ ρ → known κ x w = some b → wantsV (EV ρ x) w = some b := by
 intro κ
 induction κ with
 | nil =>
  intro x w b h hk
  cases x with
  | const v => exact hk
  | _ => simp [known] at hk
 | cons p κ ih =>
  intro x w b h hk
  obtain ⟨y, c⟩ := p
  have ih' := ih (x := x) (w := w) (b := b) (fun q hq => h q (List.mem_cons_of_mem _ hq))
  have hy := h (y, c) (by simp)
  cases x with
  | const v => exact hk
  | tmp t =>
   simp only [known] at hk
   split at hk
   ·rename_i he
    rw [eq_of_oeq _ _ he, hy.2]
    exact hk
   ·exact ih' hk
  | global t =>
   simp only [known] at hk
   split at hk
   ·rename_i he
    rw [eq_of_oeq _ _ he, hy.2]
    exact hk
   ·exact ih' hk
  | func t =>
   simp only [known] at hk
   split at hk
   ·rename_i he
    rw [eq_of_oeq _ _ he, hy.2]
    exact hk
   ·exact ih' hk
theorem truth_ok {ρ : List Value} : ∀ {κ : Kw} {x : Operand} {t : Bool}, RelK κ ρ → truth κ x = some t → EV ρ x = .bool t := by
 intro κ
 induction κ with
 | nil =>
  intro x t h hk
  unfold truth at hk
  split at hk
  ·simp only [Option.some.injEq] at hk; subst hk; rfl
  ·simp at hk
 | cons p κ ih =>
  intro x t h hk
  obtain ⟨y, c⟩ := p
  have ih' := ih (x := x) (t := t) (fun q hq => h q (List.mem_cons_of_mem _ hq))
  have hy := h (y, c) (by simp)
  unfold truth at hk
  split at hk
  ·simp only [Option.some.injEq] at hk; subst hk; rfl
  ·simp only at hk
   split at hk
   ·rename_i he
    simp only [Option.some.injEq] at hk
    subst hk
    rw [eq_of_oeq _ _ he]; exact hy.2
   ·exact ih' hk
theorem rnOp_alias {σ : Sg} {ρ : List Value} {e : Env} (h : RelS σ ρ e) {κ : Kw} (hκ : RelK κ ρ) {o o' : SOp} {y : Operand} (ho : rnOp σ o = some o') (ha : aliasOf κ o' = some y) :
  inR ρ.length y ∧ (∀ (C : Ctx) H, exec C e o H = some (EV ρ y, H)) ∧ looks e o = .nothing := by
 cases o' with
 | mv x =>
  simp only [aliasOf, Option.some.injEq] at ha
  subst ha
  have hl := (rnOp_look h ho).1
  cases o <;> simp only [rnOp, rn1, rn2, rn3] at ho <;> (try split at ho) <;> simp at ho
  rename_i x0 _ y' hy
  subst ho
  obtain ⟨h1, h2⟩ := rn_ok h hy
  exact ⟨h1, fun C H => by simp only [exec, lift, h2], rfl⟩
 | pick c a b =>
  simp only [aliasOf] at ha
  split at ha
  ·rename_i t ht
   have htr := truth_ok hκ ht
   simp only [Option.some.injEq] at ha
   subst ha
   cases o <;> simp only [rnOp, rn1, rn2, rn3] at ho <;> (try split at ho) <;> simp at ho
   rename_i c0 a0 b0 _ _ _ c1 a1 b1 hc ha hb
   obtain ⟨rfl, rfl, rfl⟩ := ho
   obtain ⟨_, h1⟩ := rn_ok h hc
   obtain ⟨h2, h3⟩ := rn_ok h ha
   obtain ⟨h4, h5⟩ := rn_ok h hb
   have h1' : ev e c0 = .bool t := h1.trans htr
   refine ⟨by cases t <;> simp [h2, h4], fun C H => ?_, rfl⟩
   simp only [exec, h1', lift, h3, h5]
   cases t <;> rfl
  ·simp at ha
 | _ => simp [aliasOf] at ha
theorem den_op0 (S : Sem Value Heap) (n : Nat) (i : LI) (k : L) (ρ : List Value) (h : Heap) : den S n (.op i k) ρ h = (match S.step ρ i h with
  | some (v, h') => den S n k (ρ ++ [v]) h'
  | none => none) := by
 rw [den]
 cases S.step ρ i h <;> rfl
theorem den_ite0 (S : Sem Value Heap) (n : Nat) (c : Operand) (a b : L) (ρ : List Value) (h : Heap) : den S n (.ite c a b) ρ h = (match S.tst (S.ev ρ c) with
  | some t => if t then den S n a ρ h else den S n b ρ h
  | none => none) := by
 rw [den]
 cases S.tst (S.ev ρ c) <;> rfl
theorem liftR_ok {md : SOp → Md} {K : Env → Heap → Res} : ∀ (l : List SI) {σ : Sg} {d : Nat} {κ : Kw} {ls : List LkE} {k : Sg → Nat → Option L} {x : L}, liftR md l σ d κ ls k = some x →
  ∀ {ρ0 ρ : List Value} {e : Env} {H : Heap} {lg : List Look} {r}, ρ0 <+: ρ → RelS σ ρ e → d = ρ.length → RelK κ ρ → ls.length = lg.length → RelL ρ ls lg →
  (∀ σ' d' x' ρ' e' H' r', k σ' d' = some x' → ρ0 <+: ρ' → RelS σ' ρ' e' → d' = ρ'.length → den (semG C) n x' ρ' H' = some r' → K e' H' = some r') →
  den (semG C) n x ρ H = some r → (match runD C l lg e H with | some (e', H') => K e' H' | none => none) = some r
 | [], σ, d, κ, ls, k, x, hx, ρ0, ρ, e, H, lg, r, hp, hr, hd, hκ, hl, hL, hk, hden => by
  simp only [liftR] at hx
  simp only [runD]
  exact hk σ d x ρ e H r hx hp hr hd hden
 | i :: l, σ, d, κ, ls, k, x, hx, ρ0, ρ, e, H, lg, r, hp, hr, hd, hκ, hl, hL, hk, hden => by
  simp only [liftR] at hx
  split at hx
  ·rename_i g o hg ho
   obtain ⟨hw, hgi⟩ := rnG_ok hr hg
   have hex := exec_rn hr C ho
   obtain ⟨hlook, hlo⟩ := rnOp_look hr ho
   -- it isn't wanted
   have no : ∀ {κ : Kw} {x : L} {r}, RelK κ ρ → wants e i.guard = some false → liftR md l (upd σ i.dst (.const skipV)) d κ (ls ++ [none]) k = some x → den (semG C) n x ρ H = some r →
     (match runD C (i :: l) lg e H with | some (e', H') => K e' H' | none => none) = some r := by
    intro κ x r hκ hwf hx hden
    simp only [runD, stepI, hwf]
    have hall : (i.chk.all fun j => same H H (lg.getD j .nothing)) = true := by simp [same_refl]
    simp only [hall, if_true]
    refine liftR_ok l hx hp (hr.upd trivial rfl) hd hκ (by simp [hl]) (hL.snoc hl ?_) hk hden
    simp only [looksI, hwf, Option.some.injEq, Bool.false_eq_true, if_false]
   -- it is
   have yes : ∀ {κ : Kw} {x : L} {r}, RelK κ ρ → wants e i.guard = some true → (match aliasOf κ o with
     | some x => liftR md l (upd σ i.dst x) d κ (ls ++ [none]) k
     | none => match liftR md l (upd σ i.dst (.tmp d)) (d + 1) κ (ls ++ [some (none, o)]) k with
      | some l => some (.op ⟨none, o, md i.op, chksOf ls i.chk⟩ l)
      | none => none) = some x → den (semG C) n x ρ H = some r →
     (match runD C (i :: l) lg e H with | some (e', H') => K e' H' | none => none) = some r := by
    intro κ x r hκ hwt hx hden
    split at hx
    ·rename_i y hal
     obtain ⟨h1, h2, h3⟩ := rnOp_alias hr hκ ho hal
     simp only [runD, stepI, hwt, h2]
     have hall : (i.chk.all fun j => same H H (lg.getD j .nothing)) = true := by simp [same_refl]
     simp only [hall, if_true]
     refine liftR_ok l hx hp (hr.upd h1 rfl) hd hκ (by simp [hl]) (hL.snoc hl ?_) hk hden
     simp only [looksI, hwt, if_true, h3]
    ·split at hx
     ·rename_i x' hx'
      simp only [Option.some.injEq] at hx
      subst hx
      rw [den_op0] at hden
      simp only [semG, stepG, wantsG] at hden
      simp only [runD, stepI, hwt]
      have hlI : looksI e i = looksG ρ (none, o) := by simp only [looksI, looksG, hwt, hlook, wantsG]
      rw [hex]
      cases he : exec C (env0 ρ 0) o H with
      | none => simp [he] at hden
      | some q =>
       obtain ⟨v, H'⟩ := q
       simp only [he] at hden ⊢
       rw [chksOf_ok hL] at hden
       split at hden
       ·rename_i v2 H2 heq
        split at heq
        ·rename_i hall
         simp only [Option.some.injEq, Prod.mk.injEq] at heq
         obtain ⟨rfl, rfl⟩ := heq
         simp only [hall, if_true]
         refine liftR_ok l hx' (hp.trans (List.prefix_append _ _)) ((hr.app (List.prefix_append _ [v])).upd (by simp [inR, hd]) (by rw [EV_tmp, hd]; simp)) (by simp [hd]) (hκ.app (List.prefix_append _ _)) (by simp [hl]) (((hL.app (List.prefix_append _ [v])).snoc hl ?_)) hk hden
         refine ⟨⟨fun x hx => by simp at hx, fun x hx => (hlo x hx).mono (by simp)⟩, ?_⟩
         rw [hlI, looksG_app (List.prefix_append _ _) ⟨fun x hx => by simp at hx, hlo⟩]
        ·simp at heq
       ·simp at hden
     ·simp at hx
   split at hx
   ·exact yes hκ hw hx hden
   ·rename_i x0 w
    have hgi' := hgi (x0, w) rfl
    simp only at hgi'
    have hwv : wants e i.guard = wantsV (EV ρ x0) w := hw
    split at hx
    ·rename_i hkn; exact yes hκ (by rw [hwv]; exact known_ok hκ hkn) hx hden
    ·rename_i hkn; exact no hκ (by rw [hwv]; exact known_ok hκ hkn) hx hden
    ·split at hx
     ·rename_i a b ha hb
      simp only [Option.some.injEq] at hx
      have hbr : ∃ t, EV ρ x0 = .bool t ∧ den (semG C) n (if t = w then a else b) ρ H = some r := by
       subst hx
       cases w with
       | true =>
        simp only [if_true] at hden
        rw [den_ite0] at hden
        change (match (semG C).tst (EV ρ x0) with | some t => _ | none => none) = _ at hden
        cases hv : EV ρ x0 <;> rw [hv] at hden <;> simp only [semG] at hden <;> try (simp at hden; done)
        rename_i t
        exact ⟨t, rfl, by cases t <;> (simp at hden ⊢; exact hden)⟩
       | false =>
        simp only [Bool.false_eq_true, if_false] at hden
        rw [den_ite0] at hden
        change (match (semG C).tst (EV ρ x0) with | some t => _ | none => none) = _ at hden
        cases hv : EV ρ x0 <;> rw [hv] at hden <;> simp only [semG] at hden <;> try (simp at hden; done)
        rename_i t
        exact ⟨t, rfl, by cases t <;> (simp at hden ⊢; exact hden)⟩
      obtain ⟨t, hev, hden'⟩ := hbr
      by_cases ht : t = w
      ·rw [if_pos ht] at hden'
       subst ht
       exact yes (hκ.cons hgi' hev) (by rw [hwv, hev]; simp [wantsV]) ha hden'
      ·rw [if_neg ht] at hden'
       have htw : t = !w := by cases t <;> cases w <;> simp_all
       exact no (hκ.cons hgi' (by rw [hev, htw])) (by rw [hwv, hev, htw]; cases w <;> simp [wantsV]) hb hden'
     ·simp at hx
  ·simp at hx
def aft (Kn : Env → Heap → Res) (Kb : Nat → Env → Heap → Res) (Kr : Env → Heap → Res) : Option ((Ex × Env) × Heap) → Res
 | some ((.nx, e), H) => Kn e H
 | some ((.br j, e), H) => Kb j e H
 | some ((.rt, e), H) => Kr e H
 | none => none
def KOK (C : Ctx) (n : Nat) (k : Kn) (K : Env → Heap → Res) (lb : Nat) : Prop :=
 ∀ σ d lb' x ρ' e H r, k σ d lb' = some x → lb ≤ lb' → RelS σ ρ' e → d = ρ'.length → den (semG C) n x ρ' H = some r → K e H = some r
def KLab (K : Env → Heap → Res) (lb : Nat) : Prop := ∀ e H j vs H', K e H = some (.goto j vs, H') → j < lb
theorem KOK.mono {k : Kn} {K : Env → Heap → Res} {lb lb' : Nat} (h : KOK C n k K lb) (hl : lb ≤ lb') : KOK C n k K lb' :=
 fun σ d lb'' x ρ'' e H r hk hlb hr hd hden => h σ d lb'' x ρ'' e H r hk (Nat.le_trans hl hlb) hr hd hden
theorem KLab.mono {K : Env → Heap → Res} {lb lb' : Nat} (h : KLab K lb) (hl : lb ≤ lb') : KLab K lb' := fun e H j vs H' hk => Nat.lt_of_lt_of_le (h e H j vs H' hk) hl
theorem aft_lab {Kn : Env → Heap → Res} {Kb : Nat → Env → Heap → Res} {Kr : Env → Heap → Res} {lb : Nat} (h1 : KLab Kn lb) (h2 : ∀ j, KLab (Kb j) lb) (h3 : KLab Kr lb) (f : Env → Heap → Option ((Ex × Env) × Heap)) : KLab (fun e H => aft Kn Kb Kr (f e H)) lb := by
 intro e H j vs H' h
 simp only at h
 cases hf : f e H with
 | none => rw [hf] at h; simp [aft] at h
 | some q =>
  obtain ⟨⟨x, e1⟩, H1⟩ := q
  rw [hf] at h
  cases x with
  | nx => exact h1 _ _ _ _ _ h
  | br j => exact h2 _ _ _ _ _ _ h
  | rt => exact h3 _ _ _ _ _ h
theorem lks_ok {σ : Sg} {ρ : List Value} {e : Env} (h : RelS σ ρ e) : ∀ {ps : List Nat} {vs : List Operand}, lks σ ps = some vs → vs.map (EV ρ) = ps.map (get e)
 | [], vs, hv => by simp [lks] at hv; subst hv; rfl
 | t :: r, vs, hv => by
  simp only [lks] at hv
  split at hv
  ·rename_i x l hx hl
   simp only [Option.some.injEq] at hv
   subst hv
   simp [lks_ok h hl, (h t x hx).2]
  ·simp at hv
theorem lk_params : ∀ (ps : List Nat) (d t : Nat) (x : Operand), lk (params d ps) t = some x → ∃ i, ps[i]? = some t ∧ x = .tmp (d + i)
 | [], d, t, x, h => by simp [params, lk] at h
 | p :: ps, d, t, x, h => by
  simp only [params, lk] at h
  by_cases ht : t = p
  ·rw [if_pos ht] at h
   simp only [Option.some.injEq] at h
   exact ⟨0, by simp [ht], by simp [h]⟩
  ·rw [if_neg ht] at h
   obtain ⟨i, h1, h2⟩ := lk_params ps (d + 1) t x h
   exact ⟨i + 1, by simpa using h1, by rw [h2, show d + 1 + i = d + (i + 1) by omega]⟩
theorem RelS.join (ps : List Nat) (e : Env) : RelS (params 0 ps) (ps.map (get e)) e := by
 intro t x hx
 obtain ⟨i, h1, rfl⟩ := lk_params _ _ _ _ hx
 have hi : i < ps.length := by
  rcases Nat.lt_or_ge i ps.length with h | h
  ·exact h
  ·rw [List.getElem?_eq_none h] at h1; simp at h1
 refine ⟨by simp [inR]; omega, ?_⟩
 rw [EV_tmp]
 simp [h1]
def KJ (lb : Nat) (ps : List Nat) : Env → Heap → Res := fun e H => some (.goto lb (ps.map (get e)), H)
theorem jump_ok {lb : Nat} {ps : List Nat} (lb' : Nat) : KOK C n (jump lb ps) (KJ lb ps) lb' := by
 intro σ d lb'' x ρ' e H r hj hlb hr hd hden
 unfold jump at hj
 split at hj
 ·rename_i vs hvs
  simp only [Option.some.injEq] at hj
  subst hj
  have hd' : den (semG C) n (.goto lb vs) ρ' H = some (.goto lb (vs.map (EV ρ')), H) := rfl
  rw [hd'] at hden
  simp only [Option.some.injEq] at hden
  subst hden
  unfold KJ
  rw [lks_ok hr hvs]
 ·simp at hj
theorem KJ_lab {lb : Nat} {ps : List Nat} : KLab (KJ lb ps) (lb + 1) := by
 intro e H j vs H' h
 simp only [KJ, Option.some.injEq, Prod.mk.injEq, Out.goto.injEq] at h
 omega
theorem den_join (S : Sem Value Heap) (n l : Nat) (a b : L) (ρ : List Value) (h : Heap) : den S n (.join l a b) ρ h = (match den S n a ρ h with
  | some (.goto j vs, h') => if j = l then den S n b vs h' else some (.goto j vs, h')
  | r => r) := by
 rw [den]
 cases den S n a ρ h with
 | none => rfl
 | some q =>
  obtain ⟨o, h'⟩ := q
  cases o <;> rfl
theorem liftC_ok {X : LCtx} : ∀ (c : SC) {σ : Sg} {d lb : Nat} {lv : Lv} {kn : Kn} {kb : Nat → Kn} {kr : Kn} {x : L}, liftC X c σ d lb lv kn kb kr = some x →
  ∀ {ρ : List Value} {e : Env} {H : Heap} {r} {Kn : Env → Heap → Res} {Kb : Nat → Env → Heap → Res} {Kr : Env → Heap → Res}, RelS σ ρ e → d = ρ.length →
  KOK C n kn Kn lb → (∀ j, KOK C n (kb j) (Kb j) lb) → KOK C n kr Kr lb → KLab Kn lb → (∀ j, KLab (Kb j) lb) → KLab Kr lb →
  den (semG C) n x ρ H = some r → aft Kn Kb Kr (run C n c e H) = some r := by
 intro c
 induction c with
 | skip =>
  intro σ d lb lv kn kb kr x hx ρ e H r Kn Kb Kr hr hd hkn hkb hkr l1 l2 l3 hden
  simp only [liftC] at hx
  exact hkn σ d lb x ρ e H r hx (Nat.le_refl _) hr hd hden
 | exit i =>
  intro σ d lb lv kn kb kr x hx ρ e H r Kn Kb Kr hr hd hkn hkb hkr l1 l2 l3 hden
  simp only [liftC] at hx
  exact hkb i σ d lb x ρ e H r hx (Nat.le_refl _) hr hd hden
 | ret =>
  intro σ d lb lv kn kb kr x hx ρ e H r Kn Kb Kr hr hd hkn hkb hkr l1 l2 l3 hden
  simp only [liftC] at hx
  exact hkr σ d lb x ρ e H r hx (Nat.le_refl _) hr hd hden
 | drw l =>
  intro σ d lb lv kn kb kr x hx ρ e H r Kn Kb Kr hr hd hkn hkb hkr l1 l2 l3 hden
  simp only [liftC] at hx
  have := liftR_ok (C := C) (n := n) (K := Kn) l hx (ρ0 := ρ) (H := H) (lg := []) (List.prefix_refl _) hr hd (fun p hp => by simp at hp) rfl (fun j => by simp) (fun σ' d' x' ρ' e' H' r' hk hp hr' hd' hden' => hkn (onlyS σ' lv.1) d' lb x' ρ' e' H' r' hk (Nat.le_refl _) (hr'.only lv.1) hd' hden') hden
  simp only [run]
  cases hrun : runD C l [] e H with
  | none => rw [hrun] at this; simp at this
  | some q => rw [hrun] at this; simpa [aft] using this
 | reg l =>
  intro σ d lb lv kn kb kr x hx ρ e H r Kn Kb Kr hr hd hkn hkb hkr l1 l2 l3 hden
  simp only [liftC] at hx
  split at hx
  ·rename_i hall
   have := liftR_ok (C := C) (n := n) (K := Kn) l hx (ρ0 := ρ) (H := H) (lg := []) (List.prefix_refl _) hr hd (fun p hp => by simp at hp) rfl (fun j => by simp) (fun σ' d' x' ρ' e' H' r' hk hp hr' hd' hden' => hkn (onlyS σ' lv.1) d' lb x' ρ' e' H' r' hk (Nat.le_refl _) (hr'.only lv.1) hd' hden') hden
   simp only [run, runL_runD C l hall []]
   cases hrun : runD C l [] e H with
   | none => rw [hrun] at this; simp at this
   | some q => rw [hrun] at this; simpa [aft] using this
  ·simp at hx
 | blk i b ih =>
  intro σ d lb lv kn kb kr x hx ρ e H r Kn Kb Kr hr hd hkn hkb hkr l1 l2 l3 hden
  simp only [liftC] at hx
  have := ih hx (Kn := Kn) (Kb := fun j => if j = i then Kn else Kb j) (Kr := Kr) hr hd hkn (fun j => by by_cases h : j = i <;> simp [h, hkn, hkb]) hkr l1 (fun j => by by_cases h : j = i <;> simp [h, l1, l2]) l3 hden
  simp only [run]
  cases hrun : run C n b e H with
  | none => rw [hrun] at this; simp [aft] at this
  | some q =>
   obtain ⟨⟨x, e1⟩, H1⟩ := q
   rw [hrun] at this
   cases x with
   | nx => simpa [aft] using this
   | rt => simpa [aft] using this
   | br j =>
    by_cases h : j = i
    ·simpa [aft, h] using this
    ·simpa [aft, h] using this
 | cond c a b iha ihb =>
  intro σ d lb lv kn kb kr x hx ρ e H r Kn Kb Kr hr hd hkn hkb hkr l1 l2 l3 hden
  simp only [liftC] at hx
  split at hx
  ·rename_i hc
   have hev : ev e c = .bool true := (rn_ok hr hc).2
   simp only [run, hev, if_true]
   exact iha hx hr hd hkn hkb hkr l1 l2 l3 hden
  ·rename_i hc
   have hev : ev e c = .bool false := (rn_ok hr hc).2
   simp only [run, hev, Bool.false_eq_true, if_false]
   exact ihb hx hr hd hkn hkb hkr l1 l2 l3 hden
  ·rename_i c' _ _ hc
   split at hx
   ·rename_i xa xb ha hb
    simp only [Option.some.injEq] at hx
    subst hx
    obtain ⟨_, hev⟩ := rn_ok hr hc
    rw [den_ite0] at hden
    simp only [run, hev]
    change (match (semG C).tst (EV ρ c') with | some t => _ | none => none) = _ at hden
    cases hv : EV ρ c' <;> rw [hv] at hden <;> simp only [semG] at hden <;> try (simp at hden; done)
    rename_i t
    cases t with
    | true => simp only [if_true] at hden ⊢; exact iha ha hr hd hkn hkb hkr l1 l2 l3 hden
    | false => simp only [Bool.false_eq_true, if_false] at hden ⊢; exact ihb hb hr hd hkn hkb hkr l1 l2 l3 hden
   ·simp at hx
  ·simp at hx
 | seq a b iha ihb =>
  intro σ d lb lv kn kb kr x hx ρ e H r Kn Kb Kr hr hd hkn hkb hkr l1 l2 l3 hden
  simp only [liftC] at hx
  have hseq : ∀ q : Option ((Ex × Env) × Heap), run C n a e H = q → aft (fun e H => aft Kn Kb Kr (run C n b e H)) Kb Kr q = aft Kn Kb Kr (run C n (.seq a b) e H) := by
   intro q hq
   simp only [run, hq]
   cases q with
   | none => rfl
   | some q =>
    obtain ⟨⟨x, e1⟩, H1⟩ := q
    cases x <;> rfl
  split at hx
  ·split at hx
   ·rename_i x1 x2 ha hb
    simp only [Option.some.injEq] at hx
    subst hx
    rw [den_join] at hden
    generalize hps : bitsOf X.nt _ = ps at ha hb
    cases h1 : den (semG C) n x1 ρ H with
    | none => rw [h1] at hden; simp at hden
    | some q =>
     obtain ⟨o, H1⟩ := q
     have IH := iha ha (H := H) (Kn := KJ lb ps) (Kb := Kb) (Kr := Kr) hr hd (jump_ok _) (fun j => (hkb j).mono (Nat.le_succ _)) (hkr.mono (Nat.le_succ _)) KJ_lab (fun j => (l2 j).mono (Nat.le_succ _)) (l3.mono (Nat.le_succ _)) h1
     rw [h1] at hden
     cases hrun : run C n a e H with
     | none => rw [hrun] at IH; simp [aft] at IH
     | some q =>
      obtain ⟨⟨ex, e1⟩, H2⟩ := q
      rw [hrun] at IH
      cases ex with
      | nx =>
       simp only [aft, KJ, Option.some.injEq, Prod.mk.injEq] at IH
       obtain ⟨rfl, rfl⟩ := IH
       simp only [if_true] at hden
       simp only [run, hrun]
       exact ihb hb (ρ := ps.map (get e1)) (.join ps e1) (by simp) (hkn.mono (Nat.le_succ _)) (fun j => (hkb j).mono (Nat.le_succ _)) (hkr.mono (Nat.le_succ _)) (l1.mono (Nat.le_succ _)) (fun j => (l2 j).mono (Nat.le_succ _)) (l3.mono (Nat.le_succ _)) hden
      | br i =>
       simp only [aft] at IH
       simp only [run, hrun, aft]
       cases o with
       | goto j vs =>
        have := l2 i _ _ _ _ _ IH
        simp only [if_neg (Nat.ne_of_lt this)] at hden
        rw [← hden]; exact IH
       | ret vs => rw [← hden]; exact IH
      | rt =>
       simp only [aft] at IH
       simp only [run, hrun, aft]
       cases o with
       | goto j vs =>
        have := l3 _ _ _ _ _ IH
        simp only [if_neg (Nat.ne_of_lt this)] at hden
        rw [← hden]; exact IH
       | ret vs => rw [← hden]; exact IH
   ·simp at hx
  ·rw [← hseq _ rfl]
   refine iha hx hr hd ?_ hkb hkr (aft_lab l1 l2 l3 _) l2 l3 hden
   intro σ' d' lb' x' ρ' e' H' r' hk hlb hr' hd' hden'
   exact ihb hk hr' hd' (hkn.mono hlb) (fun j => (hkb j).mono hlb) (hkr.mono hlb) (l1.mono hlb) (fun j => (l2 j).mono hlb) (l3.mono hlb) hden'
 | loop b ih =>
  intro σ d lb lv kn kb kr x hx ρ e H r Kn Kb Kr hr hd hkn hkb hkr l1 l2 l3 hden
  simp only [liftC] at hx
  split at hx
  ·rename_i init x1 hin hb
   simp only [Option.some.injEq] at hx
   subst hx
   generalize hps : List.filter _ (bitsOf X.nt _) = ps at hin hb
   have hinit : init.map (EV ρ) = ps.map (get e) := lks_ok hr hin
   simp only [den] at hden
   have hi2 : List.map ((semG C).ev ρ) init = ps.map (get e) := hinit
   rw [hi2] at hden
   simp only [run]
   have key : ∀ k e H r, iterN (fun vs h => den (semG C) n x1 vs h) lb k (ps.map (get e)) H = some r → aft Kn Kb Kr (loopN (fun e => run C n b e) k e H) = some r := by
    intro k
    induction k with
    | zero => intro e H r h; simp [iterN] at h
    | succ k ihk =>
     intro e H r h
     simp only [iterN] at h
     simp only [loopN]
     have hpr : ∀ t, get (prune e) t = get e t := prune_get e
     have hmap : ps.map (get e) = ps.map (get (prune e)) := List.map_congr_left fun t _ => (hpr t).symm
     have hrel : RelS (params 0 ps) (ps.map (get e)) (prune e) := by
      rw [hmap]
      exact .join ps _
     cases h1 : den (semG C) n x1 (ps.map (get e)) H with
     | none => rw [h1] at h; simp at h
     | some q =>
      obtain ⟨o, H1⟩ := q
      rw [h1] at h
      have IH := ih hb (Kn := KJ lb ps) (Kb := Kb) (Kr := Kr) hrel (by simp) (jump_ok _) (fun j => (hkb j).mono (Nat.le_succ _)) (hkr.mono (Nat.le_succ _)) KJ_lab (fun j => (l2 j).mono (Nat.le_succ _)) (l3.mono (Nat.le_succ _)) h1
      cases hrun : run C n b (prune e) H with
      | none => rw [hrun] at IH; simp [aft] at IH
      | some q =>
       obtain ⟨⟨ex, e1⟩, H2⟩ := q
       rw [hrun] at IH
       cases ex with
       | nx =>
        simp only [aft, KJ, Option.some.injEq, Prod.mk.injEq] at IH
        obtain ⟨rfl, rfl⟩ := IH
        simp only [if_true] at h
        exact ihk e1 H2 r h
       | br i =>
        simp only [aft] at IH ⊢
        cases o with
        | goto j vs =>
         have := l2 i _ _ _ _ _ IH
         simp only [if_neg (Nat.ne_of_lt this)] at h
         rw [← h]; exact IH
        | ret vs => rw [← h]; exact IH
       | rt =>
        simp only [aft] at IH ⊢
        cases o with
        | goto j vs =>
         have := l3 _ _ _ _ _ IH
         simp only [if_neg (Nat.ne_of_lt this)] at h
         rw [← h]; exact IH
        | ret vs => rw [← h]; exact IH
   exact key n e H r hden
  ·simp at hx
theorem resOf_cell' (P : Program) (e : Env) (a : Nat) (t : TypeId) : resOf P e (.cell a t) = aload (isAggT P t) (P.cellsOf t) (get e a) := by
 simp only [resOf, isAggT]
 cases P.underlying t with
 | none => rfl
 | some d => cases d <;> rfl
theorem liftRes_ok : ∀ (l : List ResultVar) {vs : List Operand} {σ : Sg} {d : Nat} {x : L}, liftRes C.P l vs σ d = some x →
  ∀ {ρ : List Value} {e : Env} {H : Heap} {r}, RelS σ ρ e → d = ρ.length → (∀ y ∈ vs, inR ρ.length y) → den (semG C) n x ρ H = some r →
  (match resAll C.P e l H with | some (ws, H') => (some (.ret (vs.map (EV ρ) ++ ws), H') : Res) | none => none) = some r
 | [], vs, σ, d, x, hx, ρ, e, H, r, hr, hd, hv, hden => by
  simp only [liftRes, Option.some.injEq] at hx
  subst hx
  simp only [resAll, List.append_nil]
  exact hden
 | .tmp t :: l, vs, σ, d, x, hx, ρ, e, H, r, hr, hd, hv, hden => by
  simp only [liftRes] at hx
  split at hx
  ·rename_i y hy
   have := liftRes_ok l hx hr hd (fun z hz => by
    rcases List.mem_append.1 hz with h | h
    ·exact hv z h
    ·simp at h; subst h; exact (hr t _ hy).1) hden
   simp only [resAll, resOf, lift]
   cases hq : resAll C.P e l H with
   | none => rw [hq] at this; simp at this
   | some q =>
    rw [hq] at this
    simp only at this ⊢
    rw [← this, (hr t y hy).2]
    simp
  ·simp at hx
 | .cell a t :: l, vs, σ, d, x, hx, ρ, e, H, r, hr, hd, hv, hden => by
  simp only [liftRes] at hx
  split at hx
  ·rename_i y hy
   split at hx
   ·rename_i x' hx'
    simp only [Option.some.injEq] at hx
    subst hx
    simp only [den, semG, stepG, wantsG, exec, List.all_nil, if_true] at hden
    simp only [resAll, resOf_cell']
    have hev : ev (env0 ρ 0) y = get e a := (hr a y hy).2.symm
    rw [hev] at hden
    cases hq : aload (isAggT C.P t) (C.P.cellsOf t) (get e a) H with
    | none => rw [hq] at hden; simp at hden
    | some q =>
     obtain ⟨v, H1⟩ := q
     rw [hq] at hden
     simp only at hden ⊢
     have := liftRes_ok l hx' (hr.app (List.prefix_append _ [v])) (by simp [hd]) (fun z hz => by
      rcases List.mem_append.1 hz with h | h
      ·exact (hv z h).mono (by simp)
      ·simp at h; subst h; simp [inR, hd]) hden
     cases hq2 : resAll C.P e l H1 with
     | none => rw [hq2] at this; simp at this
     | some q =>
      rw [hq2] at this
      simp only at this ⊢
      rw [← this]
      simp only [List.map_append, List.map_cons, List.map_nil, EV_tmp, hd]
      rw [List.map_congr_left fun y hy => EV_app (List.prefix_append _ _) (hv y hy)]
      simp
   ·simp at hx
  ·simp at hx
theorem liftFn_ok {md : SOp → Md} {np : Nat} {s : SFn} {l : LFn} (hl : liftFn C.P md np s = some l) {args vs : List Value} {H H' : Heap} (ha : args.length = l.np) (hden : den (semG C) n l.body args H = some (.ret vs, H')) : runFn C n s args H = some (tup vs, H') := by
 unfold liftFn at hl
 split at hl
 ·simp at hl
 rename_i hnt
 split at hl
 ·rename_i x hx
  simp only [Option.some.injEq] at hl
  subst hl
  simp only at ha hden
  have h0 : RelS (params 0 (List.range np)) args (env0 args 0) := by
   intro t y hy
   obtain ⟨i, h1, rfl⟩ := lk_params _ _ _ _ hy
   have hi : i < np := by
    rcases Nat.lt_or_ge i np with h | h
    ·exact h
    ·rw [List.getElem?_eq_none (by simpa using h)] at h1; simp at h1
   rw [List.getElem?_range hi] at h1
   simp only [Option.some.injEq] at h1
   subst h1
   refine ⟨by simp [inR, ha, hi], ?_⟩
   simp [EV, ev]
  let K : Env → Heap → Res := fun e H => match resAll C.P e s.res H with | some (ws, H') => some (.ret ws, H') | none => none
  have hK : KLab K 0 := by
   intro e H j vs H' h
   simp only [K] at h
   split at h <;> simp at h
  have hK' : KOK C n (fun σ d _ => liftRes C.P s.res [] σ d) K 0 := by
   intro σ d lb x ρ' e H r hx _ hr hd hden
   have := liftRes_ok s.res hx hr hd (by simp) hden
   simpa [K] using this
  have := liftC_ok (C := C) (n := n) s.body hx (Kn := K) (Kb := fun _ _ _ => none) (Kr := K) h0 ha.symm hK' (fun j σ d lb x ρ' e H r h => by simp at h) hK' hK (fun j e H i vs H' h => by simp at h) hK hden
  unfold runFn
  rw [if_neg (by omega)]
  cases hrun : run C n s.body (env0 args 0) H with
  | none => rw [hrun] at this; simp [aft] at this
  | some q =>
   obtain ⟨⟨ex, e1⟩, H1⟩ := q
   rw [hrun] at this
   cases ex with
   | br j => simp [aft] at this
   | nx | rt =>
    simp only [aft, K] at this
    simp only
    cases hq : resAll C.P e1 s.res H1 with
    | none => rw [hq] at this; simp at this
    | some q =>
     rw [hq] at this
     simp only [Option.some.injEq, Prod.mk.injEq, Out.ret.injEq] at this ⊢
     obtain ⟨rfl, rfl⟩ := this
     exact ⟨rfl, rfl⟩
 ·simp at hl
end Go.Proofs.Ytmgfkifjgajclaa.G
namespace Go.Proofs.Ytmgfkifjgajclaa.G
open Go
inductive IV where
 | sc (v : Value)
 | agg (cs : List IV)
 | tup (vs : List IV)
 | ptr (b v off : Nat)
 | rptr (e : IV) (off : Nat)
 | map (b : Nat)
 | fn (f : FuncId) (first cap : List IV)
 | sl (b v off n cap sz : Nat)
 | lst (sz : Nat) (full : Bool) (xs : List IV)
 deriving Inhabited
mutual
def ieq : IV → IV → Bool
 | .sc a, .sc b => veq a b
 | .agg a, .agg b => ieqL a b
 | .tup a, .tup b => ieqL a b
 | .ptr a b c, .ptr x y z => a == x && b == y && c == z
 | .rptr e o, .rptr f p => ieq e f && o == p
 | .map a, .map b => a == b
 | .fn f a b, .fn g c d => f == g && ieqL a c && ieqL b d
 | .sl a b c d e f, .sl u v w x y z => a == u && b == v && c == w && d == x && e == y && f == z
 | .lst s a x, .lst t b y => s == t && a == b && ieqL x y
 | _, _ => false
def ieqL : List IV → List IV → Bool
 | [], [] => true
 | a :: x, b :: y => ieq a b && ieqL x y
 | _, _ => false
end
mutual
theorem ieq_refl : (v : IV) → ieq v v = true
 | .sc a => by simp [ieq, veq_refl]
 | .agg a => by simp [ieq, ieqL_refl a]
 | .tup a => by simp [ieq, ieqL_refl a]
 | .ptr a b c => by simp [ieq]
 | .rptr e o => by simp [ieq, ieq_refl e]
 | .map a => by simp [ieq]
 | .fn f a b => by simp [ieq, ieqL_refl a, ieqL_refl b]
 | .sl a b c d e f => by simp [ieq]
 | .lst s a x => by simp [ieq, ieqL_refl x]
theorem ieqL_refl : (a : List IV) → ieqL a a = true
 | [] => by simp [ieqL]
 | a :: x => by simp [ieqL, ieq_refl a, ieqL_refl x]
end
mutual
theorem eq_of_ieq : (v w : IV) → ieq v w = true → v = w
 | .sc a, w, h => by
  cases w <;> simp [ieq] at h
  rw [eq_of_veq _ _ h]
 | .agg a, w, h => by
  cases w <;> simp [ieq] at h
  rw [eq_of_ieqL a _ h]
 | .tup a, w, h => by
  cases w <;> simp [ieq] at h
  rw [eq_of_ieqL a _ h]
 | .ptr a b c, w, h => by cases w <;> simp_all [ieq]
 | .rptr e o, w, h => by
  cases w <;> simp [ieq] at h
  rw [eq_of_ieq e _ h.1, h.2]
 | .map a, w, h => by cases w <;> simp_all [ieq]
 | .fn f a b, w, h => by
  cases w <;> simp [ieq] at h
  rw [h.1.1, eq_of_ieqL a _ h.1.2, eq_of_ieqL b _ h.2]
 | .sl a b c d e f, w, h => by cases w <;> simp_all [ieq]
 | .lst s a x, w, h => by
  cases w <;> simp [ieq] at h
  rw [h.1.1, h.1.2, eq_of_ieqL x _ h.2]
theorem eq_of_ieqL : (a b : List IV) → ieqL a b = true → a = b
 | [], [], _ => rfl
 | [], b :: y, h => by simp [ieqL] at h
 | a :: x, [], h => by simp [ieqL] at h
 | a :: x, b :: y, h => by
  simp [ieqL] at h
  rw [eq_of_ieq a b h.1, eq_of_ieqL x y h.2]
end
instance : DecidableEq IV := fun v w => if h : ieq v w = true then isTrue (eq_of_ieq v w h) else isFalse fun e => h (e ▸ ieq_refl v)
structure IEnt where
 key : Value
 val : IV
 born : Nat
 deriving DecidableEq, Inhabited
inductive IB where
 | cells (ver : Nat) (cs : List IV) (ro : Bool)
 | map (es : List IEnt) (clock : Nat)
 deriving DecidableEq, Inhabited
abbrev JH := Array IB
abbrev MI (α : Type) := JH → Option (α × JH)
@[match_pattern] abbrev IV.int (k : IntKind) (n : Int) : IV := .sc (.int k n)
@[match_pattern] abbrev IV.bool (b : Bool) : IV := .sc (.bool b)
def iskip : IV := .sc skipV
def ione : IV → Bool
 | .agg _ | .tup _ => false
 | .sc v => one v
 | _ => true
def icells : IV → List IV
 | .agg cs => cs
 | v => [v]
mutual
def ipure : IV → Bool
 | .sc _ => true
 | .agg cs => ipureL cs
 | .tup vs => ipureL vs
 | .fn _ a b => ipureL a && ipureL b
 | .lst _ _ _ => true
 | _ => false
def ipureL : List IV → Bool
 | [] => true
 | v :: l => ipure v && ipureL l
end
mutual
def iscal : IV → Bool
 | .sc _ => true
 | .agg cs => iscalL cs
 | .tup vs => iscalL vs
 | _ => false
def iscalL : List IV → Bool
 | [] => true
 | v :: l => iscal v && iscalL l
end
mutual
def irefs : IV → List Nat
 | .agg cs => irefsL cs
 | .tup vs => irefsL vs
 | .fn _ a b => irefsL a ++ irefsL b
 | .ptr b _ _ => [b]
 | .sl b _ _ _ _ _ => [b]
 | .map b => [b]
 | _ => []
def irefsL : List IV → List Nat
 | [] => []
 | v :: l => irefs v ++ irefsL l
end
def ilow (k : Nat) (v : IV) : Bool := (irefs v).all (· < k)
def mkE (sz : Nat) (cs : List IV) : IV := if sz = 1 then cs.headD iskip else .agg cs
def grp (sz : Nat) : Nat → List IV → List IV
 | 0, _ => []
 | n + 1, cs => mkE sz (cs.take sz) :: grp sz n (cs.drop sz)
def ird (J : JH) (b v off n : Nat) : Option (List IV) :=
 match J[b]? with
 | some (.cells w cs _) => if v = w ∧ off + n ≤ cs.length then some ((cs.drop off).take n) else none
 | _ => none
def isplice (cs : List IV) (off : Nat) (vs : List IV) : List IV := cs.take off ++ vs ++ cs.drop (off + vs.length)
def iwr (J : JH) (b v off : Nat) (vs : List IV) : Option JH :=
 match J[b]? with
 | some (.cells w cs false) => if v = w ∧ off + vs.length ≤ cs.length ∧ vs.all ione = true then some (J.setIfInBounds b (.cells w (isplice cs off vs) false)) else none
 | _ => none
def frz (J : JH) : Nat → IV → Option IV
 | 0, v => if ipure v then some v else none
 | k + 1, v => if ipure v then some v else
  match v with
  | .agg cs => (cs.mapM (frz J k)).map .agg
  | .tup cs => (cs.mapM (frz J k)).map .tup
  | .fn f a b => match a.mapM (frz J k), b.mapM (frz J k) with | some a, some b => some (.fn f a b) | _, _ => none
  | .sl b v off n cap sz =>
   if sz = 0 then none else
   (match ird J b v off (n * sz) with
   | some cs => (match cs.mapM (frz J k) with | some cs => if cs.all ione then some (.lst sz (n == cap && decide (cap < UNK)) (grp sz n cs)) else none | none => none)
   | none => none)
  | _ => none
def shows (J : JH) : Nat → IV → List Nat
 | 0, _ => []
 | k + 1, v => if ipure v then [] else
  match v with
  | .agg cs | .tup cs => cs.flatMap (shows J k)
  | .fn _ a b => (a ++ b).flatMap (shows J k)
  | .sl b v off n _ sz => b :: (match ird J b v off (n * sz) with | some cs => cs.flatMap (shows J k) | none => [])
  | _ => []
def mark1 (J : JH) (b : Nat) : JH := match J[b]? with
 | some (.cells w cs _) => J.setIfInBounds b (.cells w cs true)
 | _ => J
def markA (J : JH) (l : List Nat) : JH := l.foldl mark1 J
def DEP : Nat := 12
def scOK : Value → Bool
 | .bool _ | .int _ _ | .float _ _ | .string _ | .nilFunc | .nilIface | .pointer none | .map none | .slice none 0 0 | .chan _ => true
 | _ => false
def ivV (v : Value) : IV := if scOK v then .sc v else match v with
 | .agg a => if a.toList.all (fun x => scOK x && one x) then .agg (a.toList.map .sc) else .tup []
 | _ => .tup []
def evI (ρ : List IV) : Operand → IV
 | .tmp i => (ρ[i]?).getD (.tup [])
 | .const v => ivV v
 | .global _ => .tup []
 | .func f => .fn f [] []
def refsB (J : JH) (b : Nat) : List Nat :=
 match J[b]? with
 | some (.cells _ cs _) => irefsL cs
 | some (.map es _) => es.flatMap fun e => irefs e.val
 | none => []
def reachN (J : JH) : Nat → List Nat → List Nat
 | 0, s => s
 | k + 1, s =>
  let new := ((s.flatMap (refsB J)).filter fun b => !s.contains b).eraseDups
  if new.isEmpty then s else reachN J k (s ++ new)
def reach (J : JH) (l : List IV) : Option (List Nat) :=
 let s := reachN J 40 (irefsL l)
 if (irefsL l).all (s.contains ·) && s.all (fun b => (refsB J b).all (s.contains ·)) then some s else none
structure IBook where
 zc : TypeId → Option (List Value)
 zv : TypeId → Option Value
 co : TypeId → Option Nat
 fn : FuncId → Option LFn
 md : FuncId → Md
 given : FuncId → Option (List IV → MI IV)
abbrev ICall := FuncId → List IV → MI IV
def doCall (C : ICall) (md : Md) (f : FuncId) (args : List IV) : MI IV := fun J =>
 match md with
 | .raw => C f args J
 | .loc =>
  match C f args J with
  | some (v, J') => if ilow J.size v = true ∧ J'.extract 0 J.size = J then some (v, J) else none
  | none => none
 | .pure =>
  match args.mapM (frz J DEP) with
  | some as =>
   (match C f as #[] with
   | some (v, J1) => (match frz J1 DEP v with | some u => some (u, if iscal u then J else markA J (args.flatMap (shows J DEP))) | none => none)
   | none => none)
  | none => none
def ilift (o : Option IV) : MI IV := fun J => match o with | some v => some (v, J) | none => none
def iload (ag : Bool) (sz : Nat) (p : IV) : MI IV := fun J =>
 match p with
 | .ptr b v off => (match ird J b v off (if ag then sz else 1) with
  | some vs => if ag then some (.agg vs, J) else (match vs with | [x] => some (x, J) | _ => none)
  | none => none)
 | .rptr e off =>
  if off + (if ag then sz else 1) ≤ (icells e).length then
   (if ag then some (.agg (((icells e).drop off).take sz), J) else (match ((icells e).drop off).take 1 with | [x] => some (x, J) | _ => none))
  else none
 | _ => none
def istore (sz : Nat) (p v : IV) : MI IV := fun J =>
 match p with
 | .ptr b w off => if (icells v).length = sz then (match iwr J b w off (icells v) with | some J' => some ((.tup []), J') | none => none) else none
 | _ => none
def inew (cs : List IV) : MI IV := fun J => if cs.all ione then some (.ptr J.size 0 0, J.push (.cells 0 cs false)) else none
def scal2 (f : Value → Value → Option Value) (x y : IV) : Option IV :=
 match x, y with
 | .sc a, .sc b => (f a b).map .sc
 | _, _ => none
def iisNil (k : NilKind) : IV → Option Bool
 | .sc v => isNil k v
 | .ptr _ _ _ | .rptr _ _ => if k = .ptr then some false else none
 | .sl _ _ _ _ _ _ | .lst _ _ _ => if k = .slc then some false else none
 | .map _ => if k = .mp then some false else none
 | .fn _ _ _ => if k = .fn then some false else none
 | _ => none
def iaggEq : List IV → List IV → Option Bool
 | [], [] => some true
 | .sc (.int k a) :: x, .sc (.int l b) :: y => if k = l then (match iaggEq x y with | some r => some (a == b && r) | none => none) else none
 | _, _ => none
def iasNat : IV → Option Nat
 | .sc v => asNat v
 | _ => none
def ibnd (o : Option IV) (d : Nat) : Option Nat :=
 match o with
 | some v => iasNat v
 | none => some d
def ifill (cells : List IV) : List (Nat × Nat × IV) → Option (List IV)
 | [] => some cells
 | (off, sz, v) :: rest => if (icells v).length = sz ∧ off + sz ≤ cells.length ∧ (icells v).all ione = true then ifill (isplice cells off (icells v)) rest else none
def ievs (ρ : List IV) (ps : List (Nat × Nat × Operand)) : List (Nat × Nat × IV) := ps.map fun p => (p.1, p.2.1, evI ρ p.2.2)
def ireps (n : Nat) (z : List IV) : List IV := (List.replicate n z).flatten
def ilen : IV → Option Nat
 | .sc (.slice none 0 0) => some 0
 | .sl _ _ _ n _ _ => some n
 | .lst _ _ xs => some xs.length
 | _ => none
def iscells (J : JH) (sz : Nat) : IV → Option (List IV)
 | .sc (.slice none 0 0) => some []
 | .sl b v off n _ _ => ird J b v off (n * sz)
 | .lst z _ xs => if z = sz then some (xs.flatMap icells) else none
 | _ => none
def islice (sz : Nat) (s : IV) (lo hi mx : Option IV) : Option IV :=
 match s with
 | .sc (.slice none 0 0) => (match ibnd mx 0, ibnd hi 0, ibnd lo 0 with | some 0, some 0, some 0 => if mx.isSome && hi.isNone then none else some (.sc (.slice none 0 0)) | _, _, _ => none)
 | .sl b v off len cap z =>
  if mx.isSome && hi.isNone || z != sz then none else
  (match ibnd mx (capOf len cap), ibnd hi len, ibnd lo 0 with
  | some m, some h, some l =>
   if l ≤ h ∧ h ≤ m ∧ m ≤ capOf len cap then
    if UNK ≤ cap ∧ mx = none then
     (if cap = UNK + sz then some (.sl b v (off + l * sz) (h - l) cap sz) else none)
    else if m = l then some (.sl b v off 0 0 sz)
    else if m < UNK then some (.sl b v (off + l * sz) (h - l) (m - l) sz) else none
   else none
  | _, _, _ => none)
 | .lst z f xs =>
  if mx.isSome && hi.isNone || z != sz then none else
  (match ibnd mx xs.length, ibnd hi xs.length, ibnd lo 0 with
  | some m, some h, some l =>
   if l ≤ h ∧ h ≤ m ∧ m ≤ xs.length ∧ (mx.isSome = true → m < UNK) then some (.lst sz ((mx.isSome && m == h) || (f && h == xs.length && mx.isNone) || (mx.isSome && m == l)) ((xs.drop l).take (h - l)))
   else none
  | _, _, _ => none)
 | _ => none
def iappend (sz bytes : Nat) (s x : IV) : MI IV := fun J =>
 match iscells J sz x, ilen x with
 | some xs, some n =>
  (match s with
  | .sc (.slice none 0 0) =>
   if n = 0 then some (.sc (.slice none 0 0), J)
   else if fits n bytes && xs.all ione then some (.sl J.size 0 0 n (UNK + sz) sz, J.push (.cells 0 xs false)) else none
  | .lst z f ys =>
   if n = 0 then some (s, J)
   else if f && z == sz && fits (ys.length + n) bytes && xs.all ione then
    some (.sl J.size 0 0 (ys.length + n) (UNK + sz) sz, J.push (.cells 0 (ys.flatMap icells ++ xs) false))
   else none
  | .sl b v off len cap z =>
   if n = 0 then some (s, J)
   else if z = sz ∧ (fits (len + n) bytes && xs.all ione) = true then
    if UNK ≤ cap then
     if cap = UNK + sz then
      (match J[b]? with
      | some (.cells w cs false) =>
       if v = w ∧ off + len * sz ≤ cs.length then some (.sl b (v + 1) 0 (len + n) cap sz, J.setIfInBounds b (.cells (v + 1) ((cs.drop off).take (len * sz) ++ xs) false))
       else none
      | _ => none)
     else none
    else if len + n ≤ cap then
     (match iwr J b v (off + len * sz) xs with
     | some J' => some (.sl b v off (len + n) cap sz, J')
     | none => none)
    else
     (match ird J b v off (len * sz) with
     | some old => some (.sl J.size 0 0 (len + n) (UNK + sz) sz, J.push (.cells 0 (old ++ xs) false))
     | none => none)
   else none
  | _ => none)
 | _, _ => none
def icopy (sz : Nat) (d s : IV) : MI IV := fun J =>
 match ilen d, ilen s with
 | some dl, some n =>
  if min n dl = 0 then some (.int .i64 0, J) else
  (match iscells J sz s, d with
  | some vs, .sl b v off _ _ z => if z = sz then (match iwr J b v off (vs.take (min n dl * sz)) with | some J' => some (.int .i64 (min n dl : Nat), J') | none => none) else none
  | _, _ => none)
 | _, _ => none
def iclearS (z : List IV) (x : IV) : MI IV := fun J =>
 match x with
 | .sl b v off n _ _ => if n = 0 then some (.tup [], J) else (match iwr J b v off (ireps n z) with | some J' => some (.tup [], J') | none => none)
 | _ => if ilen x = some 0 then some (.tup [], J) else none
def ikeyL : List IV → Option (List Value)
 | [] => some []
 | .sc (.int k n) :: l => (ikeyL l).map (Value.int k n :: ·)
 | .sc (.bool b) :: l => (ikeyL l).map (Value.bool b :: ·)
 | _ => none
def ikey : IV → Option Value
 | .sc v => if plainKey v then some v else none
 | .agg cs => (ikeyL cs).map fun l => Value.agg l.toArray
 | _ => none
def ifindE (k : Value) : List IEnt → Option IEnt
 | [] => none
 | e :: l => if k = e.key then some e else ifindE k l
def isetE (k : Value) (v : IV) : List IEnt → List IEnt
 | [] => []
 | e :: l => if k = e.key then { e with val := v } :: l else e :: isetE k v l
def idelE (k : Value) : List IEnt → List IEnt
 | [] => []
 | e :: l => if k = e.key then l else e :: idelE k l
def igoodKeys (s : KS) (k : Value) (es : List IEnt) : Bool := s.fits k && es.all fun e => s.fits e.key
def ilookup (s : KS) (zero : IV) (ok : Bool) (m k : IV) : MI IV := fun J =>
 match ikey k with
 | none => none
 | some k =>
 match m with
 | .sc (.map none) => if s.fits k then some (if ok then .tup [zero, .bool false] else zero, J) else none
 | .map b =>
  (match J[b]? with
  | some (.map es _) =>
   if igoodKeys s k es then
    (match ifindE k es with
    | some e => some (if ok then .tup [e.val, .bool true] else e.val, J)
    | none => some (if ok then .tup [zero, .bool false] else zero, J))
   else none
  | _ => none)
 | _ => none
def imapset (s : KS) (m k v : IV) : MI IV := fun J =>
 match ikey k with
 | none => none
 | some k =>
 match m with
 | .map b =>
  (match J[b]? with
  | some (.map es c) =>
   if igoodKeys s k es then
    (match ifindE k es with
    | some _ => some ((.tup []), J.setIfInBounds b (.map (isetE k v es) c))
    | none => some ((.tup []), J.setIfInBounds b (.map (es ++ [⟨k, v, c⟩]) (c + 1))))
   else none
  | _ => none)
 | _ => none
def idelete (s : KS) (m k : IV) : MI IV := fun J =>
 match ikey k with
 | none => none
 | some k =>
 match m with
 | .sc (.map none) => if s.fits k then some (.tup [], J) else none
 | .map b =>
  (match J[b]? with
  | some (.map es c) => if igoodKeys s k es then some (.tup [], J.setIfInBounds b (.map (idelE k es) c)) else none
  | _ => none)
 | _ => none
def imin2 (mx : Bool) (x y : IV) : Option IV := scal2 (min2 mx) x y
def iminF (mx : Bool) (x : IV) : List IV → Option IV
 | [] => some x
 | y :: r => match imin2 mx x y with | some z => iminF mx z r | none => none
def iminI (mx : Bool) : List IV → Option IV
 | .sc (.int k a) :: r => iminF mx (.sc (.int k a)) r
 | _ => none
def scO : Option IV → Option (Option Value)
 | none => some none
 | some (.sc v) => some (some v)
 | _ => none
def istrSl (x : IV) (lo hi : Option IV) : Option IV :=
 match x, scO lo, scO hi with
 | .sc a, some l, some h => (strSl a l h).map .sc
 | _, _, _ => none
def allC1 : List (Nat × Nat × Operand) → Bool
 | [] => true
 | (_, _, .const _) :: r => allC1 r
 | _ :: _ => false
def rawB : List Value → List (Nat × Nat × Operand) → Bool
 | [.int .u8 _], p :: r => allC1 (p :: r)
 | _, _ => false
def iunB : IV → Option UInt8
 | .sc v => unB v
 | _ => none
def istrCells (s : ByteArray) : List IV := s.data.toList.map fun b => .int .u8 (b.toNat : Nat)
def is2b (x : IV) : MI IV := fun J =>
 match x with
 | .sc (.string s) => if 0 < s.size ∧ fits s.size 1 = true then some (.sl J.size 0 0 s.size (UNK + 1) 1, J.push (.cells 0 (istrCells s) false)) else none
 | _ => none
def imark (x : IV) : MI IV := fun J =>
 match x with
 | .sl b v o n k z => (match J[b]? with | some (.cells w _ false) => if 0 < n ∧ k < UNK ∧ v = w then some (.sl b v o n k z, J) else none | _ => none)
 | _ => none
def is2ap (n : Nat) (x : IV) : Option IV :=
 match x with
 | .sl b v o m _ 1 => if n ≤ m ∧ 0 < n then some (.ptr b v o) else none
 | .lst 1 _ xs => if n ≤ xs.length ∧ 0 < n ∧ xs.all ione = true ∧ ipureL xs = true then some (.rptr (.agg (xs.take n)) 0) else none
 | _ => none
def iexec (B : IBook) (C : ICall) (md : Md) (ρ : List IV) (o : SOp) (J : JH) : Option (IV × JH) :=
 match o with
 | .mv x => ilift (some (evI ρ x)) J
 | .pick c a b => match evI ρ c with | .sc (.bool t) => ilift (some (if t then evI ρ a else evI ρ b)) J | _ => ilift none J
 | .new t => match B.zc t with | some z => inew (z.map .sc) J | none => ilift none J
 | .box _ x => inew (icells (evI ρ x)) J
 | .build t ps => match B.zc t with | some z => ilift ((ifill (z.map .sc) (ievs ρ ps)).map .agg) J | none => ilift none J
 | .bslice t n ps =>
  match B.zc t with
  | some z =>
   (match ifill (ireps n (z.map .sc)) (ievs ρ ps) with
   | some cs => if cs.all ione && decide (0 < z.length) && decide (n < UNK) then (if ipureL cs && !rawB z ps then some (.lst z.length true (grp z.length n cs), J) else some (.sl J.size 0 0 n n z.length, J.push (.cells 0 cs false))) else none
   | none => none)
  | none => none
 | .load ag sz x => iload ag sz (evI ρ x) J
 | .store sz x v => istore sz (evI ρ x) (evI ρ v) J
 | .nilck x => match evI ρ x with | .ptr b v o => ilift (some (.ptr b v o)) J | .rptr e o => ilift (some (.rptr e o)) J | .fn f a b => ilift (some (.fn f a b)) J | _ => ilift none J
 | .bin op x y => ilift (scal2 (abin op) (evI ρ x) (evI ρ y)) J
 | .eqNil neg k x => ilift ((iisNil k (evI ρ x)).map fun b => .bool (if neg then !b else b)) J
 | .eqB neg x y => match evI ρ x, evI ρ y with
  | .sc (.bool a), .sc (.bool b) => ilift (some (.bool (if neg then !(a == b) else (a == b)))) J
  | _, _ => ilift none J
 | .eqS neg x y => match evI ρ x, evI ρ y with
  | .sc (.string a), .sc (.string b) => ilift (some (.bool (if neg then !(a.toList == b.toList) else (a.toList == b.toList)))) J
  | _, _ => ilift none J
 | .eqAgg neg t x y => match evI ρ x, evI ρ y, B.co t with
  | .agg a, .agg b, some n => if a.length = n ∧ b.length = n then ilift ((iaggEq a b).map fun r => .bool (if neg then !r else r)) J else ilift none J
  | _, _, _ => ilift none J
 | .un op x => match evI ρ x with | .sc v => ilift ((aun op v).map .sc) J | _ => ilift none J
 | .conv k x => match evI ρ x with | .sc (.int _ n) => ilift (some (.int k (k.wrap n))) J | _ => ilift none J
 | .fn f0 first captured => match f0 with
  | .func f => if (first.map (evI ρ)).all ione && (captured.map (evI ρ)).all ione then ilift (some (.fn f (first.map (evI ρ)) (captured.map (evI ρ)))) J else ilift none J
  | _ => ilift none J
 | .newmap => some (.map J.size, J.push (.map [] 0))
 | .mkslice t bytes l c =>
  match B.zc t, iasNat (evI ρ l), iasNat (evI ρ c) with
  | some z, some n, some m => if 0 < z.length ∧ n ≤ m ∧ fits m bytes ∧ ((ireps m (z.map .sc)).all ione = true) then some (.sl J.size 0 0 n m z.length, J.push (.cells 0 (ireps m (z.map .sc)) false)) else none
  | _, _, _ => none
 | .slice sz x lo hi mx => ilift (islice sz (evI ρ x) (lo.map (evI ρ)) (hi.map (evI ρ)) (mx.map (evI ρ))) J
 | .sliceArr n sz x lo hi mx => match evI ρ x with
  | .ptr b v o => if n < UNK ∧ 0 < sz then ilift (islice sz (.sl b v o n n sz) (lo.map (evI ρ)) (hi.map (evI ρ)) (mx.map (evI ρ))) J else ilift none J
  | _ => ilift none J
 | .faddr off x => match evI ρ x with | .ptr b v o => ilift (some (.ptr b v (o + off))) J | .rptr e o => ilift (some (.rptr e (o + off))) J | _ => ilift none J
 | .field ag off sz x => match evI ρ x with
  | .agg cs => if off + sz ≤ cs.length then (if ag then ilift (some (.agg ((cs.drop off).take sz))) J else ilift cs[off]? J) else ilift none J
  | _ => ilift none J
 | .iaddr sz x i => match evI ρ x, iasNat (evI ρ i) with
  | .sl b v o n _ z, some j => if j < n ∧ z = sz then ilift (some (.ptr b v (o + j * sz))) J else ilift none J
  | .lst z _ xs, some j => (match xs[j]? with | some e => if z = sz then ilift (some (.rptr e 0)) J else ilift none J | none => ilift none J)
  | _, _ => ilift none J
 | .iaddrA n sz x i => match evI ρ x, iasNat (evI ρ i) with
  | .ptr b v o, some j => if j < n then ilift (some (.ptr b v (o + j * sz))) J else ilift none J
  | .rptr e o, some j => if j < n then ilift (some (.rptr e (o + j * sz))) J else ilift none J
  | _, _ => ilift none J
 | .ext x i => match evI ρ x with | .tup vs => ilift vs[i]? J | _ => ilift none J
 | .sidx x i => ilift (scal2 strAt (evI ρ x) (evI ρ i)) J
 | .b2s x => (match iscells J 1 (evI ρ x) with | some cs => (match cs.mapM iunB with | some l => some (.sc (strOf l), J) | none => none) | none => none)
 | .s2b x => is2b (evI ρ x) J
 | .s2ap n x => ilift (is2ap n (evI ρ x)) J
 | .mark x => imark (evI ρ x) J
 | .sslice x lo hi => ilift (istrSl (evI ρ x) (lo.map (evI ρ)) (hi.map (evI ρ))) J
 | .len str x => match evI ρ x with
  | .sc (.string s) => if str then ilift (some (.int .i64 s.size)) J else ilift none J
  | v => if str then ilift none J else ilift ((ilen v).map fun n => .int .i64 (n : Nat)) J
 | .lenM x => match evI ρ x with
  | .sc (.map none) => some (.int .i64 0, J)
  | .map b => (match J[b]? with | some (.map es _) => some (.int .i64 (es.length : Nat), J) | _ => none)
  | _ => none
 | .minmax mx l => ilift (iminI mx (l.map (evI ρ))) J
 | .append sz bytes s x => if 0 < sz then iappend sz bytes (evI ρ s) (evI ρ x) J else ilift none J
 | .copy sz d s => icopy sz (evI ρ d) (evI ρ s) J
 | .clearS t x => match B.zc t with | some z => iclearS (z.map .sc) (evI ρ x) J | none => ilift none J
 | .clearM x => match evI ρ x with
  | .sc (.map none) => some (.tup [], J)
  | .map b => (match J[b]? with | some (.map _ c) => some (.tup [], J.setIfInBounds b (.map [] c)) | _ => none)
  | _ => none
 | .lookup t s ok m k => match B.zv t with | some z => ilookup s (ivV z) ok (evI ρ m) (evI ρ k) J | none => ilift none J
 | .mapset s m k v => imapset s (evI ρ m) (evI ρ k) (evI ρ v) J
 | .del s m k => idelete s (evI ρ m) (evI ρ k) J
 | .call f args => doCall C md f (args.map (evI ρ)) J
 | .callv f args => match evI ρ f with
  | .fn g first captured => doCall C (B.md g) g (first ++ args.map (evI ρ) ++ captured) J
  | _ => ilift none J
inductive ILook where
 | nothing
 | range (b v off n : Nat)
 | whole (b : Nat)
def ilooks (ρ : List IV) (o : SOp) : Option ILook :=
 match o with
 | .load ag sz x => match evI ρ x with | .ptr b v off => some (.range b v off (if ag then sz else 1)) | .rptr _ _ | .sc _ => some .nothing | _ => none
 | .lookup _ _ _ m _ => match evI ρ m with | .map b => some (.whole b) | .sc _ => some .nothing | _ => none
 | .lenM x => match evI ρ x with | .map b => some (.whole b) | .sc _ => some .nothing | _ => none
 | .b2s x => match evI ρ x with | .sl b v o n _ _ => some (.range b v o n) | .lst _ _ _ | .sc _ => some .nothing | _ => none
 | _ => some .nothing
def blkOf : IV → Option (List Nat)
 | .ptr b _ _ | .sl b _ _ _ _ _ | .map b => some [b]
 | .sc _ | .lst _ _ _ | .rptr _ _ => some []
 | _ => none
def ctouch (md : Md) (args : List IV) (J : JH) : Option (List Nat) :=
 match md with
 | .pure => some []
 | _ => reach J args
def itouch (B : IBook) (md : Md) (ρ : List IV) (o : SOp) (J : JH) : Option (List Nat) :=
 match o with
 | .store _ x _ | .append _ _ x _ | .copy _ x _ | .clearS _ x | .clearM x | .mapset _ x _ _ | .del _ x _ => blkOf (evI ρ x)
 | .call _ args => ctouch md (args.map (evI ρ)) J
 | .callv f args => match evI ρ f with
  | .fn g first captured => ctouch (B.md g) (first ++ args.map (evI ρ) ++ captured) J
  | _ => none
 | _ => some []
def scalsOf : List IV → Option (List Value)
 | [] => some []
 | .sc v :: l => (scalsOf l).map (v :: ·)
 | _ => none
def untouched (t : Option (List Nat)) (b : Nat) : Bool := match t with | some l => !l.contains b | none => false
def isame (J J' : JH) (t : Option (List Nat)) : ILook → Bool
 | .nothing => true
 | .range b v off n => (ird J b v off n).isSome && (untouched t b || (match (ird J b v off n).bind scalsOf, (ird J' b v off n).bind scalsOf with | some x, some y => veqL x y | _, _ => false))
 | .whole b => (match J[b]? with | some (.map _ _) => true | _ => false) && untouched t b
def wantsI (ρ : List IV) : Option (Operand × Bool) → Option Bool
 | none => some true
 | some (x, w) => match evI ρ x with | .sc v => wantsV v w | _ => none
def ichk (J J' : JH) (t : Option (List Nat)) (ρ : List IV) (c : Option (Operand × Bool) × SOp) : Bool :=
 match wantsI ρ c.1 with
 | some true => (match ilooks ρ c.2 with | some k => isame J J' t k | none => false)
 | some false => true
 | none => false
def stepI' (B : IBook) (C : ICall) (ρ : List IV) (i : LI) : MI IV := fun J =>
 match wantsI ρ i.g with
 | some true => (match iexec B C i.md ρ i.o J with
  | some (v, J') => if i.chk.all (ichk J J' (itouch B i.md ρ i.o J) ρ) then some (v, J') else none
  | none => none)
 | some false => some (iskip, J)
 | none => none
def semI (B : IBook) (C : ICall) : Sem IV JH := { ev := evI, step := stepI' B C, tst := fun | .sc (.bool b) => some b | _ => none }
def itup : List IV → IV
 | [v] => v
 | vs => .tup vs
def icall (B : IBook) : Nat → ICall
 | 0, _, _ => fun _ => none
 | n + 1, f, args => fun J =>
  match B.given f with
  | some g => g args J
  | none =>
  match B.fn f with
  | none => none
  | some l =>
   if args.length = l.np then
    match den (semI B (icall B n)) n l.body args J with
    | some (.ret vs, J') => some (itup vs, J')
    | _ => none
   else none
structure Wd where
 M : Nat → Option (Nat × Nat)
 F : Nat → Option (List Value)
mutual
def CR (W : Wd) : IV → List Value → Prop
 | .sc v, vs => vs = [v] ∧ scOK v = true ∧ one v = true
 | .agg cs, vs => CRL W cs vs
 | .tup _, _ => False
 | .ptr b v off, vs => ∃ w β γ, W.M b = some (w, β) ∧ v ≤ w ∧ vs = [.pointer (some ⟨γ, off, none⟩)] ∧ (v = w → γ = β)
 | .rptr e off, vs => ∃ β o cs, W.F β = some cs ∧ vs = [.pointer (some ⟨β, o + off, none⟩)] ∧ o + (icells e).length ≤ cs.length ∧ CR W e ((cs.drop o).take (icells e).length) ∧ ipure e = true
 | .map b, vs => ∃ w β γ, W.M b = some (w, β) ∧ vs = [.map (some γ)] ∧ (w = 0 → γ = β)
 | .fn f a c, vs => ∃ a' c', vs = [.func (.func f) a' c'] ∧ CRL W a a'.toList ∧ CRL W c c'.toList
 | .sl b v off n cap sz, vs => ∃ w β γ, W.M b = some (w, β) ∧ v ≤ w ∧ vs = [.slice (some ⟨γ, off, none⟩) n cap] ∧ 0 < sz ∧ (cap < UNK ∧ n ≤ cap ∨ cap = UNK + sz) ∧ (v = w → γ = β)
 | .lst sz full xs, vs => ∃ β o cap cs, W.F β = some cs ∧ vs = [.slice (some ⟨β, o, none⟩) xs.length cap] ∧ 0 < sz ∧ o + xs.length * sz ≤ cs.length ∧ (cap < UNK ∧ xs.length ≤ cap ∨ cap = UNK + sz) ∧ (full = true → cap = xs.length ∧ cap < UNK) ∧ ipureL xs = true ∧ CRF W sz xs (cs.drop o)
def CRL (W : Wd) : List IV → List Value → Prop
 | [], vs => vs = []
 | x :: r, vs => ∃ v vs', vs = v :: vs' ∧ ione x = true ∧ one v = true ∧ CR W x [v] ∧ CRL W r vs'
def CRF (W : Wd) (sz : Nat) : List IV → List Value → Prop
 | [], _ => True
 | x :: r, vs => (icells x).length = sz ∧ CR W x (vs.take sz) ∧ CRF W sz r (vs.drop sz)
end
mutual
def IR (W : Wd) : IV → Value → Prop
 | .sc v, c => c = v ∧ scOK v = true
 | .agg cs, c => ∃ a, c = .agg a ∧ CRL W cs a.toList
 | .tup vs, c => vs = [] ∨ ∃ a, c = .tuple a ∧ IRL W vs a.toList
 | .ptr b v o, c => CR W (.ptr b v o) [c]
 | .rptr e o, c => CR W (.rptr e o) [c]
 | .map b, c => CR W (.map b) [c]
 | .fn f a b, c => CR W (.fn f a b) [c]
 | .sl b v o n k z, c => CR W (.sl b v o n k z) [c]
 | .lst z f xs, c => CR W (.lst z f xs) [c]
def IRL (W : Wd) : List IV → List Value → Prop
 | [], vs => vs = []
 | x :: r, vs => ∃ v vs', vs = v :: vs' ∧ IR W x v ∧ IRL W r vs'
end
structure Wle (W W' : Wd) : Prop where
 M : ∀ b w β, W.M b = some (w, β) → ∃ w' β', W'.M b = some (w', β') ∧ (w' = w ∧ β' = β ∨ w < w')
 F : ∀ β cs, W.F β = some cs → W'.F β = some cs
theorem Wle.refl (W : Wd) : Wle W W := ⟨fun _ w β h => ⟨w, β, h, .inl ⟨rfl, rfl⟩⟩, fun _ _ h => h⟩
theorem Wle.trans {A B C : Wd} (h : Wle A B) (k : Wle B C) : Wle A C := by
 refine ⟨fun b w β hb => ?_, fun β cs hb => k.F β cs (h.F β cs hb)⟩
 obtain ⟨w1, β1, h1, h2⟩ := h.M b w β hb
 obtain ⟨w2, β2, k1, k2⟩ := k.M b w1 β1 h1
 refine ⟨w2, β2, k1, ?_⟩
 rcases h2 with ⟨rfl, rfl⟩ | h2 <;> rcases k2 with ⟨rfl, rfl⟩ | k2
 ·exact .inl ⟨rfl, rfl⟩
 ·exact .inr k2
 ·exact .inr h2
 ·exact .inr (by omega)
mutual
theorem CR.mono {W W' : Wd} (hl : Wle W W') : (x : IV) → (vs : List Value) → CR W x vs → CR W' x vs
 | .sc v, vs, h => by simpa [CR] using h
 | .agg cs, vs, h => by
  simp only [CR] at h ⊢
  exact CRL.mono hl cs vs h
 | .tup _, vs, h => by simp [CR] at h
 | .ptr b v off, vs, h => by
  simp only [CR] at h ⊢
  obtain ⟨w, β, c, h1, h2, h3, h5⟩ := h
  obtain ⟨w', β', k1, k2⟩ := hl.M b w β h1
  refine ⟨w', β', c, k1, by omega, h3, fun e => ?_⟩
  rcases k2 with ⟨rfl, rfl⟩ | k2
  ·exact h5 e
  ·omega
 | .rptr e off, vs, h => by
  simp only [CR] at h ⊢
  obtain ⟨β, o, cs, h1, h2, h3, h4⟩ := h
  exact ⟨β, o, cs, hl.F β cs h1, h2, h3, CR.mono hl e _ h4.1, h4.2⟩
 | .map b, vs, h => by
  simp only [CR] at h ⊢
  obtain ⟨w, β, c, h1, h3, h5⟩ := h
  obtain ⟨w', β', k1, k2⟩ := hl.M b w β h1
  refine ⟨w', β', c, k1, h3, fun e => ?_⟩
  rcases k2 with ⟨rfl, rfl⟩ | k2
  ·exact h5 e
  ·omega
 | .fn f a c, vs, h => by
  simp only [CR] at h ⊢
  obtain ⟨a', c', h1, h2, h3⟩ := h
  exact ⟨a', c', h1, CRL.mono hl a _ h2, CRL.mono hl c _ h3⟩
 | .sl b v off n cap sz, vs, h => by
  simp only [CR] at h ⊢
  obtain ⟨w, β, c, h1, h2, h3, h5, h6, h7⟩ := h
  obtain ⟨w', β', k1, k2⟩ := hl.M b w β h1
  refine ⟨w', β', c, k1, by omega, h3, h5, h6, fun e => ?_⟩
  rcases k2 with ⟨rfl, rfl⟩ | k2
  ·exact h7 e
  ·omega
 | .lst sz full xs, vs, h => by
  simp only [CR] at h ⊢
  obtain ⟨β, o, cap, cs, h1, h2, h3, h4, h5, h6, h7, h8⟩ := h
  exact ⟨β, o, cap, cs, hl.F β cs h1, h2, h3, h4, h5, h6, h7, CRF.mono hl sz xs _ h8⟩
theorem CRL.mono {W W' : Wd} (hl : Wle W W') : (l : List IV) → (vs : List Value) → CRL W l vs → CRL W' l vs
 | [], vs, h => by simpa [CRL] using h
 | x :: r, vs, h => by
  simp only [CRL] at h ⊢
  obtain ⟨v, vs', h1, h2, h3, h4, h5⟩ := h
  exact ⟨v, vs', h1, h2, h3, CR.mono hl x _ h4, CRL.mono hl r _ h5⟩
theorem CRF.mono {W W' : Wd} (hl : Wle W W') : (sz : Nat) → (l : List IV) → (vs : List Value) → CRF W sz l vs → CRF W' sz l vs
 | sz, [], vs, h => by simp [CRF]
 | sz, x :: r, vs, h => by
  simp only [CRF] at h ⊢
  exact ⟨h.1, CR.mono hl x _ h.2.1, CRF.mono hl sz r _ h.2.2⟩
end
mutual
theorem IR.mono {W W' : Wd} (hl : Wle W W') : (x : IV) → (c : Value) → IR W x c → IR W' x c
 | .sc v, c, h => by simpa [IR] using h
 | .agg cs, c, h => by
  simp only [IR] at h ⊢
  obtain ⟨a, h1, h2⟩ := h
  exact ⟨a, h1, CRL.mono hl cs _ h2⟩
 | .tup vs, c, h => by
  simp only [IR] at h ⊢
  rcases h with h | ⟨a, h1, h2⟩
  ·exact .inl h
  ·exact .inr ⟨a, h1, IRL.mono hl vs _ h2⟩
 | .ptr b v o, c, h => by simp only [IR] at h ⊢; exact CR.mono hl _ _ h
 | .rptr e o, c, h => by simp only [IR] at h ⊢; exact CR.mono hl _ _ h
 | .map b, c, h => by simp only [IR] at h ⊢; exact CR.mono hl _ _ h
 | .fn f a b, c, h => by simp only [IR] at h ⊢; exact CR.mono hl _ _ h
 | .sl b v o n k z, c, h => by simp only [IR] at h ⊢; exact CR.mono hl _ _ h
 | .lst z f xs, c, h => by simp only [IR] at h ⊢; exact CR.mono hl _ _ h
theorem IRL.mono {W W' : Wd} (hl : Wle W W') : (l : List IV) → (vs : List Value) → IRL W l vs → IRL W' l vs
 | [], vs, h => by simpa [IRL] using h
 | x :: r, vs, h => by
  simp only [IRL] at h ⊢
  obtain ⟨v, vs', h1, h2, h3⟩ := h
  exact ⟨v, vs', h1, IR.mono hl x _ h2, IRL.mono hl r _ h3⟩
end
mutual
theorem CR.pure {W W' : Wd} (hF : ∀ β cs, W.F β = some cs → W'.F β = some cs) : (x : IV) → (vs : List Value) → ipure x = true → CR W x vs → CR W' x vs
 | .sc v, vs, _, h => by simpa [CR] using h
 | .agg cs, vs, hp, h => by
  simp only [CR] at h ⊢
  simp only [ipure] at hp
  exact CRL.pure hF cs vs hp h
 | .tup _, vs, _, h => by simp [CR] at h
 | .ptr b v off, vs, hp, h => by simp [ipure] at hp
 | .rptr e off, vs, hp, h => by simp [ipure] at hp
 | .map b, vs, hp, h => by simp [ipure] at hp
 | .fn f a c, vs, hp, h => by
  simp only [CR] at h ⊢
  simp only [ipure, Bool.and_eq_true] at hp
  obtain ⟨a', c', h1, h2, h3⟩ := h
  exact ⟨a', c', h1, CRL.pure hF a _ hp.1 h2, CRL.pure hF c _ hp.2 h3⟩
 | .sl b v off n cap sz, vs, hp, h => by simp [ipure] at hp
 | .lst sz full xs, vs, _, h => by
  simp only [CR] at h ⊢
  obtain ⟨β, o, cap, cs, h1, h2, h3, h4, h5, h6, h7, h8⟩ := h
  exact ⟨β, o, cap, cs, hF β cs h1, h2, h3, h4, h5, h6, h7, CRF.pure hF sz xs _ h7 h8⟩
theorem CRL.pure {W W' : Wd} (hF : ∀ β cs, W.F β = some cs → W'.F β = some cs) : (l : List IV) → (vs : List Value) → ipureL l = true → CRL W l vs → CRL W' l vs
 | [], vs, _, h => by simpa [CRL] using h
 | x :: r, vs, hp, h => by
  simp only [CRL] at h ⊢
  simp only [ipureL, Bool.and_eq_true] at hp
  obtain ⟨v, vs', h1, h2, h3, h4, h5⟩ := h
  exact ⟨v, vs', h1, h2, h3, CR.pure hF x _ hp.1 h4, CRL.pure hF r _ hp.2 h5⟩
theorem CRF.pure {W W' : Wd} (hF : ∀ β cs, W.F β = some cs → W'.F β = some cs) : (sz : Nat) → (l : List IV) → (vs : List Value) → ipureL l = true → CRF W sz l vs → CRF W' sz l vs
 | sz, [], vs, _, h => by simp [CRF]
 | sz, x :: r, vs, hp, h => by
  simp only [CRF] at h ⊢
  simp only [ipureL, Bool.and_eq_true] at hp
  exact ⟨h.1, CR.pure hF x _ hp.1 h.2.1, CRF.pure hF sz r _ hp.2 h.2.2⟩
end
mutual
theorem IR.pure {W W' : Wd} (hF : ∀ β cs, W.F β = some cs → W'.F β = some cs) : (x : IV) → (c : Value) → ipure x = true → IR W x c → IR W' x c
 | .sc v, c, _, h => by simpa [IR] using h
 | .agg cs, c, hp, h => by
  simp only [IR] at h ⊢
  simp only [ipure] at hp
  obtain ⟨a, h1, h2⟩ := h
  exact ⟨a, h1, CRL.pure hF cs _ hp h2⟩
 | .tup vs, c, hp, h => by
  simp only [IR] at h ⊢
  simp only [ipure] at hp
  rcases h with h | ⟨a, h1, h2⟩
  ·exact .inl h
  ·exact .inr ⟨a, h1, IRL.pure hF vs _ hp h2⟩
 | .ptr b v o, c, hp, h => by simp [ipure] at hp
 | .rptr e o, c, hp, h => by simp [ipure] at hp
 | .map b, c, hp, h => by simp [ipure] at hp
 | .fn f a b, c, hp, h => by simp only [IR] at h ⊢; exact CR.pure hF _ _ hp h
 | .sl b v o n k z, c, hp, h => by simp [ipure] at hp
 | .lst z f xs, c, hp, h => by simp only [IR] at h ⊢; exact CR.pure hF _ _ hp h
theorem IRL.pure {W W' : Wd} (hF : ∀ β cs, W.F β = some cs → W'.F β = some cs) : (l : List IV) → (vs : List Value) → ipureL l = true → IRL W l vs → IRL W' l vs
 | [], vs, _, h => by simpa [IRL] using h
 | x :: r, vs, hp, h => by
  simp only [IRL] at h ⊢
  simp only [ipureL, Bool.and_eq_true] at hp
  obtain ⟨v, vs', h1, h2, h3⟩ := h
  exact ⟨v, vs', h1, IR.pure hF x _ hp.1 h2, IRL.pure hF r _ hp.2 h3⟩
end
section
variable {W : Wd}
theorem CRL.len : ∀ {l : List IV} {vs : List Value}, CRL W l vs → vs.length = l.length
 | [], vs, h => by simp only [CRL] at h; simp [h]
 | x :: r, vs, h => by
  simp only [CRL] at h
  obtain ⟨v, vs', rfl, _, _, _, h5⟩ := h
  simp [CRL.len h5]
theorem CR.len : ∀ {x : IV} {vs : List Value}, CR W x vs → vs.length = (icells x).length := by
 intro x vs h
 cases x with
 | agg cs => simp only [CR] at h; exact CRL.len h
 | tup _ => simp [CR] at h
 | sc v => simp only [CR] at h; simp [h.1, icells]
 | ptr b v off => simp only [CR] at h; obtain ⟨_, _, _, _, _, rfl, _⟩ := h; rfl
 | rptr e off => simp only [CR] at h; obtain ⟨_, _, _, _, rfl, _⟩ := h; rfl
 | map b => simp only [CR] at h; obtain ⟨_, _, _, _, rfl, _⟩ := h; rfl
 | fn f a c => simp only [CR] at h; obtain ⟨_, _, rfl, _⟩ := h; rfl
 | sl b v off n cap sz => simp only [CR] at h; obtain ⟨_, _, _, _, _, rfl, _⟩ := h; rfl
 | lst sz full xs => simp only [CR] at h; obtain ⟨_, _, _, _, _, rfl, _⟩ := h; rfl
theorem CRL.nil_iff {vs : List Value} : CRL W [] vs ↔ vs = [] := by simp [CRL]
theorem CRL.cons_iff {x : IV} {r : List IV} {vs : List Value} : CRL W (x :: r) vs ↔ ∃ v vs', vs = v :: vs' ∧ ione x = true ∧ one v = true ∧ CR W x [v] ∧ CRL W r vs' := by simp only [CRL]
theorem CRL.append {a b : List IV} {x y : List Value} (h : CRL W a x) (k : CRL W b y) : CRL W (a ++ b) (x ++ y) := by
 induction a generalizing x with
 | nil => simp only [CRL] at h; subst h; simpa using k
 | cons p a ih =>
  obtain ⟨v, vs', rfl, h2, h3, h4, h5⟩ := CRL.cons_iff.1 h
  exact CRL.cons_iff.2 ⟨v, vs' ++ y, rfl, h2, h3, h4, ih h5⟩
theorem CRL.take {a : List IV} {x : List Value} (h : CRL W a x) (n : Nat) : CRL W (a.take n) (x.take n) := by
 induction a generalizing x n with
 | nil => simp only [CRL] at h; subst h; simp [CRL]
 | cons p a ih =>
  obtain ⟨v, vs', rfl, h2, h3, h4, h5⟩ := CRL.cons_iff.1 h
  cases n with
  | zero => simp [CRL]
  | succ n => exact CRL.cons_iff.2 ⟨v, vs'.take n, rfl, h2, h3, h4, ih h5 n⟩
theorem CRL.drop {a : List IV} {x : List Value} (h : CRL W a x) (n : Nat) : CRL W (a.drop n) (x.drop n) := by
 induction a generalizing x n with
 | nil => simp only [CRL] at h; subst h; simp [CRL]
 | cons p a ih =>
  obtain ⟨v, vs', rfl, h2, h3, h4, h5⟩ := CRL.cons_iff.1 h
  cases n with
  | zero => exact h
  | succ n => exact ih h5 n
theorem CRL.get {a : List IV} {x : List Value} (h : CRL W a x) {i : Nat} {p : IV} (hi : a[i]? = some p) : ∃ v, x[i]? = some v ∧ ione p = true ∧ one v = true ∧ CR W p [v] := by
 induction a generalizing x i with
 | nil => simp at hi
 | cons q a ih =>
  obtain ⟨v, vs', rfl, h2, h3, h4, h5⟩ := CRL.cons_iff.1 h
  cases i with
  | zero => simp at hi; subst hi; exact ⟨v, rfl, h2, h3, h4⟩
  | succ i => simpa using ih h5 (by simpa using hi)
theorem CRL.splice {a b : List IV} {x y : List Value} (h : CRL W a x) (k : CRL W b y) (off : Nat) : CRL W (isplice a off b) (G.splice x off y) := by
 unfold isplice G.splice
 rw [k.len]
 exact ((h.take off).append k).append (h.drop _)
theorem CRL.ones {a : List IV} {x : List Value} (h : CRL W a x) : a.all ione = true ∧ x.all one = true := by
 induction a generalizing x with
 | nil => simp only [CRL] at h; subst h; simp
 | cons p a ih =>
  obtain ⟨v, vs', rfl, h2, h3, h4, h5⟩ := CRL.cons_iff.1 h
  simp [h2, h3, ih h5]
theorem IRL.nil_iff {vs : List Value} : IRL W [] vs ↔ vs = [] := by simp [IRL]
theorem IRL.cons_iff {x : IV} {r : List IV} {vs : List Value} : IRL W (x :: r) vs ↔ ∃ v vs', vs = v :: vs' ∧ IR W x v ∧ IRL W r vs' := by simp only [IRL]
theorem IRL.len {a : List IV} {x : List Value} (h : IRL W a x) : x.length = a.length := by
 induction a generalizing x with
 | nil => simp only [IRL] at h; subst h; simp
 | cons p a ih =>
  obtain ⟨v, vs', rfl, h2, h3⟩ := IRL.cons_iff.1 h
  simp [ih h3]
theorem IRL.append {a b : List IV} {x y : List Value} (h : IRL W a x) (k : IRL W b y) : IRL W (a ++ b) (x ++ y) := by
 induction a generalizing x with
 | nil => simp only [IRL] at h; subst h; simpa using k
 | cons p a ih =>
  obtain ⟨v, vs', rfl, h2, h3⟩ := IRL.cons_iff.1 h
  exact IRL.cons_iff.2 ⟨v, vs' ++ y, rfl, h2, ih h3⟩
theorem IRL.get {a : List IV} {x : List Value} (h : IRL W a x) {i : Nat} {p : IV} (hi : a[i]? = some p) : ∃ v, x[i]? = some v ∧ IR W p v := by
 induction a generalizing x i with
 | nil => simp at hi
 | cons q a ih =>
  obtain ⟨v, vs', rfl, h2, h3⟩ := IRL.cons_iff.1 h
  cases i with
  | zero => simp at hi; subst hi; exact ⟨v, rfl, h2⟩
  | succ i => simpa using ih h3 (by simpa using hi)
theorem CR.toIR {x : IV} {v : Value} (h : CR W x [v]) (h1 : ione x = true) : IR W x v := by
 cases x with
 | sc u => simp only [CR] at h; simp only [IR]; exact ⟨by simpa using h.1, h.2.1⟩
 | agg cs => simp [ione] at h1
 | tup cs => simp [ione] at h1
 | _ => simpa only [IR] using h
theorem IR.toCR {x : IV} {v : Value} (h : IR W x v) (h1 : ione x = true) : CR W x [v] ∧ one v = true := by
 cases x with
 | sc u =>
  simp only [IR] at h
  obtain ⟨rfl, h2⟩ := h
  simp only [ione] at h1
  simp [CR, h2, h1]
 | agg cs => simp [ione] at h1
 | tup cs => simp [ione] at h1
 | ptr b v off => simp only [IR] at h; refine ⟨h, ?_⟩; simp only [CR] at h; obtain ⟨_, _, c, _, _, hc, _⟩ := h; simp at hc; rw [hc]; rfl
 | rptr e off => simp only [IR] at h; refine ⟨h, ?_⟩; simp only [CR] at h; obtain ⟨_, _, c, _, hc, _⟩ := h; simp at hc; rw [hc]; rfl
 | map b => simp only [IR] at h; refine ⟨h, ?_⟩; simp only [CR] at h; obtain ⟨_, _, c, _, hc, _⟩ := h; simp at hc; rw [hc]; rfl
 | fn f a c => simp only [IR] at h; refine ⟨h, ?_⟩; simp only [CR] at h; obtain ⟨_, _, hc, _⟩ := h; simp at hc; rw [hc]; rfl
 | sl b v off n cap sz => simp only [IR] at h; refine ⟨h, ?_⟩; simp only [CR] at h; obtain ⟨_, _, c, _, _, hc, _⟩ := h; simp at hc; rw [hc]; rfl
 | lst sz full xs => simp only [IR] at h; refine ⟨h, ?_⟩; simp only [CR] at h; obtain ⟨_, _, _, c, _, hc, _⟩ := h; simp at hc; rw [hc]; rfl
theorem one_cellsL {v : Value} (h : one v = true) : cellsL v = [v] := by cases v <;> simp_all [one, cellsL]
theorem IR.cells {x : IV} {v : Value} (h : IR W x v) (h1 : (icells x).all ione = true) : CRL W (icells x) (cellsL v) := by
 by_cases hx : ∃ cs, x = .agg cs
 ·obtain ⟨cs, rfl⟩ := hx
  simp only [IR] at h
  obtain ⟨a, rfl, h2⟩ := h
  exact h2
 ·have hc : icells x = [x] := by cases x <;> first | rfl | (exact absurd ⟨_, rfl⟩ hx)
  rw [hc] at h1 ⊢
  simp only [List.all_cons, List.all_nil, Bool.and_true] at h1
  obtain ⟨h2, h3⟩ := h.toCR h1
  rw [one_cellsL h3]
  exact CRL.cons_iff.2 ⟨v, [], rfl, h1, h3, h2, CRL.nil_iff.2 rfl⟩
theorem mkE_cells {sz : Nat} {cs : List IV} (hl : cs.length = sz) : icells (mkE sz cs) = cs ∨ (sz = 1 ∧ ∃ x, cs = [x] ∧ mkE sz cs = x) := by
 unfold mkE
 by_cases h : sz = 1
 ·right
  match cs, hl with
  | [x], _ => exact ⟨h, x, rfl, by simp [h]⟩
  | [], hl => simp at hl; omega
  | _ :: _ :: _, hl => simp at hl; omega
 ·left; simp [h, icells]
theorem ione_icells {x : IV} (h : ione x = true) : icells x = [x] := by cases x <;> simp_all [ione, icells]
theorem mkE_len {sz : Nat} {cs : List IV} (hl : cs.length = sz) (h1 : cs.all ione = true) : icells (mkE sz cs) = cs := by
 rcases mkE_cells hl with h | ⟨h, x, rfl, h2⟩
 ·exact h
 ·rw [h2]
  exact ione_icells (by simpa using h1)
theorem mkE_CR {sz : Nat} {cs : List IV} {vs : List Value} (hl : cs.length = sz) (h : CRL W cs vs) : CR W (mkE sz cs) vs := by
 unfold mkE
 by_cases h1 : sz = 1
 ·rw [if_pos h1]
  match cs, hl with
  | [x], _ =>
   obtain ⟨v, vs', rfl, h2, h3, h4, h5⟩ := CRL.cons_iff.1 h
   rw [CRL.nil_iff.1 h5]
   exact h4
  | [], hl => simp at hl; omega
  | _ :: _ :: _, hl => simp at hl; omega
 ·rw [if_neg h1]; simp only [CR]; exact h
theorem grp_CRF {sz : Nat} : ∀ (n : Nat) {cs : List IV} {vs : List Value}, n * sz ≤ cs.length → CRL W cs vs → CRF W sz (grp sz n cs) vs
 | 0, cs, vs, _, _ => by simp [grp, CRF]
 | n + 1, cs, vs, hl, h => by
  have hm : sz + n * sz ≤ cs.length := by rw [Nat.succ_mul] at hl; omega
  have ht : (cs.take sz).length = sz := by simp; omega
  simp only [grp, CRF]
  refine ⟨?_, mkE_CR ht (h.take sz), grp_CRF n (by simp; omega) (h.drop sz)⟩
  rw [mkE_len ht (h.take sz).ones.1]; exact ht
theorem grp_len {sz : Nat} : ∀ (n : Nat) (cs : List IV), (grp sz n cs).length = n
 | 0, _ => rfl
 | n + 1, cs => by simp [grp, grp_len n]
theorem ipureL_iff {l : List IV} : ipureL l = true ↔ ∀ x ∈ l, ipure x = true := by
 induction l with
 | nil => simp [ipureL]
 | cons x l ih => simp [ipureL, ih]
theorem ipure_mkE {sz : Nat} {cs : List IV} (h : ∀ x ∈ cs, ipure x = true) : ipure (mkE sz cs) = true := by
 unfold mkE
 split
 ·cases cs with
  | nil => rfl
  | cons x r => exact h x (by simp)
 ·simp only [ipure]; exact ipureL_iff.2 h
theorem ipure_grp {sz : Nat} : ∀ (n : Nat) {cs : List IV}, (∀ x ∈ cs, ipure x = true) → ∀ x ∈ grp sz n cs, ipure x = true
 | 0, cs, _, x, hx => by simp [grp] at hx
 | n + 1, cs, h, x, hx => by
  simp only [grp, List.mem_cons] at hx
  rcases hx with rfl | hx
  ·exact ipure_mkE fun y hy => h y (List.mem_of_mem_take hy)
  ·exact ipure_grp n (fun y hy => h y (List.mem_of_mem_drop hy)) x hx
theorem CR.cellsOf {x : IV} {vs : List Value} (h : CR W x vs) : CRL W (icells x) vs ∨ ∃ v, vs = [v] ∧ icells x = [x] ∧ ione x = false := by
 by_cases hx : ∃ cs, x = .agg cs
 ·obtain ⟨cs, rfl⟩ := hx
  simp only [CR] at h
  exact .inl h
 ·have hc : icells x = [x] := by cases x <;> first | rfl | (exact absurd ⟨_, rfl⟩ hx)
  have hl := h.len
  rw [hc] at hl
  match vs, hl with
  | [v], _ =>
   cases h1 : ione x with
   | false => exact .inr ⟨v, rfl, hc, rfl⟩
   | true =>
    rw [hc]
    exact .inl (CRL.cons_iff.2 ⟨v, [], rfl, h1, ((CR.toIR h h1).toCR h1).2, h, CRL.nil_iff.2 rfl⟩)
theorem CR.cells {x : IV} {vs : List Value} (h : CR W x vs) : CRL W (icells x) vs := by
 rcases h.cellsOf with h1 | ⟨v, rfl, h2, h3⟩
 ·exact h1
 ·cases x with
  | sc u => simp only [CR] at h; simp [ione, h.2.2] at h3
  | agg cs => simp only [CR] at h; exact h
  | tup cs => simp [CR] at h
  | _ => simp [ione] at h3
theorem CRF.flat {sz : Nat} : ∀ {xs : List IV} {vs : List Value}, CRF W sz xs vs → xs.length * sz ≤ vs.length → CRL W (xs.flatMap icells) (vs.take (xs.length * sz))
 | [], vs, _, _ => by simp [CRL]
 | x :: r, vs, h, hl => by
  simp only [CRF] at h
  obtain ⟨h1, h2, h3⟩ := h
  simp only [List.length_cons, Nat.succ_mul] at hl
  have h4 := CRF.flat h3 (by simp; omega)
  have h5 := h2.cells
  have : vs.take ((x :: r).length * sz) = vs.take sz ++ (vs.drop sz).take (r.length * sz) := by
   simp only [List.length_cons, Nat.succ_mul, Nat.add_comm (r.length * sz) sz, List.take_add]
  rw [this, List.flatMap_cons]
  exact h5.append h4
theorem CRF.get {sz : Nat} : ∀ {xs : List IV} {vs : List Value} {i : Nat} {e : IV}, CRF W sz xs vs → xs[i]? = some e → (icells e).length = sz ∧ CR W e ((vs.drop (i * sz)).take sz)
 | [], vs, i, e, _, hi => by simp at hi
 | x :: r, vs, 0, e, h, hi => by
  simp only [CRF] at h
  simp at hi
  subst hi
  exact ⟨h.1, by simpa using h.2.1⟩
 | x :: r, vs, i + 1, e, h, hi => by
  simp only [CRF] at h
  have := CRF.get h.2.2 (i := i) (by simpa using hi)
  refine ⟨this.1, ?_⟩
  have h2 := this.2
  rw [List.drop_drop] at h2
  rw [Nat.succ_mul, Nat.add_comm]
  exact h2
theorem CRF.drop {sz : Nat} : ∀ (k : Nat) {xs : List IV} {vs : List Value}, CRF W sz xs vs → CRF W sz (xs.drop k) (vs.drop (k * sz))
 | 0, xs, vs, h => by simpa using h
 | k + 1, [], vs, h => by simp [CRF]
 | k + 1, x :: r, vs, h => by
  simp only [CRF] at h
  have := CRF.drop k h.2.2
  rw [List.drop_drop] at this
  rw [Nat.succ_mul, Nat.add_comm (k * sz) sz]
  exact this
theorem CRF.take {sz : Nat} : ∀ (k : Nat) {xs : List IV} {vs : List Value}, CRF W sz xs vs → CRF W sz (xs.take k) vs
 | 0, xs, vs, h => by simp [CRF]
 | k + 1, [], vs, h => by simp [CRF]
 | k + 1, x :: r, vs, h => by
  simp only [CRF, List.take_succ_cons] at h ⊢
  exact ⟨h.1, h.2.1, CRF.take k h.2.2⟩
theorem ipureL_take {l : List IV} (h : ipureL l = true) (n : Nat) : ipureL (l.take n) = true := ipureL_iff.2 fun x hx => ipureL_iff.1 h x (List.mem_of_mem_take hx)
theorem ipureL_drop {l : List IV} (h : ipureL l = true) (n : Nat) : ipureL (l.drop n) = true := ipureL_iff.2 fun x hx => ipureL_iff.1 h x (List.mem_of_mem_drop hx)
end
def IER (W : Wd) : List IEnt → List Ent → Prop
 | [], [] => True
 | a :: x, b :: y => b.key = a.key ∧ IR W a.val b.val ∧ b.born = a.born ∧ IER W x y
 | _, _ => False
theorem IER.mono {W W' : Wd} (hl : Wle W W') : ∀ {a : List IEnt} {b : List Ent}, IER W a b → IER W' a b
 | [], [], _ => trivial
 | [], _ :: _, h => by simp [IER] at h
 | _ :: _, [], h => by simp [IER] at h
 | a :: x, b :: y, h => by
  simp only [IER] at h ⊢
  exact ⟨h.1, h.2.1.mono hl, h.2.2.1, IER.mono hl h.2.2.2⟩
structure HR (W : Wd) (J : JH) (H : Heap) : Prop where
 dom : ∀ b w β, W.M b = some (w, β) → (∃ cs ro, J[b]? = some (.cells w cs ro)) ∨ (w = 0 ∧ ∃ es k, J[b]? = some (.map es k))
 cells : ∀ b w β cs ro, W.M b = some (w, β) → J[b]? = some (.cells w cs ro) → ∃ cs' r, H[β]? = some (.cells cs' r) ∧ CRL W cs cs' ∧ (ro = false → r = false ∧ W.F β = none) ∧ (ro = true → W.F β = some cs')
 maps : ∀ b w β es k, W.M b = some (w, β) → J[b]? = some (.map es k) → ∃ es', H[β]? = some (.map es' k) ∧ IER W es es'
 inj : ∀ b c w v β, W.M b = some (w, β) → W.M c = some (v, β) → b = c
 fro : ∀ β cs, W.F β = some cs → ∃ r, H[β]? = some (.cells cs r)
structure SS (W : Wd) (J : JH) (H : Heap) (W' : Wd) (J' : JH) (H' : Heap) (T : Nat → Prop) : Prop where
 le : Wle W W'
 hr : HR W' J' H'
 newM : ∀ b w β, W'.M b = some (w, β) → (∃ w0 β0, W.M b = some (w0, β0) ∧ (β0 = β ∨ H.size ≤ β)) ∨ (J.size ≤ b ∧ H.size ≤ β)
 newF : ∀ β cs, W'.F β = some cs → W.F β = some cs ∨ (∃ b w, W.M b = some (w, β)) ∨ H.size ≤ β
 hs : H.size ≤ H'.size
 js : J.size ≤ J'.size
 frG : ∀ β, β < H.size → (∀ b w, W.M b = some (w, β) → ¬ T b) → H'[β]? = H[β]?
 frI : ∀ b, b < J.size → W.M b = none → J'[b]? = J[b]?
theorem SS.refl {W : Wd} {J : JH} {H : Heap} (h : HR W J H) (T : Nat → Prop) : SS W J H W J H T :=
 ⟨.refl W, h, fun b w β hb => .inl ⟨w, β, hb, .inl rfl⟩, fun β cs hF => .inl hF, Nat.le_refl _, Nat.le_refl _, fun _ _ _ => rfl, fun _ _ _ => rfl⟩
theorem SS.all {W W' : Wd} {J J' : JH} {H H' : Heap} {T : Nat → Prop} (h : SS W J H W' J' H' T) : SS W J H W' J' H' fun _ => True :=
 ⟨h.le, h.hr, h.newM, h.newF, h.hs, h.js, fun β hβ hn => h.frG β hβ fun b w hb => absurd trivial (hn b w hb), h.frI⟩
theorem SS.trans {W W1 W2 : Wd} {J J1 J2 : JH} {H H1 H2 : Heap} {T1 T2 : Nat → Prop} (h : SS W J H W1 J1 H1 T1) (k : SS W1 J1 H1 W2 J2 H2 T2) : SS W J H W2 J2 H2 fun _ => True where
 le := h.le.trans k.le
 hr := k.hr
 newM := fun b w β hb => by
  rcases k.newM b w β hb with ⟨w1, β1, h1, h2⟩ | ⟨h1, h2⟩
  ·rcases h.newM b w1 β1 h1 with ⟨w0, β0, h3, h4⟩ | ⟨h3, h4⟩
   ·refine .inl ⟨w0, β0, h3, ?_⟩
    rcases h2 with rfl | h2
    ·exact h4
    ·exact .inr (Nat.le_trans h.hs h2)
   ·refine .inr ⟨h3, ?_⟩
    rcases h2 with rfl | h2
    ·exact h4
    ·exact Nat.le_trans h.hs h2
  ·exact .inr ⟨Nat.le_trans h.js h1, Nat.le_trans h.hs h2⟩
 newF := fun β cs hF => by
  rcases k.newF β cs hF with h1 | ⟨b, w, h1⟩ | h1
  ·exact h.newF β cs h1
  ·rcases h.newM b w β h1 with ⟨w0, β0, h3, rfl | h4⟩ | ⟨_, h4⟩
   ·exact .inr (.inl ⟨b, w0, h3⟩)
   ·exact .inr (.inr h4)
   ·exact .inr (.inr h4)
  ·exact .inr (.inr (Nat.le_trans h.hs h1))
 hs := Nat.le_trans h.hs k.hs
 js := Nat.le_trans h.js k.js
 frG := fun β hβ hn => by
  rw [k.frG β (Nat.lt_of_lt_of_le hβ h.hs), h.frG β hβ fun b w hb => absurd trivial (hn b w hb)]
  intro b w hb
  rcases h.newM b w β hb with ⟨w0, β0, h3, rfl | h4⟩ | ⟨_, h4⟩
  ·exact absurd trivial (hn b w0 h3)
  ·omega
  ·omega
 frI := fun b hb hn => by
  rw [k.frI b (Nat.lt_of_lt_of_le hb h.js), h.frI b hb hn]
  cases hM : W1.M b with
  | none => rfl
  | some q =>
   obtain ⟨w, β⟩ := q
   rcases h.newM b w β hM with ⟨w0, β0, h3, _⟩ | ⟨h3, _⟩
   ·rw [hn] at h3; cases h3
   ·omega
theorem HR.read {W : Wd} {J : JH} {H : Heap} (h : HR W J H) {b v off n w β : Nat} {vs : List IV} (hM : W.M b = some (w, β)) (hr : ird J b v off n = some vs) : v = w ∧ ∃ cs, rd H β off n = some cs ∧ CRL W vs cs := by
 unfold ird at hr
 split at hr
 ·rename_i w' cs ro hJ
  split at hr
  ·rename_i hc
   obtain ⟨rfl, hle⟩ := hc
   simp only [Option.some.injEq] at hr
   subst hr
   rcases h.dom b w β hM with ⟨cs2, ro2, h2⟩ | ⟨_, es, k, h2⟩
   ·rw [hJ] at h2
    simp only [Option.some.injEq, IB.cells.injEq] at h2
    obtain ⟨rfl, rfl, rfl⟩ := h2
    obtain ⟨cs', r, h3, h4, _⟩ := h.cells b v β cs ro hM hJ
    refine ⟨rfl, _, ?_, (h4.drop off).take n⟩
    unfold rd
    rw [h3]
    simp only [h4.len, if_pos hle]
   ·rw [hJ] at h2; cases h2
  ·simp at hr
 ·simp at hr
theorem HR.lt {W : Wd} {J : JH} {H : Heap} (h : HR W J H) {b w β : Nat} (hM : W.M b = some (w, β)) : b < J.size ∧ β < H.size := by
 have lt1 : ∀ {α : Type} {A : Array α} {i : Nat} {x : α}, A[i]? = some x → i < A.size := fun {α A i x} hh => by
  rcases Nat.lt_or_ge i A.size with h | h
  ·exact h
  ·rw [Array.getElem?_eq_none h] at hh; cases hh
 rcases h.dom b w β hM with ⟨cs, ro, h1⟩ | ⟨_, es, k, h1⟩
 ·obtain ⟨cs', r, h3, _⟩ := h.cells b w β cs ro hM h1
  exact ⟨lt1 h1, lt1 h3⟩
 ·obtain ⟨es', h3, _⟩ := h.maps b w β es k hM h1
  exact ⟨lt1 h1, lt1 h3⟩
end Go.Proofs.Ytmgfkifjgajclaa.G
namespace Go.Proofs.Ytmgfkifjgajclaa.G
open Go
section
variable {W : Wd} {J : JH} {H : Heap}
def TT : Option (List Nat) → Nat → Prop
 | some l => fun b => b ∈ l
 | none => fun _ => True
def T0 : Nat → Prop := fun _ => False
theorem SS.weak {W' : Wd} {J' : JH} {H' : Heap} {T T' : Nat → Prop} (h : SS W J H W' J' H' T) (hT : ∀ b, T b → T' b) : SS W J H W' J' H' T' :=
 ⟨h.le, h.hr, h.newM, h.newF, h.hs, h.js, fun β hβ hn => h.frG β hβ fun b w hb ht => hn b w hb (hT b ht), h.frI⟩
def Wd.add (W : Wd) (b β : Nat) : Wd := { W with M := fun x => if x = b then some (0, β) else W.M x }
theorem HR.F_size (h : HR W J H) : W.F H.size = none := by
 cases hF : W.F H.size with
 | none => rfl
 | some q =>
  obtain ⟨r, hr⟩ := h.fro _ _ hF
  rw [Array.getElem?_eq_none (Nat.le_refl _)] at hr
  cases hr
theorem Wle.add (h : HR W J H) : Wle W (W.add J.size H.size) := by
 refine ⟨fun b w β hb => ⟨w, β, ?_, .inl ⟨rfl, rfl⟩⟩, fun _ _ h => h⟩
 simp only [Wd.add]
 rw [if_neg (Nat.ne_of_lt (h.lt hb).1)]
 exact hb
theorem get_push_lt {α : Type} {A : Array α} {x : α} {i : Nat} (h : i < A.size) : (A.push x)[i]? = A[i]? := by
 rw [Array.getElem?_push, if_neg (Nat.ne_of_lt h)]
theorem HR.push (h : HR W J H) {X : IB} {Y : Blk}
  (hX : (∃ cs cs', X = .cells 0 cs false ∧ Y = .cells cs' false ∧ CRL W cs cs') ∨ (∃ k es es', X = .map es k ∧ Y = .map es' k ∧ IER W es es')) :
  SS W J H (W.add J.size H.size) (J.push X) (H.push Y) T0 := by
 have hle := Wle.add h
 have hnew : (W.add J.size H.size).M J.size = some (0, H.size) := by simp [Wd.add]
 have hold : ∀ {b w β}, (W.add J.size H.size).M b = some (w, β) → b ≠ J.size → W.M b = some (w, β) := fun {b w β} hb hne => by
  simpa [Wd.add, hne] using hb
 refine ⟨hle, ⟨?_, ?_, ?_, ?_, ?_⟩, ?_, fun β cs hF => .inl hF, by simp, by simp, fun β hβ _ => get_push_lt hβ, fun b hb _ => get_push_lt hb⟩
 ·intro b w β hb
  by_cases hbs : b = J.size
  ·subst hbs
   rw [hnew] at hb
   cases hb
   rw [Array.getElem?_push, if_pos rfl]
   rcases hX with ⟨cs, cs', rfl, _⟩ | ⟨k, es, es', rfl, _⟩
   ·exact .inl ⟨cs, false, rfl⟩
   ·exact .inr ⟨rfl, es, k, rfl⟩
  ·have hb' := hold hb hbs
   rw [get_push_lt (h.lt hb').1]
   exact h.dom b w β hb'
 ·intro b w β cs ro hb hJ
  by_cases hbs : b = J.size
  ·subst hbs
   rw [hnew] at hb
   cases hb
   rw [Array.getElem?_push, if_pos rfl] at hJ
   simp only [Option.some.injEq] at hJ
   rcases hX with ⟨cs1, cs', hx, rfl, hc⟩ | ⟨k, es, es', hx, _⟩
   ·rw [hx] at hJ
    cases hJ
    refine ⟨cs', false, by simp, hc.mono hle, fun _ => ⟨rfl, h.F_size⟩, fun e => by cases e⟩
   ·rw [hx] at hJ; cases hJ
  ·have hb' := hold hb hbs
   rw [get_push_lt (h.lt hb').1] at hJ
   rw [get_push_lt (h.lt hb').2]
   obtain ⟨cs', r, h1, h2, h3⟩ := h.cells b w β cs ro hb' hJ
   exact ⟨cs', r, h1, h2.mono hle, h3⟩
 ·intro b w β es k hb hJ
  by_cases hbs : b = J.size
  ·subst hbs
   rw [hnew] at hb
   cases hb
   rw [Array.getElem?_push, if_pos rfl] at hJ
   simp only [Option.some.injEq] at hJ
   rcases hX with ⟨cs1, cs', hx, _⟩ | ⟨k', es1, es', hx, rfl, hie⟩
   ·rw [hx] at hJ; cases hJ
   ·rw [hx] at hJ
    cases hJ
    exact ⟨es', by simp, hie.mono hle⟩
  ·have hb' := hold hb hbs
   rw [get_push_lt (h.lt hb').1] at hJ
   rw [get_push_lt (h.lt hb').2]
   obtain ⟨es', h1, h2⟩ := h.maps b w β es k hb' hJ
   exact ⟨es', h1, h2.mono hle⟩
 ·intro b c w v β hb hc
  by_cases hbs : b = J.size <;> by_cases hcs : c = J.size
  ·rw [hbs, hcs]
  ·subst hbs
   rw [hnew] at hb
   cases hb
   exact absurd (h.lt (hold hc hcs)).2 (Nat.lt_irrefl _)
  ·subst hcs
   rw [hnew] at hc
   cases hc
   exact absurd (h.lt (hold hb hbs)).2 (Nat.lt_irrefl _)
  ·exact h.inj b c w v β (hold hb hbs) (hold hc hcs)
 ·intro β cs hF
  obtain ⟨r, hr⟩ := h.fro β cs hF
  refine ⟨r, ?_⟩
  rw [get_push_lt]
  ·exact hr
  ·rcases Nat.lt_or_ge β H.size with h | h
   ·exact h
   ·rw [Array.getElem?_eq_none h] at hr; cases hr
 ·intro b w β hb
  by_cases hbs : b = J.size
  ·subst hbs
   rw [hnew] at hb
   cases hb
   exact .inr ⟨Nat.le_refl _, Nat.le_refl _⟩
  ·exact .inl ⟨w, β, hold hb hbs, .inl rfl⟩
def Wd.addF (W : Wd) (β : Nat) (cs : List Value) : Wd := { W with F := fun x => if x = β then some cs else W.F x }
theorem newF_addF {cs : List Value} : ∀ β ds, (W.addF H.size cs).F β = some ds → W.F β = some ds ∨ (∃ b w, W.M b = some (w, β)) ∨ H.size ≤ β := by
 intro β ds hF
 simp only [Wd.addF] at hF
 split at hF
 ·exact .inr (.inr (by omega))
 ·exact .inl hF
theorem HR.pushF (h : HR W J H) (cs : List Value) : SS W J H (W.addF H.size cs) J (H.push (.cells cs false)) T0 := by
 have hle : Wle W (W.addF H.size cs) := by
  refine ⟨fun b w β hb => ⟨w, β, hb, .inl ⟨rfl, rfl⟩⟩, fun β ds hF => ?_⟩
  simp only [Wd.addF]
  rw [if_neg]
  ·exact hF
  ·rintro rfl; rw [h.F_size] at hF; cases hF
 refine ⟨hle, ⟨h.dom, ?_, ?_, h.inj, ?_⟩, fun b w β hb => .inl ⟨w, β, hb, .inl rfl⟩, newF_addF, by simp, Nat.le_refl _, fun β hβ _ => get_push_lt hβ, fun b hb _ => rfl⟩
 ·intro b w β ds ro hb hJ
  obtain ⟨cs', r, h1, h2, h3, h4⟩ := h.cells b w β ds ro hb hJ
  have hlt := (h.lt hb).2
  refine ⟨cs', r, by rw [get_push_lt hlt]; exact h1, h2.mono hle, fun e => ?_, fun e => ?_⟩
  ·simp only [Wd.addF]; rw [if_neg (Nat.ne_of_lt hlt)]; exact h3 e
  ·simp only [Wd.addF]; rw [if_neg (Nat.ne_of_lt hlt)]; exact h4 e
 ·intro b w β es k hb hJ
  obtain ⟨es', h1, h2⟩ := h.maps b w β es k hb hJ
  exact ⟨es', by rw [get_push_lt (h.lt hb).2]; exact h1, h2.mono hle⟩
 ·intro β ds hF
  simp only [Wd.addF] at hF
  split at hF
  ·rename_i hβ
   simp only [Option.some.injEq] at hF
   subst hF hβ
   exact ⟨false, by simp⟩
  ·obtain ⟨r, hr⟩ := h.fro β ds hF
   refine ⟨r, ?_⟩
   rw [get_push_lt]
   ·exact hr
   ·rcases Nat.lt_or_ge β H.size with h | h
    ·exact h
    ·rw [Array.getElem?_eq_none h] at hr; cases hr
theorem get_set {α : Type} {A : Array α} {i j : Nat} {x : α} (hi : i < A.size) : (A.setIfInBounds i x)[j]? = if i = j then some x else A[j]? := by
 rw [Array.getElem?_setIfInBounds]
 by_cases h : i = j
 ·subst h; simp [hi]
 ·simp [h]
theorem HR.set (h : HR W J H) {b w β : Nat} (hM : W.M b = some (w, β)) {X : IB} {Y : Blk}
  (hX : (∃ cs cs', (∃ ds, J[b]? = some (.cells w ds false)) ∧ X = .cells w cs false ∧ Y = .cells cs' false ∧ CRL W cs cs') ∨ (∃ es es' k, (∃ fs l, J[b]? = some (.map fs l)) ∧ X = .map es k ∧ Y = .map es' k ∧ IER W es es')) :
  SS W J H W (J.setIfInBounds b X) (H.setIfInBounds β Y) (fun x => x = b) := by
 obtain ⟨hbJ, hβH⟩ := h.lt hM
 have hFβ : ∀ cs, W.F β = some cs → False := by
  intro cs hF
  rcases hX with ⟨_, _, ⟨ds, hJ⟩, _⟩ | ⟨_, _, _, ⟨fs, l, hJ⟩, _⟩
  ·obtain ⟨cs', r, _, _, h3, _⟩ := h.cells b w β ds false hM hJ
   rw [(h3 rfl).2] at hF; cases hF
  ·obtain ⟨es', h1, _⟩ := h.maps b w β fs l hM hJ
   obtain ⟨r, hr⟩ := h.fro β cs hF
   rw [h1] at hr; cases hr
 refine ⟨.refl W, ⟨?_, ?_, ?_, h.inj, ?_⟩, fun x w β hb => .inl ⟨w, β, hb, .inl rfl⟩, fun β cs hF => .inl hF, by simp, by simp, ?_, ?_⟩
 ·intro x v γ hx
  rw [get_set hbJ]
  by_cases hxb : b = x
  ·subst hxb
   rw [hM] at hx
   cases hx
   simp only [if_true]
   rcases hX with ⟨cs, cs', _, rfl, _⟩ | ⟨es, es', k, ⟨fs, l, hJ⟩, rfl, _⟩
   ·exact .inl ⟨cs, false, rfl⟩
   ·rcases h.dom b w β hM with ⟨cs, ro, h1⟩ | ⟨h0, _⟩
    ·rw [hJ] at h1; cases h1
    ·exact .inr ⟨h0, es, k, rfl⟩
  ·rw [if_neg hxb]; exact h.dom x v γ hx
 ·intro x v γ cs ro hx hJ
  rw [get_set hbJ] at hJ
  by_cases hxb : b = x
  ·subst hxb
   rw [hM] at hx
   cases hx
   simp only [if_true, Option.some.injEq] at hJ
   rcases hX with ⟨cs1, cs', _, rfl, rfl, hc⟩ | ⟨es, es', k, _, rfl, _⟩
   ·cases hJ
    refine ⟨cs', false, by rw [get_set hβH]; simp, hc, fun _ => ⟨rfl, ?_⟩, fun e => by cases e⟩
    cases hF : W.F β with
    | none => rfl
    | some cs => exact (hFβ cs hF).elim
   ·cases hJ
  ·rw [if_neg hxb] at hJ
   obtain ⟨cs', r, h1, h2⟩ := h.cells x v γ cs ro hx hJ
   refine ⟨cs', r, ?_, h2⟩
   rw [get_set hβH, if_neg]
   ·exact h1
   ·rintro rfl; exact hxb (h.inj b x _ _ _ hM hx)
 ·intro x v γ es k hx hJ
  rw [get_set hbJ] at hJ
  by_cases hxb : b = x
  ·subst hxb
   rw [hM] at hx
   cases hx
   simp only [if_true, Option.some.injEq] at hJ
   rcases hX with ⟨cs1, cs', _, rfl, rfl, hc⟩ | ⟨es1, es', k1, _, rfl, rfl, hc⟩
   ·cases hJ
   ·cases hJ
    exact ⟨es', by rw [get_set hβH]; simp, hc⟩
  ·rw [if_neg hxb] at hJ
   obtain ⟨es', h1, h2⟩ := h.maps x v γ es k hx hJ
   refine ⟨es', ?_, h2⟩
   rw [get_set hβH, if_neg]
   ·exact h1
   ·rintro rfl; exact hxb (h.inj b x _ _ _ hM hx)
 ·intro γ cs hF
  rw [get_set hβH, if_neg]
  ·exact h.fro γ cs hF
  ·rintro rfl; exact hFβ cs hF
 ·intro γ hγ hn
  rw [get_set hβH, if_neg]
  rintro rfl
  exact hn b w hM rfl
 ·intro x hx hn
  rw [get_set hbJ, if_neg]
  rintro rfl
  rw [hM] at hn; cases hn
theorem HR.write (h : HR W J H) {b v off w β : Nat} {vs : List IV} {us : List Value} {J' : JH} (hM : W.M b = some (w, β)) (hw : iwr J b v off vs = some J') (hv : vs.all ione = true → CRL W vs us) :
  v = w ∧ ∃ H', wr H β off us = some H' ∧ SS W J H W J' H' (fun x => x = b) := by
 unfold iwr at hw
 split at hw
 ·rename_i w' cs hJ
  split at hw
  ·rename_i hc
   obtain ⟨rfl, hle, hall⟩ := hc
   simp only [Option.some.injEq] at hw
   subst hw
   have hw' : v = w := by
    rcases h.dom b w β hM with ⟨cs2, ro2, h2⟩ | ⟨_, es, k, h2⟩
    ·rw [hJ] at h2; cases h2; rfl
    ·rw [hJ] at h2; cases h2
   subst hw'
   have hu := hv hall
   obtain ⟨cs', r, h3, h4, h5, _⟩ := h.cells b v β cs false hM hJ
   obtain ⟨rfl, _⟩ := h5 rfl
   refine ⟨rfl, _, ?_, h.set hM (.inl ⟨_, _, ⟨cs, hJ⟩, rfl, rfl, h4.splice hu off⟩)⟩
   unfold wr
   rw [h3]
   simp only [h4.len, hu.len, hu.ones.2, Bool.and_true, decide_eq_true_eq]
   rw [if_pos hle]
  ·simp at hw
 ·simp at hw
def Wd.bump (W : Wd) (b w β : Nat) : Wd := { W with M := fun x => if x = b then some (w, β) else W.M x }
theorem HR.grow (h : HR W J H) {b w β : Nat} {cs : List IV} {cs' : List Value} {es : List IV} (hM : W.M b = some (w, β)) (hJ : J[b]? = some (.cells w es false)) (hc : CRL W cs cs') :
  SS W J H (W.bump b (w + 1) H.size) (J.setIfInBounds b (.cells (w + 1) cs false)) ((H.setIfInBounds β .dead).push (.cells cs' false)) (fun x => x = b) := by
 obtain ⟨hbJ, hβH⟩ := h.lt hM
 have hFβ : W.F β = none := by
  obtain ⟨cs', r, _, _, h3, _⟩ := h.cells b w β es false hM hJ
  exact (h3 rfl).2
 have hle : Wle W (W.bump b (w + 1) H.size) := by
  refine ⟨fun x v γ hx => ?_, fun _ _ h => h⟩
  simp only [Wd.bump]
  by_cases hxb : x = b
  ·subst hxb
   rw [hM] at hx
   cases hx
   exact ⟨w + 1, H.size, by simp, .inr (by omega)⟩
  ·exact ⟨v, γ, by rw [if_neg hxb]; exact hx, .inl ⟨rfl, rfl⟩⟩
 have hnew : (W.bump b (w + 1) H.size).M b = some (w + 1, H.size) := by simp [Wd.bump]
 have hold : ∀ {x v γ}, (W.bump b (w + 1) H.size).M x = some (v, γ) → x ≠ b → W.M x = some (v, γ) := fun {x v γ} hb hne => by simpa [Wd.bump, hne] using hb
 have hgH : ∀ {γ : Nat}, γ < H.size → γ ≠ β → ((H.setIfInBounds β .dead).push (.cells cs' false))[γ]? = H[γ]? := fun {γ} h1 h2 => by
  rw [get_push_lt (by simpa using h1), get_set hβH, if_neg (fun e => h2 e.symm)]
 refine ⟨hle, ⟨?_, ?_, ?_, ?_, ?_⟩, ?_, fun β cs hF => .inl hF, by simp, by simp, ?_, ?_⟩
 ·intro x v γ hx
  rw [get_set hbJ]
  by_cases hxb : b = x
  ·subst hxb
   rw [hnew] at hx
   cases hx
   exact .inl ⟨cs, false, by simp⟩
  ·rw [if_neg hxb]; exact h.dom x v γ (hold hx (fun e => hxb e.symm))
 ·intro x v γ ds ro hx hJx
  rw [get_set hbJ] at hJx
  by_cases hxb : b = x
  ·subst hxb
   rw [hnew] at hx
   cases hx
   simp only [if_true, Option.some.injEq, IB.cells.injEq] at hJx
   obtain ⟨_, rfl, rfl⟩ := hJx
   refine ⟨cs', false, ?_, hc.mono hle, fun _ => ⟨rfl, h.F_size⟩, fun e => by cases e⟩
   rw [Array.getElem?_push, if_pos (by simp)]
  ·rw [if_neg hxb] at hJx
   have hx' := hold hx (fun e => hxb e.symm)
   obtain ⟨ds', r, h1, h2, h3⟩ := h.cells x v γ ds ro hx' hJx
   refine ⟨ds', r, ?_, h2.mono hle, h3⟩
   rw [hgH (h.lt hx').2]
   ·exact h1
   ·rintro rfl; exact hxb (h.inj b x _ _ _ hM hx')
 ·intro x v γ fs k hx hJx
  rw [get_set hbJ] at hJx
  by_cases hxb : b = x
  ·subst hxb
   simp at hJx
  ·rw [if_neg hxb] at hJx
   have hx' := hold hx (fun e => hxb e.symm)
   obtain ⟨es', h1, h2⟩ := h.maps x v γ fs k hx' hJx
   refine ⟨es', ?_, h2.mono hle⟩
   rw [hgH (h.lt hx').2]
   ·exact h1
   ·rintro rfl; exact hxb (h.inj b x _ _ _ hM hx')
 ·intro x y v u γ hx hy
  by_cases hxb : x = b <;> by_cases hyb : y = b
  ·rw [hxb, hyb]
  ·subst hxb
   rw [hnew] at hx
   cases hx
   exact absurd (h.lt (hold hy hyb)).2 (Nat.lt_irrefl _)
  ·subst hyb
   rw [hnew] at hy
   cases hy
   exact absurd (h.lt (hold hx hxb)).2 (Nat.lt_irrefl _)
  ·exact h.inj x y v u γ (hold hx hxb) (hold hy hyb)
 ·intro γ ds hF
  have hF' : W.F γ = some ds := hF
  obtain ⟨r, hr⟩ := h.fro γ ds hF'
  refine ⟨r, ?_⟩
  rw [hgH]
  ·exact hr
  ·rcases Nat.lt_or_ge γ H.size with h | h
   ·exact h
   ·rw [Array.getElem?_eq_none h] at hr; cases hr
  ·rintro rfl; rw [hFβ] at hF'; cases hF'
 ·intro x v γ hx
  by_cases hxb : x = b
  ·subst hxb
   rw [hnew] at hx
   cases hx
   exact .inl ⟨w, β, hM, .inr (Nat.le_refl _)⟩
  ·exact .inl ⟨v, γ, hold hx hxb, .inl rfl⟩
 ·intro γ hγ hn
  refine hgH hγ ?_
  rintro rfl
  exact hn b w hM rfl
 ·intro x hx hn
  rw [get_set hbJ, if_neg]
  rintro rfl
  rw [hM] at hn; cases hn
def Goal (W : Wd) (J : JH) (H : Heap) (t : Nat → Prop) (o : Option (Value × Heap)) (v : IV) (J' : JH) : Prop :=
 ∃ W' c H', o = some (c, H') ∧ SS W J H W' J' H' t ∧ IR W' v c
theorem Goal.same (h : HR W J H) (t : Nat → Prop) {c : Value} {v : IV} (hv : IR W v c) : Goal W J H t (some (c, H)) v J := ⟨W, c, H, rfl, .refl h t, hv⟩
theorem ilift_ok {o : Option IV} {v : IV} {J' : JH} (h : ilift o J = some (v, J')) : o = some v ∧ J' = J := by
 cases o with
 | none => simp [ilift] at h
 | some u => simp only [ilift, Option.some.injEq, Prod.mk.injEq] at h; exact ⟨by rw [h.1], h.2.symm⟩
theorem Goal.lift (h : HR W J H) (t : Nat → Prop) {o : Option IV} {v : IV} {J' : JH} (he : ilift o J = some (v, J')) {p : Option Value} (hp : ∀ u, o = some u → ∃ c, p = some c ∧ IR W u c) : Goal W J H t (G.lift p H) v J' := by
 obtain ⟨h1, rfl⟩ := ilift_ok he
 obtain ⟨c, hc, hi⟩ := hp v h1
 subst hc
 exact .same h t hi
theorem IR.ptr {b v off : Nat} {c : Value} (h : IR W (.ptr b v off) c) : ∃ w β γ, W.M b = some (w, β) ∧ v ≤ w ∧ c = .pointer (some ⟨γ, off, none⟩) ∧ (v = w → γ = β) := by
 simp only [IR, CR, List.cons.injEq, and_true] at h; exact h
theorem IR.mk_ptr {b v off w β γ : Nat} (h1 : W.M b = some (w, β)) (h2 : v ≤ w) (h3 : v = w → γ = β) : IR W (.ptr b v off) (.pointer (some ⟨γ, off, none⟩)) := by
 simp only [IR, CR]; exact ⟨w, β, γ, h1, h2, rfl, h3⟩
theorem IR.sl {b v off n cap sz : Nat} {c : Value} (h : IR W (.sl b v off n cap sz) c) : ∃ w β γ, W.M b = some (w, β) ∧ v ≤ w ∧ c = .slice (some ⟨γ, off, none⟩) n cap ∧ 0 < sz ∧ (cap < UNK ∧ n ≤ cap ∨ cap = UNK + sz) ∧ (v = w → γ = β) := by
 simp only [IR, CR, List.cons.injEq, and_true] at h; exact h
theorem IR.mk_sl {b v off n cap sz w β γ : Nat} (h1 : W.M b = some (w, β)) (h2 : v ≤ w) (h4 : 0 < sz) (h5 : cap < UNK ∧ n ≤ cap ∨ cap = UNK + sz) (h3 : v = w → γ = β) : IR W (.sl b v off n cap sz) (.slice (some ⟨γ, off, none⟩) n cap) := by
 simp only [IR, CR]; exact ⟨w, β, γ, h1, h2, rfl, h4, h5, h3⟩
theorem IR.lst {sz : Nat} {full : Bool} {xs : List IV} {c : Value} (h : IR W (.lst sz full xs) c) : ∃ β o cap cs, W.F β = some cs ∧ c = .slice (some ⟨β, o, none⟩) xs.length cap ∧ 0 < sz ∧ o + xs.length * sz ≤ cs.length ∧ (cap < UNK ∧ xs.length ≤ cap ∨ cap = UNK + sz) ∧ (full = true → cap = xs.length ∧ cap < UNK) ∧ ipureL xs = true ∧ CRF W sz xs (cs.drop o) := by
 simp only [IR, CR, List.cons.injEq, and_true] at h; exact h
theorem IR.mk_lst {sz : Nat} {full : Bool} {xs : List IV} {β o cap : Nat} {cs : List Value} {n : Nat} (h1 : W.F β = some cs) (hn : n = xs.length) (h2 : 0 < sz) (h3 : o + xs.length * sz ≤ cs.length) (h4 : cap < UNK ∧ xs.length ≤ cap ∨ cap = UNK + sz) (h5 : full = true → cap = xs.length ∧ cap < UNK) (h6 : ipureL xs = true) (h7 : CRF W sz xs (cs.drop o)) : IR W (.lst sz full xs) (.slice (some ⟨β, o, none⟩) n cap) := by
 subst hn
 simp only [IR, CR]; exact ⟨β, o, cap, cs, h1, rfl, h2, h3, h4, h5, h6, h7⟩
theorem IR.map {b : Nat} {c : Value} (h : IR W (.map b) c) : ∃ w β γ, W.M b = some (w, β) ∧ c = .map (some γ) ∧ (w = 0 → γ = β) := by
 simp only [IR, CR, List.cons.injEq, and_true] at h; exact h
theorem IR.rptr {e : IV} {off : Nat} {c : Value} (h : IR W (.rptr e off) c) : ∃ β o cs, W.F β = some cs ∧ c = .pointer (some ⟨β, o + off, none⟩) ∧ o + (icells e).length ≤ cs.length ∧ CR W e ((cs.drop o).take (icells e).length) ∧ ipure e = true := by
 simp only [IR, CR, List.cons.injEq, and_true] at h; exact h
theorem IR.sc {v c : Value} (h : IR W (.sc v) c) : c = v ∧ scOK v = true := by simpa only [IR] using h
theorem IR.mk_sc {v : Value} (h : scOK v = true) : IR W (.sc v) v := by simp only [IR, true_and]; exact h
theorem IR.agg {cs : List IV} {c : Value} (h : IR W (.agg cs) c) : ∃ a, c = .agg a ∧ CRL W cs a.toList := by simpa only [IR] using h
theorem IR.mk_agg {cs : List IV} {l : List Value} (h : CRL W cs l) : IR W (.agg cs) (.agg l.toArray) := by simp only [IR]; exact ⟨l.toArray, rfl, h⟩
theorem IR.mk_unit {c : Value} : IR W (.tup []) c := by simp [IR]
theorem HR.M_map (h : HR W J H) {b w β : Nat} {es : List IEnt} {k : Nat} (hM : W.M b = some (w, β)) (hJ : J[b]? = some (.map es k)) : w = 0 := by
 rcases h.dom b w β hM with ⟨cs, ro, h1⟩ | ⟨h0, _⟩
 ·rw [hJ] at h1; cases h1
 ·exact h0
theorem load_sim (h : HR W J H) (t : Nat → Prop) {ag : Bool} {sz : Nat} {p v : IV} {c : Value} {J' : JH} (hp : IR W p c) (he : iload ag sz p J = some (v, J')) : Goal W J H t (aload ag sz c H) v J' := by
 cases p with
 | ptr b w off =>
  obtain ⟨w0, β, γ, hM, hle, rfl, hγ⟩ := hp.ptr
  simp only [iload] at he
  split at he
  ·rename_i vs hrd
   obtain ⟨rfl, cs, hcs, hcr⟩ := h.read hM hrd
   obtain rfl := hγ rfl
   simp only [aload, hcs]
   cases ag with
   | true =>
    simp only [if_true, Option.some.injEq, Prod.mk.injEq] at he ⊢
    obtain ⟨rfl, rfl⟩ := he
    exact .same h t (.mk_agg hcr)
   | false =>
    simp only [Bool.false_eq_true, if_false] at he ⊢
    split at he
    ·rename_i x
     simp only [Option.some.injEq, Prod.mk.injEq] at he
     obtain ⟨rfl, rfl⟩ := he
     obtain ⟨u, us, rfl, h2, h3, h4, h5⟩ := CRL.cons_iff.1 hcr
     rw [CRL.nil_iff.1 h5]
     exact .same h t (h4.toIR h2)
    ·simp at he
  ·simp at he
 | rptr e off =>
  obtain ⟨β, o, cs, hF, rfl, hle, hcr, _⟩ := hp.rptr
  obtain ⟨r, hH⟩ := h.fro β cs hF
  have hcr2 := hcr.cells
  have hrd : ∀ n, off + n ≤ (icells e).length → rd H β (o + off) n = some ((cs.drop (o + off)).take n) := fun n hn => by
   unfold rd; rw [hH]; simp only; rw [if_pos (by omega)]
  have hwin : ∀ n, off + n ≤ (icells e).length → ((((cs.drop o).take (icells e).length).drop off).take n) = (cs.drop (o + off)).take n := fun n hn => by
   rw [List.drop_take, List.take_take, List.drop_drop, Nat.min_eq_left (by omega)]
  cases ag with
  | true =>
   simp only [iload, if_true] at he
   split at he
   ·rename_i hb
    simp only [Option.some.injEq, Prod.mk.injEq] at he
    obtain ⟨rfl, rfl⟩ := he
    simp only [aload, if_true, hrd sz hb]
    have := (hcr2.drop off).take sz
    rw [hwin sz hb] at this
    exact .same h t (.mk_agg this)
   ·simp at he
  | false =>
   simp only [iload, Bool.false_eq_true, if_false] at he
   split at he
   ·rename_i hb
    simp only [aload, Bool.false_eq_true, if_false, hrd 1 hb]
    have := (hcr2.drop off).take 1
    rw [hwin 1 hb] at this
    split at he
    ·rename_i x hx
     simp only [Option.some.injEq, Prod.mk.injEq] at he
     obtain ⟨rfl, rfl⟩ := he
     rw [hx] at this
     obtain ⟨u, us, hu, h2, h3, h4, h5⟩ := CRL.cons_iff.1 this
     rw [CRL.nil_iff.1 h5] at hu
     rw [hu]
     exact .same h t (h4.toIR h2)
    ·simp at he
   ·simp at he
 | _ => simp [iload] at he
theorem store_sim (h : HR W J H) {sz : Nat} {p v u : IV} {c d : Value} {J' : JH} (hp : IR W p c) (hv : IR W v d) (he : istore sz p v J = some (u, J')) : ∃ l, blkOf p = some l ∧ Goal W J H (· ∈ l) (astore sz c d H) u J' := by
 cases p with
 | ptr b w off =>
  obtain ⟨w0, β, γ, hM, hle, rfl, hγ⟩ := hp.ptr
  refine ⟨[b], rfl, ?_⟩
  simp only [istore] at he
  split at he
  ·rename_i hsz
   split at he
   ·rename_i J1 hwr
    simp only [Option.some.injEq, Prod.mk.injEq] at he
    obtain ⟨rfl, rfl⟩ := he
    have hall : (icells v).all ione = true := by
     unfold iwr at hwr
     split at hwr
     ·split at hwr
      ·rename_i hc; exact hc.2.2
      ·simp at hwr
     ·simp at hwr
    have hcl := hv.cells hall
    obtain ⟨rfl, H1, h1, h2⟩ := h.write hM hwr (fun _ => hcl)
    obtain rfl := hγ rfl
    refine ⟨W, undef, H1, ?_, h2.weak (fun x hx => by simp [hx]), .mk_unit⟩
    simp only [astore, hcl.len, hsz, if_true, h1]
   ·simp at he
  ·simp at he
 | _ => simp [istore] at he
theorem new_sim (h : HR W J H) (t : Nat → Prop) {cs : List IV} {cs' : List Value} {v : IV} {J' : JH} (hc : cs.all ione = true → CRL W cs cs') (he : inew cs J = some (v, J')) : Goal W J H t (anew cs' H) v J' := by
 unfold inew at he
 split at he
 ·rename_i hall
  simp only [Option.some.injEq, Prod.mk.injEq] at he
  obtain ⟨rfl, rfl⟩ := he
  have hc' := hc hall
  refine ⟨_, _, _, ?_, (h.push (X := .cells 0 cs false) (.inl ⟨cs, cs', rfl, rfl, hc'⟩)).weak (fun _ hx => hx.elim), .mk_ptr (w := 0) (β := H.size) (by simp [Wd.add]) (Nat.le_refl _) (fun _ => rfl)⟩
  simp only [anew, hc'.ones.2, if_true]
 ·simp at he
theorem ilen_ok {x : IV} {c : Value} (hx : IR W x c) {n : Nat} (hl : ilen x = some n) : alen c = some n := by
 cases x with
 | sc v =>
  obtain ⟨rfl, h2⟩ := hx.sc
  unfold ilen at hl
  split at hl <;> simp_all [alen]
 | sl b v off m cap sz =>
  obtain ⟨w, β, γ, _, _, rfl, _⟩ := hx.sl
  simp only [ilen] at hl
  simpa [alen] using hl
 | lst sz f xs =>
  obtain ⟨β, o, cap, cs, _, rfl, _⟩ := hx.lst
  simp only [ilen] at hl
  simpa [alen] using hl
 | _ => simp [ilen] at hl
theorem iscells_ok (h : HR W J H) {sz : Nat} {x : IV} {c : Value} (hx : IR W x c) {xs : List IV} (hs : iscells J sz x = some xs) :
  ∃ cs, sliceCells H sz c = some cs ∧ CRL W xs cs ∧ ∃ n, ilen x = some n ∧ (n = 0 → xs = []) ∧ xs.length = n * sz := by
 cases x with
 | sc v =>
  obtain ⟨rfl, h2⟩ := hx.sc
  unfold iscells at hs
  split at hs
  ·rename_i heq
   simp only [IV.sc.injEq] at heq
   subst heq
   simp only [Option.some.injEq] at hs
   subst hs
   exact ⟨[], rfl, by simp [CRL], 0, rfl, fun _ => rfl, by simp⟩
  ·rename_i heq; cases heq
  ·rename_i heq; cases heq
  ·simp at hs
 | sl b v off m cap z =>
  obtain ⟨w, β, γ, hM, hle, rfl, _, _, hγ⟩ := hx.sl
  simp only [iscells] at hs
  obtain ⟨rfl, cs, h1, h2⟩ := h.read hM hs
  obtain rfl := hγ rfl
  have hlen : xs.length = m * sz := by
   unfold ird at hs
   split at hs
   ·split at hs
    ·simp only [Option.some.injEq] at hs
     subst hs
     simp; omega
    ·simp at hs
   ·simp at hs
  refine ⟨cs, ?_, h2, m, rfl, fun e => ?_, hlen⟩
  ·simp only [sliceCells, h1]
  ·subst e; simp at hlen; exact hlen
 | lst z f ys =>
  obtain ⟨β, o, cap, cs, hF, rfl, hz, hle, _, _, _, hcr⟩ := hx.lst
  simp only [iscells] at hs
  split at hs
  ·rename_i hzs
   subst hzs
   simp only [Option.some.injEq] at hs
   subst hs
   obtain ⟨r, hH⟩ := h.fro β cs hF
   have hfl := hcr.flat (by simp; omega)
   refine ⟨(cs.drop o).take (ys.length * z), ?_, hfl, ys.length, rfl, fun e => ?_, ?_⟩
   ·simp only [sliceCells]; unfold rd; rw [hH]; simp only; rw [if_pos hle]
   ·rw [List.length_eq_zero_iff] at e; subst e; rfl
   ·have := hfl.len; rw [← this]; simp; omega
  ·simp at hs
 | _ => simp [iscells] at hs
end
end Go.Proofs.Ytmgfkifjgajclaa.G
namespace Go.Proofs.Ytmgfkifjgajclaa.G
open Go
section
variable {W : Wd} {J : JH} {H : Heap}
theorem sliceCells_some (b off n k sz : Nat) : sliceCells H sz (.slice (some ⟨b, off, none⟩) n k) = rd H b off (n * sz) := by
 cases n <;> rfl
theorem rd_take {b off n m : Nat} {cs : List Value} (h : rd H b off n = some cs) (hm : m ≤ n) : rd H b off m = some (cs.take m) := by
 unfold rd at h ⊢
 split at h
 ·rename_i ds ro hb
  split at h
  ·rename_i hle
   simp only [Option.some.injEq] at h
   subst h
   rw [if_pos (by omega), List.take_take, Nat.min_eq_left hm]
  ·simp at h
 ·simp at h
theorem append_sim (h : HR W J H) {sz bytes : Nat} {s x v : IV} {c d : Value} {J' : JH} (hs : IR W s c) (hx : IR W x d) (hsz : 0 < sz) (he : iappend sz bytes s x J = some (v, J')) : ∃ l, blkOf s = some l ∧ Goal W J H (· ∈ l) (aappend sz bytes c d H) v J' := by
 unfold iappend at he
 split at he
 ·rename_i xs n hxs hn
  obtain ⟨cs, h1, h2, n2, h3, h4, h5⟩ := iscells_ok h hx hxs
  rw [hn] at h3
  simp only [Option.some.injEq] at h3
  subst h3
  have hal := ilen_ok hx hn
  simp only [aappend, h1, hal]
  split at he
  ·obtain ⟨rfl, _⟩ := hs.sc
   refine ⟨[], rfl, ?_⟩
   simp only
   split at he
   ·rename_i h0
    simp only [Option.some.injEq, Prod.mk.injEq] at he
    obtain ⟨rfl, rfl⟩ := he
    rw [if_pos h0]
    exact .same h _ hs
   ·rename_i h0
    rw [if_neg h0]
    split at he
    ·rename_i hf
     simp only [Option.some.injEq, Prod.mk.injEq] at he
     obtain ⟨rfl, rfl⟩ := he
     simp only [Bool.and_eq_true] at hf
     rw [hf.1, h2.ones.2]
     simp only [Bool.and_self, if_true]
     exact ⟨_, _, _, rfl, (h.push (X := .cells 0 xs false) (.inl ⟨xs, cs, rfl, rfl, h2⟩)).weak (fun _ hx => hx.elim), .mk_sl (w := 0) (β := H.size) (by simp [Wd.add]) (Nat.le_refl _) hsz (.inr rfl) (fun _ => rfl)⟩
    ·simp at he
  ·rename_i z f ys
   obtain ⟨β, o, cap, ds, hF, rfl, hz, hle, hcap, hfull, hpu, hcr⟩ := hs.lst
   refine ⟨[], rfl, ?_⟩
   simp only
   split at he
   ·rename_i h0
    simp only [Option.some.injEq, Prod.mk.injEq] at he
    obtain ⟨rfl, rfl⟩ := he
    rw [if_pos h0]
    exact .same h _ hs
   ·rename_i h0
    rw [if_neg h0]
    split at he
    ·rename_i hf
     simp only [Option.some.injEq, Prod.mk.injEq] at he
     obtain ⟨rfl, rfl⟩ := he
     simp only [Bool.and_eq_true, beq_iff_eq] at hf
     obtain ⟨⟨⟨rfl, rfl⟩, hfit⟩, hall⟩ := hf
     obtain ⟨rfl, hu⟩ := hfull rfl
     have hfl := hcr.flat (by simp; omega)
     obtain ⟨r, hH⟩ := h.fro β ds hF
     have hrd : rd H β o (ys.length * z) = some ((ds.drop o).take (ys.length * z)) := by
      unfold rd; rw [hH]; simp only; rw [if_pos hle]
     rw [hfit, h2.ones.2]
     simp only [Bool.and_self, if_true, if_neg (Nat.not_le.2 hu), hrd]
     rw [if_neg (by omega)]
     exact ⟨_, _, _, rfl, (h.push (X := .cells 0 (ys.flatMap icells ++ xs) false) (.inl ⟨_, _, rfl, rfl, hfl.append h2⟩)).weak (fun _ hx => hx.elim), .mk_sl (w := 0) (β := H.size) (by simp [Wd.add]) (Nat.le_refl _) hsz (.inr rfl) (fun _ => rfl)⟩
    ·simp at he
  ·rename_i b w off len cap z
   obtain ⟨w0, β, γ, hM, hle, rfl, hz, hcap, hγ⟩ := hs.sl
   refine ⟨[b], rfl, ?_⟩
   simp only
   split at he
   ·rename_i h0
    simp only [Option.some.injEq, Prod.mk.injEq] at he
    obtain ⟨rfl, rfl⟩ := he
    rw [if_pos h0]
    exact .same h _ hs
   ·rename_i h0
    rw [if_neg h0]
    split at he
    ·rename_i hf
     obtain ⟨rfl, hf⟩ := hf
     simp only [Bool.and_eq_true] at hf
     rw [hf.1, h2.ones.2]
     simp only [Bool.and_self, if_true]
     split at he
     ·rename_i hu
      rw [if_pos hu]
      split at he
      ·rename_i hc
       subst hc
       simp only [if_true]
       split at he
       ·rename_i w' es hJ
        split at he
        ·rename_i hc2
         obtain ⟨rfl, hoff⟩ := hc2
         simp only [Option.some.injEq, Prod.mk.injEq] at he
         obtain ⟨rfl, rfl⟩ := he
         obtain rfl : w = w0 := by
          rcases h.dom b w0 β hM with ⟨cs2, ro2, h6⟩ | ⟨_, es, k, h6⟩
          ·rw [hJ] at h6; cases h6; rfl
          ·rw [hJ] at h6; cases h6
         obtain rfl := hγ rfl
         obtain ⟨es', r, h6, h7, h8, _⟩ := h.cells b w γ es false hM hJ
         obtain ⟨rfl, _⟩ := h8 rfl
         rw [h6]
         simp only [h7.len, if_pos hoff]
         exact ⟨_, _, _, rfl, (h.grow hM hJ (((h7.drop off).take (len * z)).append h2)).weak (fun x hx => by simp [hx]), .mk_sl (w := w + 1) (β := H.size) (by simp [Wd.bump]) (Nat.le_refl _) hz (.inr rfl) (fun _ => rfl)⟩
        ·simp at he
       ·simp at he
      ·simp at he
     ·rename_i hu
      rw [if_neg hu]
      split at he
      ·rename_i hlc
       rw [if_pos hlc]
       split at he
       ·rename_i J1 hw
        simp only [Option.some.injEq, Prod.mk.injEq] at he
        obtain ⟨rfl, rfl⟩ := he
        obtain ⟨rfl, H1, h6, h7⟩ := h.write hM hw (fun _ => h2)
        obtain rfl := hγ rfl
        rw [h6]
        exact ⟨_, _, _, rfl, h7.weak (fun x hx => by simp [hx]), .mk_sl (w := w) (β := γ) hM (Nat.le_refl _) hz (.inl ⟨by omega, hlc⟩) (fun _ => rfl)⟩
       ·simp at he
      ·rename_i hlc
       rw [if_neg hlc]
       split at he
       ·rename_i old hr
        simp only [Option.some.injEq, Prod.mk.injEq] at he
        obtain ⟨rfl, rfl⟩ := he
        obtain ⟨rfl, old', h6, h7⟩ := h.read hM hr
        obtain rfl := hγ rfl
        rw [h6]
        exact ⟨_, _, _, rfl, (h.push (X := .cells 0 (old ++ xs) false) (.inl ⟨_, _, rfl, rfl, h7.append h2⟩)).weak (fun _ hx => hx.elim), .mk_sl (w := 0) (β := H.size) (by simp [Wd.add]) (Nat.le_refl _) hsz (.inr rfl) (fun _ => rfl)⟩
       ·simp at he
    ·simp at he
  ·simp at he
 ·simp at he
theorem ilen_slice {x : IV} {c : Value} (hx : IR W x c) {n : Nat} (hl : ilen x = some n) : ∃ a k, c = .slice a n k := by
 cases x with
 | sc v =>
  obtain ⟨rfl, h2⟩ := hx.sc
  unfold ilen at hl
  split at hl
  ·rename_i heq; simp only [IV.sc.injEq] at heq; subst heq; simp only [Option.some.injEq] at hl; subst hl; exact ⟨_, _, rfl⟩
  ·rename_i heq; cases heq
  ·rename_i heq; cases heq
  ·simp at hl
 | sl b v off m cap sz =>
  obtain ⟨w, β, γ, _, _, rfl, _⟩ := hx.sl
  simp only [ilen, Option.some.injEq] at hl
  subst hl
  exact ⟨_, _, rfl⟩
 | lst sz f xs =>
  obtain ⟨β, o, cap, cs, _, rfl, _⟩ := hx.lst
  simp only [ilen, Option.some.injEq] at hl
  subst hl
  exact ⟨_, _, rfl⟩
 | _ => simp [ilen] at hl
theorem copy_sim (h : HR W J H) {sz : Nat} {s x v : IV} {c d : Value} {J' : JH} (hs : IR W s c) (hx : IR W x d) (he : icopy sz s x J = some (v, J')) : Goal W J H (TT (blkOf s)) (acopy sz c d H) v J' := by
 unfold icopy at he
 split at he
 ·rename_i dl n hdl hn
  obtain ⟨a1, k1, rfl⟩ := ilen_slice hs hdl
  obtain ⟨a2, k2, rfl⟩ := ilen_slice hx hn
  simp only [acopy]
  split at he
  ·rename_i h0
   rw [if_pos h0]
   simp only [Option.some.injEq, Prod.mk.injEq] at he
   obtain ⟨rfl, rfl⟩ := he
   exact .same h _ (.mk_sc rfl)
  ·rename_i h0
   rw [if_neg h0]
   split at he
   ·rename_i vs b w off m k z hvs
    split at he
    ·rename_i hz
     subst hz
     split at he
     ·rename_i J1 hw
      simp only [Option.some.injEq, Prod.mk.injEq] at he
      obtain ⟨rfl, rfl⟩ := he
      obtain ⟨cs, h1, h2, n2, h3, h4, h5⟩ := iscells_ok h hx hvs
      obtain ⟨w0, β, γ, hM, hle, hc, hz, hcap, hγ⟩ := hs.sl
      simp only [Value.slice.injEq] at hc
      obtain ⟨rfl, rfl, rfl⟩ := hc
      obtain ⟨rfl, H1, h6, h7⟩ := h.write hM hw (fun _ => h2.take _)
      obtain rfl := hγ rfl
      have hcl : sliceCells H z (.slice a2 (min n dl) k2) = some (cs.take (min n dl * z)) := by
       match a2, n, h1 with
       | none, 0, _ => simp at h0
       | some ⟨b2, o2, none⟩, n, h1 =>
        rw [sliceCells_some] at h1 ⊢
        exact rd_take h1 (Nat.mul_le_mul_right _ (Nat.min_le_left _ _))
       | none, n + 1, h1 => simp [sliceCells] at h1
       | some ⟨b2, o2, some _⟩, n, h1 => simp [sliceCells] at h1
      rw [hcl]
      simp only [h6]
      exact ⟨_, _, _, rfl, h7.weak (fun x hx => by simp [TT, blkOf, hx]), .mk_sc rfl⟩
     ·simp at he
    ·simp at he
   ·simp at he
 ·simp at he
theorem CRL_map_sc {l : List Value} (h : l.all (fun x => scOK x && one x) = true) : CRL W (l.map .sc) l := by
 induction l with
 | nil => simp [CRL]
 | cons x l ih =>
  simp only [List.all_cons, Bool.and_eq_true] at h
  exact CRL.cons_iff.2 ⟨x, l, rfl, by simpa [ione] using h.1.2, h.1.2, by simp [CR, h.1.1, h.1.2], ih (by simpa using h.2)⟩
theorem CRL_reps {z : List Value} (h : z.all (fun x => scOK x && one x) = true) (n : Nat) : CRL W (ireps n (z.map .sc)) (reps n z) := by
 unfold ireps reps
 induction n with
 | zero => simp [CRL]
 | succ n ih => simp only [List.replicate_succ, List.flatten_cons]; exact (CRL_map_sc h).append ih
theorem clearS_sim (h : HR W J H) {z : List Value} {x v : IV} {d : Value} {J' : JH} (hz : z.all (fun x => scOK x && one x) = true) (hx : IR W x d) (he : iclearS (z.map .sc) x J = some (v, J')) : Goal W J H (TT (blkOf x)) (aclearS z d H) v J' := by
 unfold iclearS at he
 split at he
 ·rename_i b w off n k sz
  obtain ⟨w0, β, γ, hM, hle, rfl, _, hcap, hγ⟩ := hx.sl
  simp only [aclearS]
  split at he
  ·rename_i h0
   rw [if_pos h0]
   simp only [Option.some.injEq, Prod.mk.injEq] at he
   obtain ⟨rfl, rfl⟩ := he
   exact .same h _ .mk_unit
  ·rename_i h0
   rw [if_neg h0]
   split at he
   ·rename_i J1 hw
    simp only [Option.some.injEq, Prod.mk.injEq] at he
    obtain ⟨rfl, rfl⟩ := he
    obtain ⟨rfl, H1, h6, h7⟩ := h.write hM hw (fun _ => CRL_reps hz n)
    obtain rfl := hγ rfl
    simp only [h6]
    exact ⟨_, _, _, rfl, h7.weak (fun x hx => by simp [TT, blkOf, hx]), .mk_unit⟩
   ·simp at he
 ·split at he
  ·rename_i h0
   simp only [Option.some.injEq, Prod.mk.injEq] at he
   obtain ⟨rfl, rfl⟩ := he
   obtain ⟨a, k, rfl⟩ := ilen_slice hx h0
   simp only [aclearS, if_true]
   exact .same h _ .mk_unit
  ·simp at he
theorem ikeyL_ok : ∀ {cs : List IV} {l : List Value} {vs : List Value}, ikeyL cs = some l → CRL W cs vs → vs = l
 | [], l, vs, h, hc => by simp [ikeyL] at h; subst h; simpa [CRL] using hc
 | x :: cs, l, vs, h, hc => by
  obtain ⟨v, vs', rfl, _, _, h4, h5⟩ := CRL.cons_iff.1 hc
  unfold ikeyL at h
  split at h
  ·rename_i heq; cases heq
  ·rename_i k n r heq
   simp only [List.cons.injEq] at heq
   obtain ⟨rfl, rfl⟩ := heq
   cases hk : ikeyL cs with
   | none => rw [hk] at h; simp at h
   | some m =>
    rw [hk] at h
    simp at h
    subst h
    rw [ikeyL_ok hk h5]
    simp [CR] at h4
    rw [h4.1]
  ·rename_i b r heq
   simp only [List.cons.injEq] at heq
   obtain ⟨rfl, rfl⟩ := heq
   cases hk : ikeyL cs with
   | none => rw [hk] at h; simp at h
   | some m =>
    rw [hk] at h
    simp at h
    subst h
    rw [ikeyL_ok hk h5]
    simp [CR] at h4
    rw [h4.1]
  ·simp at h
theorem ikey_ok {k : IV} {kv c : Value} (hk : ikey k = some kv) (hc : IR W k c) : c = kv := by
 cases k with
 | sc v =>
  obtain ⟨rfl, _⟩ := hc.sc
  simp only [ikey] at hk
  split at hk <;> simp_all
 | agg cs =>
  obtain ⟨a, rfl, h2⟩ := hc.agg
  simp only [ikey] at hk
  cases hl : ikeyL cs with
  | none => rw [hl] at hk; simp at hk
  | some l =>
   rw [hl] at hk
   simp at hk
   subst hk
   rw [← ikeyL_ok hl h2]
 | _ => simp [ikey] at hk
theorem ikeyL_plain : ∀ {cs : List IV} {l : List Value}, ikeyL cs = some l → (l.all fun v => match v with | .int _ _ | .bool _ => true | _ => false) = true
 | [], l, h => by simp [ikeyL] at h; subst h; rfl
 | x :: cs, l, h => by
  unfold ikeyL at h
  split at h
  ·rename_i heq; cases heq
  ·rename_i k n r heq
   simp only [List.cons.injEq] at heq
   obtain ⟨rfl, rfl⟩ := heq
   cases hk : ikeyL cs with
   | none => rw [hk] at h; simp at h
   | some m => rw [hk] at h; simp at h; subst h; simpa using ikeyL_plain hk
  ·rename_i b r heq
   simp only [List.cons.injEq] at heq
   obtain ⟨rfl, rfl⟩ := heq
   cases hk : ikeyL cs with
   | none => rw [hk] at h; simp at h
   | some m => rw [hk] at h; simp at h; subst h; simpa using ikeyL_plain hk
  ·simp at h
theorem ikey_plain {k : IV} {kv : Value} (hk : ikey k = some kv) : plainKey kv = true := by
 cases k with
 | sc v =>
  simp only [ikey] at hk
  split at hk
  ·rename_i h; simp only [Option.some.injEq] at hk; subst hk; exact h
  ·simp at hk
 | agg cs =>
  simp only [ikey] at hk
  cases hl : ikeyL cs with
  | none => rw [hl] at hk; simp at hk
  | some l =>
   rw [hl] at hk
   simp at hk
   subst hk
   simp only [plainKey]
   exact ikeyL_plain hl
 | _ => simp [ikey] at hk
theorem IER.good {s : KS} : ∀ {a : List IEnt} {b : List Ent}, IER W a b → (b.all fun e => s.fits e.key) = a.all fun e => s.fits e.key
 | [], [], _ => rfl
 | [], _ :: _, h => by simp [IER] at h
 | _ :: _, [], h => by simp [IER] at h
 | a :: x, b :: y, h => by
  simp only [IER] at h
  simp only [List.all_cons, IER.good h.2.2.2, h.1]
theorem IER.goodKeys {s : KS} {k : Value} {a : List IEnt} {b : List Ent} (h : IER W a b) : goodKeys s k b = igoodKeys s k a := by
 simp only [G.goodKeys, igoodKeys, h.good]
theorem IER.find {k : Value} : ∀ {a : List IEnt} {b : List Ent}, IER W a b → (match ifindE k a with | some e => ∃ d, findE k b = some d ∧ IR W e.val d.val | none => findE k b = none)
 | [], [], _ => rfl
 | [], _ :: _, h => by simp [IER] at h
 | _ :: _, [], h => by simp [IER] at h
 | a :: x, b :: y, h => by
  simp only [IER] at h
  simp only [ifindE, findE, h.1]
  by_cases hk : k = a.key
  ·simp only [if_pos hk]; exact ⟨b, rfl, h.2.1⟩
  ·simp only [if_neg hk]; exact IER.find h.2.2.2
theorem IER.set {k : Value} {v : IV} {c : Value} (hv : IR W v c) : ∀ {a : List IEnt} {b : List Ent}, IER W a b → IER W (isetE k v a) (setE k c b)
 | [], [], _ => trivial
 | [], _ :: _, h => by simp [IER] at h
 | _ :: _, [], h => by simp [IER] at h
 | a :: x, b :: y, h => by
  simp only [IER] at h
  simp only [isetE, setE, h.1]
  by_cases hk : k = a.key
  ·simp only [if_pos hk, IER]; exact ⟨trivial, hv, h.2.2⟩
  ·simp only [if_neg hk, IER]; exact ⟨h.1, h.2.1, h.2.2.1, IER.set hv h.2.2.2⟩
theorem IER.del {k : Value} : ∀ {a : List IEnt} {b : List Ent}, IER W a b → IER W (idelE k a) (delE k b)
 | [], [], _ => trivial
 | [], _ :: _, h => by simp [IER] at h
 | _ :: _, [], h => by simp [IER] at h
 | a :: x, b :: y, h => by
  simp only [IER] at h
  simp only [idelE, delE, h.1]
  by_cases hk : k = a.key
  ·simp only [if_pos hk]; exact h.2.2.2
  ·simp only [if_neg hk, IER]; exact ⟨h.1, h.2.1, h.2.2.1, IER.del h.2.2.2⟩
theorem IER.snoc {k : Value} {v : IV} {c : Value} {n : Nat} (hv : IR W v c) : ∀ {a : List IEnt} {b : List Ent}, IER W a b → IER W (a ++ [⟨k, v, n⟩]) (b ++ [⟨k, c, n⟩])
 | [], [], _ => ⟨rfl, hv, rfl, trivial⟩
 | [], _ :: _, h => by simp [IER] at h
 | _ :: _, [], h => by simp [IER] at h
 | a :: x, b :: y, h => by
  simp only [IER] at h
  simp only [List.cons_append, IER]
  exact ⟨h.1, h.2.1, h.2.2.1, IER.snoc hv h.2.2.2⟩
theorem IER.len : ∀ {a : List IEnt} {b : List Ent}, IER W a b → b.length = a.length
 | [], [], _ => rfl
 | [], _ :: _, h => by simp [IER] at h
 | _ :: _, [], h => by simp [IER] at h
 | a :: x, b :: y, h => by
  simp only [IER] at h
  simp [IER.len h.2.2.2]
theorem HR.map (h : HR W J H) {b w β γ k : Nat} {es : List IEnt} (hM : W.M b = some (w, β)) (hJ : J[b]? = some (.map es k)) (hγ : w = 0 → γ = β) : γ = β ∧ ∃ es', H[β]? = some (.map es' k) ∧ IER W es es' :=
 ⟨hγ (h.M_map hM hJ), h.maps b w β es k hM hJ⟩
theorem IR.mk_tup2 {a b : IV} {c d : Value} (h : IR W a c) (k : IR W b d) : IR W (.tup [a, b]) (.tuple #[c, d]) := by
 simp only [IR]
 exact .inr ⟨_, rfl, IRL.cons_iff.2 ⟨c, [d], rfl, h, IRL.cons_iff.2 ⟨d, [], rfl, k, IRL.nil_iff.2 rfl⟩⟩⟩
theorem lookup_sim (h : HR W J H) (s : KS) (t : Nat → Prop) {zero : IV} {z : Value} {ok : Bool} {m k v : IV} {c d : Value} {J' : JH} (hz : IR W zero z) (hm : IR W m c) (hk : IR W k d) (he : ilookup s zero ok m k J = some (v, J')) : Goal W J H t (alookup s z ok c d H) v J' := by
 unfold ilookup at he
 split at he
 ·simp at he
 rename_i kv hkv
 obtain rfl := ikey_ok hkv hk
 have hpl := ikey_plain hkv
 have htup : ∀ {a : IV} {x : Value}, IR W a x → ∀ b, IR W (if ok = true then .tup [a, .bool b] else a) (if ok = true then .tuple #[x, .bool b] else x) := fun {a x} ha b => by
  cases ok with
  | true => exact .mk_tup2 ha (.mk_sc rfl)
  | false => exact ha
 split at he
 ·obtain ⟨rfl, _⟩ := hm.sc
  split at he
  ·rename_i hfit
   simp only [Option.some.injEq, Prod.mk.injEq] at he
   obtain ⟨rfl, rfl⟩ := he
   simp only [alookup, if_pos hfit]
   exact .same h _ (htup hz false)
  ·simp at he
 ·rename_i b
  obtain ⟨w, β, γ, hM, rfl, hγ⟩ := hm.map
  split at he
  ·rename_i es k0 hJ
   obtain ⟨rfl, es', h1, h2⟩ := h.map hM hJ hγ
   simp only [alookup, h1, h2.goodKeys]
   split at he
   ·rename_i hg
    rw [if_pos hg]
    have hf := h2.find (k := d)
    split at he
    ·rename_i e hfe
     rw [hfe] at hf
     obtain ⟨e', hf1, hf2⟩ := hf
     simp only [Option.some.injEq, Prod.mk.injEq] at he
     obtain ⟨rfl, rfl⟩ := he
     simp only [hf1]
     exact .same h _ (htup hf2 true)
    ·rename_i hfe
     rw [hfe] at hf
     simp only [Option.some.injEq, Prod.mk.injEq] at he
     obtain ⟨rfl, rfl⟩ := he
     simp only [hf]
     exact .same h _ (htup hz false)
   ·simp at he
  ·simp at he
 ·simp at he
theorem mapset_sim (h : HR W J H) (s : KS) {m k u v : IV} {c d e : Value} {J' : JH} (hm : IR W m c) (hk : IR W k d) (hu : IR W u e) (he : imapset s m k u J = some (v, J')) : Goal W J H (TT (blkOf m)) (amapUpdate s c d e H) v J' := by
 unfold imapset at he
 split at he
 ·simp at he
 rename_i kv hkv
 obtain rfl := ikey_ok hkv hk
 split at he
 ·rename_i b
  obtain ⟨w, β, γ, hM, rfl, hγ⟩ := hm.map
  split at he
  ·rename_i es k0 hJ
   obtain ⟨rfl, es', h1, h2⟩ := h.map hM hJ hγ
   simp only [amapUpdate, h1, h2.goodKeys]
   split at he
   ·rename_i hg
    rw [if_pos hg]
    have hf := h2.find (k := d)
    split at he
    ·rename_i e0 hfe
     rw [hfe] at hf
     obtain ⟨e', hf1, hf2⟩ := hf
     simp only [Option.some.injEq, Prod.mk.injEq] at he
     obtain ⟨rfl, rfl⟩ := he
     simp only [hf1]
     exact ⟨_, _, _, rfl, (h.set hM (.inr ⟨_, _, _, ⟨es, k0, hJ⟩, rfl, rfl, h2.set hu⟩)).weak (fun x hx => by simp [TT, blkOf, hx]), .mk_unit⟩
    ·rename_i hfe
     rw [hfe] at hf
     simp only [Option.some.injEq, Prod.mk.injEq] at he
     obtain ⟨rfl, rfl⟩ := he
     simp only [hf]
     exact ⟨_, _, _, rfl, (h.set hM (.inr ⟨_, _, _, ⟨es, k0, hJ⟩, rfl, rfl, h2.snoc hu⟩)).weak (fun x hx => by simp [TT, blkOf, hx]), .mk_unit⟩
   ·simp at he
  ·simp at he
 ·simp at he
theorem delete_sim (h : HR W J H) (s : KS) {m k v : IV} {c d : Value} {J' : JH} (hm : IR W m c) (hk : IR W k d) (he : idelete s m k J = some (v, J')) : Goal W J H (TT (blkOf m)) (adelete s c d H) v J' := by
 unfold idelete at he
 split at he
 ·simp at he
 rename_i kv hkv
 obtain rfl := ikey_ok hkv hk
 have hpl := ikey_plain hkv
 split at he
 ·obtain ⟨rfl, _⟩ := hm.sc
  split at he
  ·rename_i hfit
   simp only [Option.some.injEq, Prod.mk.injEq] at he
   obtain ⟨rfl, rfl⟩ := he
   simp only [adelete, if_pos hfit]
   exact .same h _ .mk_unit
  ·simp at he
 ·rename_i b
  obtain ⟨w, β, γ, hM, rfl, hγ⟩ := hm.map
  split at he
  ·rename_i es k0 hJ
   obtain ⟨rfl, es', h1, h2⟩ := h.map hM hJ hγ
   simp only [adelete, h1, h2.goodKeys]
   split at he
   ·rename_i hg
    rw [if_pos hg]
    simp only [Option.some.injEq, Prod.mk.injEq] at he
    obtain ⟨rfl, rfl⟩ := he
    exact ⟨_, _, _, rfl, (h.set hM (.inr ⟨_, _, _, ⟨es, k0, hJ⟩, rfl, rfl, h2.del⟩)).weak (fun x hx => by simp [TT, blkOf, hx]), .mk_unit⟩
   ·simp at he
  ·simp at he
 ·simp at he
theorem asNat_ok {x : IV} {c : Value} (hx : IR W x c) {n : Nat} (h : iasNat x = some n) : asNat c = some n := by
 cases x with
 | sc v => obtain ⟨rfl, _⟩ := hx.sc; exact h
 | _ => simp [iasNat] at h
def IRO (W : Wd) : Option IV → Option Value → Prop
 | none, none => True
 | some x, some c => IR W x c
 | _, _ => False
theorem bnd_ok {x : Option IV} {c : Option Value} (hx : IRO W x c) {d n : Nat} (h : ibnd x d = some n) : bnd c d = some n := by
 cases x <;> cases c <;> simp only [IRO] at hx
 ·simpa [ibnd, bnd] using h
 ·exact asNat_ok hx h
theorem IRO.isSome {x : Option IV} {c : Option Value} (hx : IRO W x c) : c.isSome = x.isSome ∧ c.isNone = x.isNone ∧ (c = none ↔ x = none) := by
 cases x <;> cases c <;> simp only [IRO] at hx <;> simp
theorem capOf_le {n cap sz : Nat} (h : cap < UNK ∧ n ≤ cap ∨ cap = UNK + sz) : n ≤ capOf n cap := by
 unfold capOf
 split <;> omega
theorem slice_sim {sz : Nat} {s v : IV} {c : Value} {lo hi mx : Option IV} {lo' hi' mx' : Option Value} (hs : IR W s c) (h1 : IRO W lo lo') (h2 : IRO W hi hi') (h3 : IRO W mx mx') (he : islice sz s lo hi mx = some v) :
  ∃ d, aslice sz c lo' hi' mx' = some d ∧ IR W v d := by
 unfold islice at he
 split at he
 ·obtain ⟨rfl, hok⟩ := hs.sc
  split at he
  ·rename_i hm hh hl
   split at he
   ·simp at he
   ·rename_i hc
    simp only [Option.some.injEq] at he
    subst he
    refine ⟨.slice none 0 0, ?_, hs⟩
    have hc' : ¬ (mx'.isSome && hi'.isNone) = true := by rw [h3.isSome.1, h2.isSome.2.1]; exact hc
    have e0 : capOf 0 0 = 0 := rfl
    simp only [aslice, if_neg hc', e0, bnd_ok h3 hm, bnd_ok h2 hh, bnd_ok h1 hl, Nat.le_refl, and_self, if_true]
  ·simp at he
 ·rename_i b w off len cap z
  obtain ⟨w0, β, γ, hM, hle, rfl, hz, hcap, hγ⟩ := hs.sl
  split at he
  ·simp at he
  ·rename_i hc
   simp only [Bool.or_eq_true, not_or, Bool.not_eq_true, bne_eq_false_iff_eq] at hc
   obtain ⟨hc, rfl⟩ := hc
   have hc' : ¬ (mx'.isSome && hi'.isNone) = true := by rw [h3.isSome.1, h2.isSome.2.1, hc]; simp
   split at he
   ·rename_i m h l hm hh hl
    simp only [aslice, if_neg hc', bnd_ok h3 hm, bnd_ok h2 hh, bnd_ok h1 hl]
    split at he
    ·rename_i hb
     rw [if_pos hb]
     by_cases hu : UNK ≤ cap ∧ mx = none
     ·rw [if_pos hu] at he
      rw [if_pos ⟨hu.1, h3.isSome.2.2.2 hu.2⟩]
      split at he
      ·rename_i hcz
       rw [if_pos hcz]
       simp only [Option.some.injEq] at he
       subst he
       exact ⟨_, rfl, .mk_sl hM hle hz (.inr hcz) hγ⟩
      ·simp at he
     ·rw [if_neg hu] at he
      rw [if_neg (fun e => hu ⟨e.1, h3.isSome.2.2.1 e.2⟩)]
      split at he
      ·rename_i hml
       rw [if_pos hml]
       simp only [Option.some.injEq] at he
       subst he
       exact ⟨_, rfl, .mk_sl hM hle hz (.inl ⟨by simp [UNK], Nat.le_refl _⟩) hγ⟩
      ·rename_i hml
       rw [if_neg hml]
       split at he
       ·rename_i hmU
        simp only [Option.some.injEq] at he
        subst he
        exact ⟨_, rfl, .mk_sl hM hle hz (.inl ⟨by omega, by omega⟩) hγ⟩
       ·simp at he
    ·simp at he
   ·simp at he
 ·rename_i z f xs
  obtain ⟨β, o, cap, cs, hF, rfl, hz, hle, hcap, hfull, hpu, hcr⟩ := hs.lst
  split at he
  ·simp at he
  ·rename_i hc
   simp only [Bool.or_eq_true, not_or, Bool.not_eq_true, bne_eq_false_iff_eq] at hc
   obtain ⟨hc, rfl⟩ := hc
   have hc' : ¬ (mx'.isSome && hi'.isNone) = true := by rw [h3.isSome.1, h2.isSome.2.1, hc]; simp
   split at he
   ·rename_i m h l hm hh hl
    split at he
    ·rename_i hb
     obtain ⟨hlh, hhm, hmx, hmU⟩ := hb
     simp only [Option.some.injEq] at he
     subst he
     have hcapo := capOf_le hcap
     obtain ⟨m', hm', hm2⟩ : ∃ m', bnd mx' (capOf xs.length cap) = some m' ∧ (mx = none ∧ m = xs.length ∧ m' = capOf xs.length cap ∨ mx ≠ none ∧ m' = m) := by
      cases mx with
      | none =>
       cases mx' with
       | none => simp only [ibnd, Option.some.injEq] at hm; exact ⟨_, rfl, .inl ⟨rfl, hm.symm, rfl⟩⟩
       | some _ => simp [IRO] at h3
      | some x =>
       cases mx' with
       | none => simp [IRO] at h3
       | some y => exact ⟨m, asNat_ok h3 hm, .inr ⟨by simp, rfl⟩⟩
     simp only [aslice, if_neg hc', hm', bnd_ok h2 hh, bnd_ok h1 hl]
     have hb2 : l ≤ h ∧ h ≤ m' ∧ m' ≤ capOf xs.length cap := by
      rcases hm2 with ⟨_, rfl, rfl⟩ | ⟨_, rfl⟩ <;> omega
     rw [if_pos hb2]
     have hwin : CRF W z ((xs.drop l).take (h - l)) (cs.drop (o + l * z)) := by
      have := (hcr.drop l).take (h - l)
      rw [List.drop_drop] at this
      exact this
     have hlen : ((xs.drop l).take (h - l)).length = h - l := by simp; omega
     have hmul : l * z + (h - l) * z ≤ xs.length * z := by
      rw [← Nat.add_mul]
      exact Nat.mul_le_mul_right _ (by omega)
     have hpu2 : ipureL ((xs.drop l).take (h - l)) = true := ipureL_take (ipureL_drop hpu l) _
     rcases hm2 with ⟨hmx0, rfl, rfl⟩ | ⟨hmx0, rfl⟩
     ·have hmx0' : mx' = none := h3.isSome.2.2.2 hmx0
      by_cases hu : UNK ≤ cap
      ·rw [if_pos ⟨hu, hmx0'⟩]
       have hcz : cap = UNK + z := by rcases hcap with hcap | hcap <;> omega
       rw [if_pos hcz]
       refine ⟨_, rfl, .mk_lst hF hlen.symm hz (by rw [hlen]; omega) (.inr hcz) ?_ hpu2 hwin⟩
       intro e
       simp [hmx0] at e
       have := (hfull e.1).2
       omega
      ·rw [if_neg (fun e => hu e.1)]
       have hco : capOf xs.length cap = cap := by unfold capOf; rw [if_neg hu]
       rw [hco] at hb2 ⊢
       have hcap' : cap < UNK ∧ xs.length ≤ cap := by rcases hcap with hcap | hcap <;> omega
       by_cases hml : cap = l
       ·rw [if_pos hml]
        have h0 : h - l = 0 := by omega
        refine ⟨_, rfl, .mk_lst hF (by rw [hlen, h0]) hz (by rw [hlen, h0]; omega) (.inl ⟨by simp [UNK], by rw [hlen, h0]; exact Nat.le_refl _⟩) (fun _ => ⟨by rw [hlen, h0], by simp [UNK]⟩) hpu2 ?_⟩
        rw [h0]; simp [CRF]
       ·rw [if_neg hml]
        refine ⟨_, rfl, .mk_lst hF hlen.symm hz (by rw [hlen]; omega) (.inl ⟨by omega, by rw [hlen]; omega⟩) ?_ hpu2 hwin⟩
        intro e
        simp [hmx0] at e
        have := (hfull e.1).1
        rw [hlen]
        omega
     ·have hmx0' : mx' ≠ none := fun e => hmx0 (h3.isSome.2.2.1 e)
      have hsome : mx.isSome = true := by cases mx <;> simp_all
      have hmU := hmU hsome
      rw [if_neg (fun e => hmx0' e.2)]
      by_cases hml : m' = l
      ·rw [if_pos hml]
       have h0 : h - l = 0 := by omega
       refine ⟨_, rfl, .mk_lst hF (by rw [hlen, h0]) hz (by rw [hlen, h0]; omega) (.inl ⟨by simp [UNK], by rw [hlen, h0]; exact Nat.le_refl _⟩) (fun _ => ⟨by rw [hlen, h0], by simp [UNK]⟩) hpu2 ?_⟩
       rw [h0]; simp [CRF]
      ·rw [if_neg hml]
       refine ⟨_, rfl, .mk_lst hF hlen.symm hz (by rw [hlen]; omega) (.inl ⟨by omega, by rw [hlen]; omega⟩) ?_ hpu2 hwin⟩
       intro e
       simp [hsome] at e
       rw [hlen]
       omega
    ·simp at he
   ·simp at he
 ·simp at he
end
end Go.Proofs.Ytmgfkifjgajclaa.G
namespace Go.Proofs.Ytmgfkifjgajclaa.G
open Go
section
variable {W : Wd} {J : JH} {H : Heap} {ρI : List IV} {ρG : List Value}
theorem ivV_IR (v : Value) : IR W (ivV v) v := by
 unfold ivV
 split
 ·rename_i h; exact .mk_sc h
 ·split
  ·rename_i a
   split
   ·rename_i h
    have := IR.mk_agg (CRL_map_sc (W := W) h)
    simpa using this
   ·exact .mk_unit
  ·exact .mk_unit
theorem evI_IR (hρ : IRL W ρI ρG) (x : Operand) : IR W (evI ρI x) (ev (env0 ρG 0) x) := by
 cases x with
 | tmp i =>
  simp only [evI]
  change IR W _ (EV ρG (.tmp i))
  rw [EV_tmp]
  cases hi : ρI[i]? with
  | none => exact .mk_unit
  | some v =>
   obtain ⟨c, hc, hv⟩ := hρ.get hi
   rw [hc]
   exact hv
 | const v => exact ivV_IR v
 | global g => exact .mk_unit
 | func f => simp only [evI, ev, IR, CR]; exact ⟨#[], #[], rfl, by simp [CRL], by simp [CRL]⟩
theorem fill_ok (hρ : IRL W ρI ρG) : ∀ (ps : List (Nat × Nat × Operand)) {cells out : List IV} {cs : List Value}, CRL W cells cs → ifill cells (ievs ρI ps) = some out →
  ∃ out', fillL cs (evs (env0 ρG 0) ps) = some out' ∧ CRL W out out' ∧ out.length = cells.length
 | [], cells, out, cs, hc, h => by
  simp only [ievs, List.map_nil, ifill, Option.some.injEq] at h
  subst h
  exact ⟨cs, rfl, hc, rfl⟩
 | (off, sz, x) :: ps, cells, out, cs, hc, h => by
  simp only [ievs, List.map_cons, ifill] at h
  split at h
  ·rename_i hb
   obtain ⟨h1, h2, h3⟩ := hb
   have hx := (evI_IR hρ x).cells h3
   obtain ⟨out', h4, h5, h6⟩ := fill_ok hρ ps (hc.splice hx off) h
   refine ⟨out', ?_, h5, ?_⟩
   ·simp only [evs, List.map_cons, fillL]
    rw [if_pos ⟨by rw [hx.len, h1], by rw [hc.len]; exact h2, hx.ones.2⟩]
    exact h4
   ·rw [h6]; unfold isplice; simp; omega
  ·simp at h
theorem strAt_sc {a b r : Value} (h : strAt a b = some r) : scOK r = true := by
 unfold strAt at h
 split at h
 ·rename_i s j _
  cases hb : s[j]? with
  | none => rw [hb] at h; simp at h
  | some c => rw [hb] at h; simp only [Option.map_some, Option.some.injEq] at h; subst h; rfl
 ·simp at h
theorem scO_ok {x : Option IV} {c : Option Value} (h : IRO W x c) {v : Option Value} (hs : scO x = some v) : c = v := by
 cases x <;> cases c <;> simp only [IRO] at h
 ·simp [scO] at hs; exact hs
 ·rename_i a b
  cases a with
  | sc u => obtain ⟨rfl, _⟩ := h.sc; simpa [scO] using hs
  | _ => simp [scO] at hs
theorem strSl_sim {x u : IV} {c : Value} {lo hi : Option IV} {lo' hi' : Option Value} (hx : IR W x c) (h1 : IRO W lo lo') (h2 : IRO W hi hi') (he : istrSl x lo hi = some u) : ∃ d, strSl c lo' hi' = some d ∧ IR W u d := by
 unfold istrSl at he
 split at he
 ·rename_i a l h hl hh
  obtain ⟨rfl, _⟩ := hx.sc
  rw [scO_ok h1 hl, scO_ok h2 hh]
  cases hs : strSl c l h with
  | none => rw [hs] at he; simp at he
  | some d =>
   rw [hs] at he
   simp only [Option.map_some, Option.some.injEq] at he
   subst he
   refine ⟨d, rfl, .mk_sc ?_⟩
   unfold strSl at hs
   repeat' split at hs
   all_goals first
    | (simp at hs; done)
    | (simp only [Option.some.injEq] at hs; subst hs; rfl)
 ·simp at he
theorem abin_sc {op : BinOp} {a b r : Value} (h : abin op a b = some r) : scOK r = true := by
 unfold abin at h
 split at h
 ·repeat' split at h
  all_goals first
   | (simp at h; done)
   | (simp only [Option.some.injEq] at h; subst h; rfl)
 ·simp at h
theorem aun_sc {op : UnOp} {a r : Value} (h : aun op a = some r) : scOK r = true := by
 unfold aun at h
 repeat' split at h
 all_goals first
  | (simp at h; done)
  | (simp only [Option.some.injEq] at h; subst h; rfl)
theorem min2_sc {mx : Bool} {a b r : Value} (h : min2 mx a b = some r) : scOK r = true := by
 unfold min2 at h
 repeat' split at h
 all_goals first
  | (simp at h; done)
  | (simp only [Option.some.injEq] at h; subst h; rfl)
theorem scal2_ok {f : Value → Value → Option Value} (hf : ∀ a b r, f a b = some r → scOK r = true) {x y v : IV} {c d : Value} (hx : IR W x c) (hy : IR W y d) (h : scal2 f x y = some v) : ∃ r, f c d = some r ∧ IR W v r := by
 unfold scal2 at h
 split at h
 ·obtain ⟨rfl, _⟩ := hx.sc
  obtain ⟨rfl, _⟩ := hy.sc
  cases hr : f c d with
  | none => rw [hr] at h; simp at h
  | some r =>
   rw [hr] at h
   simp only [Option.map_some, Option.some.injEq] at h
   subst h
   exact ⟨r, rfl, .mk_sc (hf _ _ _ hr)⟩
 ·simp at h
theorem isNil_ok {k : NilKind} {x : IV} {c : Value} (hx : IR W x c) {b : Bool} (h : iisNil k x = some b) : isNil k c = some b := by
 cases x with
 | sc v => obtain ⟨rfl, _⟩ := hx.sc; exact h
 | ptr b0 v off =>
  obtain ⟨_, _, _, _, _, rfl, _⟩ := hx.ptr
  simp only [iisNil] at h
  split at h
  ·rename_i hk; subst hk; simpa [isNil] using h
  ·simp at h
 | rptr e off =>
  obtain ⟨_, _, _, _, rfl, _⟩ := hx.rptr
  simp only [iisNil] at h
  split at h
  ·rename_i hk; subst hk; simpa [isNil] using h
  ·simp at h
 | sl b0 v off n cap sz =>
  obtain ⟨_, _, _, _, _, rfl, _⟩ := hx.sl
  simp only [iisNil] at h
  split at h
  ·rename_i hk; subst hk; simpa [isNil] using h
  ·simp at h
 | lst z f xs =>
  obtain ⟨_, _, _, _, _, rfl, _⟩ := hx.lst
  simp only [iisNil] at h
  split at h
  ·rename_i hk; subst hk; simpa [isNil] using h
  ·simp at h
 | map b0 =>
  obtain ⟨_, _, _, _, rfl, _⟩ := hx.map
  simp only [iisNil] at h
  split at h
  ·rename_i hk; subst hk; simpa [isNil] using h
  ·simp at h
 | fn f a c0 =>
  simp only [IR, CR] at hx
  obtain ⟨a', c', hc, _⟩ := hx
  simp only [List.cons.injEq, and_true] at hc
  subst hc
  simp only [iisNil] at h
  split at h
  ·rename_i hk; subst hk; simpa [isNil] using h
  ·simp at h
 | _ => simp [iisNil] at h
theorem aggEq_ok : ∀ {a b : List IV} {x y : List Value} {r : Bool}, CRL W a x → CRL W b y → iaggEq a b = some r → aggEq x y = some r
 | [], [], x, y, r, h1, h2, h => by
  rw [CRL.nil_iff.1 h1, CRL.nil_iff.1 h2]
  simpa [iaggEq, aggEq] using h
 | [], _ :: _, x, y, r, h1, h2, h => by simp [iaggEq] at h
 | _ :: _, [], x, y, r, h1, h2, h => by simp [iaggEq] at h
 | p :: a, q :: b, x, y, r, h1, h2, h => by
  obtain ⟨v, vs, rfl, _, _, hv, h3⟩ := CRL.cons_iff.1 h1
  obtain ⟨u, us, rfl, _, _, hu, h4⟩ := CRL.cons_iff.1 h2
  unfold iaggEq at h
  split at h
  ·rename_i heq1 heq2; cases heq1
  ·rename_i k n r1 l m r2 heq1 heq2
   simp only [List.cons.injEq] at heq1 heq2
   obtain ⟨rfl, rfl⟩ := heq1
   obtain ⟨rfl, rfl⟩ := heq2
   simp only [CR, List.cons.injEq, and_true] at hv hu
   rw [hv.1, hu.1]
   split at h
   ·rename_i hk
    simp only [aggEq, if_pos hk]
    split at h
    ·rename_i s hs
     rw [aggEq_ok h3 h4 hs]
     exact h
    ·simp at h
   ·simp at h
  ·simp at h
theorem map_IRL (hρ : IRL W ρI ρG) : ∀ l : List Operand, IRL W (l.map (evI ρI)) (l.map (ev (env0 ρG 0)))
 | [] => by simp [IRL]
 | x :: l => IRL.cons_iff.2 ⟨_, _, rfl, evI_IR hρ x, map_IRL hρ l⟩
theorem IRL.toCRL : ∀ {a : List IV} {x : List Value}, IRL W a x → a.all ione = true → CRL W a x
 | [], x, h, _ => by rw [IRL.nil_iff.1 h]; simp [CRL]
 | p :: a, x, h, h1 => by
  obtain ⟨v, vs, rfl, h2, h3⟩ := IRL.cons_iff.1 h
  simp only [List.all_cons, Bool.and_eq_true] at h1
  obtain ⟨h4, h5⟩ := h2.toCR h1.1
  exact CRL.cons_iff.2 ⟨v, vs, rfl, h1.1, h5, h4, IRL.toCRL h3 h1.2⟩
theorem map_IRO (hρ : IRL W ρI ρG) (o : Option Operand) : IRO W (o.map (evI ρI)) (o.map (ev (env0 ρG 0))) := by
 cases o with
 | none => trivial
 | some x => exact evI_IR hρ x
theorem minF_ok {mx : Bool} : ∀ {l : List IV} {x v : IV} {c : Value} {m : List Value}, IR W x c → IRL W l m → iminF mx x l = some v → ∃ r, minF mx c m = some r ∧ IR W v r
 | [], x, v, c, m, hx, hl, h => by
  rw [IRL.nil_iff.1 hl]
  simp only [iminF, Option.some.injEq] at h
  subst h
  exact ⟨c, rfl, hx⟩
 | y :: l, x, v, c, m, hx, hl, h => by
  obtain ⟨d, ds, rfl, h2, h3⟩ := IRL.cons_iff.1 hl
  simp only [iminF] at h
  split at h
  ·rename_i z hz
   obtain ⟨r, h4, h5⟩ := scal2_ok (fun a b r => min2_sc) hx h2 hz
   obtain ⟨r2, h6, h7⟩ := minF_ok h5 h3 h
   exact ⟨r2, by simp only [minF, h4, h6], h7⟩
  ·simp at h
theorem minI_ok {mx : Bool} {l : List IV} {v : IV} {m : List Value} (hl : IRL W l m) (h : iminI mx l = some v) : ∃ r, minI mx m = some r ∧ IR W v r := by
 unfold iminI at h
 split at h
 ·obtain ⟨d, ds, rfl, h2, h3⟩ := IRL.cons_iff.1 hl
  obtain ⟨rfl, _⟩ := h2.sc
  obtain ⟨r, h4, h5⟩ := minF_ok h2 h3 h
  exact ⟨r, h4, h5⟩
 ·simp at h
theorem iunB_ok : ∀ {xs : List IV} {vs : List Value} {l : List UInt8}, CRL W xs vs → xs.mapM iunB = some l → vs.mapM unB = some l
 | [], vs, l, h, hl => by
  rw [CRL.nil_iff] at h; subst h
  simpa using hl
 | x :: xs, vs, l, h, hl => by
  rw [CRL.cons_iff] at h
  obtain ⟨v, vs', rfl, h1, h2, h3, h4⟩ := h
  simp only [List.mapM_cons, Option.bind_eq_bind, Option.bind_eq_some_iff] at hl ⊢
  obtain ⟨y, hy, ys, hys, hl⟩ := hl
  cases x with
  | sc u =>
   have := (h3.toIR h1).sc.1
   subst this
   exact ⟨y, hy, ys, iunB_ok h4 hys, hl⟩
  | _ => simp [iunB] at hy
theorem ib2s_ok (h : HR W J H) {x : IV} {c : Value} (hx : IR W x c) {cs : List IV} (hs : iscells J 1 x = some cs) {l : List UInt8} (hl : cs.mapM iunB = some l) : ab2s c H = some (strOf l, H) := by
 obtain ⟨us, h1, h2, _⟩ := iscells_ok h hx hs
 unfold ab2s
 rw [h1]
 simp only [iunB_ok h2 hl]
theorem istrCells_ok (s : ByteArray) : CRL W (istrCells s) (strCells s) := by
 have : istrCells s = (strCells s).map .sc := by simp [istrCells, strCells]
 rw [this]
 refine CRL_map_sc ?_
 rw [List.all_eq_true]
 intro q hq
 simp only [strCells, List.mem_map] at hq
 obtain ⟨p, _, rfl⟩ := hq
 rfl
theorem is2ap_ok {n : Nat} {x u : IV} {c : Value} (hx : IR W x c) (he : is2ap n x = some u) : ∃ d, as2ap n c = some d ∧ IR W u d := by
 unfold is2ap at he
 split at he
 ·rename_i b v o m k
  split at he
  ·rename_i hc
   simp only [Option.some.injEq] at he
   subst he
   obtain ⟨w0, β, γ, hM, hle, hc2, hz, hcap, hγ⟩ := hx.sl
   subst hc2
   exact ⟨_, by simp only [as2ap, if_pos hc], .mk_ptr hM hle hγ⟩
  ·simp at he
 ·rename_i f xs
  split at he
  ·rename_i hc
   simp only [Option.some.injEq] at he
   subst he
   obtain ⟨β, o, cap, cs, hF, hc2, hz, hle, hcap, hfull, hpu, hcr⟩ := hx.lst
   subst hc2
   refine ⟨_, by simp only [as2ap, if_pos (⟨hc.1, hc.2.1⟩ : n ≤ xs.length ∧ 0 < n)]; rfl, ?_⟩
   have hfl : xs.flatMap icells = xs := by
    have : ∀ l : List IV, l.all ione = true → l.flatMap icells = l := by
     intro l hl
     induction l with
     | nil => rfl
     | cons a l ih =>
      simp only [List.all_cons, Bool.and_eq_true] at hl
      simp only [List.flatMap_cons, ione_icells hl.1, ih hl.2, List.singleton_append]
    exact this xs hc.2.2.1
   have hcr2 := hcr.flat (by rw [List.length_drop]; omega)
   rw [hfl, Nat.mul_one] at hcr2
   have hcr3 := hcr2.take n
   rw [List.take_take, Nat.min_eq_left hc.1] at hcr3
   simp only [IR, CR]
   refine ⟨β, o, cs, hF, rfl, ?_, ?_, ?_⟩
   ·simp only [icells, List.length_take]; omega
   ·simp only [icells, List.length_take, Nat.min_eq_left hc.1]
    exact hcr3
   ·simp only [ipure]; exact ipureL_take hc.2.2.2 n
  ·simp at he
 ·simp at he
structure TabOK (B : IBook) (P : Program) : Prop where
 zc : ∀ t z, B.zc t = some z → zc P t = z ∧ z.all (fun x => scOK x && one x) = true
 zv : ∀ t z, B.zv t = some z → zv P t = z
 co : ∀ t n, B.co t = some n → P.cellsOf t = n
theorem exec_sim {B : IBook} {P : Program} (hB : TabOK B P) (h : HR W J H) (hρ : IRL W ρI ρG) {C : ICall} {Cg : Ctx} (hP : Cg.P = P) {md : Md} {o : SOp} (hnc : isCall o = false) {v : IV} {J' : JH} (he : iexec B C md ρI o J = some (v, J')) :
  Goal W J H (TT (itouch B md ρI o J)) (exec Cg (env0 ρG 0) o H) v J' := by
 have E := fun x => evI_IR hρ x
 subst hP
 cases o with
 | mv x =>
  simp only [iexec] at he
  exact .lift h _ he fun u hu => ⟨_, rfl, by simp only [Option.some.injEq] at hu; subst hu; exact E x⟩
 | pick c a b =>
  simp only [iexec] at he
  have hc := E c
  split at he
  ·rename_i t heq
   rw [heq] at hc
   obtain ⟨hc, _⟩ := hc.sc
   simp only [exec, hc]
   exact .lift h _ he fun u hu => ⟨_, rfl, by simp only [Option.some.injEq] at hu; subst hu; cases t <;> simp [E]⟩
  ·simp [ilift] at he
 | new t =>
  simp only [iexec] at he
  split at he
  ·rename_i z hz
   obtain ⟨h1, h2⟩ := hB.zc t z hz
   simp only [exec, h1]
   exact new_sim h _ (fun _ => CRL_map_sc h2) he
  ·simp [ilift] at he
 | box t x =>
  simp only [iexec] at he
  exact new_sim h _ (fun hall => (E x).cells hall) he
 | build t ps =>
  simp only [iexec] at he
  split at he
  ·rename_i z hz
   obtain ⟨h1, h2⟩ := hB.zc t z hz
   refine .lift h _ he fun u hu => ?_
   cases hf : ifill (z.map .sc) (ievs ρI ps) with
   | none => rw [hf] at hu; simp at hu
   | some cs =>
    rw [hf] at hu
    simp only [Option.map_some, Option.some.injEq] at hu
    subst hu
    obtain ⟨out, h3, h4, _⟩ := fill_ok hρ ps (CRL_map_sc h2) hf
    exact ⟨_, by rw [h1, h3]; rfl, .mk_agg h4⟩
  ·simp [ilift] at he
 | bslice t n ps =>
  simp only [iexec] at he
  split at he
  ·rename_i z hz
   obtain ⟨h1, h2⟩ := hB.zc t z hz
   split at he
   ·rename_i cs hf
    split at he
    ·rename_i hall
     simp only [Bool.and_eq_true, decide_eq_true_eq] at hall
     obtain ⟨⟨hall, hz0⟩, hnU⟩ := hall
     obtain ⟨out, h3, h4, h5⟩ := fill_ok hρ ps (CRL_reps h2 n) hf
     have hlen : cs.length = n * z.length := by
      rw [h5]; unfold ireps
      simp
     simp only [exec, h1, h3, h4.ones.2, if_true]
     split at he
     ·rename_i hp0
      have hp : ipureL cs = true := by simp only [Bool.and_eq_true] at hp0; exact hp0.1
      simp only [Option.some.injEq, Prod.mk.injEq] at he
      obtain ⟨rfl, rfl⟩ := he
      have hst := h.pushF out
      refine ⟨_, _, _, rfl, hst.weak (fun _ hx => hx.elim), ?_⟩
      refine .mk_lst (β := H.size) (o := 0) (cs := out) (by simp [Wd.addF]) (grp_len _ _).symm hz0 ?_ (.inl ⟨hnU, by rw [grp_len]; exact Nat.le_refl _⟩) (fun _ => ⟨(grp_len _ _).symm, hnU⟩) ?_ ?_
      ·rw [grp_len, h4.len, hlen]; simp
      ·exact ipureL_iff.2 (ipure_grp n (ipureL_iff.1 hp))
      ·simp only [List.drop_zero]
       exact (grp_CRF n (by omega) h4).mono hst.le
     ·simp only [Option.some.injEq, Prod.mk.injEq] at he
      obtain ⟨rfl, rfl⟩ := he
      exact ⟨_, _, _, rfl, (h.push (X := .cells 0 cs false) (.inl ⟨_, _, rfl, rfl, h4⟩)).weak (fun _ hx => hx.elim), .mk_sl (w := 0) (β := H.size) (by simp [Wd.add]) (Nat.le_refl _) hz0 (.inl ⟨hnU, Nat.le_refl _⟩) (fun _ => rfl)⟩
    ·simp at he
   ·simp at he
  ·simp at he
 | load ag sz x => simp only [iexec] at he; exact load_sim h _ (E x) he
 | store sz x u =>
  simp only [iexec] at he
  obtain ⟨l, h1, h2⟩ := store_sim h (E x) (E u) he
  simp only [itouch, h1]
  exact h2
 | nilck x =>
  simp only [iexec] at he
  have hx := E x
  split at he
  ·rename_i b w o heq
   rw [heq] at hx
   obtain ⟨_, _, _, _, _, hc, _⟩ := hx.ptr
   simp only [exec, hc]
   rw [hc] at hx
   exact .lift h _ he fun u hu => ⟨_, rfl, by simp only [Option.some.injEq] at hu; subst hu; exact hx⟩
  ·rename_i e o heq
   rw [heq] at hx
   obtain ⟨_, _, _, _, hc, _⟩ := hx.rptr
   simp only [exec, hc]
   rw [hc] at hx
   exact .lift h _ he fun u hu => ⟨_, rfl, by simp only [Option.some.injEq] at hu; subst hu; exact hx⟩
  ·rename_i f a b heq
   rw [heq] at hx
   have hx2 := hx
   simp only [IR, CR] at hx2
   obtain ⟨a', c', hc, _⟩ := hx2
   simp only [List.cons.injEq, and_true] at hc
   simp only [exec, hc]
   rw [hc] at hx
   exact .lift h _ he fun u hu => ⟨_, rfl, by simp only [Option.some.injEq] at hu; subst hu; exact hx⟩
  ·simp [ilift] at he
 | bin op x y =>
  simp only [iexec] at he
  exact .lift h _ he fun u hu => scal2_ok (f := abin op) (fun a b r => abin_sc) (E x) (E y) hu
 | eqNil neg k x =>
  simp only [iexec] at he
  refine .lift h _ he fun u hu => ?_
  cases hn : iisNil k (evI ρI x) with
  | none => rw [hn] at hu; simp at hu
  | some b =>
   rw [hn] at hu
   simp only [Option.map_some, Option.some.injEq] at hu
   subst hu
   exact ⟨_, by rw [isNil_ok (E x) hn]; rfl, .mk_sc rfl⟩
 | eqB neg x y =>
  simp only [iexec] at he
  have hx := E x
  have hy := E y
  split at he
  ·rename_i a b h1 h2
   rw [h1] at hx
   rw [h2] at hy
   simp only [exec, hx.sc.1, hy.sc.1]
   exact .lift h _ he fun u hu => ⟨_, rfl, by simp only [Option.some.injEq] at hu; subst hu; exact .mk_sc rfl⟩
  ·simp [ilift] at he
 | eqS neg x y =>
  simp only [iexec] at he
  have hx := E x
  have hy := E y
  split at he
  ·rename_i a b h1 h2
   rw [h1] at hx
   rw [h2] at hy
   simp only [exec, hx.sc.1, hy.sc.1]
   exact .lift h _ he fun u hu => ⟨_, rfl, by simp only [Option.some.injEq] at hu; subst hu; exact .mk_sc rfl⟩
  ·simp [ilift] at he
 | eqAgg neg t x y =>
  simp only [iexec] at he
  have hx := E x
  have hy := E y
  split at he
  ·rename_i a b n h1 h2 h3
   rw [h1] at hx
   rw [h2] at hy
   obtain ⟨a', ha, hca⟩ := hx.agg
   obtain ⟨b', hb, hcb⟩ := hy.agg
   have hn := hB.co t n h3
   have la : a'.size = a.length := by rw [← hca.len]; simp
   have lb : b'.size = b.length := by rw [← hcb.len]; simp
   simp only [exec, ha, hb, hn, la, lb]
   split at he
   ·rename_i hc
    rw [if_pos hc]
    refine .lift h _ he fun u hu => ?_
    cases hq : iaggEq a b with
    | none => rw [hq] at hu; simp at hu
    | some r =>
     rw [hq] at hu
     simp only [Option.map_some, Option.some.injEq] at hu
     subst hu
     exact ⟨_, by rw [aggEq_ok hca hcb hq]; rfl, .mk_sc rfl⟩
   ·simp [ilift] at he
  ·simp [ilift] at he
 | un op x =>
  simp only [iexec] at he
  have hx := E x
  split at he
  ·rename_i w heq
   rw [heq] at hx
   simp only [exec, hx.sc.1]
   refine .lift h _ he fun u hu => ?_
   cases hq : aun op w with
   | none => rw [hq] at hu; simp at hu
   | some r =>
    rw [hq] at hu
    simp only [Option.map_some, Option.some.injEq] at hu
    subst hu
    exact ⟨r, rfl, .mk_sc (aun_sc hq)⟩
  ·simp [ilift] at he
 | conv k x =>
  simp only [iexec] at he
  have hx := E x
  split at he
  ·rename_i l n heq
   rw [heq] at hx
   simp only [exec, hx.sc.1]
   exact .lift h _ he fun u hu => ⟨_, rfl, by simp only [Option.some.injEq] at hu; subst hu; exact .mk_sc rfl⟩
  ·simp [ilift] at he
 | fn f0 first captured =>
  cases f0 with
  | func f =>
   simp only [iexec] at he
   split at he
   ·rename_i hc
    simp only [Bool.and_eq_true] at hc
    refine .lift h _ he fun u hu => ⟨_, rfl, ?_⟩
    simp only [Option.some.injEq] at hu
    subst hu
    simp only [IR, CR]
    exact ⟨_, _, rfl, (map_IRL hρ first).toCRL hc.1, (map_IRL hρ captured).toCRL hc.2⟩
   ·simp [ilift] at he
  | _ => simp [iexec, ilift] at he
 | newmap =>
  simp only [iexec, Option.some.injEq, Prod.mk.injEq] at he
  obtain ⟨rfl, rfl⟩ := he
  refine ⟨_, _, _, rfl, (h.push (X := .map [] 0) (.inr ⟨0, [], [], rfl, rfl, trivial⟩)).weak (fun _ hx => hx.elim), ?_⟩
  simp only [IR, CR]
  exact ⟨0, H.size, H.size, by simp [Wd.add], rfl, fun _ => rfl⟩
 | mkslice t bytes l c =>
  simp only [iexec] at he
  split at he
  ·rename_i z n m hz hn hm
   obtain ⟨h1, h2⟩ := hB.zc t z hz
   split at he
   ·rename_i hc
    obtain ⟨hz0, hnm, hfit, hall⟩ := hc
    simp only [Option.some.injEq, Prod.mk.injEq] at he
    obtain ⟨rfl, rfl⟩ := he
    have hr := CRL_reps (W := W) h2 m
    simp only [exec, asNat_ok (E l) hn, asNat_ok (E c) hm, h1]
    rw [if_pos ⟨hnm, hfit, hr.ones.2⟩]
    have hmU : m < UNK := by
     simp only [fits, Bool.and_eq_true, decide_eq_true_eq] at hfit
     unfold UNK; omega
    exact ⟨_, _, _, rfl, (h.push (X := .cells 0 (ireps m (z.map .sc)) false) (.inl ⟨_, _, rfl, rfl, hr⟩)).weak (fun _ hx => hx.elim), .mk_sl (w := 0) (β := H.size) (by simp [Wd.add]) (Nat.le_refl _) hz0 (.inl ⟨hmU, hnm⟩) (fun _ => rfl)⟩
   ·simp at he
  ·simp at he
 | slice sz x lo hi mx =>
  simp only [iexec] at he
  exact .lift h _ he fun u hu => slice_sim (E x) (map_IRO hρ lo) (map_IRO hρ hi) (map_IRO hρ mx) hu
 | sidx x i =>
  simp only [iexec] at he
  exact .lift h _ he fun u hu => scal2_ok (f := strAt) (fun a b r => strAt_sc) (E x) (E i) hu
 | sslice x lo hi =>
  simp only [iexec] at he
  exact .lift h _ he fun u hu => strSl_sim (E x) (map_IRO hρ lo) (map_IRO hρ hi) hu
 | sliceArr n sz x lo hi mx =>
  simp only [iexec] at he
  have hx := E x
  split at he
  ·rename_i b w o heq
   rw [heq] at hx
   obtain ⟨w0, β, γ, hM, hle, hc, hγ⟩ := hx.ptr
   split at he
   ·rename_i hn
    simp only [exec, hc, if_pos hn.1]
    exact .lift h _ he fun u hu => slice_sim (.mk_sl hM hle hn.2 (.inl ⟨hn.1, Nat.le_refl _⟩) hγ) (map_IRO hρ lo) (map_IRO hρ hi) (map_IRO hρ mx) hu
   ·simp [ilift] at he
  ·simp [ilift] at he
 | faddr off x =>
  simp only [iexec] at he
  have hx := E x
  split at he
  ·rename_i b w o heq
   rw [heq] at hx
   obtain ⟨w0, β, γ, hM, hle, hc, hγ⟩ := hx.ptr
   simp only [exec, hc]
   exact .lift h _ he fun u hu => ⟨_, rfl, by simp only [Option.some.injEq] at hu; subst hu; exact .mk_ptr hM hle hγ⟩
  ·rename_i e o heq
   rw [heq] at hx
   obtain ⟨β, o2, cs, hF, hc, hle, hcr⟩ := hx.rptr
   simp only [exec, hc]
   refine .lift h _ he fun u hu => ⟨_, rfl, ?_⟩
   simp only [Option.some.injEq] at hu
   subst hu
   simp only [IR, CR]
   exact ⟨β, o2, cs, hF, by rw [Nat.add_assoc], hle, hcr⟩
  ·simp [ilift] at he
 | field ag off sz x =>
  simp only [iexec] at he
  have hx := E x
  split at he
  ·rename_i cs heq
   rw [heq] at hx
   obtain ⟨a, ha, hca⟩ := hx.agg
   have la : a.size = cs.length := by rw [← hca.len]; simp
   simp only [exec, ha, la]
   split at he
   ·rename_i hb
    rw [if_pos hb]
    cases ag with
    | true =>
     simp only [if_true] at he ⊢
     exact .lift h _ he fun u hu => ⟨_, rfl, by simp only [Option.some.injEq] at hu; subst hu; exact .mk_agg ((hca.drop off).take sz)⟩
    | false =>
     simp only [Bool.false_eq_true, if_false] at he ⊢
     refine .lift h _ he fun u hu => ?_
     obtain ⟨c, h1, h2, h3, h4⟩ := hca.get hu
     exact ⟨c, by simpa using h1, h4.toIR h2⟩
   ·simp [ilift] at he
  ·simp [ilift] at he
 | iaddr sz x i =>
  simp only [iexec] at he
  have hx := E x
  split at he
  ·rename_i b w o n k z j heq hj
   rw [heq] at hx
   obtain ⟨w0, β, γ, hM, hle, hc, hz, hcap, hγ⟩ := hx.sl
   simp only [exec, hc]
   split at he
   ·rename_i hb
    refine .lift h _ he fun u hu => ⟨.pointer (some ⟨γ, o + j * sz, none⟩), ?_, ?_⟩
    ·simp only [aiaddr, asNat_ok (E i) hj]; rw [if_pos hb.1]
    ·simp only [Option.some.injEq] at hu; subst hu; exact .mk_ptr hM hle hγ
   ·simp [ilift] at he
  ·rename_i z f xs j heq hj
   rw [heq] at hx
   obtain ⟨β, o, cap, cs, hF, hc, hz, hle, hcap, hfull, hpu, hcr⟩ := hx.lst
   simp only [exec, hc]
   split at he
   ·rename_i e hje
    split at he
    ·rename_i hzs
     subst hzs
     have hjl : j < xs.length := by
      rcases Nat.lt_or_ge j xs.length with h | h
      ·exact h
      ·rw [List.getElem?_eq_none h] at hje; cases hje
     refine .lift h _ he fun u hu => ⟨.pointer (some ⟨β, o + j * z, none⟩), ?_, ?_⟩
     ·simp only [aiaddr, asNat_ok (E i) hj]; rw [if_pos hjl]
     ·simp only [Option.some.injEq] at hu
      subst hu
      obtain ⟨h1, h2⟩ := hcr.get hje
      rw [List.drop_drop] at h2
      have hm : j * z + z ≤ xs.length * z := by
       rw [← Nat.succ_mul]; exact Nat.mul_le_mul_right _ hjl
      simp only [IR, CR]
      exact ⟨β, o + j * z, cs, hF, rfl, by rw [h1]; omega, by rw [h1]; exact h2, ipureL_iff.1 hpu e (List.mem_of_getElem? hje)⟩
    ·simp [ilift] at he
   ·simp [ilift] at he
  ·simp [ilift] at he
 | iaddrA n sz x i =>
  simp only [iexec] at he
  have hx := E x
  split at he
  ·rename_i b w o j heq hj
   rw [heq] at hx
   obtain ⟨w0, β, γ, hM, hle, hc, hγ⟩ := hx.ptr
   simp only [exec, hc]
   split at he
   ·rename_i hb
    refine .lift h _ he fun u hu => ⟨.pointer (some ⟨γ, o + j * sz, none⟩), ?_, ?_⟩
    ·simp only [aiaddrA, asNat_ok (E i) hj]; rw [if_pos hb]
    ·simp only [Option.some.injEq] at hu; subst hu; exact .mk_ptr hM hle hγ
   ·simp [ilift] at he
  ·rename_i e o j heq hj
   rw [heq] at hx
   obtain ⟨β, o2, cs, hF, hc, hle, hcr⟩ := hx.rptr
   simp only [exec, hc]
   split at he
   ·rename_i hb
    refine .lift h _ he fun u hu => ⟨.pointer (some ⟨β, o2 + o + j * sz, none⟩), ?_, ?_⟩
    ·simp only [aiaddrA, asNat_ok (E i) hj]; rw [if_pos hb]
    ·simp only [Option.some.injEq] at hu
     subst hu
     simp only [IR, CR]
     exact ⟨β, o2, cs, hF, by rw [Nat.add_assoc], hle, hcr⟩
   ·simp [ilift] at he
  ·simp [ilift] at he
 | ext x i =>
  simp only [iexec] at he
  have hx := E x
  split at he
  ·rename_i vs heq
   rw [heq] at hx
   obtain ⟨h1, rfl⟩ := ilift_ok he
   simp only [IR] at hx
   rcases hx with rfl | ⟨a, ha, hl⟩
   ·simp at h1
   ·simp only [exec, ha]
    refine .lift h _ he fun u hu => ?_
    obtain ⟨c, h2, h3⟩ := hl.get hu
    exact ⟨c, by simpa using h2, h3⟩
  ·simp [ilift] at he
 | b2s x =>
  simp only [iexec] at he
  split at he
  ·rename_i cs hcs
   split at he
   ·rename_i l hl
    simp only [Option.some.injEq, Prod.mk.injEq] at he
    obtain ⟨rfl, rfl⟩ := he
    simp only [exec]
    rw [ib2s_ok h (E x) hcs hl]
    exact .same h _ (.mk_sc rfl)
   ·simp at he
  ·simp at he
 | s2b x =>
  simp only [iexec] at he
  have hx := E x
  unfold is2b at he
  split at he
  ·rename_i s heq
   rw [heq] at hx
   split at he
   ·rename_i hc
    simp only [Option.some.injEq, Prod.mk.injEq] at he
    obtain ⟨rfl, rfl⟩ := he
    simp only [exec, hx.sc.1, as2b, if_pos hc]
    exact ⟨_, _, _, rfl, (h.push (X := .cells 0 (istrCells s) false) (.inl ⟨_, _, rfl, rfl, istrCells_ok s⟩)).weak (fun _ hx => hx.elim), .mk_sl (w := 0) (β := H.size) (by simp [Wd.add]) (Nat.le_refl _) (by omega) (.inr rfl) (fun _ => rfl)⟩
   ·simp at he
  ·simp at he
 | mark x =>
  simp only [iexec] at he
  have hx := E x
  unfold imark at he
  split at he
  ·rename_i b v o n k z heq
   rw [heq] at hx
   obtain ⟨w0, β, γ, hM, hle, hc, hz, hcap, hγ⟩ := hx.sl
   split at he
   ·rename_i w1 cs hJ
    split at he
    ·rename_i hcd
     simp only [Option.some.injEq, Prod.mk.injEq] at he
     obtain ⟨rfl, rfl⟩ := he
     obtain ⟨hn0, hku, rfl⟩ := hcd
     ·have hd := h.dom b w0 β hM
      have hw : w0 = v := by
       rcases hd with ⟨cs2, ro, e2⟩ | ⟨_, es, kk, e2⟩
       ·rw [hJ] at e2; cases e2; rfl
       ·rw [hJ] at e2; cases e2
      subst hw
      obtain rfl := hγ rfl
      obtain ⟨cs', r, g1, g2, g3, _⟩ := h.cells b w0 γ cs false hM hJ
      obtain ⟨rfl, _⟩ := g3 rfl
      rw [hc] at hx
      simp only [exec, hc, amark, g1, if_pos (⟨hn0, hku⟩ : 0 < n ∧ k < UNK)]
      exact .same h _ hx
    ·simp at he
   ·simp at he
  ·simp at he
 | s2ap n x =>
  simp only [iexec] at he
  exact .lift h _ he fun u hu => is2ap_ok (E x) hu
 | len str x =>
  simp only [iexec] at he
  have hx := E x
  split at he
  ·rename_i s heq
   rw [heq] at hx
   simp only [exec, hx.sc.1]
   cases str with
   | true =>
    simp only [if_true] at he ⊢
    exact .lift h _ he fun u hu => ⟨_, rfl, by simp only [Option.some.injEq] at hu; subst hu; exact .mk_sc rfl⟩
   | false => simp [ilift] at he
  ·cases str with
   | true => simp [ilift] at he
   | false =>
    simp only [Bool.false_eq_true, if_false] at he
    obtain ⟨h1, rfl⟩ := ilift_ok he
    cases hl : ilen (evI ρI x) with
    | none => rw [hl] at h1; simp at h1
    | some n =>
     obtain ⟨a, k, hc⟩ := ilen_slice hx hl
     simp only [exec, hc, Bool.false_eq_true, if_false]
     refine .lift h _ he fun u hu => ⟨_, rfl, ?_⟩
     rw [hl] at hu
     simp only [Option.map_some, Option.some.injEq] at hu
     subst hu
     exact .mk_sc rfl
 | lenM x =>
  simp only [iexec] at he
  have hx := E x
  split at he
  ·rename_i heq
   rw [heq] at hx
   simp only [Option.some.injEq, Prod.mk.injEq] at he
   obtain ⟨rfl, rfl⟩ := he
   simp only [exec, hx.sc.1]
   exact .same h _ (.mk_sc rfl)
  ·rename_i b heq
   rw [heq] at hx
   obtain ⟨w, β, γ, hM, hc, hγ⟩ := hx.map
   split at he
   ·rename_i es k0 hJ
    obtain ⟨rfl, es', h1, h2⟩ := h.map hM hJ hγ
    simp only [Option.some.injEq, Prod.mk.injEq] at he
    obtain ⟨rfl, rfl⟩ := he
    simp only [exec, hc, h1, h2.len]
    exact .same h _ (.mk_sc rfl)
   ·simp at he
  ·simp at he
 | minmax mx l =>
  simp only [iexec] at he
  exact .lift h _ he fun u hu => minI_ok (map_IRL hρ l) hu
 | append sz bytes s x =>
  simp only [iexec] at he
  split at he
  ·rename_i hsz
   obtain ⟨l, h1, h2⟩ := append_sim h (E s) (E x) hsz he
   simp only [itouch, h1]
   exact h2
  ·simp [ilift] at he
 | copy sz d s => simp only [iexec] at he; exact copy_sim h (E d) (E s) he
 | clearS t x =>
  simp only [iexec] at he
  split at he
  ·rename_i z hz
   obtain ⟨h1, h2⟩ := hB.zc t z hz
   simp only [exec, h1]
   exact clearS_sim h h2 (E x) he
  ·simp [ilift] at he
 | clearM x =>
  simp only [iexec] at he
  have hx := E x
  split at he
  ·rename_i heq
   rw [heq] at hx
   simp only [Option.some.injEq, Prod.mk.injEq] at he
   obtain ⟨rfl, rfl⟩ := he
   simp only [exec, hx.sc.1]
   exact .same h _ .mk_unit
  ·rename_i b heq
   rw [heq] at hx
   obtain ⟨w, β, γ, hM, hc, hγ⟩ := hx.map
   split at he
   ·rename_i es k0 hJ
    obtain ⟨rfl, es', h1, h2⟩ := h.map hM hJ hγ
    simp only [Option.some.injEq, Prod.mk.injEq] at he
    obtain ⟨rfl, rfl⟩ := he
    simp only [exec, hc, h1]
    refine ⟨_, _, _, rfl, (h.set hM (.inr ⟨[], [], k0, ⟨es, k0, hJ⟩, rfl, rfl, trivial⟩)).weak (fun x hx => ?_), .mk_unit⟩
    simp only [itouch, heq, blkOf, TT]
    simp [hx]
   ·simp at he
  ·simp at he
 | lookup t ks ok m k =>
  simp only [iexec] at he
  split at he
  ·rename_i z hz
   simp only [exec, hB.zv t z hz]
   exact lookup_sim h ks _ (ivV_IR z) (E m) (E k) he
  ·simp [ilift] at he
 | mapset ks m k u => simp only [iexec] at he; exact mapset_sim h ks (E m) (E k) (E u) he
 | del ks m k => simp only [iexec] at he; exact delete_sim h ks (E m) (E k) he
 | call f args => simp [isCall] at hnc
 | callv f args => simp [isCall] at hnc
end
end Go.Proofs.Ytmgfkifjgajclaa.G
