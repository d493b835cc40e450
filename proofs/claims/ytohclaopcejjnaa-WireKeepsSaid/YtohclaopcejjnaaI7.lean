/- The reading with lists in the open is sound: what it comes to, the plain reading comes to. -/
import Derived.Test.YtohclaopcejjnaaI6
namespace Go.Proofs.Ytohclaopcejjnaa.G
open Go
set_option linter.unusedSimpArgs false
set_option linter.unusedVariables false
section
variable {W : Wd} {J : JH} {H : Heap} {ρI : List IV} {ρG : List Value}

theorem wants_sim (hρ : IRL W ρI ρG) {g : Option (Operand × Bool)} {b : Bool} (h : wantsI ρI g = some b) : wantsG ρG g = some b := by
  cases g with
  | none => exact h
  | some g =>
    obtain ⟨x, w⟩ := g
    have hx := evI_IR hρ x
    simp only [wantsI] at h
    split at h
    · rename_i v heq
      rw [heq] at hx
      simp only [wantsG, hx.sc.1]
      exact h
    · simp at h
theorem CRL.toIRL : ∀ {a : List IV} {x : List Value}, CRL W a x → IRL W a x
  | [], x, h => by rw [CRL.nil_iff.1 h]; simp [IRL]
  | p :: a, x, h => by
    obtain ⟨v, vs, rfl, h2, h3, h4, h5⟩ := CRL.cons_iff.1 h
    exact IRL.cons_iff.2 ⟨v, vs, rfl, h4.toIR h2, CRL.toIRL h5⟩
theorem scals_ok : ∀ {vs : List IV} {cs x : List Value}, CRL W vs cs → scalsOf vs = some x → cs = x
  | [], cs, x, h, hs => by rw [CRL.nil_iff.1 h]; simpa [scalsOf] using hs
  | p :: vs, cs, x, h, hs => by
    obtain ⟨v, us, rfl, h2, h3, h4, h5⟩ := CRL.cons_iff.1 h
    cases p with
    | sc u =>
      simp only [scalsOf] at hs
      cases hr : scalsOf vs with
      | none => rw [hr] at hs; simp at hs
      | some r =>
        rw [hr] at hs
        simp only [Option.map_some, Option.some.injEq] at hs
        subst hs
        rw [scals_ok h5 hr]
        simp only [CR, List.cons.injEq, and_true] at h4
        rw [h4.1]
    | _ => simp [scalsOf] at hs

theorem exec_all {B : IBook} {P : Program} (hB : TabOK B P) (h : HR W J H) (hρ : IRL W ρI ρG) {C : ICall} {Cg : Ctx} (hP : Cg.P = P) (hC : CallOK C Cg) {md : Md} {o : SOp} {v : IV} {J' : JH} (he : iexec B C md ρI o J = some (v, J')) :
    Goal W J H (TT (itouch B md ρI o J)) (exec Cg (env0 ρG 0) o H) v J' := by
  by_cases hc : isCall o = false
  · exact exec_sim hB h hρ hP hc he
  · cases o <;> simp [isCall] at hc
    case call f args =>
      simp only [iexec] at he
      exact doCall_sim hC h (map_IRL hρ args) he
    case callv f args =>
      simp only [iexec] at he
      have hf := evI_IR hρ f
      split at he
      · rename_i g first captured heq
        rw [heq] at hf
        simp only [IR, CR] at hf
        obtain ⟨a', c', hc, h2, h3⟩ := hf
        simp only [List.cons.injEq, and_true] at hc
        simp only [exec, hc, itouch, heq]
        exact doCall_sim hC h ((h2.toIRL.append (map_IRL hρ args)).append h3.toIRL) he
      · simp [ilift] at he

theorem rd_congr {H H' : Heap} {β : Nat} (h : H'[β]? = H[β]?) (off n : Nat) : rd H β off n = rd H' β off n := by unfold rd; rw [h]
theorem same_range {H H' : Heap} {β off n : Nat} (h : rd H β off n = rd H' β off n) : same H H' (.range β off n) = true := by simp [same, h]
theorem same_sim {W' : Wd} {J' : JH} {H' : Heap} {t : Option (List Nat)} (h : HR W J H) (hs : SS W J H W' J' H' (TT t)) (hρ : IRL W ρI ρG) {o : SOp} {k : ILook} (hk : ilooks ρI o = some k) (hi : isame J J' t k = true) : same H H' (looks (env0 ρG 0) o) = true := by
  have hunt : ∀ {b w β}, W.M b = some (w, β) → untouched t b = true → H'[β]? = H[β]? := fun {b w β} hM hu => by
    refine hs.frG β (h.lt hM).2 fun b' w' hM' hT => ?_
    have := h.inj b' b _ _ _ hM' hM
    subst this
    cases t with
    | none => simp [untouched] at hu
    | some l =>
      simp only [untouched, Bool.not_eq_true', ← Bool.not_eq_true, List.contains_iff_mem] at hu
      exact hu hT
  have hmap : ∀ {m : IV} {c : Value}, IR W m c → (match m with | .map b => some (ILook.whole b) | .sc _ => some .nothing | _ => none) = some k → same H H' (match c with | .map (some b) => .whole b | _ => .nothing) = true := by
    intro m c hm hk
    cases m with
    | map b =>
      obtain ⟨w, β, γ, hM, rfl, hγ⟩ := hm.map
      simp only [Option.some.injEq] at hk
      subst hk
      simp only [isame, Bool.and_eq_true] at hi
      obtain ⟨h1, h2⟩ := hi
      split at h1
      · rename_i es k0 hJ
        obtain rfl := hγ (h.M_map hM hJ)
        simp [same, hunt hM h2]
      · simp at h1
    | sc v =>
      obtain ⟨rfl, hok⟩ := hm.sc
      cases c <;> try (simp [same]; done)
      rename_i a
      cases a <;> simp [scOK] at hok
      simp [same]
    | _ => simp at hk
  cases o with
  | load ag sz x =>
    simp only [ilooks] at hk
    simp only [looks]
    have hx := evI_IR hρ x
    split at hk
    · rename_i b v off heq
      rw [heq] at hx
      obtain ⟨w, β, γ, hM, hle, hc, hγ⟩ := hx.ptr
      simp only [Option.some.injEq] at hk
      subst hk
      simp only [hc]
      simp only [isame, Bool.and_eq_true, Bool.or_eq_true] at hi
      obtain ⟨h1, h2⟩ := hi
      cases hr : ird J b v off (if ag = true then sz else 1) with
      | none => rw [hr] at h1; simp at h1
      | some vs =>
        obtain ⟨rfl, cs, hcs, hcr⟩ := h.read hM hr
        obtain rfl := hγ rfl
        apply same_range
        rcases h2 with h2 | h2
        · exact rd_congr (hunt hM h2) _ _
        · rw [hr] at h2
          split at h2
          · rename_i a1 b1 hx1 hy1
            simp only [Option.bind_some] at hx1
            cases hr' : ird J' b v off (if ag = true then sz else 1) with
            | none => rw [hr'] at hy1; simp at hy1
            | some vs' =>
              rw [hr'] at hy1
              simp only [Option.bind_some] at hy1
              obtain ⟨w', β', hM', hv⟩ := hs.le.M b v γ hM
              obtain ⟨rfl, cs', hcs', hcr'⟩ := hs.hr.read hM' hr'
              rcases hv with ⟨_, rfl⟩ | hv
              · rw [hcs, hcs', scals_ok hcr hx1, scals_ok hcr' hy1, eq_of_veqL _ _ h2]
              · omega
          · simp at h2
    · rename_i e off heq
      rw [heq] at hx
      obtain ⟨β, o, cs, hF, hc, hle, hcr, _⟩ := hx.rptr
      simp only [hc]
      obtain ⟨r, hr⟩ := h.fro β cs hF
      obtain ⟨r', hr'⟩ := hs.hr.fro β cs (hs.le.F β cs hF)
      apply same_range
      unfold rd
      rw [hr, hr']
    · rename_i v heq
      rw [heq] at hx
      obtain ⟨hc, hok⟩ := hx.sc
      rw [hc]
      cases v <;> try (simp [same]; done)
      rename_i a
      cases a <;> simp [scOK] at hok
      simp [same]
    · simp at hk
  | lookup t ok m kk =>
    simp only [ilooks] at hk
    simp only [looks]
    exact hmap (evI_IR hρ m) hk
  | lenM x =>
    simp only [ilooks] at hk
    simp only [looks]
    exact hmap (evI_IR hρ x) hk
  | _ => simp [looks, same]

theorem step_sim {B : IBook} {P : Program} (hB : TabOK B P) (h : HR W J H) (hρ : IRL W ρI ρG) {C : ICall} {Cg : Ctx} (hP : Cg.P = P) (hC : CallOK C Cg) {i : LI} {v : IV} {J' : JH} (he : stepI' B C ρI i J = some (v, J')) :
    Goal W J H (fun _ => True) (stepG Cg ρG i H) v J' := by
  unfold stepI' at he
  unfold stepG
  split at he
  · rename_i hw
    simp only [wants_sim hρ hw]
    split at he
    · rename_i v1 J1 hex
      split at he
      · rename_i hchk
        simp only [Option.some.injEq, Prod.mk.injEq] at he
        obtain ⟨rfl, rfl⟩ := he
        obtain ⟨W', c, H', h1, h2, h3⟩ := exec_all hB h hρ hP hC hex
        rw [h1]
        simp only
        rw [if_pos]
        · exact ⟨W', c, H', rfl, h2.all, h3⟩
        · rw [List.all_eq_true] at hchk ⊢
          intro q hq
          have hc := hchk q hq
          obtain ⟨g, o⟩ := q
          unfold ichk at hc
          simp only at hc
          split at hc
          · rename_i hg
            split at hc
            · rename_i k hk
              simp only [looksG, wants_sim hρ hg, if_true]
              exact same_sim h h2 hρ hk hc
            · simp at hc
          · rename_i hg
            simp [looksG, wants_sim hρ hg, same]
          · simp at hc
      · simp at he
    · simp at he
  · rename_i hw
    simp only [wants_sim hρ hw]
    simp only [Option.some.injEq, Prod.mk.injEq] at he
    obtain ⟨rfl, rfl⟩ := he
    exact .same h _ (.mk_sc rfl)
  · simp at he

def OutR (W : Wd) : Out IV → Out Value → Prop
  | .goto l vs, .goto m cs => l = m ∧ IRL W vs cs
  | .ret vs, .ret cs => IRL W vs cs
  | _, _ => False
def DenR (W : Wd) (J : JH) (H : Heap) (r : Option (Out IV × JH)) (s : Option (Out Value × Heap)) : Prop :=
  ∀ o J', r = some (o, J') → ∃ W' q H', s = some (q, H') ∧ SS W J H W' J' H' (fun _ => True) ∧ OutR W' o q

theorem den_op {V Hp : Type} (S : Sem V Hp) (n : Nat) (i : LI) (k : L) (ρ : List V) (h : Hp) : den S n (.op i k) ρ h = (match S.step ρ i h with
    | some (v, h') => den S n k (ρ ++ [v]) h'
    | none => none) := by
  rw [den]
  cases S.step ρ i h <;> rfl
theorem den_ite {V Hp : Type} (S : Sem V Hp) (n : Nat) (c : Operand) (a b : L) (ρ : List V) (h : Hp) : den S n (.ite c a b) ρ h = (match S.tst (S.ev ρ c) with
    | some t => if t then den S n a ρ h else den S n b ρ h
    | none => none) := by
  rw [den]
  cases S.tst (S.ev ρ c) <;> rfl
theorem den_join' {V Hp : Type} (S : Sem V Hp) (n l : Nat) (a b : L) (ρ : List V) (h : Hp) : den S n (.join l a b) ρ h = (match den S n a ρ h with
    | some (.goto j vs, h') => if j = l then den S n b vs h' else some (.goto j vs, h')
    | r => r) := by
  rw [den]
  cases den S n a ρ h with
  | none => rfl
  | some q =>
    obtain ⟨o, h'⟩ := q
    cases o <;> rfl

theorem den_sim {B : IBook} {P : Program} (hB : TabOK B P) {C : ICall} {Cg : Ctx} (hP : Cg.P = P) (hC : CallOK C Cg) (n : Nat) : ∀ (l : L) {W : Wd} {J : JH} {H : Heap} {ρI : List IV} {ρG : List Value}, HR W J H → IRL W ρI ρG →
    DenR W J H (den (semI B C) n l ρI J) (den (semG Cg) n l ρG H) := by
  intro l
  induction l with
  | op i k ih =>
    intro W J H ρI ρG h hρ o J' he
    rw [den_op] at he ⊢
    simp only [semI] at he
    simp only [semG]
    split at he
    · rename_i v J1 hs
      obtain ⟨W1, c, H1, h1, h2, h3⟩ := step_sim hB h hρ hP hC hs
      rw [h1]
      obtain ⟨W2, q, H2, h4, h5, h6⟩ := ih h2.hr ((IRL.mono h2.le _ _ hρ).append (IRL.cons_iff.2 ⟨c, [], rfl, h3, IRL.nil_iff.2 rfl⟩)) o J' he
      exact ⟨W2, q, H2, h4, h2.trans h5, h6⟩
    · simp at he
  | ite c a b iha ihb =>
    intro W J H ρI ρG h hρ o J' he
    rw [den_ite] at he ⊢
    have hx := evI_IR hρ c
    simp only [semI] at he
    simp only [semG]
    cases hv : evI ρI c with
    | sc v =>
      rw [hv] at he hx
      rw [hx.sc.1]
      cases v <;> simp only at he <;> try (simp at he; done)
      rename_i t
      cases t with
      | true => simp only [if_true] at he ⊢; exact iha h hρ o J' he
      | false => simp only [Bool.false_eq_true, if_false] at he ⊢; exact ihb h hρ o J' he
    | _ => rw [hv] at he; simp at he
  | join lv a b iha ihb =>
    intro W J H ρI ρG h hρ o J' he
    rw [den_join'] at he ⊢
    cases ha : den (semI B C) n a ρI J with
    | none => rw [ha] at he; simp at he
    | some q =>
      obtain ⟨o1, J1⟩ := q
      obtain ⟨W1, q1, H1, h1, h2, h3⟩ := iha h hρ o1 J1 ha
      rw [ha] at he
      rw [h1]
      cases o1 with
      | goto j vs =>
        cases q1 with
        | goto m cs =>
          obtain ⟨rfl, h3⟩ := h3
          simp only at he ⊢
          by_cases hj : j = lv
          · rw [if_pos hj] at he ⊢
            obtain ⟨W2, q, H2, h4, h5, h6⟩ := ihb h2.hr h3 o J' he
            exact ⟨W2, q, H2, h4, h2.trans h5, h6⟩
          · rw [if_neg hj] at he ⊢
            simp only [Option.some.injEq, Prod.mk.injEq] at he
            obtain ⟨rfl, rfl⟩ := he
            exact ⟨W1, _, H1, rfl, h2, rfl, h3⟩
        | ret cs => exact h3.elim
      | ret vs =>
        cases q1 with
        | goto m cs => exact h3.elim
        | ret cs =>
          simp only [Option.some.injEq, Prod.mk.injEq] at he
          obtain ⟨rfl, rfl⟩ := he
          exact ⟨W1, _, H1, rfl, h2, h3⟩
  | loop lv init b ih =>
    intro W J H ρI ρG h hρ o J' he
    simp only [den] at he ⊢
    have key : ∀ k {W1 : Wd} {J1 : JH} {H1 : Heap} {vs : List IV} {cs : List Value}, SS W J H W1 J1 H1 (fun _ => True) → IRL W1 vs cs → iterN (fun vs h => den (semI B C) n b vs h) lv k vs J1 = some (o, J') →
        ∃ W' q H', iterN (fun vs h => den (semG Cg) n b vs h) lv k cs H1 = some (q, H') ∧ SS W J H W' J' H' (fun _ => True) ∧ OutR W' o q := by
      intro k
      induction k with
      | zero => intro W1 J1 H1 vs cs _ _ hi; simp [iterN] at hi
      | succ k ihk =>
        intro W1 J1 H1 vs cs hs hv hi
        simp only [iterN] at hi ⊢
        cases hd : den (semI B C) n b vs J1 with
        | none => rw [hd] at hi; simp at hi
        | some q =>
          obtain ⟨o1, J2⟩ := q
          obtain ⟨W2, q1, H2, h1, h2, h3⟩ := ih hs.hr hv o1 J2 hd
          rw [hd] at hi
          rw [h1]
          cases o1 with
          | goto j ws =>
            cases q1 with
            | goto m ds =>
              obtain ⟨rfl, h3⟩ := h3
              simp only at hi ⊢
              by_cases hj : j = lv
              · rw [if_pos hj] at hi ⊢
                exact ihk (hs.trans h2) h3 hi
              · rw [if_neg hj] at hi ⊢
                simp only [Option.some.injEq, Prod.mk.injEq] at hi
                obtain ⟨rfl, rfl⟩ := hi
                exact ⟨W2, _, H2, rfl, hs.trans h2, rfl, h3⟩
            | ret ds => exact h3.elim
          | ret ws =>
            cases q1 with
            | goto m ds => exact h3.elim
            | ret ds =>
              simp only [Option.some.injEq, Prod.mk.injEq] at hi
              obtain ⟨rfl, rfl⟩ := hi
              exact ⟨W2, _, H2, rfl, hs.trans h2, h3⟩
    exact key n (SS.refl h _) (map_IRL hρ init) he
  | goto lv vs =>
    intro W J H ρI ρG h hρ o J' he
    simp only [den, Option.some.injEq, Prod.mk.injEq] at he
    obtain ⟨rfl, rfl⟩ := he
    exact ⟨W, .goto lv (vs.map (ev (env0 ρG 0))), H, by simp only [den]; rfl, .refl h _, ⟨rfl, map_IRL hρ vs⟩⟩
  | ret vs =>
    intro W J H ρI ρG h hρ o J' he
    simp only [den, Option.some.injEq, Prod.mk.injEq] at he
    obtain ⟨rfl, rfl⟩ := he
    exact ⟨W, .ret (vs.map (ev (env0 ρG 0))), H, by simp only [den]; rfl, .refl h _, map_IRL (W := W) hρ vs⟩

theorem itup_ok {vs : List IV} {cs : List Value} (h : IRL W vs cs) : IR W (itup vs) (tup cs) := by
  match vs, h with
  | [], h => rw [IRL.nil_iff.1 h]; exact .mk_unit
  | [v], h =>
    obtain ⟨c, ds, rfl, h2, h3⟩ := IRL.cons_iff.1 h
    rw [IRL.nil_iff.1 h3]
    exact h2
  | a :: b :: r, h =>
    obtain ⟨c, ds, rfl, h2, h3⟩ := IRL.cons_iff.1 h
    obtain ⟨d, es, rfl, h4, h5⟩ := IRL.cons_iff.1 h3
    simp only [itup, tup, IR]
    exact .inr ⟨_, rfl, IRL.cons_iff.2 ⟨_, _, rfl, h2, IRL.cons_iff.2 ⟨_, _, rfl, h4, h5⟩⟩⟩

/-- What is asked of a book of this reading, beside one of the plain reading. -/
structure IBookOK (B : IBook) (Bg : Book) : Prop where
  tab : TabOK B Bg.P
  fns : ∀ f l, B.fn f = some l → Bg.given f = none ∧ Bg.mode f = .raw ∧ ∃ s md np, Bg.fn f = some s ∧ liftFn Bg.P md np s = some l
  given : ∀ f g, B.given f = some g → ∀ n args J v J', g args J = some (v, J') → ∀ W H cargs, HR W J H → IRL W args cargs →
    ∃ W' c H', acall Bg (n + 1) f cargs H = some (c, H') ∧ SS W J H W' J' H' (fun _ => True) ∧ IR W' v c

theorem IRL.length_eq {a : List IV} {x : List Value} (h : IRL W a x) : x.length = a.length := h.len
theorem icall_ok {B : IBook} {Bg : Book} (hB : IBookOK B Bg) : ∀ n, CallOK (icall B n) ⟨Bg.P, acall Bg n⟩ := by
  intro n
  induction n with
  | zero => intro f args J v J' he; simp [icall] at he
  | succ n ih =>
    intro f args J v J' he W H cargs h ha
    simp only [icall] at he
    split at he
    · rename_i g hg
      exact hB.given f g hg n args J v J' he W H cargs h ha
    · split at he
      · simp at he
      · rename_i l hl
        obtain ⟨hg, hm, s, md, np, hs, hlift⟩ := hB.fns f l hl
        split at he
        · rename_i hlen
          split at he
          · rename_i vs J1 hd
            simp only [Option.some.injEq, Prod.mk.injEq] at he
            obtain ⟨rfl, rfl⟩ := he
            obtain ⟨W', q, H', h1, h2, h3⟩ := den_sim hB.tab (Cg := ⟨Bg.P, acall Bg n⟩) rfl ih n l.body h ha _ _ hd
            cases q with
            | goto m cs => exact h3.elim
            | ret cs =>
              refine ⟨W', tup cs, H', ?_, h2, itup_ok h3⟩
              have := liftFn_ok (C := ⟨Bg.P, acall Bg n⟩) (n := n) hlift (by rw [ha.len, hlen]) h1
              simp only [acall, hg, hs, hm]
              exact this
          · simp at he
        · simp at he
end
#print axioms icall_ok
end Go.Proofs.Ytohclaopcejjnaa.G
