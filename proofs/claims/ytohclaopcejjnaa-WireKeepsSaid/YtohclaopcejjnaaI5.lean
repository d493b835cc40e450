/- Each operation but calls: all of them. -/
import Derived.Test.YtohclaopcejjnaaI4
namespace Go.Proofs.Ytohclaopcejjnaa.G
open Go
set_option linter.unusedSimpArgs false
set_option linter.unusedVariables false
section
variable {W : Wd} {J : JH} {H : Heap} {ρI : List IV} {ρG : List Value}

theorem ivV_IR (v : Value) : IR W (ivV v) v := by
  unfold ivV
  split
  · rename_i h; exact .mk_sc h
  · split
    · rename_i a
      split
      · rename_i h
        have := IR.mk_agg (CRL_map_sc (W := W) h)
        simpa using this
      · exact .mk_unit
    · exact .mk_unit
theorem evI_IR (hρ : IRL W ρI ρG) (x : Operand) : IR W (evI ρI x) (ev (env0 ρG 0) x) := by
  cases x with
  | tmp i =>
    simp only [evI]
    change IR W _ (EV ρG (.tmp i))
    rw [EV_tmp]
    cases hi : ρI[i]? with
    | none => exact .mk_unit
    | some v =>
      obtain ⟨c, hc, hv⟩ := hρ.get hi
      rw [hc]
      exact hv
  | const v => exact ivV_IR v
  | global g => exact .mk_unit
  | func f => simp only [evI, ev, IR, CR]; exact ⟨#[], #[], rfl, by simp [CRL], by simp [CRL]⟩

theorem fill_ok (hρ : IRL W ρI ρG) : ∀ (ps : List (Nat × Nat × Operand)) {cells out : List IV} {cs : List Value}, CRL W cells cs → ifill cells (ievs ρI ps) = some out →
    ∃ out', fillL cs (evs (env0 ρG 0) ps) = some out' ∧ CRL W out out' ∧ out.length = cells.length
  | [], cells, out, cs, hc, h => by
    simp only [ievs, List.map_nil, ifill, Option.some.injEq] at h
    subst h
    exact ⟨cs, rfl, hc, rfl⟩
  | (off, sz, x) :: ps, cells, out, cs, hc, h => by
    simp only [ievs, List.map_cons, ifill] at h
    split at h
    · rename_i hb
      obtain ⟨h1, h2, h3⟩ := hb
      have hx := (evI_IR hρ x).cells h3
      obtain ⟨out', h4, h5, h6⟩ := fill_ok hρ ps (hc.splice hx off) h
      refine ⟨out', ?_, h5, ?_⟩
      · simp only [evs, List.map_cons, fillL]
        rw [if_pos ⟨by rw [hx.len, h1], by rw [hc.len]; exact h2, hx.ones.2⟩]
        exact h4
      · rw [h6]; unfold isplice; simp; omega
    · simp at h

theorem abin_sc {op : BinOp} {a b r : Value} (h : abin op a b = some r) : scOK r = true := by
  unfold abin at h
  split at h
  · repeat' split at h
    all_goals first
      | (simp at h; done)
      | (simp only [Option.some.injEq] at h; subst h; rfl)
  · simp at h
theorem aun_sc {op : UnOp} {a r : Value} (h : aun op a = some r) : scOK r = true := by
  unfold aun at h
  repeat' split at h
  all_goals first
    | (simp at h; done)
    | (simp only [Option.some.injEq] at h; subst h; rfl)
theorem min2_sc {mx : Bool} {a b r : Value} (h : min2 mx a b = some r) : scOK r = true := by
  unfold min2 at h
  repeat' split at h
  all_goals first
    | (simp at h; done)
    | (simp only [Option.some.injEq] at h; subst h; rfl)
theorem scal2_ok {f : Value → Value → Option Value} (hf : ∀ a b r, f a b = some r → scOK r = true) {x y v : IV} {c d : Value} (hx : IR W x c) (hy : IR W y d) (h : scal2 f x y = some v) : ∃ r, f c d = some r ∧ IR W v r := by
  unfold scal2 at h
  split at h
  · obtain ⟨rfl, _⟩ := hx.sc
    obtain ⟨rfl, _⟩ := hy.sc
    cases hr : f c d with
    | none => rw [hr] at h; simp at h
    | some r =>
      rw [hr] at h
      simp only [Option.map_some, Option.some.injEq] at h
      subst h
      exact ⟨r, rfl, .mk_sc (hf _ _ _ hr)⟩
  · simp at h
theorem isNil_ok {k : NilKind} {x : IV} {c : Value} (hx : IR W x c) {b : Bool} (h : iisNil k x = some b) : isNil k c = some b := by
  cases x with
  | sc v => obtain ⟨rfl, _⟩ := hx.sc; exact h
  | ptr b0 v off =>
    obtain ⟨_, _, _, _, _, rfl, _⟩ := hx.ptr
    simp only [iisNil] at h
    split at h
    · rename_i hk; subst hk; simpa [isNil] using h
    · simp at h
  | rptr e off =>
    obtain ⟨_, _, _, _, rfl, _⟩ := hx.rptr
    simp only [iisNil] at h
    split at h
    · rename_i hk; subst hk; simpa [isNil] using h
    · simp at h
  | sl b0 v off n cap sz =>
    obtain ⟨_, _, _, _, _, rfl, _⟩ := hx.sl
    simp only [iisNil] at h
    split at h
    · rename_i hk; subst hk; simpa [isNil] using h
    · simp at h
  | lst z f xs =>
    obtain ⟨_, _, _, _, _, rfl, _⟩ := hx.lst
    simp only [iisNil] at h
    split at h
    · rename_i hk; subst hk; simpa [isNil] using h
    · simp at h
  | map b0 =>
    obtain ⟨_, _, _, _, rfl, _⟩ := hx.map
    simp only [iisNil] at h
    split at h
    · rename_i hk; subst hk; simpa [isNil] using h
    · simp at h
  | fn f a c0 =>
    simp only [IR, CR] at hx
    obtain ⟨a', c', hc, _⟩ := hx
    simp only [List.cons.injEq, and_true] at hc
    subst hc
    simp only [iisNil] at h
    split at h
    · rename_i hk; subst hk; simpa [isNil] using h
    · simp at h
  | _ => simp [iisNil] at h
theorem aggEq_ok : ∀ {a b : List IV} {x y : List Value} {r : Bool}, CRL W a x → CRL W b y → iaggEq a b = some r → aggEq x y = some r
  | [], [], x, y, r, h1, h2, h => by
    rw [CRL.nil_iff.1 h1, CRL.nil_iff.1 h2]
    simpa [iaggEq, aggEq] using h
  | [], _ :: _, x, y, r, h1, h2, h => by simp [iaggEq] at h
  | _ :: _, [], x, y, r, h1, h2, h => by simp [iaggEq] at h
  | p :: a, q :: b, x, y, r, h1, h2, h => by
    obtain ⟨v, vs, rfl, _, _, hv, h3⟩ := CRL.cons_iff.1 h1
    obtain ⟨u, us, rfl, _, _, hu, h4⟩ := CRL.cons_iff.1 h2
    unfold iaggEq at h
    split at h
    · rename_i heq1 heq2; cases heq1
    · rename_i k n r1 l m r2 heq1 heq2
      simp only [List.cons.injEq] at heq1 heq2
      obtain ⟨rfl, rfl⟩ := heq1
      obtain ⟨rfl, rfl⟩ := heq2
      simp only [CR, List.cons.injEq, and_true] at hv hu
      rw [hv.1, hu.1]
      split at h
      · rename_i hk
        simp only [aggEq, if_pos hk]
        split at h
        · rename_i s hs
          rw [aggEq_ok h3 h4 hs]
          exact h
        · simp at h
      · simp at h
    · simp at h
theorem map_IRL (hρ : IRL W ρI ρG) : ∀ l : List Operand, IRL W (l.map (evI ρI)) (l.map (ev (env0 ρG 0)))
  | [] => by simp [IRL]
  | x :: l => IRL.cons_iff.2 ⟨_, _, rfl, evI_IR hρ x, map_IRL hρ l⟩
theorem IRL.toCRL : ∀ {a : List IV} {x : List Value}, IRL W a x → a.all ione = true → CRL W a x
  | [], x, h, _ => by rw [IRL.nil_iff.1 h]; simp [CRL]
  | p :: a, x, h, h1 => by
    obtain ⟨v, vs, rfl, h2, h3⟩ := IRL.cons_iff.1 h
    simp only [List.all_cons, Bool.and_eq_true] at h1
    obtain ⟨h4, h5⟩ := h2.toCR h1.1
    exact CRL.cons_iff.2 ⟨v, vs, rfl, h1.1, h5, h4, IRL.toCRL h3 h1.2⟩
theorem map_IRO (hρ : IRL W ρI ρG) (o : Option Operand) : IRO W (o.map (evI ρI)) (o.map (ev (env0 ρG 0))) := by
  cases o with
  | none => trivial
  | some x => exact evI_IR hρ x
theorem minF_ok {mx : Bool} : ∀ {l : List IV} {x v : IV} {c : Value} {m : List Value}, IR W x c → IRL W l m → iminF mx x l = some v → ∃ r, minF mx c m = some r ∧ IR W v r
  | [], x, v, c, m, hx, hl, h => by
    rw [IRL.nil_iff.1 hl]
    simp only [iminF, Option.some.injEq] at h
    subst h
    exact ⟨c, rfl, hx⟩
  | y :: l, x, v, c, m, hx, hl, h => by
    obtain ⟨d, ds, rfl, h2, h3⟩ := IRL.cons_iff.1 hl
    simp only [iminF] at h
    split at h
    · rename_i z hz
      obtain ⟨r, h4, h5⟩ := scal2_ok (fun a b r => min2_sc) hx h2 hz
      obtain ⟨r2, h6, h7⟩ := minF_ok h5 h3 h
      exact ⟨r2, by simp only [minF, h4, h6], h7⟩
    · simp at h
theorem minI_ok {mx : Bool} {l : List IV} {v : IV} {m : List Value} (hl : IRL W l m) (h : iminI mx l = some v) : ∃ r, minI mx m = some r ∧ IR W v r := by
  unfold iminI at h
  split at h
  · obtain ⟨d, ds, rfl, h2, h3⟩ := IRL.cons_iff.1 hl
    obtain ⟨rfl, _⟩ := h2.sc
    obtain ⟨r, h4, h5⟩ := minF_ok h2 h3 h
    exact ⟨r, h4, h5⟩
  · simp at h

/-- What is asked of the tables. -/
structure TabOK (B : IBook) (P : Program) : Prop where
  zc : ∀ t z, B.zc t = some z → zc P t = z ∧ z.all (fun x => scOK x && one x) = true
  zv : ∀ t z, B.zv t = some z → zv P t = z
  co : ∀ t n, B.co t = some n → P.cellsOf t = n

theorem exec_sim {B : IBook} {P : Program} (hB : TabOK B P) (h : HR W J H) (hρ : IRL W ρI ρG) {C : ICall} {Cg : Ctx} (hP : Cg.P = P) {md : Md} {o : SOp} (hnc : isCall o = false) {v : IV} {J' : JH} (he : iexec B C md ρI o J = some (v, J')) :
    Goal W J H (TT (itouch B md ρI o J)) (exec Cg (env0 ρG 0) o H) v J' := by
  have E := fun x => evI_IR hρ x
  subst hP
  cases o with
  | mv x =>
    simp only [iexec] at he
    exact .lift h _ he fun u hu => ⟨_, rfl, by simp only [Option.some.injEq] at hu; subst hu; exact E x⟩
  | pick c a b =>
    simp only [iexec] at he
    have hc := E c
    split at he
    · rename_i t heq
      rw [heq] at hc
      obtain ⟨hc, _⟩ := hc.sc
      simp only [exec, hc]
      exact .lift h _ he fun u hu => ⟨_, rfl, by simp only [Option.some.injEq] at hu; subst hu; cases t <;> simp [E]⟩
    · simp [ilift] at he
  | new t =>
    simp only [iexec] at he
    split at he
    · rename_i z hz
      obtain ⟨h1, h2⟩ := hB.zc t z hz
      simp only [exec, h1]
      exact new_sim h _ (fun _ => CRL_map_sc h2) he
    · simp [ilift] at he
  | box t x =>
    simp only [iexec] at he
    exact new_sim h _ (fun hall => (E x).cells hall) he
  | build t ps =>
    simp only [iexec] at he
    split at he
    · rename_i z hz
      obtain ⟨h1, h2⟩ := hB.zc t z hz
      refine .lift h _ he fun u hu => ?_
      cases hf : ifill (z.map .sc) (ievs ρI ps) with
      | none => rw [hf] at hu; simp at hu
      | some cs =>
        rw [hf] at hu
        simp only [Option.map_some, Option.some.injEq] at hu
        subst hu
        obtain ⟨out, h3, h4, _⟩ := fill_ok hρ ps (CRL_map_sc h2) hf
        exact ⟨_, by rw [h1, h3]; rfl, .mk_agg h4⟩
    · simp [ilift] at he
  | bslice t n ps =>
    simp only [iexec] at he
    split at he
    · rename_i z hz
      obtain ⟨h1, h2⟩ := hB.zc t z hz
      split at he
      · rename_i cs hf
        split at he
        · rename_i hall
          simp only [Bool.and_eq_true, decide_eq_true_eq] at hall
          obtain ⟨⟨hall, hz0⟩, hnU⟩ := hall
          obtain ⟨out, h3, h4, h5⟩ := fill_ok hρ ps (CRL_reps h2 n) hf
          have hlen : cs.length = n * z.length := by
            rw [h5]; unfold ireps
            simp
          simp only [exec, h1, h3, h4.ones.2, if_true]
          split at he
          · rename_i hp
            simp only [Option.some.injEq, Prod.mk.injEq] at he
            obtain ⟨rfl, rfl⟩ := he
            have hst := h.pushF out
            refine ⟨_, _, _, rfl, hst.weak (fun _ hx => hx.elim), ?_⟩
            refine .mk_lst (β := H.size) (o := 0) (cs := out) (by simp [Wd.addF]) (grp_len _ _).symm hz0 ?_ (.inl ⟨hnU, by rw [grp_len]; exact Nat.le_refl _⟩) (fun _ => ⟨(grp_len _ _).symm, hnU⟩) ?_ ?_
            · rw [grp_len, h4.len, hlen]; simp
            · exact ipureL_iff.2 (ipure_grp n (ipureL_iff.1 hp))
            · simp only [List.drop_zero]
              exact (grp_CRF n (by omega) h4).mono hst.le
          · simp only [Option.some.injEq, Prod.mk.injEq] at he
            obtain ⟨rfl, rfl⟩ := he
            exact ⟨_, _, _, rfl, (h.push (X := .cells 0 cs false) (.inl ⟨_, _, rfl, rfl, h4⟩)).weak (fun _ hx => hx.elim), .mk_sl (w := 0) (β := H.size) (by simp [Wd.add]) (Nat.le_refl _) hz0 (.inl ⟨hnU, Nat.le_refl _⟩) (fun _ => rfl)⟩
        · simp at he
      · simp at he
    · simp at he
  | load ag sz x => simp only [iexec] at he; exact load_sim h _ (E x) he
  | store sz x u =>
    simp only [iexec] at he
    obtain ⟨l, h1, h2⟩ := store_sim h (E x) (E u) he
    simp only [itouch, h1]
    exact h2
  | nilck x =>
    simp only [iexec] at he
    have hx := E x
    split at he
    · rename_i b w o heq
      rw [heq] at hx
      obtain ⟨_, _, _, _, _, hc, _⟩ := hx.ptr
      simp only [exec, hc]
      rw [hc] at hx
      exact .lift h _ he fun u hu => ⟨_, rfl, by simp only [Option.some.injEq] at hu; subst hu; exact hx⟩
    · rename_i e o heq
      rw [heq] at hx
      obtain ⟨_, _, _, _, hc, _⟩ := hx.rptr
      simp only [exec, hc]
      rw [hc] at hx
      exact .lift h _ he fun u hu => ⟨_, rfl, by simp only [Option.some.injEq] at hu; subst hu; exact hx⟩
    · rename_i f a b heq
      rw [heq] at hx
      have hx2 := hx
      simp only [IR, CR] at hx2
      obtain ⟨a', c', hc, _⟩ := hx2
      simp only [List.cons.injEq, and_true] at hc
      simp only [exec, hc]
      rw [hc] at hx
      exact .lift h _ he fun u hu => ⟨_, rfl, by simp only [Option.some.injEq] at hu; subst hu; exact hx⟩
    · simp [ilift] at he
  | bin op x y =>
    simp only [iexec] at he
    exact .lift h _ he fun u hu => scal2_ok (f := abin op) (fun a b r => abin_sc) (E x) (E y) hu
  | eqNil neg k x =>
    simp only [iexec] at he
    refine .lift h _ he fun u hu => ?_
    cases hn : iisNil k (evI ρI x) with
    | none => rw [hn] at hu; simp at hu
    | some b =>
      rw [hn] at hu
      simp only [Option.map_some, Option.some.injEq] at hu
      subst hu
      exact ⟨_, by rw [isNil_ok (E x) hn]; rfl, .mk_sc rfl⟩
  | eqB neg x y =>
    simp only [iexec] at he
    have hx := E x
    have hy := E y
    split at he
    · rename_i a b h1 h2
      rw [h1] at hx
      rw [h2] at hy
      simp only [exec, hx.sc.1, hy.sc.1]
      exact .lift h _ he fun u hu => ⟨_, rfl, by simp only [Option.some.injEq] at hu; subst hu; exact .mk_sc rfl⟩
    · simp [ilift] at he
  | eqS neg x y =>
    simp only [iexec] at he
    have hx := E x
    have hy := E y
    split at he
    · rename_i a b h1 h2
      rw [h1] at hx
      rw [h2] at hy
      simp only [exec, hx.sc.1, hy.sc.1]
      exact .lift h _ he fun u hu => ⟨_, rfl, by simp only [Option.some.injEq] at hu; subst hu; exact .mk_sc rfl⟩
    · simp [ilift] at he
  | eqAgg neg t x y =>
    simp only [iexec] at he
    have hx := E x
    have hy := E y
    split at he
    · rename_i a b n h1 h2 h3
      rw [h1] at hx
      rw [h2] at hy
      obtain ⟨a', ha, hca⟩ := hx.agg
      obtain ⟨b', hb, hcb⟩ := hy.agg
      have hn := hB.co t n h3
      have la : a'.size = a.length := by rw [← hca.len]; simp
      have lb : b'.size = b.length := by rw [← hcb.len]; simp
      simp only [exec, ha, hb, hn, la, lb]
      split at he
      · rename_i hc
        rw [if_pos hc]
        refine .lift h _ he fun u hu => ?_
        cases hq : iaggEq a b with
        | none => rw [hq] at hu; simp at hu
        | some r =>
          rw [hq] at hu
          simp only [Option.map_some, Option.some.injEq] at hu
          subst hu
          exact ⟨_, by rw [aggEq_ok hca hcb hq]; rfl, .mk_sc rfl⟩
      · simp [ilift] at he
    · simp [ilift] at he
  | un op x =>
    simp only [iexec] at he
    have hx := E x
    split at he
    · rename_i w heq
      rw [heq] at hx
      simp only [exec, hx.sc.1]
      refine .lift h _ he fun u hu => ?_
      cases hq : aun op w with
      | none => rw [hq] at hu; simp at hu
      | some r =>
        rw [hq] at hu
        simp only [Option.map_some, Option.some.injEq] at hu
        subst hu
        exact ⟨r, rfl, .mk_sc (aun_sc hq)⟩
    · simp [ilift] at he
  | conv k x =>
    simp only [iexec] at he
    have hx := E x
    split at he
    · rename_i l n heq
      rw [heq] at hx
      simp only [exec, hx.sc.1]
      exact .lift h _ he fun u hu => ⟨_, rfl, by simp only [Option.some.injEq] at hu; subst hu; exact .mk_sc rfl⟩
    · simp [ilift] at he
  | fn f0 first captured =>
    cases f0 with
    | func f =>
      simp only [iexec] at he
      split at he
      · rename_i hc
        simp only [Bool.and_eq_true] at hc
        refine .lift h _ he fun u hu => ⟨_, rfl, ?_⟩
        simp only [Option.some.injEq] at hu
        subst hu
        simp only [IR, CR]
        exact ⟨_, _, rfl, (map_IRL hρ first).toCRL hc.1, (map_IRL hρ captured).toCRL hc.2⟩
      · simp [ilift] at he
    | _ => simp [iexec, ilift] at he
  | newmap =>
    simp only [iexec, Option.some.injEq, Prod.mk.injEq] at he
    obtain ⟨rfl, rfl⟩ := he
    refine ⟨_, _, _, rfl, (h.push (X := .map [] 0) (.inr ⟨0, rfl, rfl⟩)).weak (fun _ hx => hx.elim), ?_⟩
    simp only [IR, CR]
    exact ⟨0, H.size, H.size, by simp [Wd.add], rfl, fun _ => rfl⟩
  | mkslice t bytes l c =>
    simp only [iexec] at he
    split at he
    · rename_i z n m hz hn hm
      obtain ⟨h1, h2⟩ := hB.zc t z hz
      split at he
      · rename_i hc
        obtain ⟨hz0, hnm, hfit, hall⟩ := hc
        simp only [Option.some.injEq, Prod.mk.injEq] at he
        obtain ⟨rfl, rfl⟩ := he
        have hr := CRL_reps (W := W) h2 m
        simp only [exec, asNat_ok (E l) hn, asNat_ok (E c) hm, h1]
        rw [if_pos ⟨hnm, hfit, hr.ones.2⟩]
        have hmU : m < UNK := by
          simp only [fits, Bool.and_eq_true, decide_eq_true_eq] at hfit
          unfold UNK; omega
        exact ⟨_, _, _, rfl, (h.push (X := .cells 0 (ireps m (z.map .sc)) false) (.inl ⟨_, _, rfl, rfl, hr⟩)).weak (fun _ hx => hx.elim), .mk_sl (w := 0) (β := H.size) (by simp [Wd.add]) (Nat.le_refl _) hz0 (.inl ⟨hmU, hnm⟩) (fun _ => rfl)⟩
      · simp at he
    · simp at he
  | slice sz x lo hi mx =>
    simp only [iexec] at he
    exact .lift h _ he fun u hu => slice_sim (E x) (map_IRO hρ lo) (map_IRO hρ hi) (map_IRO hρ mx) hu
  | sliceArr n sz x lo hi mx =>
    simp only [iexec] at he
    have hx := E x
    split at he
    · rename_i b w o heq
      rw [heq] at hx
      obtain ⟨w0, β, γ, hM, hle, hc, hγ⟩ := hx.ptr
      split at he
      · rename_i hn
        simp only [exec, hc, if_pos hn.1]
        exact .lift h _ he fun u hu => slice_sim (.mk_sl hM hle hn.2 (.inl ⟨hn.1, Nat.le_refl _⟩) hγ) (map_IRO hρ lo) (map_IRO hρ hi) (map_IRO hρ mx) hu
      · simp [ilift] at he
    · simp [ilift] at he
  | faddr off x =>
    simp only [iexec] at he
    have hx := E x
    split at he
    · rename_i b w o heq
      rw [heq] at hx
      obtain ⟨w0, β, γ, hM, hle, hc, hγ⟩ := hx.ptr
      simp only [exec, hc]
      exact .lift h _ he fun u hu => ⟨_, rfl, by simp only [Option.some.injEq] at hu; subst hu; exact .mk_ptr hM hle hγ⟩
    · rename_i e o heq
      rw [heq] at hx
      obtain ⟨β, o2, cs, hF, hc, hle, hcr⟩ := hx.rptr
      simp only [exec, hc]
      refine .lift h _ he fun u hu => ⟨_, rfl, ?_⟩
      simp only [Option.some.injEq] at hu
      subst hu
      simp only [IR, CR]
      exact ⟨β, o2, cs, hF, by rw [Nat.add_assoc], hle, hcr⟩
    · simp [ilift] at he
  | field ag off sz x =>
    simp only [iexec] at he
    have hx := E x
    split at he
    · rename_i cs heq
      rw [heq] at hx
      obtain ⟨a, ha, hca⟩ := hx.agg
      have la : a.size = cs.length := by rw [← hca.len]; simp
      simp only [exec, ha, la]
      split at he
      · rename_i hb
        rw [if_pos hb]
        cases ag with
        | true =>
          simp only [if_true] at he ⊢
          exact .lift h _ he fun u hu => ⟨_, rfl, by simp only [Option.some.injEq] at hu; subst hu; exact .mk_agg ((hca.drop off).take sz)⟩
        | false =>
          simp only [Bool.false_eq_true, if_false] at he ⊢
          refine .lift h _ he fun u hu => ?_
          obtain ⟨c, h1, h2, h3, h4⟩ := hca.get hu
          exact ⟨c, by simpa using h1, h4.toIR h2⟩
      · simp [ilift] at he
    · simp [ilift] at he
  | iaddr sz x i =>
    simp only [iexec] at he
    have hx := E x
    split at he
    · rename_i b w o n k z j heq hj
      rw [heq] at hx
      obtain ⟨w0, β, γ, hM, hle, hc, hz, hcap, hγ⟩ := hx.sl
      simp only [exec, hc]
      split at he
      · rename_i hb
        refine .lift h _ he fun u hu => ⟨.pointer (some ⟨γ, o + j * sz, none⟩), ?_, ?_⟩
        · simp only [aiaddr, asNat_ok (E i) hj]; rw [if_pos hb.1]
        · simp only [Option.some.injEq] at hu; subst hu; exact .mk_ptr hM hle hγ
      · simp [ilift] at he
    · rename_i z f xs j heq hj
      rw [heq] at hx
      obtain ⟨β, o, cap, cs, hF, hc, hz, hle, hcap, hfull, hpu, hcr⟩ := hx.lst
      simp only [exec, hc]
      split at he
      · rename_i e hje
        split at he
        · rename_i hzs
          subst hzs
          have hjl : j < xs.length := by
            rcases Nat.lt_or_ge j xs.length with h | h
            · exact h
            · rw [List.getElem?_eq_none h] at hje; cases hje
          refine .lift h _ he fun u hu => ⟨.pointer (some ⟨β, o + j * z, none⟩), ?_, ?_⟩
          · simp only [aiaddr, asNat_ok (E i) hj]; rw [if_pos hjl]
          · simp only [Option.some.injEq] at hu
            subst hu
            obtain ⟨h1, h2⟩ := hcr.get hje
            rw [List.drop_drop] at h2
            have hm : j * z + z ≤ xs.length * z := by
              rw [← Nat.succ_mul]; exact Nat.mul_le_mul_right _ hjl
            simp only [IR, CR]
            exact ⟨β, o + j * z, cs, hF, rfl, by rw [h1]; omega, by rw [h1]; exact h2, ipureL_iff.1 hpu e (List.mem_of_getElem? hje)⟩
        · simp [ilift] at he
      · simp [ilift] at he
    · simp [ilift] at he
  | iaddrA n sz x i =>
    simp only [iexec] at he
    have hx := E x
    split at he
    · rename_i b w o j heq hj
      rw [heq] at hx
      obtain ⟨w0, β, γ, hM, hle, hc, hγ⟩ := hx.ptr
      simp only [exec, hc]
      split at he
      · rename_i hb
        refine .lift h _ he fun u hu => ⟨.pointer (some ⟨γ, o + j * sz, none⟩), ?_, ?_⟩
        · simp only [aiaddrA, asNat_ok (E i) hj]; rw [if_pos hb]
        · simp only [Option.some.injEq] at hu; subst hu; exact .mk_ptr hM hle hγ
      · simp [ilift] at he
    · rename_i e o j heq hj
      rw [heq] at hx
      obtain ⟨β, o2, cs, hF, hc, hle, hcr⟩ := hx.rptr
      simp only [exec, hc]
      split at he
      · rename_i hb
        refine .lift h _ he fun u hu => ⟨.pointer (some ⟨β, o2 + o + j * sz, none⟩), ?_, ?_⟩
        · simp only [aiaddrA, asNat_ok (E i) hj]; rw [if_pos hb]
        · simp only [Option.some.injEq] at hu
          subst hu
          simp only [IR, CR]
          exact ⟨β, o2, cs, hF, by rw [Nat.add_assoc], hle, hcr⟩
      · simp [ilift] at he
    · simp [ilift] at he
  | ext x i =>
    simp only [iexec] at he
    have hx := E x
    split at he
    · rename_i vs heq
      rw [heq] at hx
      obtain ⟨h1, rfl⟩ := ilift_ok he
      simp only [IR] at hx
      rcases hx with rfl | ⟨a, ha, hl⟩
      · simp at h1
      · simp only [exec, ha]
        refine .lift h _ he fun u hu => ?_
        obtain ⟨c, h2, h3⟩ := hl.get hu
        exact ⟨c, by simpa using h2, h3⟩
    · simp [ilift] at he
  | len str x =>
    simp only [iexec] at he
    have hx := E x
    split at he
    · rename_i s heq
      rw [heq] at hx
      simp only [exec, hx.sc.1]
      cases str with
      | true =>
        simp only [if_true] at he ⊢
        exact .lift h _ he fun u hu => ⟨_, rfl, by simp only [Option.some.injEq] at hu; subst hu; exact .mk_sc rfl⟩
      | false => simp [ilift] at he
    · cases str with
      | true => simp [ilift] at he
      | false =>
        simp only [Bool.false_eq_true, if_false] at he
        obtain ⟨h1, rfl⟩ := ilift_ok he
        cases hl : ilen (evI ρI x) with
        | none => rw [hl] at h1; simp at h1
        | some n =>
          obtain ⟨a, k, hc⟩ := ilen_slice hx hl
          simp only [exec, hc, Bool.false_eq_true, if_false]
          refine .lift h _ he fun u hu => ⟨_, rfl, ?_⟩
          rw [hl] at hu
          simp only [Option.map_some, Option.some.injEq] at hu
          subst hu
          exact .mk_sc rfl
  | lenM x =>
    simp only [iexec] at he
    have hx := E x
    split at he
    · rename_i heq
      rw [heq] at hx
      simp only [Option.some.injEq, Prod.mk.injEq] at he
      obtain ⟨rfl, rfl⟩ := he
      simp only [exec, hx.sc.1]
      exact .same h _ (.mk_sc rfl)
    · rename_i b heq
      rw [heq] at hx
      obtain ⟨w, β, γ, hM, hc, hγ⟩ := hx.map
      split at he
      · rename_i es k0 hJ
        obtain ⟨rfl, es', h1, h2⟩ := h.map hM hJ hγ
        simp only [Option.some.injEq, Prod.mk.injEq] at he
        obtain ⟨rfl, rfl⟩ := he
        simp only [exec, hc, h1, h2.len]
        exact .same h _ (.mk_sc rfl)
      · simp at he
    · simp at he
  | minmax mx l =>
    simp only [iexec] at he
    exact .lift h _ he fun u hu => minI_ok (map_IRL hρ l) hu
  | append sz bytes s x =>
    simp only [iexec] at he
    split at he
    · rename_i hsz
      obtain ⟨l, h1, h2⟩ := append_sim h (E s) (E x) hsz he
      simp only [itouch, h1]
      exact h2
    · simp [ilift] at he
  | copy sz d s => simp only [iexec] at he; exact copy_sim h (E d) (E s) he
  | clearS t x =>
    simp only [iexec] at he
    split at he
    · rename_i z hz
      obtain ⟨h1, h2⟩ := hB.zc t z hz
      simp only [exec, h1]
      exact clearS_sim h h2 (E x) he
    · simp [ilift] at he
  | clearM x =>
    simp only [iexec] at he
    have hx := E x
    split at he
    · rename_i heq
      rw [heq] at hx
      simp only [Option.some.injEq, Prod.mk.injEq] at he
      obtain ⟨rfl, rfl⟩ := he
      simp only [exec, hx.sc.1]
      exact .same h _ .mk_unit
    · rename_i b heq
      rw [heq] at hx
      obtain ⟨w, β, γ, hM, hc, hγ⟩ := hx.map
      split at he
      · rename_i es k0 hJ
        obtain ⟨rfl, es', h1, h2⟩ := h.map hM hJ hγ
        simp only [Option.some.injEq, Prod.mk.injEq] at he
        obtain ⟨rfl, rfl⟩ := he
        simp only [exec, hc, h1]
        refine ⟨_, _, _, rfl, (h.set hM (.inr ⟨[], [], k0, ⟨es, k0, hJ⟩, rfl, rfl, trivial⟩)).weak (fun x hx => ?_), .mk_unit⟩
        simp only [itouch, heq, blkOf, TT]
        simp [hx]
      · simp at he
    · simp at he
  | lookup t ok m k =>
    simp only [iexec] at he
    split at he
    · rename_i z hz
      simp only [exec, hB.zv t z hz]
      exact lookup_sim h _ (ivV_IR z) (E m) (E k) he
    · simp [ilift] at he
  | mapset m k u => simp only [iexec] at he; exact mapset_sim h (E m) (E k) (E u) he
  | del m k => simp only [iexec] at he; exact delete_sim h (E m) (E k) he
  | call f args => simp [isCall] at hnc
  | callv f args => simp [isCall] at hnc

end
end Go.Proofs.Ytohclaopcejjnaa.G
