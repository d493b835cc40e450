/- The reading with lists in the open, without counting. -/
import Derived.Test.YtohclaopcejjnaaI7
namespace Go.Proofs.Ytohclaopcejjnaa.G
open Go
set_option linter.unusedSimpArgs false
set_option linter.unusedVariables false

/-! ### more allows more -/
def CLe (C C' : ICall) : Prop := ∀ f args J r, C f args J = some r → C' f args J = some r
theorem doCall_mono {C C' : ICall} (h : CLe C C') {md : Md} {f : FuncId} {args : List IV} {J : JH} {r} (he : doCall C md f args J = some r) : doCall C' md f args J = some r := by
  cases md with
  | raw => exact h _ _ _ _ he
  | loc =>
    simp only [doCall] at he ⊢
    split at he
    · rename_i v J' hc; rw [h _ _ _ _ hc]; exact he
    · simp at he
  | pure =>
    simp only [doCall] at he ⊢
    split at he
    · rename_i as has
      try rw [has]
      split at he
      · rename_i v J1 hc; simp only [h _ _ _ _ hc]; exact he
      · simp at he
    · simp at he
theorem iexec_mono {B : IBook} {C C' : ICall} (h : CLe C C') {md : Md} {ρ : List IV} {o : SOp} {J : JH} {r} (he : iexec B C md ρ o J = some r) : iexec B C' md ρ o J = some r := by
  cases o with
  | call f args => simp only [iexec] at he ⊢; exact doCall_mono h he
  | callv f args =>
    simp only [iexec] at he ⊢
    split at he
    · exact doCall_mono h he
    · simp [ilift] at he
  | _ => exact he
theorem step_mono {B : IBook} {C C' : ICall} (h : CLe C C') {ρ : List IV} {i : LI} {J : JH} {r} (he : stepI' B C ρ i J = some r) : stepI' B C' ρ i J = some r := by
  unfold stepI' at he ⊢
  split at he
  · rename_i hw
    try rw [hw]
    split at he
    · rename_i v J' hx
      simp only [iexec_mono h hx]
      exact he
    · simp at he
  · rename_i hw; (try rw [hw]); exact he
  · simp at he
theorem iterN_mono {V H : Type} {f g : List V → H → Option (Out V × H)} (hfg : ∀ vs h r, f vs h = some r → g vs h = some r) {l : Nat} : ∀ {n m : Nat}, n ≤ m → ∀ {vs : List V} {h : H} {r}, iterN f l n vs h = some r → iterN g l m vs h = some r
  | 0, m, _, vs, h, r, he => by simp [iterN] at he
  | n + 1, m, hm, vs, h, r, he => by
    obtain ⟨m', rfl⟩ : ∃ m', m = m' + 1 := ⟨m - 1, by omega⟩
    simp only [iterN] at he ⊢
    cases hf : f vs h with
    | none => rw [hf] at he; simp at he
    | some q =>
      obtain ⟨o, h'⟩ := q
      rw [hf] at he
      rw [hfg _ _ _ hf]
      cases o with
      | goto j ws =>
        simp only at he ⊢
        by_cases hj : j = l
        · rw [if_pos hj] at he ⊢; exact iterN_mono hfg (by omega) he
        · rw [if_neg hj] at he ⊢; exact he
      | ret ws => exact he
theorem den_mono {B : IBook} {C C' : ICall} (h : CLe C C') {n m : Nat} (hm : n ≤ m) : ∀ (l : L) {ρ : List IV} {J : JH} {r}, den (semI B C) n l ρ J = some r → den (semI B C') m l ρ J = some r := by
  intro l
  induction l with
  | op i k ih =>
    intro ρ J r he
    rw [den_op] at he ⊢
    simp only [semI] at he ⊢
    split at he
    · rename_i v J1 hs
      rw [step_mono h hs]
      exact ih he
    · simp at he
  | ite c a b iha ihb =>
    intro ρ J r he
    rw [den_ite] at he ⊢
    simp only [semI] at he ⊢
    split at he
    · rename_i t ht
      try rw [ht]
      cases t with
      | true => simp only [if_true] at he ⊢; exact iha he
      | false => simp only [Bool.false_eq_true, if_false] at he ⊢; exact ihb he
    · simp at he
  | join lv a b iha ihb =>
    intro ρ J r he
    rw [den_join'] at he ⊢
    cases ha : den (semI B C) n a ρ J with
    | none => rw [ha] at he; simp at he
    | some q =>
      obtain ⟨o, J1⟩ := q
      rw [ha] at he
      rw [iha ha]
      cases o with
      | goto j vs =>
        simp only at he ⊢
        by_cases hj : j = lv
        · rw [if_pos hj] at he ⊢; exact ihb he
        · rw [if_neg hj] at he ⊢; exact he
      | ret vs => exact he
  | loop lv init b ih =>
    intro ρ J r he
    simp only [den] at he ⊢
    exact iterN_mono (fun vs h r hr => ih hr) hm he
  | goto lv vs => intro ρ J r he; exact he
  | ret vs => intro ρ J r he; exact he
theorem icall_mono1 {B : IBook} : ∀ n, CLe (icall B n) (icall B (n + 1)) := by
  intro n
  induction n with
  | zero => intro f args J r he; simp [icall] at he
  | succ n ih =>
    intro f args J r he
    rw [icall] at he ⊢
    simp only at he ⊢
    split at he
    · rename_i g hg; (try rw [hg]); exact he
    · rename_i hg
      try rw [hg]
      split at he
      · simp at he
      · rename_i l hl
        try rw [hl]
        try simp only
        split at he
        · rename_i hlen
          try rw [if_pos hlen]
          split at he
          · rename_i vs J' hd
            rw [den_mono ih (Nat.le_succ n) l.body hd]
            exact he
          · simp at he
        · simp at he
theorem icall_mono {B : IBook} {n m : Nat} (h : n ≤ m) : CLe (icall B n) (icall B m) := by
  induction m with
  | zero => obtain rfl : n = 0 := by omega
            exact fun _ _ _ _ h => h
  | succ m ih =>
    by_cases hn : n = m + 1
    · subst hn; exact fun _ _ _ _ h => h
    · intro f args J r he
      exact icall_mono1 m f args J r (ih (by omega) f args J r he)

/-! ### what it comes to, however much one allows -/
open Classical in
noncomputable def lim {α : Type} (f : Nat → Option α) : Option α := if h : ∃ r, ∃ n, f n = some r then some (Classical.choose h) else none
theorem lim_eq {α : Type} {f : Nat → Option α} (hm : ∀ n m r, n ≤ m → f n = some r → f m = some r) {n : Nat} {r : α} (h : f n = some r) : lim f = some r := by
  have hex : ∃ r, ∃ n, f n = some r := ⟨r, n, h⟩
  unfold lim
  rw [dif_pos hex]
  obtain ⟨m, hm'⟩ := Classical.choose_spec hex
  have h1 := hm n (max n m) r (Nat.le_max_left _ _) h
  have h2 := hm m (max n m) _ (Nat.le_max_right _ _) hm'
  rw [h1] at h2
  simp only [Option.some.injEq] at h2
  rw [← h2]
theorem lim_some {α : Type} {f : Nat → Option α} {r : α} (h : lim f = some r) : ∃ n, f n = some r := by
  unfold lim at h
  split at h
  · rename_i hex
    simp only [Option.some.injEq] at h
    obtain ⟨n, hn⟩ := Classical.choose_spec hex
    exact ⟨n, by rw [hn, h]⟩
  · simp at h

noncomputable def ic (B : IBook) : ICall := fun f args J => lim fun n => icall B n f args J
noncomputable def iter (f : List IV → JH → Option (Out IV × JH)) (l : Nat) (vs : List IV) (J : JH) : Option (Out IV × JH) := lim fun n => iterN f l n vs J
noncomputable def dn (B : IBook) : L → List IV → JH → Option (Out IV × JH)
  | .op i k, ρ, J => match stepI' B (ic B) ρ i J with
    | some (v, J') => dn B k (ρ ++ [v]) J'
    | none => none
  | .ite c a b, ρ, J => match evI ρ c with
    | .sc (.bool t) => if t = true then dn B a ρ J else dn B b ρ J
    | _ => none
  | .join l a b, ρ, J => match dn B a ρ J with
    | some (.goto j vs, J') => if j = l then dn B b vs J' else some (.goto j vs, J')
    | r => r
  | .loop l init b, ρ, J => iter (fun vs J => dn B b vs J) l (init.map (evI ρ)) J
  | .goto l vs, ρ, J => some (.goto l (vs.map (evI ρ)), J)
  | .ret vs, ρ, J => some (.ret (vs.map (evI ρ)), J)

theorem iter_step {f : List IV → JH → Option (Out IV × JH)} {l : Nat} {vs ws : List IV} {J J' : JH} {r} (h : f vs J = some (.goto l ws, J')) (k : iter f l ws J' = some r) : iter f l vs J = some r := by
  obtain ⟨n, hn⟩ := lim_some k
  refine lim_eq (fun n m r hnm hr => iterN_mono (fun _ _ _ h => h) hnm hr) (n := n + 1) ?_
  simp only [iterN, h, if_true]
  exact hn
theorem iter_out {f : List IV → JH → Option (Out IV × JH)} {l j : Nat} {vs ws : List IV} {J J' : JH} (h : f vs J = some (.goto j ws, J')) (hj : j ≠ l) : iter f l vs J = some (.goto j ws, J') := by
  refine lim_eq (fun n m r hnm hr => iterN_mono (fun _ _ _ h => h) hnm hr) (n := 1) ?_
  simp only [iterN, h, if_neg hj]
theorem iter_ret {f : List IV → JH → Option (Out IV × JH)} {l : Nat} {vs ws : List IV} {J J' : JH} (h : f vs J = some (.ret ws, J')) : iter f l vs J = some (.ret ws, J') := by
  refine lim_eq (fun n m r hnm hr => iterN_mono (fun _ _ _ h => h) hnm hr) (n := 1) ?_
  simp only [iterN, h]

/-- What it comes to in the end, it comes to when enough is allowed. -/
theorem ic_lim {B : IBook} {f : FuncId} {args : List IV} {J : JH} {r} (h : ic B f args J = some r) : ∃ n, icall B n f args J = some r := lim_some h
theorem lim_ic {B : IBook} {f : FuncId} {args : List IV} {J : JH} {r} {n : Nat} (h : icall B n f args J = some r) : ic B f args J = some r :=
  lim_eq (fun n m r hnm hr => icall_mono hnm _ _ _ _ hr) h
theorem doCall_lim {B : IBook} {md : Md} {f : FuncId} {args : List IV} {J : JH} {r} (he : doCall (ic B) md f args J = some r) : ∃ n, doCall (icall B n) md f args J = some r := by
  cases md with
  | raw => exact ic_lim he
  | loc =>
    simp only [doCall] at he ⊢
    split at he
    · rename_i v J' hc
      obtain ⟨n, hn⟩ := ic_lim hc
      exact ⟨n, by rw [hn]; exact he⟩
    · simp at he
  | pure =>
    simp only [doCall] at he ⊢
    split at he
    · rename_i as has
      split at he
      · rename_i v J1 hc
        obtain ⟨n, hn⟩ := ic_lim hc
        exact ⟨n, by (try rw [has]); simp only [hn]; exact he⟩
      · simp at he
    · simp at he
theorem iexec_lim {B : IBook} {md : Md} {ρ : List IV} {o : SOp} {J : JH} {r} (he : iexec B (ic B) md ρ o J = some r) : ∃ n, iexec B (icall B n) md ρ o J = some r := by
  cases o with
  | call f args => simp only [iexec] at he ⊢; exact doCall_lim he
  | callv f args =>
    simp only [iexec] at he ⊢
    split at he
    · obtain ⟨n, hn⟩ := doCall_lim he
      exact ⟨n, hn⟩
    · simp [ilift] at he
  | _ => exact ⟨0, he⟩
theorem step_lim {B : IBook} {ρ : List IV} {i : LI} {J : JH} {r} (he : stepI' B (ic B) ρ i J = some r) : ∃ n, stepI' B (icall B n) ρ i J = some r := by
  unfold stepI' at he ⊢
  split at he
  · rename_i hw
    try rw [hw]
    split at he
    · rename_i v J' hx
      obtain ⟨n, hn⟩ := iexec_lim hx
      exact ⟨n, by simp only [hn]; exact he⟩
    · simp at he
  · rename_i hw; (try rw [hw]); exact ⟨0, he⟩
  · simp at he
theorem dn_lim {B : IBook} : ∀ (l : L) {ρ : List IV} {J : JH} {r}, dn B l ρ J = some r → ∃ n, den (semI B (icall B n)) n l ρ J = some r := by
  intro l
  induction l with
  | op i k ih =>
    intro ρ J r he
    simp only [dn] at he
    split at he
    · rename_i v J1 hs
      obtain ⟨n, hn⟩ := step_lim hs
      obtain ⟨m, hm⟩ := ih he
      refine ⟨max n m, ?_⟩
      rw [den_op]
      simp only [semI]
      rw [step_mono (icall_mono (Nat.le_max_left n m)) hn]
      exact den_mono (icall_mono (Nat.le_max_right n m)) (Nat.le_max_right n m) k hm
    · simp at he
  | ite c a b iha ihb =>
    intro ρ J r he
    simp only [dn] at he
    split at he
    · rename_i t ht
      cases t with
      | true =>
        simp only [if_true] at he
        obtain ⟨n, hn⟩ := iha he
        exact ⟨n, by rw [den_ite]; simp only [semI, ht, if_true]; exact hn⟩
      | false =>
        simp only [Bool.false_eq_true, if_false] at he
        obtain ⟨n, hn⟩ := ihb he
        exact ⟨n, by rw [den_ite]; simp only [semI, ht, Bool.false_eq_true, if_false]; exact hn⟩
    · simp at he
  | join lv a b iha ihb =>
    intro ρ J r he
    simp only [dn] at he
    cases ha : dn B a ρ J with
    | none => rw [ha] at he; simp at he
    | some q =>
      obtain ⟨o, J1⟩ := q
      obtain ⟨n, hn⟩ := iha ha
      rw [ha] at he
      cases o with
      | goto j vs =>
        simp only at he
        by_cases hj : j = lv
        · rw [if_pos hj] at he
          obtain ⟨m, hm⟩ := ihb he
          refine ⟨max n m, ?_⟩
          rw [den_join', den_mono (icall_mono (Nat.le_max_left n m)) (Nat.le_max_left n m) a hn]
          simp only [if_pos hj]
          exact den_mono (icall_mono (Nat.le_max_right n m)) (Nat.le_max_right n m) b hm
        · rw [if_neg hj] at he
          refine ⟨n, ?_⟩
          rw [den_join', hn]
          simp only [if_neg hj]
          exact he
      | ret vs =>
        refine ⟨n, ?_⟩
        rw [den_join', hn]
        exact he
  | loop lv init b ih =>
    intro ρ J r he
    simp only [dn] at he
    obtain ⟨k, hk⟩ := lim_some he
    have key : ∀ k vs J r, iterN (fun vs J => dn B b vs J) lv k vs J = some r → ∃ n, iterN (fun vs J => den (semI B (icall B n)) n b vs J) lv k vs J = some r := by
      intro k
      induction k with
      | zero => intro vs J r h; simp [iterN] at h
      | succ k ihk =>
        intro vs J r h
        simp only [iterN] at h
        cases hd : dn B b vs J with
        | none => rw [hd] at h; simp at h
        | some q =>
          obtain ⟨o, J1⟩ := q
          obtain ⟨n, hn⟩ := ih hd
          rw [hd] at h
          cases o with
          | goto j ws =>
            simp only at h
            by_cases hj : j = lv
            · rw [if_pos hj] at h
              obtain ⟨m, hm⟩ := ihk ws J1 r h
              refine ⟨max n m, ?_⟩
              simp only [iterN, den_mono (icall_mono (Nat.le_max_left n m)) (Nat.le_max_left n m) b hn, if_pos hj]
              exact iterN_mono (fun vs h r hr => den_mono (icall_mono (Nat.le_max_right n m)) (Nat.le_max_right n m) b hr) (Nat.le_refl _) hm
            · rw [if_neg hj] at h
              exact ⟨n, by simp only [iterN, hn, if_neg hj]; exact h⟩
          | ret ws => exact ⟨n, by simp only [iterN, hn]; exact h⟩
    obtain ⟨n, hn⟩ := key k _ _ _ hk
    refine ⟨max n k, ?_⟩
    simp only [den]
    exact iterN_mono (fun vs h r hr => den_mono (icall_mono (Nat.le_max_left n k)) (Nat.le_max_left n k) b hr) (Nat.le_max_right n k) hn
  | goto lv vs => intro ρ J r he; exact ⟨0, he⟩
  | ret vs => intro ρ J r he; exact ⟨0, he⟩

theorem ic_intro {B : IBook} {f : FuncId} {l : LFn} {args vs : List IV} {J J' : JH} (hg : B.given f = none) (hf : B.fn f = some l) (hl : args.length = l.np) (hd : dn B l.body args J = some (.ret vs, J')) : ic B f args J = some (itup vs, J') := by
  obtain ⟨n, hn⟩ := dn_lim l.body hd
  refine lim_ic (n := n + 1) ?_
  simp only [icall, hg, hf, hl, if_true, hn]
theorem ic_given {B : IBook} {f : FuncId} {g : List IV → MI IV} {args : List IV} {J : JH} {r} (hg : B.given f = some g) (h : g args J = some r) : ic B f args J = some r := by
  refine lim_ic (n := 1) ?_
  simp only [icall, hg]; exact h

/-! ### calls of their own -/
/-- What a call comes to with a heap of its own. -/
noncomputable def pc (B : IBook) (f : FuncId) (args : List IV) : Option IV := match ic B f args #[] with
  | some (v, J) => frz J DEP v
  | none => none
theorem frz_pure (J : JH) (k : Nat) {v : IV} (h : ipure v = true) : frz J k v = some v := by
  cases k <;> simp [frz, h]
theorem shows_pure (J : JH) (k : Nat) {v : IV} (h : ipure v = true) : shows J k v = [] := by
  cases k <;> simp [shows, h]
theorem frzL_pure (J : JH) (k : Nat) : ∀ {l : List IV}, ipureL l = true → l.mapM (frz J k) = some l
  | [], _ => rfl
  | v :: l, h => by
    simp only [ipureL, Bool.and_eq_true] at h
    rw [List.mapM_cons, frz_pure J k h.1, frzL_pure J k h.2]
    rfl
theorem showsL_pure (J : JH) (k : Nat) : ∀ {l : List IV}, ipureL l = true → l.flatMap (shows J k) = []
  | [], _ => rfl
  | v :: l, h => by
    simp only [ipureL, Bool.and_eq_true] at h
    rw [List.flatMap_cons, shows_pure J k h.1, showsL_pure J k h.2]
    rfl
theorem doCall_pure {B : IBook} {f : FuncId} {args : List IV} {u : IV} {J : JH} (h : ipureL args = true) (hp : pc B f args = some u) : doCall (ic B) .pure f args J = some (u, J) := by
  unfold pc at hp
  simp only [doCall, frzL_pure J DEP h]
  split at hp
  · rename_i v J1 hc
    simp only [hc, hp, showsL_pure J DEP h]
    simp [markA]
  · simp at hp
theorem pc_intro {B : IBook} {f : FuncId} {l : LFn} {args vs : List IV} {u : IV} {J' : JH} (hg : B.given f = none) (hf : B.fn f = some l) (hl : args.length = l.np) (hd : dn B l.body args #[] = some (.ret vs, J')) (hz : frz J' DEP (itup vs) = some u) : pc B f args = some u := by
  unfold pc
  rw [ic_intro hg hf hl hd]
  exact hz

end Go.Proofs.Ytohclaopcejjnaa.G
