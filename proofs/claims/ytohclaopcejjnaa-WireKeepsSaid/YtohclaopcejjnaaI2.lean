/- How the reading with lists in the open stands to the plain reading's heap. -/
import Derived.Test.YtohclaopcejjnaaI1
import Derived.Test.YtohclaopcejjnaaL2
namespace Go.Proofs.Ytohclaopcejjnaa.G
open Go
set_option linter.unusedSimpArgs false
set_option linter.unusedVariables false

/-- Which block is which (and of which version), and which blocks are not written any more. -/
structure Wd where
  M : Nat → Option (Nat × Nat)
  F : Nat → Option (List Value)

mutual
/-- A value as cells. -/
def CR (W : Wd) : IV → List Value → Prop
  | .sc v, vs => vs = [v] ∧ scOK v = true ∧ one v = true
  | .agg cs, vs => CRL W cs vs
  | .tup _, _ => False
  | .ptr b v off, vs => ∃ w β γ, W.M b = some (w, β) ∧ v ≤ w ∧ vs = [.pointer (some ⟨γ, off, none⟩)] ∧ (v = w → γ = β)
  | .rptr e off, vs => ∃ β o cs, W.F β = some cs ∧ vs = [.pointer (some ⟨β, o + off, none⟩)] ∧ o + (icells e).length ≤ cs.length ∧ CR W e ((cs.drop o).take (icells e).length) ∧ ipure e = true
  | .map b, vs => ∃ w β γ, W.M b = some (w, β) ∧ vs = [.map (some γ)] ∧ (w = 0 → γ = β)
  | .fn f a c, vs => ∃ a' c', vs = [.func (.func f) a' c'] ∧ CRL W a a'.toList ∧ CRL W c c'.toList
  | .sl b v off n cap sz, vs => ∃ w β γ, W.M b = some (w, β) ∧ v ≤ w ∧ vs = [.slice (some ⟨γ, off, none⟩) n cap] ∧ 0 < sz ∧ (cap < UNK ∧ n ≤ cap ∨ cap = UNK + sz) ∧ (v = w → γ = β)
  | .lst sz full xs, vs => ∃ β o cap cs, W.F β = some cs ∧ vs = [.slice (some ⟨β, o, none⟩) xs.length cap] ∧ 0 < sz ∧ o + xs.length * sz ≤ cs.length ∧ (cap < UNK ∧ xs.length ≤ cap ∨ cap = UNK + sz) ∧ (full = true → cap = xs.length ∧ cap < UNK) ∧ ipureL xs = true ∧ CRF W sz xs (cs.drop o)
def CRL (W : Wd) : List IV → List Value → Prop
  | [], vs => vs = []
  | x :: r, vs => ∃ v vs', vs = v :: vs' ∧ ione x = true ∧ one v = true ∧ CR W x [v] ∧ CRL W r vs'
def CRF (W : Wd) (sz : Nat) : List IV → List Value → Prop
  | [], _ => True
  | x :: r, vs => (icells x).length = sz ∧ CR W x (vs.take sz) ∧ CRF W sz r (vs.drop sz)
end

mutual
/-- A value. -/
def IR (W : Wd) : IV → Value → Prop
  | .sc v, c => c = v ∧ scOK v = true
  | .agg cs, c => ∃ a, c = .agg a ∧ CRL W cs a.toList
  | .tup vs, c => vs = [] ∨ ∃ a, c = .tuple a ∧ IRL W vs a.toList
  | .ptr b v o, c => CR W (.ptr b v o) [c]
  | .rptr e o, c => CR W (.rptr e o) [c]
  | .map b, c => CR W (.map b) [c]
  | .fn f a b, c => CR W (.fn f a b) [c]
  | .sl b v o n k z, c => CR W (.sl b v o n k z) [c]
  | .lst z f xs, c => CR W (.lst z f xs) [c]
def IRL (W : Wd) : List IV → List Value → Prop
  | [], vs => vs = []
  | x :: r, vs => ∃ v vs', vs = v :: vs' ∧ IR W x v ∧ IRL W r vs'
end

/-- Later worlds. -/
structure Wle (W W' : Wd) : Prop where
  M : ∀ b w β, W.M b = some (w, β) → ∃ w' β', W'.M b = some (w', β') ∧ (w' = w ∧ β' = β ∨ w < w')
  F : ∀ β cs, W.F β = some cs → W'.F β = some cs
theorem Wle.refl (W : Wd) : Wle W W := ⟨fun _ w β h => ⟨w, β, h, .inl ⟨rfl, rfl⟩⟩, fun _ _ h => h⟩
theorem Wle.trans {A B C : Wd} (h : Wle A B) (k : Wle B C) : Wle A C := by
  refine ⟨fun b w β hb => ?_, fun β cs hb => k.F β cs (h.F β cs hb)⟩
  obtain ⟨w1, β1, h1, h2⟩ := h.M b w β hb
  obtain ⟨w2, β2, k1, k2⟩ := k.M b w1 β1 h1
  refine ⟨w2, β2, k1, ?_⟩
  rcases h2 with ⟨rfl, rfl⟩ | h2 <;> rcases k2 with ⟨rfl, rfl⟩ | k2
  · exact .inl ⟨rfl, rfl⟩
  · exact .inr k2
  · exact .inr h2
  · exact .inr (by omega)

mutual
theorem CR.mono {W W' : Wd} (hl : Wle W W') : (x : IV) → (vs : List Value) → CR W x vs → CR W' x vs
  | .sc v, vs, h => by simpa [CR] using h
  | .agg cs, vs, h => by
    simp only [CR] at h ⊢
    exact CRL.mono hl cs vs h
  | .tup _, vs, h => by simp [CR] at h
  | .ptr b v off, vs, h => by
    simp only [CR] at h ⊢
    obtain ⟨w, β, c, h1, h2, h3, h5⟩ := h
    obtain ⟨w', β', k1, k2⟩ := hl.M b w β h1
    refine ⟨w', β', c, k1, by omega, h3, fun e => ?_⟩
    rcases k2 with ⟨rfl, rfl⟩ | k2
    · exact h5 e
    · omega
  | .rptr e off, vs, h => by
    simp only [CR] at h ⊢
    obtain ⟨β, o, cs, h1, h2, h3, h4⟩ := h
    exact ⟨β, o, cs, hl.F β cs h1, h2, h3, CR.mono hl e _ h4.1, h4.2⟩
  | .map b, vs, h => by
    simp only [CR] at h ⊢
    obtain ⟨w, β, c, h1, h3, h5⟩ := h
    obtain ⟨w', β', k1, k2⟩ := hl.M b w β h1
    refine ⟨w', β', c, k1, h3, fun e => ?_⟩
    rcases k2 with ⟨rfl, rfl⟩ | k2
    · exact h5 e
    · omega
  | .fn f a c, vs, h => by
    simp only [CR] at h ⊢
    obtain ⟨a', c', h1, h2, h3⟩ := h
    exact ⟨a', c', h1, CRL.mono hl a _ h2, CRL.mono hl c _ h3⟩
  | .sl b v off n cap sz, vs, h => by
    simp only [CR] at h ⊢
    obtain ⟨w, β, c, h1, h2, h3, h5, h6, h7⟩ := h
    obtain ⟨w', β', k1, k2⟩ := hl.M b w β h1
    refine ⟨w', β', c, k1, by omega, h3, h5, h6, fun e => ?_⟩
    rcases k2 with ⟨rfl, rfl⟩ | k2
    · exact h7 e
    · omega
  | .lst sz full xs, vs, h => by
    simp only [CR] at h ⊢
    obtain ⟨β, o, cap, cs, h1, h2, h3, h4, h5, h6, h7, h8⟩ := h
    exact ⟨β, o, cap, cs, hl.F β cs h1, h2, h3, h4, h5, h6, h7, CRF.mono hl sz xs _ h8⟩
theorem CRL.mono {W W' : Wd} (hl : Wle W W') : (l : List IV) → (vs : List Value) → CRL W l vs → CRL W' l vs
  | [], vs, h => by simpa [CRL] using h
  | x :: r, vs, h => by
    simp only [CRL] at h ⊢
    obtain ⟨v, vs', h1, h2, h3, h4, h5⟩ := h
    exact ⟨v, vs', h1, h2, h3, CR.mono hl x _ h4, CRL.mono hl r _ h5⟩
theorem CRF.mono {W W' : Wd} (hl : Wle W W') : (sz : Nat) → (l : List IV) → (vs : List Value) → CRF W sz l vs → CRF W' sz l vs
  | sz, [], vs, h => by simp [CRF]
  | sz, x :: r, vs, h => by
    simp only [CRF] at h ⊢
    exact ⟨h.1, CR.mono hl x _ h.2.1, CRF.mono hl sz r _ h.2.2⟩
end
mutual
theorem IR.mono {W W' : Wd} (hl : Wle W W') : (x : IV) → (c : Value) → IR W x c → IR W' x c
  | .sc v, c, h => by simpa [IR] using h
  | .agg cs, c, h => by
    simp only [IR] at h ⊢
    obtain ⟨a, h1, h2⟩ := h
    exact ⟨a, h1, CRL.mono hl cs _ h2⟩
  | .tup vs, c, h => by
    simp only [IR] at h ⊢
    rcases h with h | ⟨a, h1, h2⟩
    · exact .inl h
    · exact .inr ⟨a, h1, IRL.mono hl vs _ h2⟩
  | .ptr b v o, c, h => by simp only [IR] at h ⊢; exact CR.mono hl _ _ h
  | .rptr e o, c, h => by simp only [IR] at h ⊢; exact CR.mono hl _ _ h
  | .map b, c, h => by simp only [IR] at h ⊢; exact CR.mono hl _ _ h
  | .fn f a b, c, h => by simp only [IR] at h ⊢; exact CR.mono hl _ _ h
  | .sl b v o n k z, c, h => by simp only [IR] at h ⊢; exact CR.mono hl _ _ h
  | .lst z f xs, c, h => by simp only [IR] at h ⊢; exact CR.mono hl _ _ h
theorem IRL.mono {W W' : Wd} (hl : Wle W W') : (l : List IV) → (vs : List Value) → IRL W l vs → IRL W' l vs
  | [], vs, h => by simpa [IRL] using h
  | x :: r, vs, h => by
    simp only [IRL] at h ⊢
    obtain ⟨v, vs', h1, h2, h3⟩ := h
    exact ⟨v, vs', h1, IR.mono hl x _ h2, IRL.mono hl r _ h3⟩
end

/-! what names no block hangs on the blocks that are not written alone -/
mutual
theorem CR.pure {W W' : Wd} (hF : ∀ β cs, W.F β = some cs → W'.F β = some cs) : (x : IV) → (vs : List Value) → ipure x = true → CR W x vs → CR W' x vs
  | .sc v, vs, _, h => by simpa [CR] using h
  | .agg cs, vs, hp, h => by
    simp only [CR] at h ⊢
    simp only [ipure] at hp
    exact CRL.pure hF cs vs hp h
  | .tup _, vs, _, h => by simp [CR] at h
  | .ptr b v off, vs, hp, h => by simp [ipure] at hp
  | .rptr e off, vs, hp, h => by simp [ipure] at hp
  | .map b, vs, hp, h => by simp [ipure] at hp
  | .fn f a c, vs, hp, h => by
    simp only [CR] at h ⊢
    simp only [ipure, Bool.and_eq_true] at hp
    obtain ⟨a', c', h1, h2, h3⟩ := h
    exact ⟨a', c', h1, CRL.pure hF a _ hp.1 h2, CRL.pure hF c _ hp.2 h3⟩
  | .sl b v off n cap sz, vs, hp, h => by simp [ipure] at hp
  | .lst sz full xs, vs, _, h => by
    simp only [CR] at h ⊢
    obtain ⟨β, o, cap, cs, h1, h2, h3, h4, h5, h6, h7, h8⟩ := h
    exact ⟨β, o, cap, cs, hF β cs h1, h2, h3, h4, h5, h6, h7, CRF.pure hF sz xs _ h7 h8⟩
theorem CRL.pure {W W' : Wd} (hF : ∀ β cs, W.F β = some cs → W'.F β = some cs) : (l : List IV) → (vs : List Value) → ipureL l = true → CRL W l vs → CRL W' l vs
  | [], vs, _, h => by simpa [CRL] using h
  | x :: r, vs, hp, h => by
    simp only [CRL] at h ⊢
    simp only [ipureL, Bool.and_eq_true] at hp
    obtain ⟨v, vs', h1, h2, h3, h4, h5⟩ := h
    exact ⟨v, vs', h1, h2, h3, CR.pure hF x _ hp.1 h4, CRL.pure hF r _ hp.2 h5⟩
theorem CRF.pure {W W' : Wd} (hF : ∀ β cs, W.F β = some cs → W'.F β = some cs) : (sz : Nat) → (l : List IV) → (vs : List Value) → ipureL l = true → CRF W sz l vs → CRF W' sz l vs
  | sz, [], vs, _, h => by simp [CRF]
  | sz, x :: r, vs, hp, h => by
    simp only [CRF] at h ⊢
    simp only [ipureL, Bool.and_eq_true] at hp
    exact ⟨h.1, CR.pure hF x _ hp.1 h.2.1, CRF.pure hF sz r _ hp.2 h.2.2⟩
end
mutual
theorem IR.pure {W W' : Wd} (hF : ∀ β cs, W.F β = some cs → W'.F β = some cs) : (x : IV) → (c : Value) → ipure x = true → IR W x c → IR W' x c
  | .sc v, c, _, h => by simpa [IR] using h
  | .agg cs, c, hp, h => by
    simp only [IR] at h ⊢
    simp only [ipure] at hp
    obtain ⟨a, h1, h2⟩ := h
    exact ⟨a, h1, CRL.pure hF cs _ hp h2⟩
  | .tup vs, c, hp, h => by
    simp only [IR] at h ⊢
    simp only [ipure] at hp
    rcases h with h | ⟨a, h1, h2⟩
    · exact .inl h
    · exact .inr ⟨a, h1, IRL.pure hF vs _ hp h2⟩
  | .ptr b v o, c, hp, h => by simp [ipure] at hp
  | .rptr e o, c, hp, h => by simp [ipure] at hp
  | .map b, c, hp, h => by simp [ipure] at hp
  | .fn f a b, c, hp, h => by simp only [IR] at h ⊢; exact CR.pure hF _ _ hp h
  | .sl b v o n k z, c, hp, h => by simp [ipure] at hp
  | .lst z f xs, c, hp, h => by simp only [IR] at h ⊢; exact CR.pure hF _ _ hp h
theorem IRL.pure {W W' : Wd} (hF : ∀ β cs, W.F β = some cs → W'.F β = some cs) : (l : List IV) → (vs : List Value) → ipureL l = true → IRL W l vs → IRL W' l vs
  | [], vs, _, h => by simpa [IRL] using h
  | x :: r, vs, hp, h => by
    simp only [IRL] at h ⊢
    simp only [ipureL, Bool.and_eq_true] at hp
    obtain ⟨v, vs', h1, h2, h3⟩ := h
    exact ⟨v, vs', h1, IR.pure hF x _ hp.1 h2, IRL.pure hF r _ hp.2 h3⟩
end

/-! ### lists of cells -/
section
variable {W : Wd}
theorem CRL.len : ∀ {l : List IV} {vs : List Value}, CRL W l vs → vs.length = l.length
  | [], vs, h => by simp only [CRL] at h; simp [h]
  | x :: r, vs, h => by
    simp only [CRL] at h
    obtain ⟨v, vs', rfl, _, _, _, h5⟩ := h
    simp [CRL.len h5]
theorem CR.len : ∀ {x : IV} {vs : List Value}, CR W x vs → vs.length = (icells x).length := by
  intro x vs h
  cases x with
  | agg cs => simp only [CR] at h; exact CRL.len h
  | tup _ => simp [CR] at h
  | sc v => simp only [CR] at h; simp [h.1, icells]
  | ptr b v off => simp only [CR] at h; obtain ⟨_, _, _, _, _, rfl, _⟩ := h; rfl
  | rptr e off => simp only [CR] at h; obtain ⟨_, _, _, _, rfl, _⟩ := h; rfl
  | map b => simp only [CR] at h; obtain ⟨_, _, _, _, rfl, _⟩ := h; rfl
  | fn f a c => simp only [CR] at h; obtain ⟨_, _, rfl, _⟩ := h; rfl
  | sl b v off n cap sz => simp only [CR] at h; obtain ⟨_, _, _, _, _, rfl, _⟩ := h; rfl
  | lst sz full xs => simp only [CR] at h; obtain ⟨_, _, _, _, _, rfl, _⟩ := h; rfl
theorem CRL.nil_iff {vs : List Value} : CRL W [] vs ↔ vs = [] := by simp [CRL]
theorem CRL.cons_iff {x : IV} {r : List IV} {vs : List Value} : CRL W (x :: r) vs ↔ ∃ v vs', vs = v :: vs' ∧ ione x = true ∧ one v = true ∧ CR W x [v] ∧ CRL W r vs' := by simp only [CRL]
theorem CRL.append {a b : List IV} {x y : List Value} (h : CRL W a x) (k : CRL W b y) : CRL W (a ++ b) (x ++ y) := by
  induction a generalizing x with
  | nil => simp only [CRL] at h; subst h; simpa using k
  | cons p a ih =>
    obtain ⟨v, vs', rfl, h2, h3, h4, h5⟩ := CRL.cons_iff.1 h
    exact CRL.cons_iff.2 ⟨v, vs' ++ y, rfl, h2, h3, h4, ih h5⟩
theorem CRL.take {a : List IV} {x : List Value} (h : CRL W a x) (n : Nat) : CRL W (a.take n) (x.take n) := by
  induction a generalizing x n with
  | nil => simp only [CRL] at h; subst h; simp [CRL]
  | cons p a ih =>
    obtain ⟨v, vs', rfl, h2, h3, h4, h5⟩ := CRL.cons_iff.1 h
    cases n with
    | zero => simp [CRL]
    | succ n => exact CRL.cons_iff.2 ⟨v, vs'.take n, rfl, h2, h3, h4, ih h5 n⟩
theorem CRL.drop {a : List IV} {x : List Value} (h : CRL W a x) (n : Nat) : CRL W (a.drop n) (x.drop n) := by
  induction a generalizing x n with
  | nil => simp only [CRL] at h; subst h; simp [CRL]
  | cons p a ih =>
    obtain ⟨v, vs', rfl, h2, h3, h4, h5⟩ := CRL.cons_iff.1 h
    cases n with
    | zero => exact h
    | succ n => exact ih h5 n
theorem CRL.get {a : List IV} {x : List Value} (h : CRL W a x) {i : Nat} {p : IV} (hi : a[i]? = some p) : ∃ v, x[i]? = some v ∧ ione p = true ∧ one v = true ∧ CR W p [v] := by
  induction a generalizing x i with
  | nil => simp at hi
  | cons q a ih =>
    obtain ⟨v, vs', rfl, h2, h3, h4, h5⟩ := CRL.cons_iff.1 h
    cases i with
    | zero => simp at hi; subst hi; exact ⟨v, rfl, h2, h3, h4⟩
    | succ i => simpa using ih h5 (by simpa using hi)
theorem CRL.splice {a b : List IV} {x y : List Value} (h : CRL W a x) (k : CRL W b y) (off : Nat) : CRL W (isplice a off b) (G.splice x off y) := by
  unfold isplice G.splice
  rw [k.len]
  exact ((h.take off).append k).append (h.drop _)
theorem CRL.ones {a : List IV} {x : List Value} (h : CRL W a x) : a.all ione = true ∧ x.all one = true := by
  induction a generalizing x with
  | nil => simp only [CRL] at h; subst h; simp
  | cons p a ih =>
    obtain ⟨v, vs', rfl, h2, h3, h4, h5⟩ := CRL.cons_iff.1 h
    simp [h2, h3, ih h5]
theorem IRL.nil_iff {vs : List Value} : IRL W [] vs ↔ vs = [] := by simp [IRL]
theorem IRL.cons_iff {x : IV} {r : List IV} {vs : List Value} : IRL W (x :: r) vs ↔ ∃ v vs', vs = v :: vs' ∧ IR W x v ∧ IRL W r vs' := by simp only [IRL]
theorem IRL.len {a : List IV} {x : List Value} (h : IRL W a x) : x.length = a.length := by
  induction a generalizing x with
  | nil => simp only [IRL] at h; subst h; simp
  | cons p a ih =>
    obtain ⟨v, vs', rfl, h2, h3⟩ := IRL.cons_iff.1 h
    simp [ih h3]
theorem IRL.append {a b : List IV} {x y : List Value} (h : IRL W a x) (k : IRL W b y) : IRL W (a ++ b) (x ++ y) := by
  induction a generalizing x with
  | nil => simp only [IRL] at h; subst h; simpa using k
  | cons p a ih =>
    obtain ⟨v, vs', rfl, h2, h3⟩ := IRL.cons_iff.1 h
    exact IRL.cons_iff.2 ⟨v, vs' ++ y, rfl, h2, ih h3⟩
theorem IRL.get {a : List IV} {x : List Value} (h : IRL W a x) {i : Nat} {p : IV} (hi : a[i]? = some p) : ∃ v, x[i]? = some v ∧ IR W p v := by
  induction a generalizing x i with
  | nil => simp at hi
  | cons q a ih =>
    obtain ⟨v, vs', rfl, h2, h3⟩ := IRL.cons_iff.1 h
    cases i with
    | zero => simp at hi; subst hi; exact ⟨v, rfl, h2⟩
    | succ i => simpa using ih h3 (by simpa using hi)

/-- A value of one cell, as a value and as a cell. -/
theorem CR.toIR {x : IV} {v : Value} (h : CR W x [v]) (h1 : ione x = true) : IR W x v := by
  cases x with
  | sc u => simp only [CR] at h; simp only [IR]; exact ⟨by simpa using h.1, h.2.1⟩
  | agg cs => simp [ione] at h1
  | tup cs => simp [ione] at h1
  | _ => simpa only [IR] using h
theorem IR.toCR {x : IV} {v : Value} (h : IR W x v) (h1 : ione x = true) : CR W x [v] ∧ one v = true := by
  cases x with
  | sc u =>
    simp only [IR] at h
    obtain ⟨rfl, h2⟩ := h
    simp only [ione] at h1
    simp [CR, h2, h1]
  | agg cs => simp [ione] at h1
  | tup cs => simp [ione] at h1
  | ptr b v off => simp only [IR] at h; refine ⟨h, ?_⟩; simp only [CR] at h; obtain ⟨_, _, c, _, _, hc, _⟩ := h; simp at hc; rw [hc]; rfl
  | rptr e off => simp only [IR] at h; refine ⟨h, ?_⟩; simp only [CR] at h; obtain ⟨_, _, c, _, hc, _⟩ := h; simp at hc; rw [hc]; rfl
  | map b => simp only [IR] at h; refine ⟨h, ?_⟩; simp only [CR] at h; obtain ⟨_, _, c, _, hc, _⟩ := h; simp at hc; rw [hc]; rfl
  | fn f a c => simp only [IR] at h; refine ⟨h, ?_⟩; simp only [CR] at h; obtain ⟨_, _, hc, _⟩ := h; simp at hc; rw [hc]; rfl
  | sl b v off n cap sz => simp only [IR] at h; refine ⟨h, ?_⟩; simp only [CR] at h; obtain ⟨_, _, c, _, _, hc, _⟩ := h; simp at hc; rw [hc]; rfl
  | lst sz full xs => simp only [IR] at h; refine ⟨h, ?_⟩; simp only [CR] at h; obtain ⟨_, _, _, c, _, hc, _⟩ := h; simp at hc; rw [hc]; rfl
theorem one_cellsL {v : Value} (h : one v = true) : cellsL v = [v] := by cases v <;> simp_all [one, cellsL]
/-- A value's cells. -/
theorem IR.cells {x : IV} {v : Value} (h : IR W x v) (h1 : (icells x).all ione = true) : CRL W (icells x) (cellsL v) := by
  by_cases hx : ∃ cs, x = .agg cs
  · obtain ⟨cs, rfl⟩ := hx
    simp only [IR] at h
    obtain ⟨a, rfl, h2⟩ := h
    exact h2
  · have hc : icells x = [x] := by cases x <;> first | rfl | (exact absurd ⟨_, rfl⟩ hx)
    rw [hc] at h1 ⊢
    simp only [List.all_cons, List.all_nil, Bool.and_true] at h1
    obtain ⟨h2, h3⟩ := h.toCR h1
    rw [one_cellsL h3]
    exact CRL.cons_iff.2 ⟨v, [], rfl, h1, h3, h2, CRL.nil_iff.2 rfl⟩
theorem IR.cells_len {x : IV} {v : Value} (h : IR W x v) (h1 : (icells x).all ione = true) : (cellsL v).length = (icells x).length := (h.cells h1).len

/-- An element's cells. -/
theorem mkE_cells {sz : Nat} {cs : List IV} (hl : cs.length = sz) : icells (mkE sz cs) = cs ∨ (sz = 1 ∧ ∃ x, cs = [x] ∧ mkE sz cs = x) := by
  unfold mkE
  by_cases h : sz = 1
  · right
    match cs, hl with
    | [x], _ => exact ⟨h, x, rfl, by simp [h]⟩
    | [], hl => simp at hl; omega
    | _ :: _ :: _, hl => simp at hl; omega
  · left; simp [h, icells]
theorem ione_icells {x : IV} (h : ione x = true) : icells x = [x] := by cases x <;> simp_all [ione, icells]
theorem mkE_len {sz : Nat} {cs : List IV} (hl : cs.length = sz) (h1 : cs.all ione = true) : icells (mkE sz cs) = cs := by
  rcases mkE_cells hl with h | ⟨h, x, rfl, h2⟩
  · exact h
  · rw [h2]
    exact ione_icells (by simpa using h1)
theorem mkE_CR {sz : Nat} {cs : List IV} {vs : List Value} (hl : cs.length = sz) (h : CRL W cs vs) : CR W (mkE sz cs) vs := by
  unfold mkE
  by_cases h1 : sz = 1
  · rw [if_pos h1]
    match cs, hl with
    | [x], _ =>
      obtain ⟨v, vs', rfl, h2, h3, h4, h5⟩ := CRL.cons_iff.1 h
      rw [CRL.nil_iff.1 h5]
      exact h4
    | [], hl => simp at hl; omega
    | _ :: _ :: _, hl => simp at hl; omega
  · rw [if_neg h1]; simp only [CR]; exact h
/-- Cells in elements. -/
theorem grp_CRF {sz : Nat} : ∀ (n : Nat) {cs : List IV} {vs : List Value}, n * sz ≤ cs.length → CRL W cs vs → CRF W sz (grp sz n cs) vs
  | 0, cs, vs, _, _ => by simp [grp, CRF]
  | n + 1, cs, vs, hl, h => by
    have hm : sz + n * sz ≤ cs.length := by rw [Nat.succ_mul] at hl; omega
    have ht : (cs.take sz).length = sz := by simp; omega
    simp only [grp, CRF]
    refine ⟨?_, mkE_CR ht (h.take sz), grp_CRF n (by simp; omega) (h.drop sz)⟩
    rw [mkE_len ht (h.take sz).ones.1]; exact ht
theorem grp_len {sz : Nat} : ∀ (n : Nat) (cs : List IV), (grp sz n cs).length = n
  | 0, _ => rfl
  | n + 1, cs => by simp [grp, grp_len n]
theorem ipureL_iff {l : List IV} : ipureL l = true ↔ ∀ x ∈ l, ipure x = true := by
  induction l with
  | nil => simp [ipureL]
  | cons x l ih => simp [ipureL, ih]
theorem ipure_mkE {sz : Nat} {cs : List IV} (h : ∀ x ∈ cs, ipure x = true) : ipure (mkE sz cs) = true := by
  unfold mkE
  split
  · cases cs with
    | nil => rfl
    | cons x r => exact h x (by simp)
  · simp only [ipure]; exact ipureL_iff.2 h
theorem ipure_grp {sz : Nat} : ∀ (n : Nat) {cs : List IV}, (∀ x ∈ cs, ipure x = true) → ∀ x ∈ grp sz n cs, ipure x = true
  | 0, cs, _, x, hx => by simp [grp] at hx
  | n + 1, cs, h, x, hx => by
    simp only [grp, List.mem_cons] at hx
    rcases hx with rfl | hx
    · exact ipure_mkE fun y hy => h y (List.mem_of_mem_take hy)
    · exact ipure_grp n (fun y hy => h y (List.mem_of_mem_drop hy)) x hx
/-- Elements in cells. -/
theorem CR.cellsOf {x : IV} {vs : List Value} (h : CR W x vs) : CRL W (icells x) vs ∨ ∃ v, vs = [v] ∧ icells x = [x] ∧ ione x = false := by
  by_cases hx : ∃ cs, x = .agg cs
  · obtain ⟨cs, rfl⟩ := hx
    simp only [CR] at h
    exact .inl h
  · have hc : icells x = [x] := by cases x <;> first | rfl | (exact absurd ⟨_, rfl⟩ hx)
    have hl := h.len
    rw [hc] at hl
    match vs, hl with
    | [v], _ =>
      cases h1 : ione x with
      | false => exact .inr ⟨v, rfl, hc, rfl⟩
      | true =>
        rw [hc]
        exact .inl (CRL.cons_iff.2 ⟨v, [], rfl, h1, ((CR.toIR h h1).toCR h1).2, h, CRL.nil_iff.2 rfl⟩)
theorem CR.cells {x : IV} {vs : List Value} (h : CR W x vs) : CRL W (icells x) vs := by
  rcases h.cellsOf with h1 | ⟨v, rfl, h2, h3⟩
  · exact h1
  · cases x with
    | sc u => simp only [CR] at h; simp [ione, h.2.2] at h3
    | agg cs => simp only [CR] at h; exact h
    | tup cs => simp [CR] at h
    | _ => simp [ione] at h3
theorem CRF.flat {sz : Nat} : ∀ {xs : List IV} {vs : List Value}, CRF W sz xs vs → xs.length * sz ≤ vs.length → CRL W (xs.flatMap icells) (vs.take (xs.length * sz))
  | [], vs, _, _ => by simp [CRL]
  | x :: r, vs, h, hl => by
    simp only [CRF] at h
    obtain ⟨h1, h2, h3⟩ := h
    simp only [List.length_cons, Nat.succ_mul] at hl
    have h4 := CRF.flat h3 (by simp; omega)
    have h5 := h2.cells
    have : vs.take ((x :: r).length * sz) = vs.take sz ++ (vs.drop sz).take (r.length * sz) := by
      simp only [List.length_cons, Nat.succ_mul, Nat.add_comm (r.length * sz) sz, List.take_add]
    rw [this, List.flatMap_cons]
    exact h5.append h4
theorem CRF.get {sz : Nat} : ∀ {xs : List IV} {vs : List Value} {i : Nat} {e : IV}, CRF W sz xs vs → xs[i]? = some e → (icells e).length = sz ∧ CR W e ((vs.drop (i * sz)).take sz)
  | [], vs, i, e, _, hi => by simp at hi
  | x :: r, vs, 0, e, h, hi => by
    simp only [CRF] at h
    simp at hi
    subst hi
    exact ⟨h.1, by simpa using h.2.1⟩
  | x :: r, vs, i + 1, e, h, hi => by
    simp only [CRF] at h
    have := CRF.get h.2.2 (i := i) (by simpa using hi)
    refine ⟨this.1, ?_⟩
    have h2 := this.2
    rw [List.drop_drop] at h2
    rw [Nat.succ_mul, Nat.add_comm]
    exact h2
theorem CRF.drop {sz : Nat} : ∀ (k : Nat) {xs : List IV} {vs : List Value}, CRF W sz xs vs → CRF W sz (xs.drop k) (vs.drop (k * sz))
  | 0, xs, vs, h => by simpa using h
  | k + 1, [], vs, h => by simp [CRF]
  | k + 1, x :: r, vs, h => by
    simp only [CRF] at h
    have := CRF.drop k h.2.2
    rw [List.drop_drop] at this
    rw [Nat.succ_mul, Nat.add_comm (k * sz) sz]
    exact this
theorem CRF.take {sz : Nat} : ∀ (k : Nat) {xs : List IV} {vs : List Value}, CRF W sz xs vs → CRF W sz (xs.take k) vs
  | 0, xs, vs, h => by simp [CRF]
  | k + 1, [], vs, h => by simp [CRF]
  | k + 1, x :: r, vs, h => by
    simp only [CRF, List.take_succ_cons] at h ⊢
    exact ⟨h.1, h.2.1, CRF.take k h.2.2⟩
theorem ipureL_take {l : List IV} (h : ipureL l = true) (n : Nat) : ipureL (l.take n) = true := ipureL_iff.2 fun x hx => ipureL_iff.1 h x (List.mem_of_mem_take hx)
theorem ipureL_drop {l : List IV} (h : ipureL l = true) (n : Nat) : ipureL (l.drop n) = true := ipureL_iff.2 fun x hx => ipureL_iff.1 h x (List.mem_of_mem_drop hx)
end

/-! ### heaps -/
def IER (W : Wd) : List IEnt → List Ent → Prop
  | [], [] => True
  | a :: x, b :: y => b.key = a.key ∧ IR W a.val b.val ∧ b.born = a.born ∧ IER W x y
  | _, _ => False
theorem IER.mono {W W' : Wd} (hl : Wle W W') : ∀ {a : List IEnt} {b : List Ent}, IER W a b → IER W' a b
  | [], [], _ => trivial
  | [], _ :: _, h => by simp [IER] at h
  | _ :: _, [], h => by simp [IER] at h
  | a :: x, b :: y, h => by
    simp only [IER] at h ⊢
    exact ⟨h.1, h.2.1.mono hl, h.2.2.1, IER.mono hl h.2.2.2⟩

structure HR (W : Wd) (J : JH) (H : Heap) : Prop where
  dom : ∀ b w β, W.M b = some (w, β) → (∃ cs ro, J[b]? = some (.cells w cs ro)) ∨ (w = 0 ∧ ∃ es k, J[b]? = some (.map es k))
  cells : ∀ b w β cs ro, W.M b = some (w, β) → J[b]? = some (.cells w cs ro) → ∃ cs' r, H[β]? = some (.cells cs' r) ∧ CRL W cs cs' ∧ (ro = false → r = false ∧ W.F β = none) ∧ (ro = true → W.F β = some cs')
  maps : ∀ b w β es k, W.M b = some (w, β) → J[b]? = some (.map es k) → ∃ es', H[β]? = some (.map es' k) ∧ IER W es es'
  inj : ∀ b c w v β, W.M b = some (w, β) → W.M c = some (v, β) → b = c
  fro : ∀ β cs, W.F β = some cs → ∃ r, H[β]? = some (.cells cs r)

structure SS (W : Wd) (J : JH) (H : Heap) (W' : Wd) (J' : JH) (H' : Heap) (T : Nat → Prop) : Prop where
  le : Wle W W'
  hr : HR W' J' H'
  newM : ∀ b w β, W'.M b = some (w, β) → (∃ w0 β0, W.M b = some (w0, β0) ∧ (β0 = β ∨ H.size ≤ β)) ∨ (J.size ≤ b ∧ H.size ≤ β)
  newF : ∀ β cs, W'.F β = some cs → W.F β = some cs ∨ (∃ b w, W.M b = some (w, β)) ∨ H.size ≤ β
  hs : H.size ≤ H'.size
  js : J.size ≤ J'.size
  frG : ∀ β, β < H.size → (∀ b w, W.M b = some (w, β) → ¬ T b) → H'[β]? = H[β]?
  frI : ∀ b, b < J.size → W.M b = none → J'[b]? = J[b]?

theorem SS.refl {W : Wd} {J : JH} {H : Heap} (h : HR W J H) (T : Nat → Prop) : SS W J H W J H T :=
  ⟨.refl W, h, fun b w β hb => .inl ⟨w, β, hb, .inl rfl⟩, fun β cs hF => .inl hF, Nat.le_refl _, Nat.le_refl _, fun _ _ _ => rfl, fun _ _ _ => rfl⟩
theorem SS.all {W W' : Wd} {J J' : JH} {H H' : Heap} {T : Nat → Prop} (h : SS W J H W' J' H' T) : SS W J H W' J' H' fun _ => True :=
  ⟨h.le, h.hr, h.newM, h.newF, h.hs, h.js, fun β hβ hn => h.frG β hβ fun b w hb => absurd trivial (hn b w hb), h.frI⟩
theorem SS.trans {W W1 W2 : Wd} {J J1 J2 : JH} {H H1 H2 : Heap} {T1 T2 : Nat → Prop} (h : SS W J H W1 J1 H1 T1) (k : SS W1 J1 H1 W2 J2 H2 T2) : SS W J H W2 J2 H2 fun _ => True where
  le := h.le.trans k.le
  hr := k.hr
  newM := fun b w β hb => by
    rcases k.newM b w β hb with ⟨w1, β1, h1, h2⟩ | ⟨h1, h2⟩
    · rcases h.newM b w1 β1 h1 with ⟨w0, β0, h3, h4⟩ | ⟨h3, h4⟩
      · refine .inl ⟨w0, β0, h3, ?_⟩
        rcases h2 with rfl | h2
        · exact h4
        · exact .inr (Nat.le_trans h.hs h2)
      · refine .inr ⟨h3, ?_⟩
        rcases h2 with rfl | h2
        · exact h4
        · exact Nat.le_trans h.hs h2
    · exact .inr ⟨Nat.le_trans h.js h1, Nat.le_trans h.hs h2⟩
  newF := fun β cs hF => by
    rcases k.newF β cs hF with h1 | ⟨b, w, h1⟩ | h1
    · exact h.newF β cs h1
    · rcases h.newM b w β h1 with ⟨w0, β0, h3, rfl | h4⟩ | ⟨_, h4⟩
      · exact .inr (.inl ⟨b, w0, h3⟩)
      · exact .inr (.inr h4)
      · exact .inr (.inr h4)
    · exact .inr (.inr (Nat.le_trans h.hs h1))
  hs := Nat.le_trans h.hs k.hs
  js := Nat.le_trans h.js k.js
  frG := fun β hβ hn => by
    rw [k.frG β (Nat.lt_of_lt_of_le hβ h.hs), h.frG β hβ fun b w hb => absurd trivial (hn b w hb)]
    intro b w hb
    rcases h.newM b w β hb with ⟨w0, β0, h3, rfl | h4⟩ | ⟨_, h4⟩
    · exact absurd trivial (hn b w0 h3)
    · omega
    · omega
  frI := fun b hb hn => by
    rw [k.frI b (Nat.lt_of_lt_of_le hb h.js), h.frI b hb hn]
    cases hM : W1.M b with
    | none => rfl
    | some q =>
      obtain ⟨w, β⟩ := q
      rcases h.newM b w β hM with ⟨w0, β0, h3, _⟩ | ⟨h3, _⟩
      · rw [hn] at h3; cases h3
      · omega

/-- A block that is read. -/
theorem HR.read {W : Wd} {J : JH} {H : Heap} (h : HR W J H) {b v off n w β : Nat} {vs : List IV} (hM : W.M b = some (w, β)) (hr : ird J b v off n = some vs) : v = w ∧ ∃ cs, rd H β off n = some cs ∧ CRL W vs cs := by
  unfold ird at hr
  split at hr
  · rename_i w' cs ro hJ
    split at hr
    · rename_i hc
      obtain ⟨rfl, hle⟩ := hc
      simp only [Option.some.injEq] at hr
      subst hr
      rcases h.dom b w β hM with ⟨cs2, ro2, h2⟩ | ⟨_, es, k, h2⟩
      · rw [hJ] at h2
        simp only [Option.some.injEq, IB.cells.injEq] at h2
        obtain ⟨rfl, rfl, rfl⟩ := h2
        obtain ⟨cs', r, h3, h4, _⟩ := h.cells b v β cs ro hM hJ
        refine ⟨rfl, _, ?_, (h4.drop off).take n⟩
        unfold rd
        rw [h3]
        simp only [h4.len, if_pos hle]
      · rw [hJ] at h2; cases h2
    · simp at hr
  · simp at hr
theorem HR.lt {W : Wd} {J : JH} {H : Heap} (h : HR W J H) {b w β : Nat} (hM : W.M b = some (w, β)) : b < J.size ∧ β < H.size := by
  have lt1 : ∀ {α : Type} {A : Array α} {i : Nat} {x : α}, A[i]? = some x → i < A.size := fun {α A i x} hh => by
    rcases Nat.lt_or_ge i A.size with h | h
    · exact h
    · rw [Array.getElem?_eq_none h] at hh; cases hh
  rcases h.dom b w β hM with ⟨cs, ro, h1⟩ | ⟨_, es, k, h1⟩
  · obtain ⟨cs', r, h3, _⟩ := h.cells b w β cs ro hM h1
    exact ⟨lt1 h1, lt1 h3⟩
  · obtain ⟨es', h3, _⟩ := h.maps b w β es k hM h1
    exact ⟨lt1 h1, lt1 h3⟩
end Go.Proofs.Ytohclaopcejjnaa.G
