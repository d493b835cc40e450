/- How code with places by order is followed, word for word. -/
import Derived.Test.YtohclaopcejjnaaI9
namespace Go.Proofs.Ytohclaopcejjnaa.G
open Go
set_option linter.unusedSimpArgs false
set_option linter.unusedVariables false
def o (p : SOp) (k : L) : L := .op ⟨none, p, .raw, []⟩ k
def om (md : Md) (p : SOp) (k : L) : L := .op ⟨none, p, md, []⟩ k
def oc (g : Option (Operand × Bool)) (p : SOp) (md : Md) (chk : List (Option (Operand × Bool) × SOp)) (k : L) : L := .op ⟨g, p, md, chk⟩ k
def thenI (r : Option (IV × JH)) (k : IV → JH → Option (Out IV × JH)) : Option (Out IV × JH) := match r with | some (v, J) => k v J | none => none
def onJoin (l : Nat) (r : Option (Out IV × JH)) (k : List IV → JH → Option (Out IV × JH)) : Option (Out IV × JH) := match r with
  | some (.goto j vs, J) => if j = l then k vs J else some (.goto j vs, J)
  | r => r
def onIf (v : IV) (a b : Option (Out IV × JH)) : Option (Out IV × JH) := match v with | .sc (.bool t) => if t = true then a else b | _ => none
def lkF : List (FuncId × LFn) → FuncId → Option LFn
  | [], _ => none
  | (k, l) :: r, f => if f = k then some l else lkF r f
def allF (q : FuncId → LFn → Prop) : List (FuncId × LFn) → Prop
  | [] => True
  | p :: r => q p.1 p.2 ∧ allF q r
theorem lkF_all {q : FuncId → LFn → Prop} : ∀ {L : List (FuncId × LFn)} {f : FuncId} {l : LFn}, allF q L → lkF L f = some l → q f l
  | [], f, l, _, h => by simp [lkF] at h
  | (k, m) :: r, f, l, ha, h => by
    simp only [lkF] at h
    split at h
    · rename_i he
      subst he
      simp only [Option.some.injEq] at h
      subst h
      exact ha.1
    · exact lkF_all ha.2 h
section
variable {B : IBook} {ρ : List IV} {J : JH} {p : SOp} {k : L} {md : Md}
theorem step_plain {C : ICall} : stepI' B C ρ ⟨none, p, md, []⟩ J = iexec B C md ρ p J := by
  unfold stepI'
  simp only [wantsI, List.all_nil, if_true]
  cases iexec B C md ρ p J with
  | none => rfl
  | some q => rfl
theorem dn_o : dn B (o p k) ρ J = thenI (iexec B (ic B) .raw ρ p J) fun v J' => dn B k (ρ ++ [v]) J' := by
  simp only [o, dn, step_plain]; rfl
theorem dn_om : dn B (om md p k) ρ J = thenI (iexec B (ic B) md ρ p J) fun v J' => dn B k (ρ ++ [v]) J' := by
  simp only [om, dn, step_plain]; rfl
theorem dn_oc {g : Option (Operand × Bool)} {chk} : dn B (oc g p md chk k) ρ J = thenI (stepI' B (ic B) ρ ⟨g, p, md, chk⟩ J) fun v J' => dn B k (ρ ++ [v]) J' := by
  simp only [oc, dn]; rfl
theorem dn_ite {c : Operand} {a b : L} : dn B (.ite c a b) ρ J = onIf (evI ρ c) (dn B a ρ J) (dn B b ρ J) := by
  simp only [dn]; rfl
theorem dn_join {l : Nat} {a b : L} : dn B (.join l a b) ρ J = onJoin l (dn B a ρ J) fun vs J => dn B b vs J := by
  simp only [dn, onJoin]
  cases dn B a ρ J with
  | none => rfl
  | some q => obtain ⟨o, J'⟩ := q; cases o <;> rfl
theorem dn_loop {l : Nat} {init : List Operand} {b : L} : dn B (.loop l init b) ρ J = iter (dn B b) l (init.map (evI ρ)) J := by
  simp only [dn]
theorem dn_goto {l : Nat} {vs : List Operand} : dn B (.goto l vs) ρ J = some (.goto l (vs.map (evI ρ)), J) := by simp only [dn]
theorem dn_ret {vs : List Operand} : dn B (.ret vs) ρ J = some (.ret (vs.map (evI ρ)), J) := by simp only [dn]
theorem thenI_some {v : IV} {J : JH} {k : IV → JH → Option (Out IV × JH)} : thenI (some (v, J)) k = k v J := rfl
theorem thenI_lift {v : IV} {J : JH} {k : IV → JH → Option (Out IV × JH)} : thenI (ilift (some v) J) k = k v J := rfl
theorem ilift_some {v : IV} {J : JH} : ilift (some v) J = some (v, J) := rfl
theorem onIf_bool {t : Bool} {a b : Option (Out IV × JH)} : onIf (.sc (.bool t)) a b = if t = true then a else b := rfl
theorem onJoin_goto {l : Nat} {vs : List IV} {J : JH} {k : List IV → JH → Option (Out IV × JH)} : onJoin l (some (.goto l vs, J)) k = k vs J := by simp [onJoin]
theorem onJoin_ret {l : Nat} {vs : List IV} {J : JH} {k : List IV → JH → Option (Out IV × JH)} : onJoin l (some (.ret vs, J)) k = some (.ret vs, J) := rfl
theorem onJoin_ne {l j : Nat} {vs : List IV} {J : JH} {k : List IV → JH → Option (Out IV × JH)} (h : j ≠ l) : onJoin l (some (.goto j vs, J)) k = some (.goto j vs, J) := by simp [onJoin, h]
theorem onJoin_ite {l : Nat} {c : Prop} [Decidable c] {a b : Option (Out IV × JH)} {k : List IV → JH → Option (Out IV × JH)} : onJoin l (if c then a else b) k = if c then onJoin l a k else onJoin l b k := by split <;> rfl
theorem thenI_ite {c : Prop} [Decidable c] {a b : Option (IV × JH)} {k : IV → JH → Option (Out IV × JH)} : thenI (if c then a else b) k = if c then thenI a k else thenI b k := by split <;> rfl
theorem evI_0 {x : IV} {r : List IV} : evI (x :: r) (.tmp 0) = x := rfl
theorem evI_succ {x : IV} {r : List IV} {n : Nat} : evI (x :: r) (.tmp (n + 1)) = evI r (.tmp n) := by simp [evI]
theorem scal2_sc {f : Value → Value → Option Value} {a b : Value} : scal2 f (.sc a) (.sc b) = (f a b).map .sc := rfl
end
end Go.Proofs.Ytohclaopcejjnaa.G
