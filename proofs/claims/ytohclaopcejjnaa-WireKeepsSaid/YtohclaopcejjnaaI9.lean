/- What a seat's program is read as. -/
import Derived.Test.YtohclaopcejjnaaI8
namespace Go.Proofs.Ytohclaopcejjnaa.G
open Go
/-- A function of the program, its places named by order. -/
def lf (P : Program) (md : FuncId → FuncId → Md) (f : FuncId) : Option LFn :=
  match P.funcs[f]? with
  | some fn =>
    match compileFn P f with
    | some s => liftFn P (fun o => match o with | .call g _ => md f g | _ => .raw) (fn.params.size + fn.nfree) s
    | none => none
  | none => none
/-- The book of the plain reading that goes with it. -/
def plainBook (P : Program) : Book := { P := P, fn := fun f => compileFn P f, mode := fun _ => .raw, given := fun _ => none }
theorem plainBook_ok (P : Program) : BookOK (plainBook P) := ⟨fun f s h => h, fun f g h => by simp [plainBook] at h⟩
theorem lf_ok {P : Program} {md : FuncId → FuncId → Md} {f : FuncId} {l : LFn} (h : lf P md f = some l) : ∃ s md np, (plainBook P).fn f = some s ∧ liftFn P md np s = some l := by
  unfold lf at h
  split at h
  · split at h
    · rename_i s hs
      exact ⟨s, _, _, hs, h⟩
    · simp at h
  · simp at h
/-- Pure or not, by bits. -/
def mdOf (bits : Nat) (raws : List (FuncId × FuncId)) (f g : FuncId) : Md := if raws.contains (f, g) then .raw else if bits.testBit g then .pure else .raw
end Go.Proofs.Ytohclaopcejjnaa.G
