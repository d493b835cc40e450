/- Joined: Q2a to Q4. -/
import Derived.Test.YtohclaopcejjnaaXH
import Derived.Test.YtohclaopcejjnaaChecked
import Derived.KernelRfl
import Derived.Test.YtohclaopcejjnaaRows
import Derived.SizedLaws
set_option linter.unusedVariables false
set_option linter.unusedSimpArgs false
namespace Go.Proofs.Ytohclaopcejjnaa.G
open Go
theorem lf_law18_WireSpoils : lf Try.prog mdT 8 = some l_law18_WireSpoils := by kernel_rfl
theorem lf_law18_awake : lf Try.prog mdT 9 = some l_law18_awake := by kernel_rfl
theorem lf_wire_Wire_Put : lf Try.prog mdT 11 = some l_wire_Wire_Put := by kernel_rfl
theorem lf_wire_Wire_Waiting : lf Try.prog mdT 13 = some l_wire_Wire_Waiting := by kernel_rfl
theorem lf_wire_Wire_Take : lf Try.prog mdT 16 = some l_wire_Wire_Take := by kernel_rfl
theorem lf_ref01_Cut : lf Try.prog mdT 18 = some l_ref01_Cut := by kernel_rfl
theorem lf_ref01_Join : lf Try.prog mdT 19 = some l_ref01_Join := by kernel_rfl
theorem lf_ref01_Same : lf Try.prog mdT 20 = some l_ref01_Same := by kernel_rfl
theorem lf_wire_Spoil : lf Try.prog mdT 21 = some l_wire_Spoil := by kernel_rfl
theorem lf_ref18_Spoil : lf Try.prog mdT 22 = some l_ref18_Spoil := by kernel_rfl
theorem lf_wire_Fault_Right : lf Try.prog mdT 23 = some l_wire_Fault_Right := by kernel_rfl
theorem lf_ref02_Seal : lf Try.prog mdT 24 = some l_ref02_Seal := by kernel_rfl
theorem lf_ref02_Open : lf Try.prog mdT 25 = some l_ref02_Open := by kernel_rfl
theorem lf_wire_Fault_times : lf Try.prog mdT 26 = some l_wire_Fault_times := by kernel_rfl
theorem lf_bytes_Clone : lf Try.prog mdT 27 = some l_bytes_Clone := by kernel_rfl
theorem lf_slices_DeleteFunc_Lwire_waiting_wire_waiting : lf Try.prog mdT 28 = some l_slices_DeleteFunc_Lwire_waiting_wire_waiting := by kernel_rfl
theorem lf_wire_Wire_Take_1 : lf Try.prog mdT 29 = some l_wire_Wire_Take_1 := by kernel_rfl
theorem lf_ref02_Turned : lf Try.prog mdT 30 = some l_ref02_Turned := by kernel_rfl
theorem lf_ref01_Low : lf Try.prog mdT 31 = some l_ref01_Low := by kernel_rfl
theorem lf_ref02_Sum : lf Try.prog mdT 32 = some l_ref02_Sum := by kernel_rfl
theorem lf_ref01_Value : lf Try.prog mdT 33 = some l_ref01_Value := by kernel_rfl
theorem lf_slices_IndexFunc_Lwire_waiting_wire_waiting : lf Try.prog mdT 34 = some l_slices_IndexFunc_Lwire_waiting_wire_waiting := by kernel_rfl
end Go.Proofs.Ytohclaopcejjnaa.G
namespace Go.Proofs.Ytohclaopcejjnaa.G
open Go
set_option maxRecDepth 10000
theorem fns_ok : ∀ f l, fnT f = some l → lf Try.prog mdT f = some l := fun f l h => lkF_all (q := fun f l => lf Try.prog mdT f = some l) (L := fnL) ⟨lf_law18_WireSpoils, lf_law18_awake, lf_wire_Wire_Put, lf_wire_Wire_Waiting, lf_wire_Wire_Take, lf_ref01_Cut, lf_ref01_Join, lf_ref01_Same, lf_wire_Spoil, lf_ref18_Spoil, lf_wire_Fault_Right, lf_ref02_Seal, lf_ref02_Open, lf_wire_Fault_times, lf_bytes_Clone, lf_slices_DeleteFunc_Lwire_waiting_wire_waiting, lf_wire_Wire_Take_1, lf_ref02_Turned, lf_ref01_Low, lf_ref02_Sum, lf_ref01_Value, lf_slices_IndexFunc_Lwire_waiting_wire_waiting, trivial⟩ h
theorem tab_ok : TabOK BI Try.prog where
  zc := by
    intro t z h
    simp only [BI] at h
    unfold zcT at h
    split at h
    · simp only [Option.some.injEq] at h; subst h; exact ⟨by kernel_rfl, by decide⟩
    · simp only [Option.some.injEq] at h; subst h; exact ⟨by kernel_rfl, by decide⟩
    · simp only [Option.some.injEq] at h; subst h; exact ⟨by kernel_rfl, by decide⟩
    · simp only [Option.some.injEq] at h; subst h; exact ⟨by kernel_rfl, by decide⟩
    · simp only [Option.some.injEq] at h; subst h; exact ⟨by kernel_rfl, by decide⟩
    · simp only [Option.some.injEq] at h; subst h; exact ⟨by kernel_rfl, by decide⟩
    · simp only [Option.some.injEq] at h; subst h; exact ⟨by kernel_rfl, by decide⟩
    · simp only [Option.some.injEq] at h; subst h; exact ⟨by kernel_rfl, by decide⟩
    · simp only [Option.some.injEq] at h; subst h; exact ⟨by kernel_rfl, by decide⟩
    · simp only [Option.some.injEq] at h; subst h; exact ⟨by kernel_rfl, by decide⟩
    · simp at h
  zv := by
    intro t z h
    simp only [BI] at h
    unfold zvT at h
    split at h
    · simp at h
  co := by
    intro t z h
    simp only [BI] at h
    unfold coT at h
    split at h
    · simp at h
theorem book_ok : IBookOK BI (plainBook Try.prog) := ⟨tab_ok, fun f l h => ⟨rfl, rfl, lf_ok (fns_ok f l h)⟩, fun f g h => by simp [BI] at h⟩
end Go.Proofs.Ytohclaopcejjnaa.G
namespace Go.Proofs.Ytohclaopcejjnaa.G
open Go
theorem pf_laid : (laidOutB Try.prog) = true := by kernel_rfl
theorem pf_maps : (mapsRowed Try.prog) = true := by kernel_rfl
theorem pf_stops : ((Try.prog.stops == [])) = true := by kernel_rfl
theorem pf_knobs : ((Try.prog.stopKnobs == [])) = true := by kernel_rfl
theorem pf_heard : (Try.prog.stopsHeard) = true := by kernel_rfl
theorem pf_enter : (Try.prog.mayEnter) = true := by kernel_rfl
end Go.Proofs.Ytohclaopcejjnaa.G
