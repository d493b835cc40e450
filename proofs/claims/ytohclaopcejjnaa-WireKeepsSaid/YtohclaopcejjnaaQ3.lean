import Derived.Test.YtohclaopcejjnaaQ2a
import Derived.Test.YtohclaopcejjnaaI11
namespace Go.Proofs.Ytohclaopcejjnaa.G
open Go
set_option maxRecDepth 10000
theorem fns_ok : ∀ f l, fnT f = some l → lf Try.prog mdT f = some l := fun f l h => lkF_all (q := fun f l => lf Try.prog mdT f = some l) (L := fnL) ⟨lf_law18_WirePlays, lf_law18_WireOwns, lf_law18_WireCounts, lf_law18_WireKeeps, lf_law18_WireLate, lf_law18_WireSpoils, lf_law18_awake, lf_law18_few, lf_wire_Wire_Put, lf_ref18_Put, lf_wire_Wire_Waiting, lf_ref18_Waiting, lf_ref13_Same, lf_wire_Wire_Take, lf_ref18_Take, lf_ref01_Cut, lf_ref01_Join, lf_ref01_Same, lf_wire_Spoil, lf_ref18_Spoil, lf_wire_Fault_Right, lf_ref02_Seal, lf_ref02_Open, lf_wire_Fault_times, lf_bytes_Clone, lf_slices_DeleteFunc_Lwire_waiting_wire_waiting, lf_wire_Wire_Take_1, lf_ref02_Turned, lf_ref01_Low, lf_ref02_Sum, lf_ref01_Value, lf_slices_IndexFunc_Lwire_waiting_wire_waiting, trivial⟩ h
theorem tab_ok : TabOK BI Try.prog where
  zc := by
    intro t z h
    simp only [BI] at h
    unfold zcT at h
    split at h
    · simp only [Option.some.injEq] at h; subst h; exact ⟨by kernel_rfl, by decide⟩
    · simp only [Option.some.injEq] at h; subst h; exact ⟨by kernel_rfl, by decide⟩
    · simp only [Option.some.injEq] at h; subst h; exact ⟨by kernel_rfl, by decide⟩
    · simp only [Option.some.injEq] at h; subst h; exact ⟨by kernel_rfl, by decide⟩
    · simp only [Option.some.injEq] at h; subst h; exact ⟨by kernel_rfl, by decide⟩
    · simp only [Option.some.injEq] at h; subst h; exact ⟨by kernel_rfl, by decide⟩
    · simp only [Option.some.injEq] at h; subst h; exact ⟨by kernel_rfl, by decide⟩
    · simp only [Option.some.injEq] at h; subst h; exact ⟨by kernel_rfl, by decide⟩
    · simp only [Option.some.injEq] at h; subst h; exact ⟨by kernel_rfl, by decide⟩
    · simp only [Option.some.injEq] at h; subst h; exact ⟨by kernel_rfl, by decide⟩
    · simp at h
  zv := by
    intro t z h
    simp only [BI] at h
    unfold zvT at h
    split at h
    · simp at h
  co := by
    intro t z h
    simp only [BI] at h
    unfold coT at h
    split at h
    · simp at h
theorem book_ok : IBookOK BI (plainBook Try.prog) := ⟨tab_ok, fun f l h => ⟨rfl, rfl, lf_ok (fns_ok f l h)⟩, fun f g h => by simp [BI] at h⟩
end Go.Proofs.Ytohclaopcejjnaa.G
