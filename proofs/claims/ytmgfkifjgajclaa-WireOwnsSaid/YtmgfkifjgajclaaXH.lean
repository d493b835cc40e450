/- Joined: Q2a to Q4. -/
import Derived.Test.YtmgfkifjgajclaaXG
import Derived.Test.YtmgfkifjgajclaaChecked
import Derived.KernelRfl
import Derived.Test.YtmgfkifjgajclaaRows
import Derived.SizedLaws
set_option linter.unusedVariables false
set_option linter.unusedSimpArgs false
set_option maxRecDepth 20000
set_option maxHeartbeats 2000000
namespace Go.Proofs.Ytmgfkifjgajclaa.G
open Go
theorem lf_law18_WireOwns : lf Try.prog mdT 3 = some l_law18_WireOwns := by kernel_rfl
theorem lf_law18_awake : lf Try.prog mdT 4 = some l_law18_awake := by kernel_rfl
theorem lf_ref01_Cut : lf Try.prog mdT 5 = some l_ref01_Cut := by kernel_rfl
theorem lf_ref01_Join : lf Try.prog mdT 6 = some l_ref01_Join := by kernel_rfl
theorem lf_wire_Wire_Put : lf Try.prog mdT 7 = some l_wire_Wire_Put := by kernel_rfl
theorem lf_wire_Wire_Take : lf Try.prog mdT 8 = some l_wire_Wire_Take := by kernel_rfl
theorem lf_ref01_Same : lf Try.prog mdT 9 = some l_ref01_Same := by kernel_rfl
theorem lf_wire_Wire_Waiting : lf Try.prog mdT 10 = some l_wire_Wire_Waiting := by kernel_rfl
theorem lf_wire_Spoil : lf Try.prog mdT 11 = some l_wire_Spoil := by kernel_rfl
theorem lf_wire_Fault_times : lf Try.prog mdT 12 = some l_wire_Fault_times := by kernel_rfl
theorem lf_bytes_Clone : lf Try.prog mdT 13 = some l_bytes_Clone := by kernel_rfl
theorem lf_slices_DeleteFunc_Lwire_waiting_wire_waiting : lf Try.prog mdT 14 = some l_slices_DeleteFunc_Lwire_waiting_wire_waiting := by kernel_rfl
theorem lf_wire_Wire_Take_1 : lf Try.prog mdT 15 = some l_wire_Wire_Take_1 := by kernel_rfl
theorem lf_slices_IndexFunc_Lwire_waiting_wire_waiting : lf Try.prog mdT 16 = some l_slices_IndexFunc_Lwire_waiting_wire_waiting := by kernel_rfl
set_option maxRecDepth 10000
theorem fns_ok : ∀ f l, fnT f = some l → lf Try.prog mdT f = some l := fun f l h => lkF_all (q := fun f l => lf Try.prog mdT f = some l) (L := fnL) ⟨lf_law18_WireOwns, lf_law18_awake, lf_ref01_Cut, lf_ref01_Join, lf_wire_Wire_Put, lf_wire_Wire_Take, lf_ref01_Same, lf_wire_Wire_Waiting, lf_wire_Spoil, lf_wire_Fault_times, lf_bytes_Clone, lf_slices_DeleteFunc_Lwire_waiting_wire_waiting, lf_wire_Wire_Take_1, lf_slices_IndexFunc_Lwire_waiting_wire_waiting, trivial⟩ h
theorem tab_ok : TabOK BI Try.prog where
 zc := by
  intro t z h
  simp only [BI] at h
  unfold zcT at h
  split at h
  ·simp only [Option.some.injEq] at h; subst h; exact ⟨by kernel_rfl, by decide⟩
  ·simp only [Option.some.injEq] at h; subst h; exact ⟨by kernel_rfl, by decide⟩
  ·simp only [Option.some.injEq] at h; subst h; exact ⟨by kernel_rfl, by decide⟩
  ·simp only [Option.some.injEq] at h; subst h; exact ⟨by kernel_rfl, by decide⟩
  ·simp only [Option.some.injEq] at h; subst h; exact ⟨by kernel_rfl, by decide⟩
  ·simp only [Option.some.injEq] at h; subst h; exact ⟨by kernel_rfl, by decide⟩
  ·simp at h
 zv := by
  intro t z h
  simp only [BI] at h
  unfold zvT at h
  split at h
  ·simp at h
 co := by
  intro t z h
  simp only [BI] at h
  unfold coT at h
  split at h
  ·simp at h
theorem book_ok : IBookOK BI (plainBook Try.prog) := ⟨tab_ok, fun f l h => ⟨rfl, rfl, lf_ok (fns_ok f l h)⟩, fun f g h => by simp [BI, givIL, gvL] at h⟩
theorem bookG_ok : BookOK (plainBook Try.prog) := plainBook_ok _
theorem pf_laid : (laidOutB Try.prog) = true := by kernel_rfl
theorem pf_maps : (mapsRowed Try.prog) = true := by kernel_rfl
theorem pf_stops : ((Try.prog.stops == [])) = true := by kernel_rfl
theorem pf_knobs : ((Try.prog.stopKnobs == [])) = true := by kernel_rfl
theorem pf_heard : (Try.prog.stopsHeard) = true := by kernel_rfl
theorem pf_enter : (Try.prog.mayEnter) = true := by kernel_rfl
end Go.Proofs.Ytmgfkifjgajclaa.G
