import Derived.Test.YtohclaopcejjnaaQ1
import Derived.Test.YtohclaopcejjnaaChecked
import Derived.KernelRfl
namespace Go.Proofs.Ytohclaopcejjnaa.G
open Go
theorem lf_law18_WirePlays : lf Try.prog mdT 3 = some l_law18_WirePlays := by kernel_rfl
theorem lf_law18_WireOwns : lf Try.prog mdT 4 = some l_law18_WireOwns := by kernel_rfl
theorem lf_law18_WireCounts : lf Try.prog mdT 5 = some l_law18_WireCounts := by kernel_rfl
theorem lf_law18_WireKeeps : lf Try.prog mdT 6 = some l_law18_WireKeeps := by kernel_rfl
theorem lf_law18_WireLate : lf Try.prog mdT 7 = some l_law18_WireLate := by kernel_rfl
theorem lf_law18_WireSpoils : lf Try.prog mdT 8 = some l_law18_WireSpoils := by kernel_rfl
theorem lf_law18_awake : lf Try.prog mdT 9 = some l_law18_awake := by kernel_rfl
theorem lf_law18_few : lf Try.prog mdT 10 = some l_law18_few := by kernel_rfl
theorem lf_wire_Wire_Put : lf Try.prog mdT 11 = some l_wire_Wire_Put := by kernel_rfl
theorem lf_ref18_Put : lf Try.prog mdT 12 = some l_ref18_Put := by kernel_rfl
theorem lf_wire_Wire_Waiting : lf Try.prog mdT 13 = some l_wire_Wire_Waiting := by kernel_rfl
theorem lf_ref18_Waiting : lf Try.prog mdT 14 = some l_ref18_Waiting := by kernel_rfl
theorem lf_ref13_Same : lf Try.prog mdT 15 = some l_ref13_Same := by kernel_rfl
theorem lf_wire_Wire_Take : lf Try.prog mdT 16 = some l_wire_Wire_Take := by kernel_rfl
theorem lf_ref18_Take : lf Try.prog mdT 17 = some l_ref18_Take := by kernel_rfl
theorem lf_ref01_Cut : lf Try.prog mdT 18 = some l_ref01_Cut := by kernel_rfl
theorem lf_ref01_Join : lf Try.prog mdT 19 = some l_ref01_Join := by kernel_rfl
theorem lf_ref01_Same : lf Try.prog mdT 20 = some l_ref01_Same := by kernel_rfl
theorem lf_wire_Spoil : lf Try.prog mdT 21 = some l_wire_Spoil := by kernel_rfl
theorem lf_ref18_Spoil : lf Try.prog mdT 22 = some l_ref18_Spoil := by kernel_rfl
theorem lf_wire_Fault_Right : lf Try.prog mdT 23 = some l_wire_Fault_Right := by kernel_rfl
theorem lf_ref02_Seal : lf Try.prog mdT 24 = some l_ref02_Seal := by kernel_rfl
theorem lf_ref02_Open : lf Try.prog mdT 25 = some l_ref02_Open := by kernel_rfl
theorem lf_wire_Fault_times : lf Try.prog mdT 26 = some l_wire_Fault_times := by kernel_rfl
theorem lf_bytes_Clone : lf Try.prog mdT 27 = some l_bytes_Clone := by kernel_rfl
theorem lf_slices_DeleteFunc_Lwire_waiting_wire_waiting : lf Try.prog mdT 28 = some l_slices_DeleteFunc_Lwire_waiting_wire_waiting := by kernel_rfl
theorem lf_wire_Wire_Take_1 : lf Try.prog mdT 29 = some l_wire_Wire_Take_1 := by kernel_rfl
theorem lf_ref02_Turned : lf Try.prog mdT 30 = some l_ref02_Turned := by kernel_rfl
theorem lf_ref01_Low : lf Try.prog mdT 31 = some l_ref01_Low := by kernel_rfl
theorem lf_ref02_Sum : lf Try.prog mdT 32 = some l_ref02_Sum := by kernel_rfl
theorem lf_ref01_Value : lf Try.prog mdT 33 = some l_ref01_Value := by kernel_rfl
theorem lf_slices_IndexFunc_Lwire_waiting_wire_waiting : lf Try.prog mdT 34 = some l_slices_IndexFunc_Lwire_waiting_wire_waiting := by kernel_rfl
end Go.Proofs.Ytohclaopcejjnaa.G
