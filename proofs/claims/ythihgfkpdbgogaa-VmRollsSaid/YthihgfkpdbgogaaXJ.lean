/- Joined: Q2a to Q4. -/
import Derived.Test.YthihgfkpdbgogaaXI
import Derived.Test.YthihgfkpdbgogaaChecked
import Derived.KernelRfl
import Derived.Test.YthihgfkpdbgogaaRows
import Derived.SizedLaws
set_option linter.unusedVariables false
set_option linter.unusedSimpArgs false
namespace Go.Proofs.Ythihgfkpdbgogaa.G
open Go
theorem lf_law09_VmComputes : lf Try.prog mdT 3 = some l_law09_VmComputes := by kernel_rfl
theorem lf_law09_VmNone : lf Try.prog mdT 4 = some l_law09_VmNone := by kernel_rfl
theorem lf_law09_VmTaint : lf Try.prog mdT 5 = some l_law09_VmTaint := by kernel_rfl
theorem lf_law09_VmKeeps : lf Try.prog mdT 6 = some l_law09_VmKeeps := by kernel_rfl
theorem lf_law09_VmFuel : lf Try.prog mdT 7 = some l_law09_VmFuel := by kernel_rfl
theorem lf_law09_VmRolls : lf Try.prog mdT 8 = some l_law09_VmRolls := by kernel_rfl
theorem lf_law09_VmViews : lf Try.prog mdT 9 = some l_law09_VmViews := by kernel_rfl
theorem lf_law09_VmLabels : lf Try.prog mdT 10 = some l_law09_VmLabels := by kernel_rfl
theorem lf_law09_VmHides : lf Try.prog mdT 11 = some l_law09_VmHides := by kernel_rfl
theorem lf_law09_awake : lf Try.prog mdT 12 = some l_law09_awake := by kernel_rfl
theorem lf_vm_Compute : lf Try.prog mdT 13 = some l_vm_Compute := by kernel_rfl
theorem lf_ref09_Compute : lf Try.prog mdT 14 = some l_ref09_Compute := by kernel_rfl
theorem lf_law09_few : lf Try.prog mdT 15 = some l_law09_few := by kernel_rfl
theorem lf_law09_codes : lf Try.prog mdT 16 = some l_law09_codes := by kernel_rfl
theorem lf_board_New : lf Try.prog mdT 17 = some l_board_New := by kernel_rfl
theorem lf_vm_Run : lf Try.prog mdT 18 = some l_vm_Run := by kernel_rfl
theorem lf_ref08_Check : lf Try.prog mdT 19 = some l_ref08_Check := by kernel_rfl
theorem lf_mask_Mask_Within : lf Try.prog mdT 20 = some l_mask_Mask_Within := by kernel_rfl
theorem lf_law09_players : lf Try.prog mdT 21 = some l_law09_players := by kernel_rfl
theorem lf_mask_All : lf Try.prog mdT 22 = some l_mask_All := by kernel_rfl
theorem lf_board_Board_At : lf Try.prog mdT 23 = some l_board_Board_At := by kernel_rfl
theorem lf_board_Board_Len : lf Try.prog mdT 24 = some l_board_Board_Len := by kernel_rfl
theorem lf_vm_Fuel : lf Try.prog mdT 25 = some l_vm_Fuel := by kernel_rfl
theorem lf_dice_Dice_Skip : lf Try.prog mdT 26 = some l_dice_Dice_Skip := by kernel_rfl
theorem lf_mask_Mask_Meet : lf Try.prog mdT 27 = some l_mask_Mask_Meet := by kernel_rfl
theorem lf_board_Board_View : lf Try.prog mdT 28 = some l_board_Board_View := by kernel_rfl
theorem lf_mask_Mask_Has : lf Try.prog mdT 29 = some l_mask_Mask_Has := by kernel_rfl
theorem lf_board_Board_Labels : lf Try.prog mdT 30 = some l_board_Board_Labels := by kernel_rfl
theorem lf_board_Alike : lf Try.prog mdT 31 = some l_board_Alike := by kernel_rfl
theorem lf_vm_divided : lf Try.prog mdT 32 = some l_vm_divided := by kernel_rfl
theorem lf_vm_one : lf Try.prog mdT 33 = some l_vm_one := by kernel_rfl
theorem lf_ref09_truth : lf Try.prog mdT 34 = some l_ref09_truth := by kernel_rfl
theorem lf_code_Right : lf Try.prog mdT 35 = some l_code_Right := by kernel_rfl
theorem lf_vm_machine_fail : lf Try.prog mdT 36 = some l_vm_machine_fail := by kernel_rfl
theorem lf_vm_machine_follow : lf Try.prog mdT 37 = some l_vm_machine_follow := by kernel_rfl
theorem lf_ref08_Right : lf Try.prog mdT 38 = some l_ref08_Right := by kernel_rfl
theorem lf_board_Board_there : lf Try.prog mdT 39 = some l_board_Board_there := by kernel_rfl
theorem lf_mask_one : lf Try.prog mdT 40 = some l_mask_one := by kernel_rfl
theorem lf_board_Board_sum : lf Try.prog mdT 41 = some l_board_Board_sum := by kernel_rfl
theorem lf_code_Check : lf Try.prog mdT 42 = some l_code_Check := by kernel_rfl
theorem lf_vm_machine_load : lf Try.prog mdT 43 = some l_vm_machine_load := by kernel_rfl
theorem lf_vm_machine_store : lf Try.prog mdT 44 = some l_vm_machine_store := by kernel_rfl
theorem lf_vm_machine_open : lf Try.prog mdT 45 = some l_vm_machine_open := by kernel_rfl
theorem lf_mask_Of : lf Try.prog mdT 46 = some l_mask_Of := by kernel_rfl
theorem lf_dice_Dice_Below : lf Try.prog mdT 47 = some l_dice_Dice_Below := by kernel_rfl
theorem lf_vm_machine_reach : lf Try.prog mdT 48 = some l_vm_machine_reach := by kernel_rfl
theorem lf_ref08_Parts : lf Try.prog mdT 49 = some l_ref08_Parts := by kernel_rfl
theorem lf_ref08_has : lf Try.prog mdT 50 = some l_ref08_has := by kernel_rfl
theorem lf_ink_Pen_Word : lf Try.prog mdT 51 = some l_ink_Pen_Word := by kernel_rfl
theorem lf_wax_Make : lf Try.prog mdT 52 = some l_wax_Make := by kernel_rfl
theorem lf_wax_Table_Sum : lf Try.prog mdT 53 = some l_wax_Table_Sum := by kernel_rfl
theorem lf_ink_Pen_Bytes : lf Try.prog mdT 54 = some l_ink_Pen_Bytes := by kernel_rfl
theorem lf_code_uses : lf Try.prog mdT 55 = some l_code_uses := by kernel_rfl
theorem lf_code_right : lf Try.prog mdT 56 = some l_code_right := by kernel_rfl
theorem lf_board_Board_Put : lf Try.prog mdT 57 = some l_board_Board_Put := by kernel_rfl
theorem lf_mask_Mask_With : lf Try.prog mdT 58 = some l_mask_Mask_With := by kernel_rfl
theorem lf_dice_Dice_Next : lf Try.prog mdT 59 = some l_dice_Dice_Next := by kernel_rfl
theorem lf_vm_machine_index : lf Try.prog mdT 60 = some l_vm_machine_index := by kernel_rfl
theorem lf_vm_machine_reveal : lf Try.prog mdT 61 = some l_vm_machine_reveal := by kernel_rfl
theorem lf_vm_machine_shuffle : lf Try.prog mdT 62 = some l_vm_machine_shuffle := by kernel_rfl
end Go.Proofs.Ythihgfkpdbgogaa.G
namespace Go.Proofs.Ythihgfkpdbgogaa.G
open Go
theorem lf_ref08_Table : lf Try.prog mdT 63 = some l_ref08_Table := by kernel_rfl
theorem lf_ink_Pen_Half : lf Try.prog mdT 64 = some l_ink_Pen_Half := by kernel_rfl
theorem lf_wax_Step : lf Try.prog mdT 65 = some l_wax_Step := by kernel_rfl
theorem lf_bytes_Clone : lf Try.prog mdT 66 = some l_bytes_Clone := by kernel_rfl
theorem lf_code_register : lf Try.prog mdT 67 = some l_code_register := by kernel_rfl
theorem lf_dice_mixed : lf Try.prog mdT 68 = some l_dice_mixed := by kernel_rfl
theorem lf_mask_Mask_Less : lf Try.prog mdT 69 = some l_mask_Mask_Less := by kernel_rfl
theorem lf_board_Board_Show : lf Try.prog mdT 70 = some l_board_Board_Show := by kernel_rfl
theorem lf_dice_Dice_Shuffle : lf Try.prog mdT 71 = some l_dice_Dice_Shuffle := by kernel_rfl
theorem lf_ink_Pen_add : lf Try.prog mdT 72 = some l_ink_Pen_add := by kernel_rfl
theorem lf_mask_Mask_Join : lf Try.prog mdT 73 = some l_mask_Mask_Join := by kernel_rfl
theorem lf_slices_Clone_Lint32_int32 : lf Try.prog mdT 74 = some l_slices_Clone_Lint32_int32 := by kernel_rfl
end Go.Proofs.Ythihgfkpdbgogaa.G
namespace Go.Proofs.Ythihgfkpdbgogaa.G
open Go
set_option maxRecDepth 10000
theorem fns_ok : ∀ f l, fnT f = some l → lf Try.prog mdT f = some l := fun f l h => lkF_all (q := fun f l => lf Try.prog mdT f = some l) (L := fnL) ⟨lf_law09_VmComputes, lf_law09_VmNone, lf_law09_VmTaint, lf_law09_VmKeeps, lf_law09_VmFuel, lf_law09_VmRolls, lf_law09_VmViews, lf_law09_VmLabels, lf_law09_VmHides, lf_law09_awake, lf_vm_Compute, lf_ref09_Compute, lf_law09_few, lf_law09_codes, lf_board_New, lf_vm_Run, lf_ref08_Check, lf_mask_Mask_Within, lf_law09_players, lf_mask_All, lf_board_Board_At, lf_board_Board_Len, lf_vm_Fuel, lf_dice_Dice_Skip, lf_mask_Mask_Meet, lf_board_Board_View, lf_mask_Mask_Has, lf_board_Board_Labels, lf_board_Alike, lf_vm_divided, lf_vm_one, lf_ref09_truth, lf_code_Right, lf_vm_machine_fail, lf_vm_machine_follow, lf_ref08_Right, lf_board_Board_there, lf_mask_one, lf_board_Board_sum, lf_code_Check, lf_vm_machine_load, lf_vm_machine_store, lf_vm_machine_open, lf_mask_Of, lf_dice_Dice_Below, lf_vm_machine_reach, lf_ref08_Parts, lf_ref08_has, lf_ink_Pen_Word, lf_wax_Make, lf_wax_Table_Sum, lf_ink_Pen_Bytes, lf_code_uses, lf_code_right, lf_board_Board_Put, lf_mask_Mask_With, lf_dice_Dice_Next, lf_vm_machine_index, lf_vm_machine_reveal, lf_vm_machine_shuffle, lf_ref08_Table, lf_ink_Pen_Half, lf_wax_Step, lf_bytes_Clone, lf_code_register, lf_dice_mixed, lf_mask_Mask_Less, lf_board_Board_Show, lf_dice_Dice_Shuffle, lf_ink_Pen_add, lf_mask_Mask_Join, lf_slices_Clone_Lint32_int32, trivial⟩ h
theorem tab_ok : TabOK BI Try.prog where
  zc := by
    intro t z h
    simp only [BI] at h
    unfold zcT at h
    split at h
    · simp only [Option.some.injEq] at h; subst h; exact ⟨by kernel_rfl, by decide⟩
    · simp only [Option.some.injEq] at h; subst h; exact ⟨by kernel_rfl, by decide⟩
    · simp only [Option.some.injEq] at h; subst h; exact ⟨by kernel_rfl, by decide⟩
    · simp only [Option.some.injEq] at h; subst h; exact ⟨by kernel_rfl, by decide⟩
    · simp only [Option.some.injEq] at h; subst h; exact ⟨by kernel_rfl, by decide⟩
    · simp only [Option.some.injEq] at h; subst h; exact ⟨by kernel_rfl, by decide⟩
    · simp only [Option.some.injEq] at h; subst h; exact ⟨by kernel_rfl, by decide⟩
    · simp only [Option.some.injEq] at h; subst h; exact ⟨by kernel_rfl, by decide⟩
    · simp only [Option.some.injEq] at h; subst h; exact ⟨by kernel_rfl, by decide⟩
    · simp only [Option.some.injEq] at h; subst h; exact ⟨by kernel_rfl, by decide⟩
    · simp only [Option.some.injEq] at h; subst h; exact ⟨by kernel_rfl, by decide⟩
    · simp only [Option.some.injEq] at h; subst h; exact ⟨by kernel_rfl, by decide⟩
    · simp only [Option.some.injEq] at h; subst h; exact ⟨by kernel_rfl, by decide⟩
    · simp only [Option.some.injEq] at h; subst h; exact ⟨by kernel_rfl, by decide⟩
    · simp only [Option.some.injEq] at h; subst h; exact ⟨by kernel_rfl, by decide⟩
    · simp only [Option.some.injEq] at h; subst h; exact ⟨by kernel_rfl, by decide⟩
    · simp only [Option.some.injEq] at h; subst h; exact ⟨by kernel_rfl, by decide⟩
    · simp only [Option.some.injEq] at h; subst h; exact ⟨by kernel_rfl, by decide⟩
    · simp only [Option.some.injEq] at h; subst h; exact ⟨by kernel_rfl, by decide⟩
    · simp at h
  zv := by
    intro t z h
    simp only [BI] at h
    unfold zvT at h
    split at h
    · simp at h
  co := by
    intro t z h
    simp only [BI] at h
    unfold coT at h
    split at h
    · simp only [Option.some.injEq] at h; subst h; kernel_rfl
    · simp only [Option.some.injEq] at h; subst h; kernel_rfl
    · simp only [Option.some.injEq] at h; subst h; kernel_rfl
    · simp at h
theorem book_ok : IBookOK BI (plainBook Try.prog) := ⟨tab_ok, fun f l h => ⟨rfl, rfl, lf_ok (fns_ok f l h)⟩, fun f g h => by simp [BI] at h⟩
end Go.Proofs.Ythihgfkpdbgogaa.G
namespace Go.Proofs.Ythihgfkpdbgogaa.G
open Go
theorem pf_laid : (laidOutB Try.prog) = true := by kernel_rfl
theorem pf_maps : (mapsRowed Try.prog) = true := by kernel_rfl
theorem pf_stops : ((Try.prog.stops == [])) = true := by kernel_rfl
theorem pf_knobs : ((Try.prog.stopKnobs == [])) = true := by kernel_rfl
theorem pf_heard : (Try.prog.stopsHeard) = true := by kernel_rfl
theorem pf_enter : (Try.prog.mayEnter) = true := by kernel_rfl
end Go.Proofs.Ythihgfkpdbgogaa.G
