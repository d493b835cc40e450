/- Joined: Q2a to Q4. -/
import Derived.Test.YtcdlipdeemlibaaXJ
import Derived.Test.YtcdlipdeemlibaaChecked
import Derived.KernelRfl
import Derived.Test.YtcdlipdeemlibaaRows
import Derived.SizedLaws
set_option linter.unusedVariables false
set_option linter.unusedSimpArgs false
namespace Go.Proofs.Ytcdlipdeemlibaa.G
open Go
theorem lf_law10_RulesPlays : lf Try.prog mdT 10 = some l_law10_RulesPlays := by kernel_rfl
theorem lf_law10_awake : lf Try.prog mdT 12 = some l_law10_awake := by kernel_rfl
theorem lf_law10_few : lf Try.prog mdT 13 = some l_law10_few := by kernel_rfl
theorem lf_rules_Game_Start : lf Try.prog mdT 14 = some l_rules_Game_Start := by kernel_rfl
theorem lf_rules_Game_Right : lf Try.prog mdT 15 = some l_rules_Game_Right := by kernel_rfl
theorem lf_board_Board_At : lf Try.prog mdT 16 = some l_board_Board_At := by kernel_rfl
theorem lf_board_Board_Len : lf Try.prog mdT 17 = some l_board_Board_Len := by kernel_rfl
theorem lf_rules_Game_Legal : lf Try.prog mdT 18 = some l_rules_Game_Legal := by kernel_rfl
theorem lf_rules_Game_Step : lf Try.prog mdT 19 = some l_rules_Game_Step := by kernel_rfl
theorem lf_mask_Mask_Within : lf Try.prog mdT 20 = some l_mask_Mask_Within := by kernel_rfl
theorem lf_rules_Game_All : lf Try.prog mdT 21 = some l_rules_Game_All := by kernel_rfl
theorem lf_mask_Mask_Meet : lf Try.prog mdT 22 = some l_mask_Mask_Meet := by kernel_rfl
theorem lf_rules_State_View : lf Try.prog mdT 23 = some l_rules_State_View := by kernel_rfl
theorem lf_mask_Mask_Has : lf Try.prog mdT 24 = some l_mask_Mask_Has := by kernel_rfl
theorem lf_ref10_Right : lf Try.prog mdT 25 = some l_ref10_Right := by kernel_rfl
theorem lf_law10_own : lf Try.prog mdT 26 = some l_law10_own := by kernel_rfl
theorem lf_ref10_All : lf Try.prog mdT 27 = some l_ref10_All := by kernel_rfl
theorem lf_board_New : lf Try.prog mdT 28 = some l_board_New := by kernel_rfl
theorem lf_board_Board_View : lf Try.prog mdT 29 = some l_board_Board_View := by kernel_rfl
theorem lf_rules_Game_Predict : lf Try.prog mdT 30 = some l_rules_Game_Predict := by kernel_rfl
theorem lf_ref10_Start : lf Try.prog mdT 31 = some l_ref10_Start := by kernel_rfl
theorem lf_law10_like : lf Try.prog mdT 32 = some l_law10_like := by kernel_rfl
theorem lf_ref10_Predict : lf Try.prog mdT 33 = some l_ref10_Predict := by kernel_rfl
theorem lf_ref10_View : lf Try.prog mdT 34 = some l_ref10_View := by kernel_rfl
theorem lf_ref10_Step : lf Try.prog mdT 35 = some l_ref10_Step := by kernel_rfl
theorem lf_board_Board_Put : lf Try.prog mdT 43 = some l_board_Board_Put := by kernel_rfl
theorem lf_code_Right : lf Try.prog mdT 44 = some l_code_Right := by kernel_rfl
theorem lf_board_Board_there : lf Try.prog mdT 45 = some l_board_Board_there := by kernel_rfl
theorem lf_vm_Run : lf Try.prog mdT 46 = some l_vm_Run := by kernel_rfl
theorem lf_rules_Game_all : lf Try.prog mdT 47 = some l_rules_Game_all := by kernel_rfl
theorem lf_mask_All : lf Try.prog mdT 48 = some l_mask_All := by kernel_rfl
theorem lf_mask_one : lf Try.prog mdT 49 = some l_mask_one := by kernel_rfl
theorem lf_ref08_Check : lf Try.prog mdT 50 = some l_ref08_Check := by kernel_rfl
theorem lf_law10_cells : lf Try.prog mdT 51 = some l_law10_cells := by kernel_rfl
theorem lf_ref10_Same : lf Try.prog mdT 52 = some l_ref10_Same := by kernel_rfl
theorem lf_board_Board_Cells : lf Try.prog mdT 53 = some l_board_Board_Cells := by kernel_rfl
theorem lf_ref06_View : lf Try.prog mdT 54 = some l_ref06_View := by kernel_rfl
theorem lf_ref10_Move : lf Try.prog mdT 55 = some l_ref10_Move := by kernel_rfl
theorem lf_ref09_Run : lf Try.prog mdT 56 = some l_ref09_Run := by kernel_rfl
end Go.Proofs.Ytcdlipdeemlibaa.G
namespace Go.Proofs.Ytcdlipdeemlibaa.G
open Go
theorem lf_code_Check : lf Try.prog mdT 74 = some l_code_Check := by kernel_rfl
theorem lf_vm_Compute : lf Try.prog mdT 75 = some l_vm_Compute := by kernel_rfl
theorem lf_vm_machine_fail : lf Try.prog mdT 76 = some l_vm_machine_fail := by kernel_rfl
theorem lf_vm_machine_follow : lf Try.prog mdT 77 = some l_vm_machine_follow := by kernel_rfl
theorem lf_ref08_Right : lf Try.prog mdT 78 = some l_ref08_Right := by kernel_rfl
theorem lf_ref06_Same : lf Try.prog mdT 79 = some l_ref06_Same := by kernel_rfl
theorem lf_slices_Clone_Lboard_Cell_board_Cell : lf Try.prog mdT 80 = some l_slices_Clone_Lboard_Cell_board_Cell := by kernel_rfl
theorem lf_ref06_Sees : lf Try.prog mdT 81 = some l_ref06_Sees := by kernel_rfl
theorem lf_ref09_state_do : lf Try.prog mdT 82 = some l_ref09_state_do := by kernel_rfl
theorem lf_code_uses : lf Try.prog mdT 91 = some l_code_uses := by kernel_rfl
theorem lf_code_right : lf Try.prog mdT 92 = some l_code_right := by kernel_rfl
theorem lf_vm_divided : lf Try.prog mdT 93 = some l_vm_divided := by kernel_rfl
theorem lf_vm_one : lf Try.prog mdT 94 = some l_vm_one := by kernel_rfl
theorem lf_vm_machine_load : lf Try.prog mdT 95 = some l_vm_machine_load := by kernel_rfl
theorem lf_vm_machine_store : lf Try.prog mdT 96 = some l_vm_machine_store := by kernel_rfl
theorem lf_vm_machine_open : lf Try.prog mdT 97 = some l_vm_machine_open := by kernel_rfl
theorem lf_mask_Of : lf Try.prog mdT 98 = some l_mask_Of := by kernel_rfl
theorem lf_dice_Dice_Below : lf Try.prog mdT 99 = some l_dice_Dice_Below := by kernel_rfl
theorem lf_vm_machine_reach : lf Try.prog mdT 100 = some l_vm_machine_reach := by kernel_rfl
theorem lf_ref08_Parts : lf Try.prog mdT 101 = some l_ref08_Parts := by kernel_rfl
theorem lf_ref08_has : lf Try.prog mdT 102 = some l_ref08_has := by kernel_rfl
theorem lf_ref09_state_set : lf Try.prog mdT 103 = some l_ref09_state_set := by kernel_rfl
theorem lf_ref09_state_named : lf Try.prog mdT 104 = some l_ref09_state_named := by kernel_rfl
theorem lf_ref09_state_public : lf Try.prog mdT 105 = some l_ref09_state_public := by kernel_rfl
theorem lf_ref09_bit : lf Try.prog mdT 106 = some l_ref09_bit := by kernel_rfl
theorem lf_ref03_Below : lf Try.prog mdT 107 = some l_ref03_Below := by kernel_rfl
theorem lf_ref03_Shuffle : lf Try.prog mdT 108 = some l_ref03_Shuffle := by kernel_rfl
theorem lf_ref09_Compute : lf Try.prog mdT 109 = some l_ref09_Compute := by kernel_rfl
theorem lf_code_register : lf Try.prog mdT 110 = some l_code_register := by kernel_rfl
theorem lf_mask_Mask_With : lf Try.prog mdT 111 = some l_mask_Mask_With := by kernel_rfl
theorem lf_dice_Dice_Next : lf Try.prog mdT 112 = some l_dice_Dice_Next := by kernel_rfl
theorem lf_vm_machine_index : lf Try.prog mdT 113 = some l_vm_machine_index := by kernel_rfl
theorem lf_vm_machine_reveal : lf Try.prog mdT 114 = some l_vm_machine_reveal := by kernel_rfl
theorem lf_vm_machine_shuffle : lf Try.prog mdT 115 = some l_vm_machine_shuffle := by kernel_rfl
theorem lf_ref08_Table : lf Try.prog mdT 116 = some l_ref08_Table := by kernel_rfl
theorem lf_ref06_Put : lf Try.prog mdT 117 = some l_ref06_Put := by kernel_rfl
theorem lf_ref03_Next : lf Try.prog mdT 118 = some l_ref03_Next := by kernel_rfl
theorem lf_ref09_truth : lf Try.prog mdT 119 = some l_ref09_truth := by kernel_rfl
theorem lf_dice_mixed : lf Try.prog mdT 120 = some l_dice_mixed := by kernel_rfl
theorem lf_mask_Mask_Less : lf Try.prog mdT 121 = some l_mask_Mask_Less := by kernel_rfl
theorem lf_board_Board_Show : lf Try.prog mdT 122 = some l_board_Board_Show := by kernel_rfl
end Go.Proofs.Ytcdlipdeemlibaa.G
namespace Go.Proofs.Ytcdlipdeemlibaa.G
open Go
theorem lf_dice_Dice_Shuffle : lf Try.prog mdT 123 = some l_dice_Dice_Shuffle := by kernel_rfl
theorem lf_mask_Mask_Join : lf Try.prog mdT 124 = some l_mask_Mask_Join := by kernel_rfl
theorem lf_slices_Clone_Lint32_int32 : lf Try.prog mdT 125 = some l_slices_Clone_Lint32_int32 := by kernel_rfl
end Go.Proofs.Ytcdlipdeemlibaa.G
namespace Go.Proofs.Ytcdlipdeemlibaa.G
open Go
set_option maxRecDepth 10000
theorem fns_ok : ∀ f l, fnT f = some l → lf Try.prog mdT f = some l := fun f l h => lkF_all (q := fun f l => lf Try.prog mdT f = some l) (L := fnL) ⟨lf_law10_RulesPlays, lf_law10_awake, lf_law10_few, lf_rules_Game_Start, lf_rules_Game_Right, lf_board_Board_At, lf_board_Board_Len, lf_rules_Game_Legal, lf_rules_Game_Step, lf_mask_Mask_Within, lf_rules_Game_All, lf_mask_Mask_Meet, lf_rules_State_View, lf_mask_Mask_Has, lf_ref10_Right, lf_law10_own, lf_ref10_All, lf_board_New, lf_board_Board_View, lf_rules_Game_Predict, lf_ref10_Start, lf_law10_like, lf_ref10_Predict, lf_ref10_View, lf_ref10_Step, lf_board_Board_Put, lf_code_Right, lf_board_Board_there, lf_vm_Run, lf_rules_Game_all, lf_mask_All, lf_mask_one, lf_ref08_Check, lf_law10_cells, lf_ref10_Same, lf_board_Board_Cells, lf_ref06_View, lf_ref10_Move, lf_ref09_Run, lf_code_Check, lf_vm_Compute, lf_vm_machine_fail, lf_vm_machine_follow, lf_ref08_Right, lf_ref06_Same, lf_slices_Clone_Lboard_Cell_board_Cell, lf_ref06_Sees, lf_ref09_state_do, lf_code_uses, lf_code_right, lf_vm_divided, lf_vm_one, lf_vm_machine_load, lf_vm_machine_store, lf_vm_machine_open, lf_mask_Of, lf_dice_Dice_Below, lf_vm_machine_reach, lf_ref08_Parts, lf_ref08_has, lf_ref09_state_set, lf_ref09_state_named, lf_ref09_state_public, lf_ref09_bit, lf_ref03_Below, lf_ref03_Shuffle, lf_ref09_Compute, lf_code_register, lf_mask_Mask_With, lf_dice_Dice_Next, lf_vm_machine_index, lf_vm_machine_reveal, lf_vm_machine_shuffle, lf_ref08_Table, lf_ref06_Put, lf_ref03_Next, lf_ref09_truth, lf_dice_mixed, lf_mask_Mask_Less, lf_board_Board_Show, lf_dice_Dice_Shuffle, lf_mask_Mask_Join, lf_slices_Clone_Lint32_int32, trivial⟩ h
theorem tab_ok : TabOK BI Try.prog where
  zc := by
    intro t z h
    simp only [BI] at h
    unfold zcT at h
    split at h
    · simp only [Option.some.injEq] at h; subst h; exact ⟨by kernel_rfl, by decide⟩
    · simp only [Option.some.injEq] at h; subst h; exact ⟨by kernel_rfl, by decide⟩
    · simp only [Option.some.injEq] at h; subst h; exact ⟨by kernel_rfl, by decide⟩
    · simp only [Option.some.injEq] at h; subst h; exact ⟨by kernel_rfl, by decide⟩
    · simp only [Option.some.injEq] at h; subst h; exact ⟨by kernel_rfl, by decide⟩
    · simp only [Option.some.injEq] at h; subst h; exact ⟨by kernel_rfl, by decide⟩
    · simp only [Option.some.injEq] at h; subst h; exact ⟨by kernel_rfl, by decide⟩
    · simp only [Option.some.injEq] at h; subst h; exact ⟨by kernel_rfl, by decide⟩
    · simp only [Option.some.injEq] at h; subst h; exact ⟨by kernel_rfl, by decide⟩
    · simp only [Option.some.injEq] at h; subst h; exact ⟨by kernel_rfl, by decide⟩
    · simp only [Option.some.injEq] at h; subst h; exact ⟨by kernel_rfl, by decide⟩
    · simp only [Option.some.injEq] at h; subst h; exact ⟨by kernel_rfl, by decide⟩
    · simp only [Option.some.injEq] at h; subst h; exact ⟨by kernel_rfl, by decide⟩
    · simp only [Option.some.injEq] at h; subst h; exact ⟨by kernel_rfl, by decide⟩
    · simp only [Option.some.injEq] at h; subst h; exact ⟨by kernel_rfl, by decide⟩
    · simp only [Option.some.injEq] at h; subst h; exact ⟨by kernel_rfl, by decide⟩
    · simp only [Option.some.injEq] at h; subst h; exact ⟨by kernel_rfl, by decide⟩
    · simp only [Option.some.injEq] at h; subst h; exact ⟨by kernel_rfl, by decide⟩
    · simp only [Option.some.injEq] at h; subst h; exact ⟨by kernel_rfl, by decide⟩
    · simp only [Option.some.injEq] at h; subst h; exact ⟨by kernel_rfl, by decide⟩
    · simp only [Option.some.injEq] at h; subst h; exact ⟨by kernel_rfl, by decide⟩
    · simp only [Option.some.injEq] at h; subst h; exact ⟨by kernel_rfl, by decide⟩
    · simp only [Option.some.injEq] at h; subst h; exact ⟨by kernel_rfl, by decide⟩
    · simp only [Option.some.injEq] at h; subst h; exact ⟨by kernel_rfl, by decide⟩
    · simp only [Option.some.injEq] at h; subst h; exact ⟨by kernel_rfl, by decide⟩
    · simp only [Option.some.injEq] at h; subst h; exact ⟨by kernel_rfl, by decide⟩
    · simp only [Option.some.injEq] at h; subst h; exact ⟨by kernel_rfl, by decide⟩
    · simp only [Option.some.injEq] at h; subst h; exact ⟨by kernel_rfl, by decide⟩
    · simp only [Option.some.injEq] at h; subst h; exact ⟨by kernel_rfl, by decide⟩
    · simp at h
  zv := by
    intro t z h
    simp only [BI] at h
    unfold zvT at h
    split at h
    · simp at h
  co := by
    intro t z h
    simp only [BI] at h
    unfold coT at h
    split at h
    · simp only [Option.some.injEq] at h; subst h; kernel_rfl
    · simp only [Option.some.injEq] at h; subst h; kernel_rfl
    · simp only [Option.some.injEq] at h; subst h; kernel_rfl
    · simp only [Option.some.injEq] at h; subst h; kernel_rfl
    · simp only [Option.some.injEq] at h; subst h; kernel_rfl
    · simp only [Option.some.injEq] at h; subst h; kernel_rfl
    · simp at h
theorem book_ok : IBookOK BI (plainBook Try.prog) := ⟨tab_ok, fun f l h => ⟨rfl, rfl, lf_ok (fns_ok f l h)⟩, fun f g h => by simp [BI] at h⟩
end Go.Proofs.Ytcdlipdeemlibaa.G
namespace Go.Proofs.Ytcdlipdeemlibaa.G
open Go
theorem pf_laid : (laidOutB Try.prog) = true := by kernel_rfl
theorem pf_maps : (mapsRowed Try.prog) = true := by kernel_rfl
theorem pf_stops : ((Try.prog.stops == [])) = true := by kernel_rfl
theorem pf_knobs : ((Try.prog.stopKnobs == [])) = true := by kernel_rfl
theorem pf_heard : (Try.prog.stopsHeard) = true := by kernel_rfl
theorem pf_enter : (Try.prog.mayEnter) = true := by kernel_rfl
end Go.Proofs.Ytcdlipdeemlibaa.G
