/- Joined: Q2a to Q4. -/
import Derived.Test.YticfcmaigffhmaaXI
import Derived.Test.YticfcmaigffhmaaChecked
import Derived.KernelRfl
import Derived.Test.YticfcmaigffhmaaRows
import Derived.SizedLaws
set_option linter.unusedVariables false
set_option linter.unusedSimpArgs false
namespace Go.Proofs.Yticfcmaigffhmaa.G
open Go
theorem lf_law20_ReplayOrder : lf Try.prog mdT 4 = some l_law20_ReplayOrder := by kernel_rfl
theorem lf_law20_awake : lf Try.prog mdT 5 = some l_law20_awake := by kernel_rfl
theorem lf_law20_few : lf Try.prog mdT 6 = some l_law20_few := by kernel_rfl
theorem lf_rules_Game_Start : lf Try.prog mdT 7 = some l_rules_Game_Start := by kernel_rfl
theorem lf_replay_New : lf Try.prog mdT 8 = some l_replay_New := by kernel_rfl
theorem lf_rules_Game_Step : lf Try.prog mdT 9 = some l_rules_Game_Step := by kernel_rfl
theorem lf_mask_Mask_Has : lf Try.prog mdT 10 = some l_mask_Mask_Has := by kernel_rfl
theorem lf_ref01_Same : lf Try.prog mdT 11 = some l_ref01_Same := by kernel_rfl
theorem lf_replay_Tape_Bytes : lf Try.prog mdT 12 = some l_replay_Tape_Bytes := by kernel_rfl
theorem lf_replay_Tape_Add : lf Try.prog mdT 13 = some l_replay_Tape_Add := by kernel_rfl
theorem lf_replay_Read : lf Try.prog mdT 14 = some l_replay_Read := by kernel_rfl
theorem lf_replay_Reel_Len : lf Try.prog mdT 15 = some l_replay_Reel_Len := by kernel_rfl
theorem lf_replay_Tape_Len : lf Try.prog mdT 16 = some l_replay_Tape_Len := by kernel_rfl
theorem lf_rules_Game_Right : lf Try.prog mdT 17 = some l_rules_Game_Right := by kernel_rfl
theorem lf_board_New : lf Try.prog mdT 18 = some l_board_New := by kernel_rfl
theorem lf_board_Board_Put : lf Try.prog mdT 19 = some l_board_Board_Put := by kernel_rfl
theorem lf_board_Board_Len : lf Try.prog mdT 20 = some l_board_Board_Len := by kernel_rfl
theorem lf_slices_Clone_Lboard_Cell_board_Cell : lf Try.prog mdT 21 = some l_slices_Clone_Lboard_Cell_board_Cell := by kernel_rfl
theorem lf_slices_Clone_Lcode_Code_code_Code : lf Try.prog mdT 22 = some l_slices_Clone_Lcode_Code_code_Code := by kernel_rfl
theorem lf_rules_State_View : lf Try.prog mdT 23 = some l_rules_State_View := by kernel_rfl
theorem lf_delta_Full : lf Try.prog mdT 24 = some l_delta_Full := by kernel_rfl
theorem lf_vm_Run : lf Try.prog mdT 25 = some l_vm_Run := by kernel_rfl
theorem lf_rules_Game_all : lf Try.prog mdT 26 = some l_rules_Game_all := by kernel_rfl
theorem lf_rules_Game_All : lf Try.prog mdT 27 = some l_rules_Game_All := by kernel_rfl
theorem lf_mask_one : lf Try.prog mdT 28 = some l_mask_one := by kernel_rfl
theorem lf_ink_Pen_Byte : lf Try.prog mdT 29 = some l_ink_Pen_Byte := by kernel_rfl
theorem lf_ink_Pen_Blob : lf Try.prog mdT 30 = some l_ink_Pen_Blob := by kernel_rfl
theorem lf_rules_Game_Bytes : lf Try.prog mdT 31 = some l_rules_Game_Bytes := by kernel_rfl
theorem lf_ink_Pen_Num : lf Try.prog mdT 32 = some l_ink_Pen_Num := by kernel_rfl
theorem lf_delta_Delta_Bytes : lf Try.prog mdT 33 = some l_delta_Delta_Bytes := by kernel_rfl
theorem lf_wax_Make : lf Try.prog mdT 34 = some l_wax_Make := by kernel_rfl
theorem lf_wax_Table_Seal : lf Try.prog mdT 35 = some l_wax_Table_Seal := by kernel_rfl
theorem lf_ink_Pen_Bytes : lf Try.prog mdT 36 = some l_ink_Pen_Bytes := by kernel_rfl
theorem lf_delta_Of : lf Try.prog mdT 37 = some l_delta_Of := by kernel_rfl
theorem lf_delta_Delta_Apply : lf Try.prog mdT 38 = some l_delta_Delta_Apply := by kernel_rfl
theorem lf_board_Board_View : lf Try.prog mdT 39 = some l_board_Board_View := by kernel_rfl
theorem lf_wax_Table_Open : lf Try.prog mdT 40 = some l_wax_Table_Open := by kernel_rfl
theorem lf_bytes_CutPrefix : lf Try.prog mdT 41 = some l_bytes_CutPrefix := by kernel_rfl
theorem lf_ink_Read : lf Try.prog mdT 42 = some l_ink_Read := by kernel_rfl
theorem lf_rules_Parse : lf Try.prog mdT 43 = some l_rules_Parse := by kernel_rfl
theorem lf_ink_Eye_Blob : lf Try.prog mdT 44 = some l_ink_Eye_Blob := by kernel_rfl
theorem lf_ink_Eye_Byte : lf Try.prog mdT 45 = some l_ink_Eye_Byte := by kernel_rfl
theorem lf_ink_Eye_Num : lf Try.prog mdT 46 = some l_ink_Eye_Num := by kernel_rfl
theorem lf_replay_Reel_follow : lf Try.prog mdT 47 = some l_replay_Reel_follow := by kernel_rfl
theorem lf_ink_Eye_Done : lf Try.prog mdT 48 = some l_ink_Eye_Done := by kernel_rfl
theorem lf_mask_Mask_Within : lf Try.prog mdT 49 = some l_mask_Mask_Within := by kernel_rfl
theorem lf_code_Right : lf Try.prog mdT 50 = some l_code_Right := by kernel_rfl
theorem lf_board_Board_there : lf Try.prog mdT 51 = some l_board_Board_there := by kernel_rfl
theorem lf_vm_Compute : lf Try.prog mdT 52 = some l_vm_Compute := by kernel_rfl
theorem lf_vm_machine_fail : lf Try.prog mdT 53 = some l_vm_machine_fail := by kernel_rfl
theorem lf_vm_machine_follow : lf Try.prog mdT 54 = some l_vm_machine_follow := by kernel_rfl
theorem lf_rules_Game_Legal : lf Try.prog mdT 55 = some l_rules_Game_Legal := by kernel_rfl
theorem lf_mask_All : lf Try.prog mdT 56 = some l_mask_All := by kernel_rfl
theorem lf_ink_Pen_add : lf Try.prog mdT 57 = some l_ink_Pen_add := by kernel_rfl
theorem lf_ink_Pen_Word : lf Try.prog mdT 58 = some l_ink_Pen_Word := by kernel_rfl
theorem lf_code_Bytes : lf Try.prog mdT 59 = some l_code_Bytes := by kernel_rfl
theorem lf_delta_Delta_right : lf Try.prog mdT 60 = some l_delta_Delta_right := by kernel_rfl
theorem lf_wax_Step : lf Try.prog mdT 61 = some l_wax_Step := by kernel_rfl
theorem lf_wax_Table_tail : lf Try.prog mdT 62 = some l_wax_Table_tail := by kernel_rfl
end Go.Proofs.Yticfcmaigffhmaa.G
namespace Go.Proofs.Yticfcmaigffhmaa.G
open Go
theorem lf_bytes_Clone : lf Try.prog mdT 63 = some l_bytes_Clone := by kernel_rfl
theorem lf_board_Board_Hash : lf Try.prog mdT 64 = some l_board_Board_Hash := by kernel_rfl
theorem lf_board_Board_At : lf Try.prog mdT 65 = some l_board_Board_At := by kernel_rfl
theorem lf_bytes_HasPrefix : lf Try.prog mdT 66 = some l_bytes_HasPrefix := by kernel_rfl
theorem lf_ink_Eye_Word : lf Try.prog mdT 67 = some l_ink_Eye_Word := by kernel_rfl
theorem lf_code_Parse : lf Try.prog mdT 68 = some l_code_Parse := by kernel_rfl
theorem lf_ink_Eye_wrong : lf Try.prog mdT 69 = some l_ink_Eye_wrong := by kernel_rfl
theorem lf_ink_Eye_fail : lf Try.prog mdT 70 = some l_ink_Eye_fail := by kernel_rfl
theorem lf_ink_Eye_take : lf Try.prog mdT 71 = some l_ink_Eye_take := by kernel_rfl
theorem lf_delta_Parse : lf Try.prog mdT 72 = some l_delta_Parse := by kernel_rfl
theorem lf_delta_Delta_Board : lf Try.prog mdT 73 = some l_delta_Delta_Board := by kernel_rfl
theorem lf_code_Check : lf Try.prog mdT 74 = some l_code_Check := by kernel_rfl
theorem lf_vm_divided : lf Try.prog mdT 75 = some l_vm_divided := by kernel_rfl
theorem lf_vm_one : lf Try.prog mdT 76 = some l_vm_one := by kernel_rfl
theorem lf_vm_machine_load : lf Try.prog mdT 77 = some l_vm_machine_load := by kernel_rfl
theorem lf_vm_machine_store : lf Try.prog mdT 78 = some l_vm_machine_store := by kernel_rfl
theorem lf_mask_Mask_Meet : lf Try.prog mdT 79 = some l_mask_Mask_Meet := by kernel_rfl
theorem lf_vm_machine_open : lf Try.prog mdT 80 = some l_vm_machine_open := by kernel_rfl
theorem lf_mask_Of : lf Try.prog mdT 81 = some l_mask_Of := by kernel_rfl
theorem lf_dice_Dice_Below : lf Try.prog mdT 82 = some l_dice_Dice_Below := by kernel_rfl
theorem lf_vm_machine_reach : lf Try.prog mdT 83 = some l_vm_machine_reach := by kernel_rfl
theorem lf_ink_Pen_Half : lf Try.prog mdT 84 = some l_ink_Pen_Half := by kernel_rfl
theorem lf_wax_Table_Sum : lf Try.prog mdT 85 = some l_wax_Table_Sum := by kernel_rfl
theorem lf_board_Board_sum : lf Try.prog mdT 86 = some l_board_Board_sum := by kernel_rfl
theorem lf_bytes_Equal : lf Try.prog mdT 87 = some l_bytes_Equal := by kernel_rfl
theorem lf_code_uses : lf Try.prog mdT 88 = some l_code_uses := by kernel_rfl
theorem lf_code_right : lf Try.prog mdT 89 = some l_code_right := by kernel_rfl
theorem lf_mask_Mask_With : lf Try.prog mdT 90 = some l_mask_Mask_With := by kernel_rfl
theorem lf_dice_Dice_Next : lf Try.prog mdT 91 = some l_dice_Dice_Next := by kernel_rfl
theorem lf_vm_machine_index : lf Try.prog mdT 92 = some l_vm_machine_index := by kernel_rfl
theorem lf_vm_machine_reveal : lf Try.prog mdT 93 = some l_vm_machine_reveal := by kernel_rfl
theorem lf_vm_machine_shuffle : lf Try.prog mdT 94 = some l_vm_machine_shuffle := by kernel_rfl
theorem lf_code_register : lf Try.prog mdT 95 = some l_code_register := by kernel_rfl
theorem lf_dice_mixed : lf Try.prog mdT 96 = some l_dice_mixed := by kernel_rfl
theorem lf_mask_Mask_Less : lf Try.prog mdT 97 = some l_mask_Mask_Less := by kernel_rfl
theorem lf_board_Board_Show : lf Try.prog mdT 98 = some l_board_Board_Show := by kernel_rfl
theorem lf_dice_Dice_Shuffle : lf Try.prog mdT 99 = some l_dice_Dice_Shuffle := by kernel_rfl
theorem lf_mask_Mask_Join : lf Try.prog mdT 100 = some l_mask_Mask_Join := by kernel_rfl
theorem lf_slices_Clone_Lint32_int32 : lf Try.prog mdT 101 = some l_slices_Clone_Lint32_int32 := by kernel_rfl
end Go.Proofs.Yticfcmaigffhmaa.G
namespace Go.Proofs.Yticfcmaigffhmaa.G
open Go
set_option maxRecDepth 10000
theorem fns_ok : ∀ f l, fnT f = some l → lf Try.prog mdT f = some l := fun f l h => lkF_all (q := fun f l => lf Try.prog mdT f = some l) (L := fnL) ⟨lf_law20_ReplayOrder, lf_law20_awake, lf_law20_few, lf_rules_Game_Start, lf_replay_New, lf_rules_Game_Step, lf_mask_Mask_Has, lf_ref01_Same, lf_replay_Tape_Bytes, lf_replay_Tape_Add, lf_replay_Read, lf_replay_Reel_Len, lf_replay_Tape_Len, lf_rules_Game_Right, lf_board_New, lf_board_Board_Put, lf_board_Board_Len, lf_slices_Clone_Lboard_Cell_board_Cell, lf_slices_Clone_Lcode_Code_code_Code, lf_rules_State_View, lf_delta_Full, lf_vm_Run, lf_rules_Game_all, lf_rules_Game_All, lf_mask_one, lf_ink_Pen_Byte, lf_ink_Pen_Blob, lf_rules_Game_Bytes, lf_ink_Pen_Num, lf_delta_Delta_Bytes, lf_wax_Make, lf_wax_Table_Seal, lf_ink_Pen_Bytes, lf_delta_Of, lf_delta_Delta_Apply, lf_board_Board_View, lf_wax_Table_Open, lf_bytes_CutPrefix, lf_ink_Read, lf_rules_Parse, lf_ink_Eye_Blob, lf_ink_Eye_Byte, lf_ink_Eye_Num, lf_replay_Reel_follow, lf_ink_Eye_Done, lf_mask_Mask_Within, lf_code_Right, lf_board_Board_there, lf_vm_Compute, lf_vm_machine_fail, lf_vm_machine_follow, lf_rules_Game_Legal, lf_mask_All, lf_ink_Pen_add, lf_ink_Pen_Word, lf_code_Bytes, lf_delta_Delta_right, lf_wax_Step, lf_wax_Table_tail, lf_bytes_Clone, lf_board_Board_Hash, lf_board_Board_At, lf_bytes_HasPrefix, lf_ink_Eye_Word, lf_code_Parse, lf_ink_Eye_wrong, lf_ink_Eye_fail, lf_ink_Eye_take, lf_delta_Parse, lf_delta_Delta_Board, lf_code_Check, lf_vm_divided, lf_vm_one, lf_vm_machine_load, lf_vm_machine_store, lf_mask_Mask_Meet, lf_vm_machine_open, lf_mask_Of, lf_dice_Dice_Below, lf_vm_machine_reach, lf_ink_Pen_Half, lf_wax_Table_Sum, lf_board_Board_sum, lf_bytes_Equal, lf_code_uses, lf_code_right, lf_mask_Mask_With, lf_dice_Dice_Next, lf_vm_machine_index, lf_vm_machine_reveal, lf_vm_machine_shuffle, lf_code_register, lf_dice_mixed, lf_mask_Mask_Less, lf_board_Board_Show, lf_dice_Dice_Shuffle, lf_mask_Mask_Join, lf_slices_Clone_Lint32_int32, trivial⟩ h
theorem tab_ok : TabOK BI Try.prog where
  zc := by
    intro t z h
    simp only [BI] at h
    unfold zcT at h
    split at h
    · simp only [Option.some.injEq] at h; subst h; exact ⟨by kernel_rfl, by decide⟩
    · simp only [Option.some.injEq] at h; subst h; exact ⟨by kernel_rfl, by decide⟩
    · simp only [Option.some.injEq] at h; subst h; exact ⟨by kernel_rfl, by decide⟩
    · simp only [Option.some.injEq] at h; subst h; exact ⟨by kernel_rfl, by decide⟩
    · simp only [Option.some.injEq] at h; subst h; exact ⟨by kernel_rfl, by decide⟩
    · simp only [Option.some.injEq] at h; subst h; exact ⟨by kernel_rfl, by decide⟩
    · simp only [Option.some.injEq] at h; subst h; exact ⟨by kernel_rfl, by decide⟩
    · simp only [Option.some.injEq] at h; subst h; exact ⟨by kernel_rfl, by decide⟩
    · simp only [Option.some.injEq] at h; subst h; exact ⟨by kernel_rfl, by decide⟩
    · simp only [Option.some.injEq] at h; subst h; exact ⟨by kernel_rfl, by decide⟩
    · simp only [Option.some.injEq] at h; subst h; exact ⟨by kernel_rfl, by decide⟩
    · simp only [Option.some.injEq] at h; subst h; exact ⟨by kernel_rfl, by decide⟩
    · simp only [Option.some.injEq] at h; subst h; exact ⟨by kernel_rfl, by decide⟩
    · simp only [Option.some.injEq] at h; subst h; exact ⟨by kernel_rfl, by decide⟩
    · simp only [Option.some.injEq] at h; subst h; exact ⟨by kernel_rfl, by decide⟩
    · simp only [Option.some.injEq] at h; subst h; exact ⟨by kernel_rfl, by decide⟩
    · simp only [Option.some.injEq] at h; subst h; exact ⟨by kernel_rfl, by decide⟩
    · simp only [Option.some.injEq] at h; subst h; exact ⟨by kernel_rfl, by decide⟩
    · simp only [Option.some.injEq] at h; subst h; exact ⟨by kernel_rfl, by decide⟩
    · simp only [Option.some.injEq] at h; subst h; exact ⟨by kernel_rfl, by decide⟩
    · simp only [Option.some.injEq] at h; subst h; exact ⟨by kernel_rfl, by decide⟩
    · simp only [Option.some.injEq] at h; subst h; exact ⟨by kernel_rfl, by decide⟩
    · simp only [Option.some.injEq] at h; subst h; exact ⟨by kernel_rfl, by decide⟩
    · simp only [Option.some.injEq] at h; subst h; exact ⟨by kernel_rfl, by decide⟩
    · simp only [Option.some.injEq] at h; subst h; exact ⟨by kernel_rfl, by decide⟩
    · simp at h
  zv := by
    intro t z h
    simp only [BI] at h
    unfold zvT at h
    split at h
    · simp at h
  co := by
    intro t z h
    simp only [BI] at h
    unfold coT at h
    split at h
    · simp only [Option.some.injEq] at h; subst h; kernel_rfl
    · simp only [Option.some.injEq] at h; subst h; kernel_rfl
    · simp at h
theorem book_ok : IBookOK BI (plainBook Try.prog) := ⟨tab_ok, fun f l h => ⟨rfl, rfl, lf_ok (fns_ok f l h)⟩, fun f g h => by simp [BI, givIL, gvL] at h⟩
theorem bookG_ok : BookOK (plainBook Try.prog) := plainBook_ok _
end Go.Proofs.Yticfcmaigffhmaa.G
namespace Go.Proofs.Yticfcmaigffhmaa.G
open Go
theorem pf_laid : (laidOutB Try.prog) = true := by kernel_rfl
theorem pf_maps : (mapsRowed Try.prog) = true := by kernel_rfl
theorem pf_stops : ((Try.prog.stops == [])) = true := by kernel_rfl
theorem pf_knobs : ((Try.prog.stopKnobs == [])) = true := by kernel_rfl
theorem pf_heard : (Try.prog.stopsHeard) = true := by kernel_rfl
theorem pf_enter : (Try.prog.mayEnter) = true := by kernel_rfl
end Go.Proofs.Yticfcmaigffhmaa.G
