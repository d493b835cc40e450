/- Joined: Q2a to Q4. -/
import Derived.Test.YticfcmaigffhmaaGreatXI
import Derived.Test.YticfcmaigffhmaaGreatChecked
import Derived.KernelRfl
import Derived.Test.YticfcmaigffhmaaGreatRows
import Derived.SizedLaws
set_option linter.unusedVariables false
set_option linter.unusedSimpArgs false
set_option maxRecDepth 20000
set_option maxHeartbeats 2000000
namespace Go.Proofs.YticfcmaigffhmaaGreat.G
open Go
theorem lf_law20_ReplayShows : lf Tryz.prog mdT 3 = some l_law20_ReplayShows := by kernel_rfl
theorem lf_law20_awake : lf Tryz.prog mdT 6 = some l_law20_awake := by kernel_rfl
theorem lf_law20_few : lf Tryz.prog mdT 7 = some l_law20_few := by kernel_rfl
theorem lf_rules_Game_Start : lf Tryz.prog mdT 8 = some l_rules_Game_Start := by kernel_rfl
theorem lf_replay_New : lf Tryz.prog mdT 9 = some l_replay_New := by kernel_rfl
theorem lf_rules_Game_Step : lf Tryz.prog mdT 10 = some l_rules_Game_Step := by kernel_rfl
theorem lf_replay_Tape_Add : lf Tryz.prog mdT 11 = some l_replay_Tape_Add := by kernel_rfl
theorem lf_replay_Tape_Bytes : lf Tryz.prog mdT 12 = some l_replay_Tape_Bytes := by kernel_rfl
theorem lf_ref02_Turned : lf Tryz.prog mdT 13 = some l_ref02_Turned := by kernel_rfl
theorem lf_replay_Read : lf Tryz.prog mdT 14 = some l_replay_Read := by kernel_rfl
theorem lf_ref01_Same : lf Tryz.prog mdT 15 = some l_ref01_Same := by kernel_rfl
theorem lf_ref01_Cut : lf Tryz.prog mdT 16 = some l_ref01_Cut := by kernel_rfl
theorem lf_ref02_Seal : lf Tryz.prog mdT 17 = some l_ref02_Seal := by kernel_rfl
theorem lf_ref01_Join : lf Tryz.prog mdT 18 = some l_ref01_Join := by kernel_rfl
theorem lf_replay_Reel_View : lf Tryz.prog mdT 19 = some l_replay_Reel_View := by kernel_rfl
theorem lf_replay_Reel_Game : lf Tryz.prog mdT 20 = some l_replay_Reel_Game := by kernel_rfl
theorem lf_replay_Reel_Observer : lf Tryz.prog mdT 21 = some l_replay_Reel_Observer := by kernel_rfl
theorem lf_replay_Reel_Len : lf Tryz.prog mdT 22 = some l_replay_Reel_Len := by kernel_rfl
theorem lf_replay_Tape_Len : lf Tryz.prog mdT 23 = some l_replay_Tape_Len := by kernel_rfl
theorem lf_rules_State_View : lf Tryz.prog mdT 27 = some l_rules_State_View := by kernel_rfl
theorem lf_board_Board_Len : lf Tryz.prog mdT 33 = some l_board_Board_Len := by kernel_rfl
theorem lf_board_Board_At : lf Tryz.prog mdT 34 = some l_board_Board_At := by kernel_rfl
theorem lf_rules_Game_Right : lf Tryz.prog mdT 35 = some l_rules_Game_Right := by kernel_rfl
theorem lf_board_New : lf Tryz.prog mdT 36 = some l_board_New := by kernel_rfl
theorem lf_board_Board_Put : lf Tryz.prog mdT 37 = some l_board_Board_Put := by kernel_rfl
theorem lf_slices_Clone_Lboard_Cell_board_Cell : lf Tryz.prog mdT 38 = some l_slices_Clone_Lboard_Cell_board_Cell := by kernel_rfl
theorem lf_slices_Clone_Lcode_Code_code_Code : lf Tryz.prog mdT 39 = some l_slices_Clone_Lcode_Code_code_Code := by kernel_rfl
theorem lf_delta_Full : lf Tryz.prog mdT 40 = some l_delta_Full := by kernel_rfl
theorem lf_vm_Run : lf Tryz.prog mdT 41 = some l_vm_Run := by kernel_rfl
theorem lf_rules_Game_all : lf Tryz.prog mdT 42 = some l_rules_Game_all := by kernel_rfl
theorem lf_rules_Game_All : lf Tryz.prog mdT 43 = some l_rules_Game_All := by kernel_rfl
theorem lf_delta_Of : lf Tryz.prog mdT 44 = some l_delta_Of := by kernel_rfl
theorem lf_delta_Delta_Apply : lf Tryz.prog mdT 45 = some l_delta_Delta_Apply := by kernel_rfl
theorem lf_board_Board_View : lf Tryz.prog mdT 46 = some l_board_Board_View := by kernel_rfl
theorem lf_ink_Pen_Byte : lf Tryz.prog mdT 47 = some l_ink_Pen_Byte := by kernel_rfl
theorem lf_ink_Pen_Blob : lf Tryz.prog mdT 48 = some l_ink_Pen_Blob := by kernel_rfl
theorem lf_rules_Game_Bytes : lf Tryz.prog mdT 49 = some l_rules_Game_Bytes := by kernel_rfl
theorem lf_ink_Pen_Num : lf Tryz.prog mdT 50 = some l_ink_Pen_Num := by kernel_rfl
theorem lf_delta_Delta_Bytes : lf Tryz.prog mdT 51 = some l_delta_Delta_Bytes := by kernel_rfl
theorem lf_wax_Make : lf Tryz.prog mdT 52 = some l_wax_Make := by kernel_rfl
theorem lf_wax_Table_Seal : lf Tryz.prog mdT 53 = some l_wax_Table_Seal := by kernel_rfl
theorem lf_ink_Pen_Bytes : lf Tryz.prog mdT 54 = some l_ink_Pen_Bytes := by kernel_rfl
theorem lf_wax_Table_Open : lf Tryz.prog mdT 55 = some l_wax_Table_Open := by kernel_rfl
theorem lf_bytes_CutPrefix : lf Tryz.prog mdT 56 = some l_bytes_CutPrefix := by kernel_rfl
theorem lf_ink_Read : lf Tryz.prog mdT 57 = some l_ink_Read := by kernel_rfl
theorem lf_rules_Parse : lf Tryz.prog mdT 58 = some l_rules_Parse := by kernel_rfl
theorem lf_ink_Eye_Blob : lf Tryz.prog mdT 59 = some l_ink_Eye_Blob := by kernel_rfl
theorem lf_ink_Eye_Byte : lf Tryz.prog mdT 60 = some l_ink_Eye_Byte := by kernel_rfl
theorem lf_ink_Eye_Num : lf Tryz.prog mdT 61 = some l_ink_Eye_Num := by kernel_rfl
theorem lf_replay_Reel_follow : lf Tryz.prog mdT 62 = some l_replay_Reel_follow := by kernel_rfl
theorem lf_ink_Eye_Done : lf Tryz.prog mdT 63 = some l_ink_Eye_Done := by kernel_rfl
theorem lf_ref01_Low : lf Tryz.prog mdT 64 = some l_ref01_Low := by kernel_rfl
theorem lf_ref02_Sum : lf Tryz.prog mdT 65 = some l_ref02_Sum := by kernel_rfl
theorem lf_board_Board_there : lf Tryz.prog mdT 77 = some l_board_Board_there := by kernel_rfl
theorem lf_mask_Mask_Within : lf Tryz.prog mdT 78 = some l_mask_Mask_Within := by kernel_rfl
theorem lf_code_Right : lf Tryz.prog mdT 79 = some l_code_Right := by kernel_rfl
theorem lf_vm_Compute : lf Tryz.prog mdT 80 = some l_vm_Compute := by kernel_rfl
theorem lf_vm_machine_fail : lf Tryz.prog mdT 81 = some l_vm_machine_fail := by kernel_rfl
theorem lf_vm_machine_follow : lf Tryz.prog mdT 82 = some l_vm_machine_follow := by kernel_rfl
theorem lf_rules_Game_Legal : lf Tryz.prog mdT 83 = some l_rules_Game_Legal := by kernel_rfl
theorem lf_mask_All : lf Tryz.prog mdT 84 = some l_mask_All := by kernel_rfl
theorem lf_board_Board_Hash : lf Tryz.prog mdT 85 = some l_board_Board_Hash := by kernel_rfl
theorem lf_mask_Mask_Has : lf Tryz.prog mdT 86 = some l_mask_Mask_Has := by kernel_rfl
theorem lf_ink_Pen_add : lf Tryz.prog mdT 87 = some l_ink_Pen_add := by kernel_rfl
theorem lf_ink_Pen_Word : lf Tryz.prog mdT 88 = some l_ink_Pen_Word := by kernel_rfl
theorem lf_code_Bytes : lf Tryz.prog mdT 89 = some l_code_Bytes := by kernel_rfl
theorem lf_delta_Delta_right : lf Tryz.prog mdT 90 = some l_delta_Delta_right := by kernel_rfl
theorem lf_wax_Step : lf Tryz.prog mdT 91 = some l_wax_Step := by kernel_rfl
theorem lf_wax_Table_tail : lf Tryz.prog mdT 92 = some l_wax_Table_tail := by kernel_rfl
theorem lf_bytes_Clone : lf Tryz.prog mdT 93 = some l_bytes_Clone := by kernel_rfl
theorem lf_bytes_HasPrefix : lf Tryz.prog mdT 94 = some l_bytes_HasPrefix := by kernel_rfl
theorem lf_ink_Eye_Word : lf Tryz.prog mdT 95 = some l_ink_Eye_Word := by kernel_rfl
theorem lf_code_Parse : lf Tryz.prog mdT 96 = some l_code_Parse := by kernel_rfl
theorem lf_ink_Eye_wrong : lf Tryz.prog mdT 97 = some l_ink_Eye_wrong := by kernel_rfl
theorem lf_ink_Eye_fail : lf Tryz.prog mdT 98 = some l_ink_Eye_fail := by kernel_rfl
theorem lf_ink_Eye_take : lf Tryz.prog mdT 99 = some l_ink_Eye_take := by kernel_rfl
theorem lf_delta_Parse : lf Tryz.prog mdT 100 = some l_delta_Parse := by kernel_rfl
theorem lf_delta_Delta_Board : lf Tryz.prog mdT 101 = some l_delta_Delta_Board := by kernel_rfl
theorem lf_code_Check : lf Tryz.prog mdT 108 = some l_code_Check := by kernel_rfl
theorem lf_vm_divided : lf Tryz.prog mdT 109 = some l_vm_divided := by kernel_rfl
theorem lf_vm_one : lf Tryz.prog mdT 110 = some l_vm_one := by kernel_rfl
theorem lf_vm_machine_load : lf Tryz.prog mdT 111 = some l_vm_machine_load := by kernel_rfl
theorem lf_vm_machine_store : lf Tryz.prog mdT 112 = some l_vm_machine_store := by kernel_rfl
theorem lf_mask_Mask_Meet : lf Tryz.prog mdT 113 = some l_mask_Mask_Meet := by kernel_rfl
theorem lf_vm_machine_open : lf Tryz.prog mdT 114 = some l_vm_machine_open := by kernel_rfl
theorem lf_mask_Of : lf Tryz.prog mdT 115 = some l_mask_Of := by kernel_rfl
theorem lf_dice_Dice_Below : lf Tryz.prog mdT 116 = some l_dice_Dice_Below := by kernel_rfl
theorem lf_vm_machine_reach : lf Tryz.prog mdT 117 = some l_vm_machine_reach := by kernel_rfl
theorem lf_board_Board_sum : lf Tryz.prog mdT 118 = some l_board_Board_sum := by kernel_rfl
theorem lf_mask_one : lf Tryz.prog mdT 119 = some l_mask_one := by kernel_rfl
theorem lf_ink_Pen_Half : lf Tryz.prog mdT 120 = some l_ink_Pen_Half := by kernel_rfl
theorem lf_wax_Table_Sum : lf Tryz.prog mdT 121 = some l_wax_Table_Sum := by kernel_rfl
theorem lf_bytes_Equal : lf Tryz.prog mdT 122 = some l_bytes_Equal := by kernel_rfl
theorem lf_code_uses : lf Tryz.prog mdT 124 = some l_code_uses := by kernel_rfl
theorem lf_code_right : lf Tryz.prog mdT 125 = some l_code_right := by kernel_rfl
theorem lf_mask_Mask_With : lf Tryz.prog mdT 126 = some l_mask_Mask_With := by kernel_rfl
theorem lf_dice_Dice_Next : lf Tryz.prog mdT 127 = some l_dice_Dice_Next := by kernel_rfl
theorem lf_vm_machine_index : lf Tryz.prog mdT 128 = some l_vm_machine_index := by kernel_rfl
theorem lf_vm_machine_reveal : lf Tryz.prog mdT 129 = some l_vm_machine_reveal := by kernel_rfl
theorem lf_vm_machine_shuffle : lf Tryz.prog mdT 130 = some l_vm_machine_shuffle := by kernel_rfl
theorem lf_code_register : lf Tryz.prog mdT 131 = some l_code_register := by kernel_rfl
theorem lf_dice_mixed : lf Tryz.prog mdT 132 = some l_dice_mixed := by kernel_rfl
theorem lf_mask_Mask_Less : lf Tryz.prog mdT 133 = some l_mask_Mask_Less := by kernel_rfl
theorem lf_board_Board_Show : lf Tryz.prog mdT 134 = some l_board_Board_Show := by kernel_rfl
theorem lf_dice_Dice_Shuffle : lf Tryz.prog mdT 135 = some l_dice_Dice_Shuffle := by kernel_rfl
theorem lf_mask_Mask_Join : lf Tryz.prog mdT 136 = some l_mask_Mask_Join := by kernel_rfl
theorem lf_slices_Clone_Lint32_int32 : lf Tryz.prog mdT 137 = some l_slices_Clone_Lint32_int32 := by kernel_rfl
set_option maxRecDepth 10000
theorem fns_ok : ∀ f l, fnT f = some l → lf Tryz.prog mdT f = some l := fun f l h => lkF_all (q := fun f l => lf Tryz.prog mdT f = some l) (L := fnL) ⟨lf_law20_ReplayShows, lf_law20_awake, lf_law20_few, lf_rules_Game_Start, lf_replay_New, lf_rules_Game_Step, lf_replay_Tape_Add, lf_replay_Tape_Bytes, lf_ref02_Turned, lf_replay_Read, lf_ref01_Same, lf_ref01_Cut, lf_ref02_Seal, lf_ref01_Join, lf_replay_Reel_View, lf_replay_Reel_Game, lf_replay_Reel_Observer, lf_replay_Reel_Len, lf_replay_Tape_Len, lf_rules_State_View, lf_board_Board_Len, lf_board_Board_At, lf_rules_Game_Right, lf_board_New, lf_board_Board_Put, lf_slices_Clone_Lboard_Cell_board_Cell, lf_slices_Clone_Lcode_Code_code_Code, lf_delta_Full, lf_vm_Run, lf_rules_Game_all, lf_rules_Game_All, lf_delta_Of, lf_delta_Delta_Apply, lf_board_Board_View, lf_ink_Pen_Byte, lf_ink_Pen_Blob, lf_rules_Game_Bytes, lf_ink_Pen_Num, lf_delta_Delta_Bytes, lf_wax_Make, lf_wax_Table_Seal, lf_ink_Pen_Bytes, lf_wax_Table_Open, lf_bytes_CutPrefix, lf_ink_Read, lf_rules_Parse, lf_ink_Eye_Blob, lf_ink_Eye_Byte, lf_ink_Eye_Num, lf_replay_Reel_follow, lf_ink_Eye_Done, lf_ref01_Low, lf_ref02_Sum, lf_board_Board_there, lf_mask_Mask_Within, lf_code_Right, lf_vm_Compute, lf_vm_machine_fail, lf_vm_machine_follow, lf_rules_Game_Legal, lf_mask_All, lf_board_Board_Hash, lf_mask_Mask_Has, lf_ink_Pen_add, lf_ink_Pen_Word, lf_code_Bytes, lf_delta_Delta_right, lf_wax_Step, lf_wax_Table_tail, lf_bytes_Clone, lf_bytes_HasPrefix, lf_ink_Eye_Word, lf_code_Parse, lf_ink_Eye_wrong, lf_ink_Eye_fail, lf_ink_Eye_take, lf_delta_Parse, lf_delta_Delta_Board, lf_code_Check, lf_vm_divided, lf_vm_one, lf_vm_machine_load, lf_vm_machine_store, lf_mask_Mask_Meet, lf_vm_machine_open, lf_mask_Of, lf_dice_Dice_Below, lf_vm_machine_reach, lf_board_Board_sum, lf_mask_one, lf_ink_Pen_Half, lf_wax_Table_Sum, lf_bytes_Equal, lf_code_uses, lf_code_right, lf_mask_Mask_With, lf_dice_Dice_Next, lf_vm_machine_index, lf_vm_machine_reveal, lf_vm_machine_shuffle, lf_code_register, lf_dice_mixed, lf_mask_Mask_Less, lf_board_Board_Show, lf_dice_Dice_Shuffle, lf_mask_Mask_Join, lf_slices_Clone_Lint32_int32, trivial⟩ h
theorem tab_ok : TabOK BI Tryz.prog where
 zc := by
  intro t z h
  simp only [BI] at h
  unfold zcT at h
  split at h
  ·simp only [Option.some.injEq] at h; subst h; exact ⟨by kernel_rfl, by decide⟩
  ·simp only [Option.some.injEq] at h; subst h; exact ⟨by kernel_rfl, by decide⟩
  ·simp only [Option.some.injEq] at h; subst h; exact ⟨by kernel_rfl, by decide⟩
  ·simp only [Option.some.injEq] at h; subst h; exact ⟨by kernel_rfl, by decide⟩
  ·simp only [Option.some.injEq] at h; subst h; exact ⟨by kernel_rfl, by decide⟩
  ·simp only [Option.some.injEq] at h; subst h; exact ⟨by kernel_rfl, by decide⟩
  ·simp only [Option.some.injEq] at h; subst h; exact ⟨by kernel_rfl, by decide⟩
  ·simp only [Option.some.injEq] at h; subst h; exact ⟨by kernel_rfl, by decide⟩
  ·simp only [Option.some.injEq] at h; subst h; exact ⟨by kernel_rfl, by decide⟩
  ·simp only [Option.some.injEq] at h; subst h; exact ⟨by kernel_rfl, by decide⟩
  ·simp only [Option.some.injEq] at h; subst h; exact ⟨by kernel_rfl, by decide⟩
  ·simp only [Option.some.injEq] at h; subst h; exact ⟨by kernel_rfl, by decide⟩
  ·simp only [Option.some.injEq] at h; subst h; exact ⟨by kernel_rfl, by decide⟩
  ·simp only [Option.some.injEq] at h; subst h; exact ⟨by kernel_rfl, by decide⟩
  ·simp only [Option.some.injEq] at h; subst h; exact ⟨by kernel_rfl, by decide⟩
  ·simp only [Option.some.injEq] at h; subst h; exact ⟨by kernel_rfl, by decide⟩
  ·simp only [Option.some.injEq] at h; subst h; exact ⟨by kernel_rfl, by decide⟩
  ·simp only [Option.some.injEq] at h; subst h; exact ⟨by kernel_rfl, by decide⟩
  ·simp only [Option.some.injEq] at h; subst h; exact ⟨by kernel_rfl, by decide⟩
  ·simp only [Option.some.injEq] at h; subst h; exact ⟨by kernel_rfl, by decide⟩
  ·simp only [Option.some.injEq] at h; subst h; exact ⟨by kernel_rfl, by decide⟩
  ·simp only [Option.some.injEq] at h; subst h; exact ⟨by kernel_rfl, by decide⟩
  ·simp only [Option.some.injEq] at h; subst h; exact ⟨by kernel_rfl, by decide⟩
  ·simp only [Option.some.injEq] at h; subst h; exact ⟨by kernel_rfl, by decide⟩
  ·simp only [Option.some.injEq] at h; subst h; exact ⟨by kernel_rfl, by decide⟩
  ·simp only [Option.some.injEq] at h; subst h; exact ⟨by kernel_rfl, by decide⟩
  ·simp only [Option.some.injEq] at h; subst h; exact ⟨by kernel_rfl, by decide⟩
  ·simp only [Option.some.injEq] at h; subst h; exact ⟨by kernel_rfl, by decide⟩
  ·simp only [Option.some.injEq] at h; subst h; exact ⟨by kernel_rfl, by decide⟩
  ·simp only [Option.some.injEq] at h; subst h; exact ⟨by kernel_rfl, by decide⟩
  ·simp only [Option.some.injEq] at h; subst h; exact ⟨by kernel_rfl, by decide⟩
  ·simp only [Option.some.injEq] at h; subst h; exact ⟨by kernel_rfl, by decide⟩
  ·simp at h
 zv := by
  intro t z h
  simp only [BI] at h
  unfold zvT at h
  split at h
  ·simp at h
 co := by
  intro t z h
  simp only [BI] at h
  unfold coT at h
  split at h
  ·simp only [Option.some.injEq] at h; subst h; kernel_rfl
  ·simp only [Option.some.injEq] at h; subst h; kernel_rfl
  ·simp only [Option.some.injEq] at h; subst h; kernel_rfl
  ·simp only [Option.some.injEq] at h; subst h; kernel_rfl
  ·simp only [Option.some.injEq] at h; subst h; kernel_rfl
  ·simp only [Option.some.injEq] at h; subst h; kernel_rfl
  ·simp at h
theorem book_ok : IBookOK BI (plainBook Tryz.prog) := ⟨tab_ok, fun f l h => ⟨rfl, rfl, lf_ok (fns_ok f l h)⟩, fun f g h => by simp [BI, givIL, gvL] at h⟩
theorem bookG_ok : BookOK (plainBook Tryz.prog) := plainBook_ok _
theorem pf_laid : (laidOutB Tryz.prog) = true := by kernel_rfl
theorem pf_maps : (mapsRowed Tryz.prog) = true := by kernel_rfl
theorem pf_stops : ((Tryz.prog.stops == [])) = true := by kernel_rfl
theorem pf_knobs : ((Tryz.prog.stopKnobs == [])) = true := by kernel_rfl
theorem pf_heard : (Tryz.prog.stopsHeard) = true := by kernel_rfl
theorem pf_enter : (Tryz.prog.mayEnter) = true := by kernel_rfl
end Go.Proofs.YticfcmaigffhmaaGreat.G
