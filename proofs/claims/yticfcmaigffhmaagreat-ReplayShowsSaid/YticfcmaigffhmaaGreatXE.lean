/- Joined: Q0 to Q1. -/
import Derived.Test.YticfcmaigffhmaaGreatXD
import Derived.KernelRfl
set_option linter.unusedVariables false
set_option linter.unusedSimpArgs false
set_option maxRecDepth 20000
set_option maxHeartbeats 2000000
namespace Go.Proofs.YticfcmaigffhmaaGreat.G
open Go
def o (p : SOp) (k : L) : L := .op ⟨none, p, .raw, []⟩ k
def om (md : Md) (p : SOp) (k : L) : L := .op ⟨none, p, md, []⟩ k
def oc (g : Option (Operand × Bool)) (p : SOp) (md : Md) (chk : List (Option (Operand × Bool) × SOp)) (k : L) : L := .op ⟨g, p, md, chk⟩ k
def thenI (r : Option (IV × JH)) (k : IV → JH → Option (Out IV × JH)) : Option (Out IV × JH) := match r with | some (v, J) => k v J | none => none
def onJoin (l : Nat) (r : Option (Out IV × JH)) (k : List IV → JH → Option (Out IV × JH)) : Option (Out IV × JH) := match r with
 | some (.goto j vs, J) => if j = l then k vs J else some (.goto j vs, J)
 | r => r
def onIf (v : IV) (a b : Option (Out IV × JH)) : Option (Out IV × JH) := match v with | .sc (.bool t) => if t = true then a else b | _ => none
def lkF : List (FuncId × LFn) → FuncId → Option LFn
 | [], _ => none
 | (k, l) :: r, f => if f = k then some l else lkF r f
def allF (q : FuncId → LFn → Prop) : List (FuncId × LFn) → Prop
 | [] => True
 | p :: r => q p.1 p.2 ∧ allF q r
theorem lkF_all {q : FuncId → LFn → Prop} : ∀ {L : List (FuncId × LFn)} {f : FuncId} {l : LFn}, allF q L → lkF L f = some l → q f l
 | [], f, l, _, h => by simp [lkF] at h
 | (k, m) :: r, f, l, ha, h => by
  simp only [lkF] at h
  split at h
  ·rename_i he
   subst he
   simp only [Option.some.injEq] at h
   subst h
   exact ha.1
  ·exact lkF_all ha.2 h
section
variable {B : IBook} {ρ : List IV} {J : JH} {p : SOp} {k : L} {md : Md}
theorem step_plain {C : ICall} : stepI' B C ρ ⟨none, p, md, []⟩ J = iexec B C md ρ p J := by
 unfold stepI'
 simp only [wantsI, List.all_nil, if_true]
 cases iexec B C md ρ p J with
 | none => rfl
 | some q => rfl
theorem dn_o : dn B (o p k) ρ J = thenI (iexec B (ic B) .raw ρ p J) fun v J' => dn B k (ρ ++ [v]) J' := by
 simp only [o, dn, step_plain]; rfl
theorem dn_om : dn B (om md p k) ρ J = thenI (iexec B (ic B) md ρ p J) fun v J' => dn B k (ρ ++ [v]) J' := by
 simp only [om, dn, step_plain]; rfl
theorem dn_oc {g : Option (Operand × Bool)} {chk} : dn B (oc g p md chk k) ρ J = thenI (stepI' B (ic B) ρ ⟨g, p, md, chk⟩ J) fun v J' => dn B k (ρ ++ [v]) J' := by
 simp only [oc, dn]; rfl
theorem dn_ite {c : Operand} {a b : L} : dn B (.ite c a b) ρ J = onIf (evI ρ c) (dn B a ρ J) (dn B b ρ J) := by
 simp only [dn]; rfl
theorem dn_join {l : Nat} {a b : L} : dn B (.join l a b) ρ J = onJoin l (dn B a ρ J) fun vs J => dn B b vs J := by
 simp only [dn, onJoin]
 cases dn B a ρ J with
 | none => rfl
 | some q => obtain ⟨o, J'⟩ := q; cases o <;> rfl
theorem dn_loop {l : Nat} {init : List Operand} {b : L} : dn B (.loop l init b) ρ J = iter (dn B b) l (init.map (evI ρ)) J := by
 simp only [dn]
theorem dn_goto {l : Nat} {vs : List Operand} : dn B (.goto l vs) ρ J = some (.goto l (vs.map (evI ρ)), J) := by simp only [dn]
theorem dn_ret {vs : List Operand} : dn B (.ret vs) ρ J = some (.ret (vs.map (evI ρ)), J) := by simp only [dn]
theorem thenI_some {v : IV} {J : JH} {k : IV → JH → Option (Out IV × JH)} : thenI (some (v, J)) k = k v J := rfl
theorem ilift_some {v : IV} {J : JH} : ilift (some v) J = some (v, J) := rfl
theorem onIf_bool {t : Bool} {a b : Option (Out IV × JH)} : onIf (.sc (.bool t)) a b = if t = true then a else b := rfl
theorem onJoin_goto {l : Nat} {vs : List IV} {J : JH} {k : List IV → JH → Option (Out IV × JH)} : onJoin l (some (.goto l vs, J)) k = k vs J := by simp [onJoin]
theorem onJoin_ret {l : Nat} {vs : List IV} {J : JH} {k : List IV → JH → Option (Out IV × JH)} : onJoin l (some (.ret vs, J)) k = some (.ret vs, J) := rfl
theorem onJoin_ite {l : Nat} {c : Prop} [Decidable c] {a b : Option (Out IV × JH)} {k : List IV → JH → Option (Out IV × JH)} : onJoin l (if c then a else b) k = if c then onJoin l a k else onJoin l b k := by split <;> rfl
theorem thenI_ite {c : Prop} [Decidable c] {a b : Option (IV × JH)} {k : IV → JH → Option (Out IV × JH)} : thenI (if c then a else b) k = if c then thenI a k else thenI b k := by split <;> rfl
theorem evI_0 {x : IV} {r : List IV} : evI (x :: r) (.tmp 0) = x := rfl
theorem evI_succ {x : IV} {r : List IV} {n : Nat} : evI (x :: r) (.tmp (n + 1)) = evI r (.tmp n) := by simp [evI]
theorem scal2_sc {f : Value → Value → Option Value} {a b : Value} : scal2 f (.sc a) (.sc b) = (f a b).map .sc := rfl
end
end Go.Proofs.YticfcmaigffhmaaGreat.G
namespace Go.Proofs.YticfcmaigffhmaaGreat.G
open Go
abbrev F_law20_ReplayShows : FuncId := 3
abbrev F_law20_awake : FuncId := 6
abbrev F_law20_few : FuncId := 7
abbrev F_rules_Game_Start : FuncId := 8
abbrev F_replay_New : FuncId := 9
abbrev F_rules_Game_Step : FuncId := 10
abbrev F_replay_Tape_Add : FuncId := 11
abbrev F_replay_Tape_Bytes : FuncId := 12
abbrev F_ref02_Turned : FuncId := 13
abbrev F_replay_Read : FuncId := 14
abbrev F_ref01_Same : FuncId := 15
abbrev F_ref01_Cut : FuncId := 16
abbrev F_ref02_Seal : FuncId := 17
abbrev F_ref01_Join : FuncId := 18
abbrev F_replay_Reel_View : FuncId := 19
abbrev F_replay_Reel_Game : FuncId := 20
abbrev F_replay_Reel_Observer : FuncId := 21
abbrev F_replay_Reel_Len : FuncId := 22
abbrev F_replay_Tape_Len : FuncId := 23
abbrev F_rules_State_View : FuncId := 27
abbrev F_board_Board_Len : FuncId := 33
abbrev F_board_Board_At : FuncId := 34
abbrev F_rules_Game_Right : FuncId := 35
abbrev F_board_New : FuncId := 36
abbrev F_board_Board_Put : FuncId := 37
abbrev F_slices_Clone_Lboard_Cell_board_Cell : FuncId := 38
abbrev F_slices_Clone_Lcode_Code_code_Code : FuncId := 39
abbrev F_delta_Full : FuncId := 40
abbrev F_vm_Run : FuncId := 41
abbrev F_rules_Game_all : FuncId := 42
abbrev F_rules_Game_All : FuncId := 43
abbrev F_delta_Of : FuncId := 44
abbrev F_delta_Delta_Apply : FuncId := 45
abbrev F_board_Board_View : FuncId := 46
abbrev F_ink_Pen_Byte : FuncId := 47
abbrev F_ink_Pen_Blob : FuncId := 48
abbrev F_rules_Game_Bytes : FuncId := 49
abbrev F_ink_Pen_Num : FuncId := 50
abbrev F_delta_Delta_Bytes : FuncId := 51
abbrev F_wax_Make : FuncId := 52
abbrev F_wax_Table_Seal : FuncId := 53
abbrev F_ink_Pen_Bytes : FuncId := 54
abbrev F_wax_Table_Open : FuncId := 55
abbrev F_bytes_CutPrefix : FuncId := 56
abbrev F_ink_Read : FuncId := 57
abbrev F_rules_Parse : FuncId := 58
abbrev F_ink_Eye_Blob : FuncId := 59
abbrev F_ink_Eye_Byte : FuncId := 60
abbrev F_ink_Eye_Num : FuncId := 61
abbrev F_replay_Reel_follow : FuncId := 62
abbrev F_ink_Eye_Done : FuncId := 63
abbrev F_ref01_Low : FuncId := 64
abbrev F_ref02_Sum : FuncId := 65
abbrev F_board_Board_there : FuncId := 77
abbrev F_mask_Mask_Within : FuncId := 78
abbrev F_code_Right : FuncId := 79
abbrev F_vm_Compute : FuncId := 80
abbrev F_vm_machine_fail : FuncId := 81
abbrev F_vm_machine_follow : FuncId := 82
abbrev F_rules_Game_Legal : FuncId := 83
abbrev F_mask_All : FuncId := 84
abbrev F_board_Board_Hash : FuncId := 85
abbrev F_mask_Mask_Has : FuncId := 86
abbrev F_ink_Pen_add : FuncId := 87
abbrev F_ink_Pen_Word : FuncId := 88
abbrev F_code_Bytes : FuncId := 89
abbrev F_delta_Delta_right : FuncId := 90
abbrev F_wax_Step : FuncId := 91
abbrev F_wax_Table_tail : FuncId := 92
abbrev F_bytes_Clone : FuncId := 93
abbrev F_bytes_HasPrefix : FuncId := 94
abbrev F_ink_Eye_Word : FuncId := 95
abbrev F_code_Parse : FuncId := 96
abbrev F_ink_Eye_wrong : FuncId := 97
abbrev F_ink_Eye_fail : FuncId := 98
abbrev F_ink_Eye_take : FuncId := 99
abbrev F_delta_Parse : FuncId := 100
abbrev F_delta_Delta_Board : FuncId := 101
abbrev F_code_Check : FuncId := 108
abbrev F_vm_divided : FuncId := 109
abbrev F_vm_one : FuncId := 110
abbrev F_vm_machine_load : FuncId := 111
abbrev F_vm_machine_store : FuncId := 112
abbrev F_mask_Mask_Meet : FuncId := 113
abbrev F_vm_machine_open : FuncId := 114
abbrev F_mask_Of : FuncId := 115
abbrev F_dice_Dice_Below : FuncId := 116
abbrev F_vm_machine_reach : FuncId := 117
abbrev F_board_Board_sum : FuncId := 118
abbrev F_mask_one : FuncId := 119
abbrev F_ink_Pen_Half : FuncId := 120
abbrev F_wax_Table_Sum : FuncId := 121
abbrev F_bytes_Equal : FuncId := 122
abbrev F_code_uses : FuncId := 124
abbrev F_code_right : FuncId := 125
abbrev F_mask_Mask_With : FuncId := 126
abbrev F_dice_Dice_Next : FuncId := 127
abbrev F_vm_machine_index : FuncId := 128
abbrev F_vm_machine_reveal : FuncId := 129
abbrev F_vm_machine_shuffle : FuncId := 130
abbrev F_code_register : FuncId := 131
abbrev F_dice_mixed : FuncId := 132
abbrev F_mask_Mask_Less : FuncId := 133
abbrev F_board_Board_Show : FuncId := 134
abbrev F_dice_Dice_Shuffle : FuncId := 135
abbrev F_mask_Mask_Join : FuncId := 136
abbrev F_slices_Clone_Lint32_int32 : FuncId := 137
def l_law20_ReplayShows_k0 : L :=
 o (.bin .lss (.tmp 9) (.tmp 8)) <|
 .ite (.tmp 10)
 (o (.iaddr 1 (.tmp 7) (.tmp 9)) <|
 o (.load false 1 (.tmp 11)) <|
 o (.bin .lss (.tmp 9) (.const (.int .i64 6))) <|
 .ite (.tmp 13)
 (o (.new 51) <|
 o (.load true 6 (.tmp 4)) <|
 o (.load true 99 (.tmp 5)) <|
 om .pure (.call F_rules_Game_Step [.tmp 15, .tmp 16, .tmp 12]) <|
 o (.ext (.tmp 17) 0) <|
 o (.ext (.tmp 17) 1) <|
 o (.store 99 (.tmp 5) (.tmp 18)) <|
 o (.store 3 (.tmp 14) (.tmp 19)) <|
 o (.load true 99 (.tmp 5)) <|
 o (.faddr 0 (.tmp 14)) <|
 o (.load false 1 (.tmp 23)) <|
 o (.call F_replay_Tape_Add [.tmp 6, .tmp 22, .tmp 24]) <|
 o (.bin .add (.tmp 9) (.const (.int .i64 1))) <|
 .goto 1 [.tmp 0, .tmp 1, .tmp 2, .tmp 3, .tmp 4, .tmp 5, .tmp 6, .tmp 7, .tmp 8, .tmp 26])
 (o (.bin .add (.tmp 9) (.const (.int .i64 1))) <|
 .goto 1 [.tmp 0, .tmp 1, .tmp 2, .tmp 3, .tmp 4, .tmp 5, .tmp 6, .tmp 7, .tmp 8, .tmp 14]))
 (.goto 0 [.tmp 0, .tmp 1, .tmp 2, .tmp 3, .tmp 6])
def l_law20_ReplayShows_k1 : L :=
 o (.call F_replay_Reel_Len [.tmp 0]) <|
 o (.bin .lss (.tmp 2) (.tmp 6)) <|
 .ite (.tmp 7)
 (o (.call F_replay_Reel_View [.tmp 0, .tmp 2]) <|
 o (.ext (.tmp 8) 0) <|
 o (.ext (.tmp 8) 1) <|
 o (.new 42) <|
 o (.store 99 (.tmp 11) (.tmp 9)) <|
 o (.load true 99 (.tmp 11)) <|
 o (.call F_replay_Tape_Add [.tmp 1, .tmp 13, (.const (.int .u64 18446744073709551615))]) <|
 o (.bin .neq (.tmp 14) (.const (.int .i64 0))) <|
 .ite (.tmp 15)
 (.ret [(.const (.bool false))])
 (o (.bin .add (.tmp 2) (.const (.int .i64 1))) <|
 .goto 7 [.tmp 0, .tmp 1, .tmp 16, .tmp 3, .tmp 4, .tmp 5]))
 (.goto 6 [.tmp 0, .tmp 1, .tmp 3, .tmp 4, .tmp 5])
def l_law20_ReplayShows_k2 : L :=
 o (.call F_replay_Tape_Len [.tmp 1]) <|
 o (.call F_replay_Reel_Len [.tmp 0]) <|
 o (.bin .neq (.tmp 5) (.tmp 6)) <|
 .ite (.tmp 7)
 (.ret [(.const (.bool false))])
 (.goto 4 [.tmp 2, .tmp 3, .tmp 4])
def l_law20_ReplayShows_k3 : L :=
 o (.call F_replay_Reel_View [.tmp 0, (.const (.int .i64 0))]) <|
 o (.ext (.tmp 4) 0) <|
 o (.ext (.tmp 4) 1) <|
 o (.new 42) <|
 o (.store 99 (.tmp 7) (.tmp 5)) <|
 o (.load true 99 (.tmp 7)) <|
 oc none (.call F_replay_Reel_Game [.tmp 0]) .raw [(none, .load true 99 (.tmp 7))] <|
 oc none (.call F_replay_Reel_Observer [.tmp 0]) .raw [(none, .load true 99 (.tmp 7))] <|
 o (.call F_replay_New [.tmp 10, .tmp 11, .tmp 9]) <|
 .join 6
 (.loop 7 [(.tmp 0), (.tmp 12), (.const (.int .i64 1)), (.tmp 1), (.tmp 2), (.tmp 3)] l_law20_ReplayShows_k1)
 l_law20_ReplayShows_k2
def l_law20_ReplayShows_k4 : L :=
 o (.bin .add (.tmp 2) (.const (.int .i64 1))) <|
 .goto 3 [.tmp 0, .tmp 1, .tmp 3]
def l_law20_ReplayShows_k5 : L :=
 o (.bin .lss (.tmp 2) (.tmp 1)) <|
 .ite (.tmp 3)
 (.join 4
 (o (.iaddr 1 (.tmp 0) (.tmp 2)) <|
 o (.load false 1 (.tmp 4)) <|
 o (.call F_replay_Read [.tmp 5]) <|
 o (.ext (.tmp 6) 0) <|
 o (.ext (.tmp 6) 1) <|
 .join 5
 (o (.bin .neq (.tmp 8) (.const (.int .i64 0))) <|
 .ite (.tmp 9)
 (o (.eqNil true .ptr (.tmp 7)) <|
 .ite (.tmp 10)
 (.ret [(.const (.bool false))])
 (o (.bin .neq (.tmp 8) (.const (.int .i64 2))) <|
 .ite (.tmp 11)
 (o (.bin .neq (.tmp 8) (.const (.int .i64 5))) <|
 .ite (.tmp 12)
 (.ret [(.const (.bool false))])
 (.goto 4 [.tmp 0, .tmp 1, .tmp 2]))
 (.goto 4 [.tmp 0, .tmp 1, .tmp 2])))
 (.goto 5 [.tmp 7, .tmp 0, .tmp 1, .tmp 2]))
 l_law20_ReplayShows_k3)
 l_law20_ReplayShows_k4)
 (.goto 2 [])
def l_law20_ReplayShows_k6 : L :=
 .ret [(.const (.bool true))]
def l_law20_ReplayShows_k7 : L :=
 om .pure (.call F_ref01_Cut [.tmp 1, (.const (.int .i64 60))]) <|
 o (.conv .i64 (.tmp 0)) <|
 o (.len false (.tmp 2)) <|
 o (.bin .rem (.tmp 4) (.tmp 5)) <|
 o (.slice 1 (.tmp 2) none (some (.tmp 6)) none) <|
 .join 2
 (o (.len false (.tmp 2)) <|
 o (.bin .sub (.tmp 8) (.const (.int .i64 4))) <|
 o (.slice 1 (.tmp 2) none (some (.tmp 9)) none) <|
 o (.bslice 30 2 [(0, 1, (.tmp 10)), (1, 1, (.tmp 3))]) <|
 om .pure (.call F_ref02_Seal [.tmp 3]) <|
 om .pure (.call F_ref01_Join [.tmp 11]) <|
 om .pure (.call F_ref02_Seal [.tmp 13]) <|
 om .pure (.call F_ref02_Seal [.tmp 7]) <|
 o (.bslice 30 5 [(0, 1, (.tmp 7)), (1, 1, (.tmp 3)), (2, 1, (.tmp 12)), (3, 1, (.tmp 14)), (4, 1, (.tmp 15))]) <|
 o (.len false (.tmp 16)) <|
 .loop 3 [(.tmp 16), (.tmp 17), (.const (.int .i64 0))] l_law20_ReplayShows_k5)
 l_law20_ReplayShows_k6
def l_law20_ReplayShows_k8 : L :=
 o (.call F_replay_Tape_Bytes [.tmp 4]) <|
 o (.conv .i64 (.tmp 1)) <|
 o (.len false (.tmp 5)) <|
 o (.bin .mul (.const (.int .i64 8)) (.tmp 7)) <|
 o (.bin .rem (.tmp 6) (.tmp 8)) <|
 om .pure (.call F_ref02_Turned [.tmp 5, .tmp 9, .tmp 2]) <|
 .join 1
 (o (.call F_replay_Read [.tmp 10]) <|
 o (.ext (.tmp 11) 0) <|
 o (.ext (.tmp 11) 1) <|
 o (.bin .eql (.tmp 13) (.const (.int .i64 0))) <|
 .ite (.tmp 14)
 (om .pure (.call F_ref01_Same [.tmp 5, .tmp 10]) <|
 o (.un .not (.tmp 15)) <|
 .ite (.tmp 16)
 (.ret [(.const (.bool false))])
 (.goto 1 [.tmp 0, .tmp 3, .tmp 5]))
 (.goto 1 [.tmp 0, .tmp 3, .tmp 5]))
 l_law20_ReplayShows_k7
def l_law20_ReplayShows : LFn := ⟨7,
 o (.box 26 (.tmp 0)) <|
 om .pure (.call F_law20_awake []) <|
 o (.un .not (.tmp 8)) <|
 .ite (.tmp 9)
 (.ret [(.const (.bool false))])
 (o (.load true 6 (.tmp 7)) <|
 om .pure (.call F_law20_few [.tmp 10]) <|
 o (.store 6 (.tmp 7) (.tmp 11)) <|
 o (.load true 6 (.tmp 7)) <|
 om .pure (.call F_rules_Game_Start [.tmp 13, .tmp 1, (.const (.slice none 0 0))]) <|
 o (.ext (.tmp 14) 0) <|
 o (.ext (.tmp 14) 1) <|
 o (.new 42) <|
 o (.store 99 (.tmp 17) (.tmp 15)) <|
 o (.bin .neq (.tmp 16) (.const (.int .i64 0))) <|
 .ite (.tmp 19)
 (.ret [(.const (.bool true))])
 (o (.load true 6 (.tmp 7)) <|
 o (.load true 99 (.tmp 17)) <|
 o (.call F_replay_New [.tmp 20, (.const (.int .i64 0)), .tmp 21]) <|
 .join 0
 (o (.len false (.tmp 2)) <|
 .loop 1 [(.tmp 3), (.tmp 4), (.tmp 5), (.tmp 6), (.tmp 7), (.tmp 17), (.tmp 22), (.tmp 2), (.tmp 23), (.const (.int .i64 0))] l_law20_ReplayShows_k0)
 l_law20_ReplayShows_k8))⟩
def l_law20_awake : LFn := ⟨0,
 o (.build 35 [(0, 1, (.const (.int .i32 4)))]) <|
 o (.bslice 35 1 [(0, 2, (.tmp 0))]) <|
 o (.build 26 [(0, 1, (.const (.int .i64 1))), (1, 1, (.const (.int .i64 1))), (2, 1, (.const (.int .u32 2))), (4, 1, (.tmp 1))]) <|
 o (.new 26) <|
 o (.store 6 (.tmp 3) (.tmp 2)) <|
 o (.load true 6 (.tmp 3)) <|
 om .pure (.call F_rules_Game_Start [.tmp 5, (.const (.int .u64 1)), (.const (.slice none 0 0))]) <|
 o (.ext (.tmp 6) 0) <|
 o (.ext (.tmp 6) 1) <|
 o (.new 42) <|
 o (.store 99 (.tmp 9) (.tmp 7)) <|
 o (.load true 6 (.tmp 3)) <|
 o (.load true 99 (.tmp 9)) <|
 o (.call F_replay_New [.tmp 11, (.const (.int .i64 0)), .tmp 12]) <|
 o (.call F_replay_Tape_Bytes [.tmp 13]) <|
 o (.call F_replay_Read [.tmp 14]) <|
 o (.ext (.tmp 15) 0) <|
 o (.ext (.tmp 15) 1) <|
 o (.bin .eql (.tmp 8) (.const (.int .i64 0))) <|
 .ite (.tmp 18)
 (o (.bin .eql (.tmp 17) (.const (.int .i64 0))) <|
 .ite (.tmp 19)
 (o (.call F_replay_Tape_Len [.tmp 13]) <|
 o (.bin .eql (.tmp 20) (.const (.int .i64 1))) <|
 .ite (.tmp 21)
 (o (.call F_replay_Reel_Len [.tmp 16]) <|
 o (.bin .eql (.tmp 22) (.const (.int .i64 1))) <|
 .ret [(.tmp 23)])
 (.ret [(.const (.bool false))]))
 (.ret [(.const (.bool false))]))
 (.ret [(.const (.bool false))])⟩
def l_law20_few : LFn := ⟨1,
 o (.box 26 (.tmp 0)) <|
 o (.new 26) <|
 o (.bslice 35 0 []) <|
 o (.faddr 4 (.tmp 1)) <|
 o (.load false 1 (.tmp 4)) <|
 o (.faddr 4 (.tmp 1)) <|
 o (.load false 1 (.tmp 6)) <|
 o (.len false (.tmp 7)) <|
 o (.minmax false [(.tmp 8), (.const (.int .i64 48))]) <|
 o (.slice 2 (.tmp 5) none (some (.tmp 9)) none) <|
 o (.append 2 8 (.tmp 3) (.tmp 10)) <|
 o (.faddr 4 (.tmp 1)) <|
 o (.store 1 (.tmp 12) (.tmp 11)) <|
 o (.bslice 100 0 []) <|
 o (.faddr 5 (.tmp 1)) <|
 o (.load false 1 (.tmp 15)) <|
 o (.faddr 5 (.tmp 1)) <|
 o (.load false 1 (.tmp 17)) <|
 o (.len false (.tmp 18)) <|
 o (.minmax false [(.tmp 19), (.const (.int .i64 96))]) <|
 o (.slice 6 (.tmp 16) none (some (.tmp 20)) none) <|
 o (.append 6 12 (.tmp 14) (.tmp 21)) <|
 o (.faddr 5 (.tmp 1)) <|
 o (.store 1 (.tmp 23) (.tmp 22)) <|
 o (.load true 6 (.tmp 1)) <|
 o (.store 6 (.tmp 2) (.tmp 25)) <|
 o (.load true 6 (.tmp 2)) <|
 .ret [(.tmp 27)]⟩
def l_rules_Game_Start_k0 : L :=
 o (.bin .lss (.tmp 6) (.tmp 5)) <|
 .ite (.tmp 7)
 (o (.iaddr 2 (.tmp 4) (.tmp 6)) <|
 o (.load true 2 (.tmp 8)) <|
 o (.new 35) <|
 o (.store 2 (.tmp 10) (.tmp 9)) <|
 o (.faddr 1 (.tmp 10)) <|
 o (.load false 1 (.tmp 12)) <|
 o (.bin .eql (.tmp 13) (.const (.int .u32 0))) <|
 .ite (.tmp 14)
 (o (.len false (.tmp 1)) <|
 o (.bin .gtr (.tmp 15) (.const (.int .i64 0))) <|
 .ite (.tmp 16)
 (o (.load true 97 (.tmp 3)) <|
 o (.iaddr 1 (.tmp 1) (.const (.int .i64 0))) <|
 o (.load false 1 (.tmp 18)) <|
 o (.build 35 [(0, 1, (.tmp 19))]) <|
 om .pure (.call F_board_Board_Put [.tmp 17, .tmp 6, .tmp 20]) <|
 o (.ext (.tmp 21) 0) <|
 o (.ext (.tmp 21) 1) <|
 o (.store 97 (.tmp 3) (.tmp 22)) <|
 o (.slice 1 (.tmp 1) (some (.const (.int .i64 1))) none none) <|
 o (.bin .add (.tmp 6) (.const (.int .i64 1))) <|
 .goto 1 [.tmp 0, .tmp 25, .tmp 2, .tmp 3, .tmp 4, .tmp 5, .tmp 26])
 (o (.bin .add (.tmp 6) (.const (.int .i64 1))) <|
 .goto 1 [.tmp 0, .tmp 1, .tmp 2, .tmp 3, .tmp 4, .tmp 5, .tmp 17]))
 (o (.bin .add (.tmp 6) (.const (.int .i64 1))) <|
 .goto 1 [.tmp 0, .tmp 1, .tmp 2, .tmp 3, .tmp 4, .tmp 5, .tmp 15]))
 (.goto 0 [.tmp 0, .tmp 2, .tmp 3])
def l_rules_Game_Start_k1 : L :=
 o (.load true 97 (.tmp 2)) <|
 o (.build 40 [(0, 1, (.tmp 0))]) <|
 o (.build 42 [(0, 97, (.tmp 3)), (97, 1, (.tmp 4))]) <|
 o (.store 99 (.tmp 1) (.tmp 5)) <|
 o (.load true 99 (.tmp 1)) <|
 .ret [(.tmp 7), (.const (.int .i64 0))]
def l_rules_Game_Start : LFn := ⟨3,
 o (.box 26 (.tmp 0)) <|
 o (.new 42) <|
 o (.load true 6 (.tmp 3)) <|
 om .pure (.call F_rules_Game_Right [.tmp 5]) <|
 o (.un .not (.tmp 6)) <|
 .ite (.tmp 7)
 (o (.build 42 []) <|
 o (.store 99 (.tmp 4) (.tmp 8)) <|
 o (.load true 99 (.tmp 4)) <|
 .ret [(.tmp 10), (.const (.int .i64 2))])
 (o (.faddr 4 (.tmp 3)) <|
 o (.load false 1 (.tmp 8)) <|
 om .pure (.call F_board_New [.tmp 9]) <|
 o (.ext (.tmp 10) 0) <|
 o (.ext (.tmp 10) 1) <|
 o (.new 38) <|
 o (.store 97 (.tmp 13) (.tmp 11)) <|
 .join 0
 (o (.faddr 4 (.tmp 3)) <|
 o (.load false 1 (.tmp 15)) <|
 o (.len false (.tmp 16)) <|
 .loop 1 [(.tmp 1), (.tmp 2), (.tmp 4), (.tmp 13), (.tmp 16), (.tmp 17), (.const (.int .i64 0))] l_rules_Game_Start_k0)
 l_rules_Game_Start_k1)⟩
def l_replay_New_k0 : L :=
 o (.faddr 4 (.tmp 1)) <|
 o (.load false 1 (.tmp 3)) <|
 o (.faddr 5 (.tmp 1)) <|
 o (.load false 1 (.tmp 5)) <|
 oc none (.call F_slices_Clone_Lboard_Cell_board_Cell [.tmp 4]) .pure [(none, .load false 1 (.tmp 5))] <|
 o (.faddr 4 (.tmp 1)) <|
 om .pure (.call F_slices_Clone_Lcode_Code_code_Code [.tmp 6]) <|
 o (.store 1 (.tmp 8) (.tmp 7)) <|
 o (.faddr 5 (.tmp 1)) <|
 o (.store 1 (.tmp 11) (.tmp 9)) <|
 o (.load true 6 (.tmp 1)) <|
 o (.load true 99 (.tmp 2)) <|
 o (.faddr 0 (.tmp 2)) <|
 o (.load true 97 (.tmp 15)) <|
 o (.faddr 98 (.tmp 2)) <|
 o (.load false 1 (.tmp 17)) <|
 oc none (.call F_rules_State_View [.tmp 14, .tmp 0]) .pure [(none, .load true 6 (.tmp 1)), (none, .load true 97 (.tmp 15)), (none, .load false 1 (.tmp 17))] <|
 oc none (.call F_delta_Full [.tmp 16, .tmp 0, .tmp 18]) .pure [(none, .load true 6 (.tmp 1))] <|
 o (.bslice 102 1 [(0, 4, (.tmp 20))]) <|
 o (.build 106 [(0, 6, (.tmp 13)), (6, 1, (.tmp 0)), (7, 99, (.tmp 19)), (106, 1, (.tmp 21))]) <|
 o (.box 106 (.tmp 22)) <|
 .ret [(.tmp 23)]
def l_replay_New : LFn := ⟨3,
 o (.box 26 (.tmp 0)) <|
 o (.box 42 (.tmp 2)) <|
 .join 0
 (o (.load true 6 (.tmp 3)) <|
 om .pure (.call F_rules_Game_Right [.tmp 5]) <|
 o (.un .not (.tmp 6)) <|
 .ite (.tmp 7)
 (.ret [(.const (.pointer none))])
 (o (.bin .lss (.tmp 1) (.const (.int .i64 0))) <|
 .ite (.tmp 8)
 (.ret [(.const (.pointer none))])
 (o (.faddr 0 (.tmp 3)) <|
 o (.load false 1 (.tmp 9)) <|
 o (.bin .geq (.tmp 1) (.tmp 10)) <|
 .ite (.tmp 11)
 (.ret [(.const (.pointer none))])
 (o (.faddr 0 (.tmp 4)) <|
 o (.load true 97 (.tmp 12)) <|
 o (.faddr 4 (.tmp 3)) <|
 o (.load false 1 (.tmp 14)) <|
 o (.len false (.tmp 15)) <|
 oc none (.call F_board_Board_Len [.tmp 13]) .pure [(none, .load false 1 (.tmp 14))] <|
 o (.bin .neq (.tmp 17) (.tmp 16)) <|
 .ite (.tmp 18)
 (.ret [(.const (.pointer none))])
 (.goto 0 [.tmp 1, .tmp 3, .tmp 4])))))
 l_replay_New_k0⟩
def l_rules_Game_Step : LFn := ⟨3,
 o (.box 26 (.tmp 0)) <|
 o (.box 42 (.tmp 1)) <|
 o (.new 42) <|
 o (.new 51) <|
 o (.load true 6 (.tmp 3)) <|
 om .pure (.call F_rules_Game_Right [.tmp 7]) <|
 o (.un .not (.tmp 8)) <|
 .ite (.tmp 9)
 (o (.load true 99 (.tmp 4)) <|
 o (.build 51 [(2, 1, (.const (.int .i64 2)))]) <|
 o (.store 99 (.tmp 5) (.tmp 10)) <|
 o (.store 3 (.tmp 6) (.tmp 11)) <|
 o (.load true 99 (.tmp 5)) <|
 o (.load true 3 (.tmp 6)) <|
 .ret [(.tmp 14), (.tmp 15)])
 (o (.faddr 5 (.tmp 3)) <|
 o (.load false 1 (.tmp 10)) <|
 o (.faddr 0 (.tmp 4)) <|
 o (.load true 97 (.tmp 12)) <|
 o (.faddr 97 (.tmp 4)) <|
 o (.load true 1 (.tmp 14)) <|
 o (.load true 6 (.tmp 3)) <|
 o (.faddr 98 (.tmp 4)) <|
 o (.load false 1 (.tmp 17)) <|
 o (.bin .add (.tmp 18) (.const (.int .u32 1))) <|
 o (.load true 6 (.tmp 3)) <|
 o (.new 108) <|
 oc none (.call F_rules_Game_all [.tmp 16, .tmp 2]) .pure [(none, .load false 1 (.tmp 10)), (none, .load true 97 (.tmp 12)), (none, .load true 1 (.tmp 14)), (none, .load false 1 (.tmp 17)), (none, .load true 6 (.tmp 3))] <|
 oc none (.call F_rules_Game_All [.tmp 20]) .pure [(none, .load false 1 (.tmp 10)), (none, .load true 97 (.tmp 12)), (none, .load true 1 (.tmp 14)), (none, .load false 1 (.tmp 17))] <|
 om .pure (.call F_vm_Run [.tmp 11, .tmp 13, .tmp 15, .tmp 22, .tmp 19, .tmp 23]) <|
 o (.store 102 (.tmp 21) (.tmp 24)) <|
 o (.faddr 0 (.tmp 21)) <|
 o (.load true 97 (.tmp 26)) <|
 o (.faddr 97 (.tmp 21)) <|
 o (.load true 1 (.tmp 28)) <|
 o (.faddr 98 (.tmp 4)) <|
 o (.load false 1 (.tmp 30)) <|
 o (.bin .add (.tmp 31) (.const (.int .u32 1))) <|
 o (.build 42 [(0, 97, (.tmp 27)), (97, 1, (.tmp 29)), (98, 1, (.tmp 32))]) <|
 o (.faddr 98 (.tmp 21)) <|
 o (.load false 1 (.tmp 34)) <|
 o (.faddr 99 (.tmp 21)) <|
 o (.load false 1 (.tmp 36)) <|
 o (.faddr 101 (.tmp 21)) <|
 o (.load false 1 (.tmp 38)) <|
 o (.build 51 [(0, 1, (.tmp 35)), (1, 1, (.tmp 37)), (2, 1, (.tmp 39))]) <|
 oc none (.store 99 (.tmp 5) (.tmp 33)) .raw [(none, .load false 1 (.tmp 34)), (none, .load false 1 (.tmp 36)), (none, .load false 1 (.tmp 38))] <|
 o (.store 3 (.tmp 6) (.tmp 40)) <|
 o (.load true 99 (.tmp 5)) <|
 o (.load true 3 (.tmp 6)) <|
 .ret [(.tmp 43), (.tmp 44)])⟩
def l_replay_Tape_Add_k0 : L :=
 o (.load true 99 (.tmp 1)) <|
 o (.nilck (.tmp 0)) <|
 o (.faddr 6 (.tmp 4)) <|
 o (.load false 1 (.tmp 5)) <|
 o (.nilck (.tmp 0)) <|
 o (.faddr 106 (.tmp 7)) <|
 o (.load false 1 (.tmp 8)) <|
 o (.load true 4 (.tmp 2)) <|
 o (.bslice 102 1 [(0, 4, (.tmp 10))]) <|
 oc none (.call F_rules_State_View [.tmp 3, .tmp 6]) .pure [(none, .load false 1 (.tmp 8)), (none, .load true 4 (.tmp 2))] <|
 o (.append 4 56 (.tmp 9) (.tmp 11)) <|
 o (.nilck (.tmp 0)) <|
 o (.faddr 7 (.tmp 14)) <|
 o (.store 99 (.tmp 15) (.tmp 12)) <|
 o (.nilck (.tmp 0)) <|
 o (.faddr 106 (.tmp 17)) <|
 o (.store 1 (.tmp 18) (.tmp 13)) <|
 .ret [(.const (.int .i64 0))]
def l_replay_Tape_Add : LFn := ⟨3,
 o (.box 42 (.tmp 1)) <|
 o (.eqNil false .ptr (.tmp 0)) <|
 .ite (.tmp 4)
 (.ret [(.const (.int .i64 3))])
 (o (.faddr 0 (.tmp 3)) <|
 o (.load true 97 (.tmp 5)) <|
 o (.nilck (.tmp 0)) <|
 o (.faddr 6 (.tmp 7)) <|
 o (.load false 1 (.tmp 8)) <|
 o (.faddr 98 (.tmp 3)) <|
 o (.load false 1 (.tmp 10)) <|
 o (.new 102) <|
 om .pure (.call F_delta_Of [.tmp 6, .tmp 2, .tmp 9, .tmp 11]) <|
 o (.store 4 (.tmp 12) (.tmp 13)) <|
 o (.load true 4 (.tmp 12)) <|
 o (.nilck (.tmp 0)) <|
 o (.faddr 7 (.tmp 16)) <|
 o (.faddr 0 (.tmp 17)) <|
 o (.load true 97 (.tmp 18)) <|
 o (.new 38) <|
 om .pure (.call F_delta_Delta_Apply [.tmp 15, .tmp 19]) <|
 o (.ext (.tmp 21) 0) <|
 o (.ext (.tmp 21) 1) <|
 o (.store 97 (.tmp 20) (.tmp 22)) <|
 .join 0
 (o (.faddr 98 (.tmp 3)) <|
 o (.load false 1 (.tmp 25)) <|
 o (.conv .u64 (.tmp 26)) <|
 o (.nilck (.tmp 0)) <|
 o (.faddr 7 (.tmp 28)) <|
 o (.faddr 98 (.tmp 29)) <|
 o (.load false 1 (.tmp 30)) <|
 o (.conv .u64 (.tmp 31)) <|
 o (.bin .add (.tmp 32) (.const (.int .u64 1))) <|
 o (.bin .neq (.tmp 27) (.tmp 33)) <|
 .ite (.tmp 34)
 (.ret [(.const (.int .i64 10))])
 (o (.bin .neq (.tmp 23) (.const (.int .i64 0))) <|
 .ite (.tmp 35)
 (.ret [(.const (.int .i64 2))])
 (o (.load true 97 (.tmp 20)) <|
 o (.faddr 0 (.tmp 3)) <|
 o (.load true 97 (.tmp 37)) <|
 o (.nilck (.tmp 0)) <|
 o (.faddr 6 (.tmp 39)) <|
 o (.load false 1 (.tmp 40)) <|
 oc none (.call F_board_Board_View [.tmp 38, .tmp 41]) .pure [(none, .load true 97 (.tmp 20))] <|
 o (.eqAgg true 38 (.tmp 36) (.tmp 42)) <|
 .ite (.tmp 43)
 (.ret [(.const (.int .i64 2))])
 (o (.nilck (.tmp 0)) <|
 o (.faddr 106 (.tmp 44)) <|
 o (.load false 1 (.tmp 45)) <|
 o (.len false (.tmp 46)) <|
 o (.bin .geq (.tmp 47) (.const (.int .i64 65536))) <|
 .ite (.tmp 48)
 (.ret [(.const (.int .i64 6))])
 (.goto 0 [.tmp 0, .tmp 3, .tmp 12])))))
 l_replay_Tape_Add_k0)⟩
def l_replay_Tape_Bytes_k0 : L :=
 o (.bin .lss (.tmp 4) (.tmp 3)) <|
 .ite (.tmp 5)
 (o (.iaddr 1 (.tmp 2) (.tmp 4)) <|
 o (.load false 1 (.tmp 6)) <|
 o (.call F_ink_Pen_Byte [.tmp 1, .tmp 7]) <|
 o (.bin .add (.tmp 4) (.const (.int .i64 1))) <|
 .goto 1 [.tmp 0, .tmp 1, .tmp 2, .tmp 3, .tmp 9])
 (.goto 0 [.tmp 0, .tmp 1])
def l_replay_Tape_Bytes_k1 : L :=
 o (.bin .lss (.tmp 3) (.tmp 2)) <|
 .ite (.tmp 4)
 (o (.iaddr 4 (.tmp 1) (.tmp 3)) <|
 o (.load true 4 (.tmp 5)) <|
 o (.new 102) <|
 o (.store 4 (.tmp 7) (.tmp 6)) <|
 o (.load true 4 (.tmp 7)) <|
 om .pure (.call F_delta_Delta_Bytes [.tmp 9]) <|
 o (.call F_ink_Pen_Blob [.tmp 0, .tmp 10]) <|
 o (.bin .add (.tmp 3) (.const (.int .i64 1))) <|
 .goto 2 [.tmp 0, .tmp 1, .tmp 2, .tmp 12])
 (.goto 1 [.tmp 0])
def l_replay_Tape_Bytes_k2 : L :=
 om .pure (.call F_wax_Make []) <|
 o (.call F_ink_Pen_Bytes [.tmp 0]) <|
 om .pure (.call F_wax_Table_Seal [.tmp 1, .tmp 2]) <|
 .ret [(.tmp 3)]
def l_replay_Tape_Bytes_k3 : L :=
 o (.nilck (.tmp 0)) <|
 o (.faddr 0 (.tmp 2)) <|
 o (.load true 6 (.tmp 3)) <|
 o (.nilck (.tmp 0)) <|
 o (.faddr 6 (.tmp 5)) <|
 o (.load false 1 (.tmp 6)) <|
 o (.conv .u8 (.tmp 7)) <|
 o (.nilck (.tmp 0)) <|
 o (.faddr 106 (.tmp 9)) <|
 o (.load false 1 (.tmp 10)) <|
 o (.len false (.tmp 11)) <|
 o (.conv .u64 (.tmp 12)) <|
 oc none (.call F_rules_Game_Bytes [.tmp 4]) .pure [(none, .load false 1 (.tmp 6)), (none, .load false 1 (.tmp 10))] <|
 oc none (.call F_ink_Pen_Blob [.tmp 1, .tmp 14]) .raw [(none, .load false 1 (.tmp 6)), (none, .load false 1 (.tmp 10))] <|
 oc none (.call F_ink_Pen_Byte [.tmp 15, .tmp 8]) .raw [(none, .load false 1 (.tmp 10))] <|
 o (.call F_ink_Pen_Num [.tmp 16, .tmp 13]) <|
 .join 1
 (o (.nilck (.tmp 0)) <|
 o (.faddr 106 (.tmp 18)) <|
 o (.load false 1 (.tmp 19)) <|
 o (.len false (.tmp 20)) <|
 .loop 2 [(.tmp 1), (.tmp 20), (.tmp 21), (.const (.int .i64 0))] l_replay_Tape_Bytes_k1)
 l_replay_Tape_Bytes_k2
def l_replay_Tape_Bytes : LFn := ⟨1,
 o (.eqNil false .ptr (.tmp 0)) <|
 .ite (.tmp 1)
 (.ret [(.const (.slice none 0 0))])
 (o (.new 116) <|
 .join 0
 (o (.bslice 5 8 [(0, 1, (.const (.int .u8 104))), (1, 1, (.const (.int .u8 111))), (2, 1, (.const (.int .u8 111))), (3, 1, (.const (.int .u8 100))), (4, 1, (.const (.int .u8 119))), (5, 1, (.const (.int .u8 105))), (6, 1, (.const (.int .u8 110))), (7, 1, (.const (.int .u8 107)))]) <|
 o (.mark (.tmp 3)) <|
 o (.len false (.tmp 4)) <|
 .loop 1 [(.tmp 0), (.tmp 2), (.tmp 4), (.tmp 5), (.const (.int .i64 0))] l_replay_Tape_Bytes_k0)
 l_replay_Tape_Bytes_k3)⟩
def l_ref02_Turned_k0 : L :=
 o (.bin .lss (.tmp 3) (.const (.int .i64 32))) <|
 .ite (.tmp 4)
 (o (.bin .add (.tmp 0) (.tmp 3)) <|
 o (.bin .quo (.tmp 5) (.const (.int .i64 8))) <|
 o (.len false (.tmp 2)) <|
 o (.bin .lss (.tmp 6) (.tmp 7)) <|
 .ite (.tmp 8)
 (o (.bin .shr (.tmp 1) (.tmp 3)) <|
 o (.bin .rem (.tmp 9) (.const (.int .u32 2))) <|
 o (.bin .eql (.tmp 10) (.const (.int .u32 1))) <|
 .ite (.tmp 11)
 (o (.bin .quo (.tmp 5) (.const (.int .i64 8))) <|
 o (.iaddr 1 (.tmp 2) (.tmp 12)) <|
 o (.load false 1 (.tmp 13)) <|
 o (.bslice 5 8 [(0, 1, (.const (.int .u8 1))), (1, 1, (.const (.int .u8 2))), (2, 1, (.const (.int .u8 4))), (3, 1, (.const (.int .u8 8))), (4, 1, (.const (.int .u8 16))), (5, 1, (.const (.int .u8 32))), (6, 1, (.const (.int .u8 64))), (7, 1, (.const (.int .u8 128)))]) <|
 o (.bin .rem (.tmp 5) (.const (.int .i64 8))) <|
 o (.iaddr 1 (.tmp 15) (.tmp 16)) <|
 o (.load false 1 (.tmp 17)) <|
 o (.bin .xor (.tmp 14) (.tmp 18)) <|
 o (.iaddr 1 (.tmp 2) (.tmp 12)) <|
 o (.store 1 (.tmp 20) (.tmp 19)) <|
 o (.bin .add (.tmp 3) (.const (.int .i64 1))) <|
 .goto 1 [.tmp 0, .tmp 1, .tmp 2, .tmp 22])
 (o (.bin .add (.tmp 3) (.const (.int .i64 1))) <|
 .goto 1 [.tmp 0, .tmp 1, .tmp 2, .tmp 12]))
 (o (.bin .add (.tmp 3) (.const (.int .i64 1))) <|
 .goto 1 [.tmp 0, .tmp 1, .tmp 2, .tmp 9]))
 (.goto 0 [.tmp 2])
def l_ref02_Turned_k1 : L :=
 .ret [(.tmp 0)]
def l_ref02_Turned : LFn := ⟨3,
 o (.bslice 30 1 [(0, 1, (.tmp 0))]) <|
 o (.call F_ref01_Join [.tmp 3]) <|
 .join 0
 (.loop 1 [(.tmp 1), (.tmp 2), (.tmp 4), (.const (.int .i64 0))] l_ref02_Turned_k0)
 l_ref02_Turned_k1⟩
def l_replay_Read_k0 : L :=
 o (.bin .lss (.tmp 5) (.tmp 4)) <|
 .ite (.tmp 6)
 (o (.len false (.tmp 0)) <|
 o (.call F_ink_Eye_Blob [.tmp 1, .tmp 7]) <|
 o (.call F_replay_Reel_follow [.tmp 2, .tmp 8]) <|
 o (.un .not (.tmp 9)) <|
 .ite (.tmp 10)
 (.ret [(.const (.pointer none)), (.const (.int .i64 2))])
 (o (.bin .add (.tmp 5) (.const (.int .u64 1))) <|
 .goto 2 [.tmp 0, .tmp 1, .tmp 2, .tmp 3, .tmp 4, .tmp 11]))
 (.goto 1 [.tmp 1, .tmp 2, .tmp 3])
def l_replay_Read_k1 : L :=
 o (.bin .eql (.tmp 2) (.const (.int .u64 0))) <|
 .ite (.tmp 3)
 (.ret [(.const (.pointer none)), (.const (.int .i64 2))])
 (o (.call F_ink_Eye_Done [.tmp 0]) <|
 o (.bin .neq (.tmp 4) (.const (.int .i64 0))) <|
 .ite (.tmp 5)
 (.ret [(.const (.pointer none)), (.const (.int .i64 2))])
 (.ret [(.tmp 1), (.const (.int .i64 0))]))
def l_replay_Read_k2 : L :=
 o (.call F_ink_Eye_Num [.tmp 1, (.const (.int .u64 65536))]) <|
 .join 1
 (.loop 2 [(.tmp 0), (.tmp 1), (.tmp 2), (.tmp 3), (.tmp 3), (.const (.int .u64 0))] l_replay_Read_k0)
 l_replay_Read_k1
def l_replay_Read : LFn := ⟨1,
 om .pure (.call F_wax_Make []) <|
 om .pure (.call F_wax_Table_Open [.tmp 1, .tmp 0]) <|
 o (.ext (.tmp 2) 0) <|
 o (.ext (.tmp 2) 1) <|
 o (.bin .neq (.tmp 4) (.const (.int .i64 0))) <|
 .ite (.tmp 5)
 (.ret [(.const (.pointer none)), (.tmp 4)])
 (o (.bslice 5 8 [(0, 1, (.const (.int .u8 104))), (1, 1, (.const (.int .u8 111))), (2, 1, (.const (.int .u8 111))), (3, 1, (.const (.int .u8 100))), (4, 1, (.const (.int .u8 119))), (5, 1, (.const (.int .u8 105))), (6, 1, (.const (.int .u8 110))), (7, 1, (.const (.int .u8 107)))]) <|
 o (.mark (.tmp 6)) <|
 om .pure (.call F_bytes_CutPrefix [.tmp 3, .tmp 7]) <|
 o (.ext (.tmp 8) 0) <|
 o (.ext (.tmp 8) 1) <|
 o (.un .not (.tmp 10)) <|
 .ite (.tmp 11)
 (.ret [(.const (.pointer none)), (.const (.int .i64 2))])
 (o (.call F_ink_Read [.tmp 9]) <|
 o (.len false (.tmp 0)) <|
 o (.call F_ink_Eye_Blob [.tmp 12, .tmp 13]) <|
 om .pure (.call F_rules_Parse [.tmp 14]) <|
 o (.ext (.tmp 15) 0) <|
 o (.ext (.tmp 15) 1) <|
 o (.new 26) <|
 o (.store 6 (.tmp 18) (.tmp 16)) <|
 o (.load true 6 (.tmp 18)) <|
 oc none (.call F_ink_Eye_Byte [.tmp 12]) .raw [(none, .load true 6 (.tmp 18))] <|
 o (.conv .i64 (.tmp 21)) <|
 o (.build 135 [(0, 6, (.tmp 20)), (6, 1, (.tmp 22))]) <|
 o (.box 135 (.tmp 23)) <|
 .join 0
 (o (.bin .neq (.tmp 17) (.const (.int .i64 0))) <|
 .ite (.tmp 25)
 (.ret [(.const (.pointer none)), (.const (.int .i64 2))])
 (o (.nilck (.tmp 24)) <|
 o (.faddr 6 (.tmp 26)) <|
 o (.load false 1 (.tmp 27)) <|
 o (.faddr 0 (.tmp 18)) <|
 o (.load false 1 (.tmp 29)) <|
 o (.bin .geq (.tmp 28) (.tmp 30)) <|
 .ite (.tmp 31)
 (.ret [(.const (.pointer none)), (.const (.int .i64 2))])
 (.goto 0 [.tmp 0, .tmp 12, .tmp 24])))
 l_replay_Read_k2))⟩
def l_ref01_Same_k0 : L :=
 o (.bin .lss (.tmp 3) (.tmp 2)) <|
 .ite (.tmp 4)
 (o (.iaddr 1 (.tmp 0) (.tmp 3)) <|
 o (.load false 1 (.tmp 5)) <|
 o (.iaddr 1 (.tmp 1) (.tmp 3)) <|
 o (.load false 1 (.tmp 7)) <|
 o (.bin .neq (.tmp 6) (.tmp 8)) <|
 .ite (.tmp 9)
 (.ret [(.const (.bool false))])
 (o (.bin .add (.tmp 3) (.const (.int .i64 1))) <|
 .goto 1 [.tmp 0, .tmp 1, .tmp 2, .tmp 10]))
 (.goto 0 [])
def l_ref01_Same_k1 : L :=
 .ret [(.const (.bool true))]
def l_ref01_Same : LFn := ⟨2,
 o (.len false (.tmp 0)) <|
 o (.len false (.tmp 1)) <|
 o (.bin .neq (.tmp 2) (.tmp 3)) <|
 .ite (.tmp 4)
 (.ret [(.const (.bool false))])
 (.join 0
 (o (.len false (.tmp 0)) <|
 .loop 1 [(.tmp 0), (.tmp 1), (.tmp 5), (.const (.int .i64 0))] l_ref01_Same_k0)
 l_ref01_Same_k1)⟩
def l_ref01_Cut_k0 : L :=
 o (.bin .lss (.tmp 4) (.tmp 3)) <|
 .ite (.tmp 5)
 (o (.iaddr 1 (.tmp 2) (.tmp 4)) <|
 o (.load false 1 (.tmp 6)) <|
 o (.bin .lss (.tmp 4) (.tmp 0)) <|
 .ite (.tmp 8)
 (o (.bslice 5 1 [(0, 1, (.tmp 7))]) <|
 o (.append 1 1 (.tmp 1) (.tmp 9)) <|
 o (.bin .add (.tmp 4) (.const (.int .i64 1))) <|
 .goto 1 [.tmp 0, .tmp 10, .tmp 2, .tmp 3, .tmp 11])
 (o (.bin .add (.tmp 4) (.const (.int .i64 1))) <|
 .goto 1 [.tmp 0, .tmp 1, .tmp 2, .tmp 3, .tmp 9]))
 (.goto 0 [.tmp 1])
def l_ref01_Cut_k1 : L :=
 .ret [(.tmp 0)]
def l_ref01_Cut : LFn := ⟨2,
 .join 0
 (o (.len false (.tmp 0)) <|
 .loop 1 [(.tmp 1), (.const (.slice none 0 0)), (.tmp 0), (.tmp 2), (.const (.int .i64 0))] l_ref01_Cut_k0)
 l_ref01_Cut_k1⟩
def l_ref02_Seal : LFn := ⟨1,
 om .pure (.call F_ref02_Sum [.tmp 0]) <|
 o (.conv .u64 (.tmp 1)) <|
 om .pure (.call F_ref01_Low [.tmp 2, (.const (.int .i64 4))]) <|
 o (.bslice 30 2 [(0, 1, (.tmp 0)), (1, 1, (.tmp 3))]) <|
 om .pure (.call F_ref01_Join [.tmp 4]) <|
 .ret [(.tmp 5)]⟩
def l_ref01_Join_k0 : L :=
 o (.bin .lss (.tmp 3) (.tmp 2)) <|
 .ite (.tmp 4)
 (o (.iaddr 1 (.tmp 1) (.tmp 3)) <|
 o (.load false 1 (.tmp 5)) <|
 o (.append 1 1 (.tmp 0) (.tmp 6)) <|
 o (.bin .add (.tmp 3) (.const (.int .i64 1))) <|
 .goto 1 [.tmp 7, .tmp 1, .tmp 2, .tmp 8])
 (.goto 0 [.tmp 0])
def l_ref01_Join_k1 : L :=
 .ret [(.tmp 0)]
def l_ref01_Join : LFn := ⟨1,
 .join 0
 (o (.len false (.tmp 0)) <|
 .loop 1 [(.const (.slice none 0 0)), (.tmp 0), (.tmp 1), (.const (.int .i64 0))] l_ref01_Join_k0)
 l_ref01_Join_k1⟩
def l_replay_Reel_View_k0 : L :=
 o (.nilck (.tmp 0)) <|
 o (.faddr 7 (.tmp 3)) <|
 o (.load false 1 (.tmp 4)) <|
 o (.iaddr 99 (.tmp 5) (.tmp 1)) <|
 o (.load true 99 (.tmp 6)) <|
 o (.store 99 (.tmp 2) (.tmp 7)) <|
 o (.load true 99 (.tmp 2)) <|
 .ret [(.tmp 9), (.const (.bool true))]
def l_replay_Reel_View : LFn := ⟨2,
 o (.new 42) <|
 .join 0
 (o (.bin .lss (.tmp 1) (.const (.int .i64 0))) <|
 .ite (.tmp 3)
 (o (.build 42 []) <|
 o (.store 99 (.tmp 2) (.tmp 4)) <|
 o (.load true 99 (.tmp 2)) <|
 .ret [(.tmp 6), (.const (.bool false))])
 (o (.call F_replay_Reel_Len [.tmp 0]) <|
 o (.bin .geq (.tmp 1) (.tmp 4)) <|
 .ite (.tmp 5)
 (o (.build 42 []) <|
 o (.store 99 (.tmp 2) (.tmp 6)) <|
 o (.load true 99 (.tmp 2)) <|
 .ret [(.tmp 8), (.const (.bool false))])
 (.goto 0 [.tmp 0, .tmp 1, .tmp 2])))
 l_replay_Reel_View_k0⟩
def l_replay_Reel_Game : LFn := ⟨1,
 o (.new 26) <|
 o (.eqNil false .ptr (.tmp 0)) <|
 .ite (.tmp 2)
 (o (.build 26 []) <|
 o (.store 6 (.tmp 1) (.tmp 3)) <|
 o (.load true 6 (.tmp 1)) <|
 .ret [(.tmp 5)])
 (o (.nilck (.tmp 0)) <|
 o (.faddr 0 (.tmp 3)) <|
 o (.load true 6 (.tmp 4)) <|
 o (.new 26) <|
 o (.store 6 (.tmp 6) (.tmp 5)) <|
 o (.faddr 4 (.tmp 6)) <|
 o (.load false 1 (.tmp 8)) <|
 o (.faddr 5 (.tmp 6)) <|
 o (.load false 1 (.tmp 10)) <|
 oc none (.call F_slices_Clone_Lboard_Cell_board_Cell [.tmp 9]) .pure [(none, .load false 1 (.tmp 10))] <|
 o (.faddr 4 (.tmp 6)) <|
 om .pure (.call F_slices_Clone_Lcode_Code_code_Code [.tmp 11]) <|
 o (.store 1 (.tmp 13) (.tmp 12)) <|
 o (.faddr 5 (.tmp 6)) <|
 o (.store 1 (.tmp 16) (.tmp 14)) <|
 o (.load true 6 (.tmp 6)) <|
 o (.store 6 (.tmp 1) (.tmp 18)) <|
 o (.load true 6 (.tmp 1)) <|
 .ret [(.tmp 20)])⟩
def l_replay_Reel_Observer : LFn := ⟨1,
 o (.eqNil false .ptr (.tmp 0)) <|
 .ite (.tmp 1)
 (.ret [(.const (.int .i64 0))])
 (o (.nilck (.tmp 0)) <|
 o (.faddr 6 (.tmp 2)) <|
 o (.load false 1 (.tmp 3)) <|
 .ret [(.tmp 4)])⟩
def l_replay_Reel_Len : LFn := ⟨1,
 o (.eqNil false .ptr (.tmp 0)) <|
 .ite (.tmp 1)
 (.ret [(.const (.int .i64 0))])
 (o (.nilck (.tmp 0)) <|
 o (.faddr 7 (.tmp 2)) <|
 o (.load false 1 (.tmp 3)) <|
 o (.len false (.tmp 4)) <|
 .ret [(.tmp 5)])⟩
def l_replay_Tape_Len : LFn := ⟨1,
 o (.eqNil false .ptr (.tmp 0)) <|
 .ite (.tmp 1)
 (.ret [(.const (.int .i64 0))])
 (o (.nilck (.tmp 0)) <|
 o (.faddr 106 (.tmp 2)) <|
 o (.load false 1 (.tmp 3)) <|
 o (.len false (.tmp 4)) <|
 .ret [(.tmp 5)])⟩
def l_rules_State_View : LFn := ⟨2,
 o (.box 42 (.tmp 0)) <|
 o (.new 42) <|
 o (.faddr 0 (.tmp 2)) <|
 o (.load true 97 (.tmp 4)) <|
 o (.faddr 98 (.tmp 2)) <|
 o (.load false 1 (.tmp 6)) <|
 oc none (.call F_board_Board_View [.tmp 5, .tmp 1]) .pure [(none, .load false 1 (.tmp 6))] <|
 o (.build 42 [(0, 97, (.tmp 8)), (98, 1, (.tmp 7))]) <|
 o (.store 99 (.tmp 3) (.tmp 9)) <|
 o (.load true 99 (.tmp 3)) <|
 .ret [(.tmp 11)]⟩
def l_board_Board_Len : LFn := ⟨1,
 o (.box 38 (.tmp 0)) <|
 o (.faddr 96 (.tmp 1)) <|
 o (.load false 1 (.tmp 2)) <|
 .ret [(.tmp 3)]⟩
def l_board_Board_At : LFn := ⟨2,
 o (.box 38 (.tmp 0)) <|
 o (.new 35) <|
 o (.load true 97 (.tmp 2)) <|
 om .pure (.call F_board_Board_there [.tmp 4, .tmp 1]) <|
 o (.un .not (.tmp 5)) <|
 .ite (.tmp 6)
 (o (.build 35 []) <|
 o (.store 2 (.tmp 3) (.tmp 7)) <|
 o (.load true 2 (.tmp 3)) <|
 .ret [(.tmp 9), (.const (.bool false))])
 (o (.faddr 0 (.tmp 2)) <|
 o (.iaddrA 48 2 (.tmp 7) (.tmp 1)) <|
 o (.load true 2 (.tmp 8)) <|
 o (.store 2 (.tmp 3) (.tmp 9)) <|
 o (.load true 2 (.tmp 3)) <|
 .ret [(.tmp 11), (.const (.bool true))])⟩
def l_rules_Game_Right_k0 : L :=
 o (.bin .lss (.tmp 3) (.tmp 2)) <|
 .ite (.tmp 4)
 (o (.iaddr 2 (.tmp 1) (.tmp 3)) <|
 o (.load true 2 (.tmp 5)) <|
 o (.new 35) <|
 o (.store 2 (.tmp 7) (.tmp 6)) <|
 o (.faddr 1 (.tmp 7)) <|
 o (.load false 1 (.tmp 9)) <|
 o (.load true 6 (.tmp 0)) <|
 oc none (.call F_rules_Game_All [.tmp 11]) .pure [(none, .load false 1 (.tmp 9))] <|
 om .pure (.call F_mask_Mask_Within [.tmp 10, .tmp 12]) <|
 o (.un .not (.tmp 13)) <|
 .ite (.tmp 14)
 (.ret [(.const (.bool false))])
 (o (.bin .add (.tmp 3) (.const (.int .i64 1))) <|
 .goto 2 [.tmp 0, .tmp 1, .tmp 2, .tmp 15]))
 (.goto 1 [.tmp 0])
def l_rules_Game_Right_k1 : L :=
 o (.faddr 5 (.tmp 0)) <|
 o (.load false 1 (.tmp 1)) <|
 o (.faddr 4 (.tmp 0)) <|
 o (.load false 1 (.tmp 3)) <|
 o (.len false (.tmp 4)) <|
 o (.faddr 1 (.tmp 0)) <|
 o (.load false 1 (.tmp 6)) <|
 om .pure (.call F_code_Right [.tmp 2, .tmp 5, .tmp 7]) <|
 .ret [(.tmp 8)]
def l_rules_Game_Right_k2 : L :=
 .join 1
 (o (.faddr 4 (.tmp 0)) <|
 o (.load false 1 (.tmp 1)) <|
 o (.len false (.tmp 2)) <|
 .loop 2 [(.tmp 0), (.tmp 2), (.tmp 3), (.const (.int .i64 0))] l_rules_Game_Right_k0)
 l_rules_Game_Right_k1
def l_rules_Game_Right : LFn := ⟨1,
 o (.box 26 (.tmp 0)) <|
 .join 0
 (o (.faddr 0 (.tmp 1)) <|
 o (.load false 1 (.tmp 2)) <|
 o (.bin .lss (.tmp 3) (.const (.int .i64 1))) <|
 .ite (.tmp 4)
 (.ret [(.const (.bool false))])
 (o (.faddr 0 (.tmp 1)) <|
 o (.load false 1 (.tmp 5)) <|
 o (.bin .gtr (.tmp 6) (.const (.int .i64 32))) <|
 .ite (.tmp 7)
 (.ret [(.const (.bool false))])
 (o (.faddr 1 (.tmp 1)) <|
 o (.load false 1 (.tmp 8)) <|
 o (.bin .lss (.tmp 9) (.const (.int .i64 1))) <|
 .ite (.tmp 10)
 (.ret [(.const (.bool false))])
 (o (.faddr 1 (.tmp 1)) <|
 o (.load false 1 (.tmp 11)) <|
 o (.faddr 0 (.tmp 1)) <|
 o (.load false 1 (.tmp 13)) <|
 o (.minmax false [(.const (.int .i64 6)), (.tmp 14)]) <|
 o (.bin .gtr (.tmp 12) (.tmp 15)) <|
 .ite (.tmp 16)
 (.ret [(.const (.bool false))])
 (o (.faddr 3 (.tmp 1)) <|
 o (.load false 1 (.tmp 17)) <|
 o (.faddr 2 (.tmp 1)) <|
 o (.load false 1 (.tmp 19)) <|
 o (.bin .geq (.tmp 18) (.tmp 20)) <|
 .ite (.tmp 21)
 (.ret [(.const (.bool false))])
 (o (.faddr 4 (.tmp 1)) <|
 o (.load false 1 (.tmp 22)) <|
 o (.len false (.tmp 23)) <|
 o (.bin .gtr (.tmp 24) (.const (.int .i64 48))) <|
 .ite (.tmp 25)
 (.ret [(.const (.bool false))])
 (.goto 0 [.tmp 1])))))))
 l_rules_Game_Right_k2⟩
def l_board_New : LFn := ⟨1,
 o (.new 38) <|
 o (.new 38) <|
 o (.len false (.tmp 0)) <|
 o (.bin .gtr (.tmp 3) (.const (.int .i64 48))) <|
 .ite (.tmp 4)
 (o (.build 38 []) <|
 o (.store 97 (.tmp 1) (.tmp 5)) <|
 o (.load true 97 (.tmp 1)) <|
 .ret [(.tmp 7), (.const (.int .i64 6))])
 (o (.faddr 0 (.tmp 2)) <|
 o (.sliceArr 48 2 (.tmp 5) none none none) <|
 o (.copy 2 (.tmp 6) (.tmp 0)) <|
 o (.faddr 96 (.tmp 2)) <|
 o (.store 1 (.tmp 8) (.tmp 7)) <|
 o (.load true 97 (.tmp 2)) <|
 o (.store 97 (.tmp 1) (.tmp 10)) <|
 o (.load true 97 (.tmp 1)) <|
 .ret [(.tmp 12), (.const (.int .i64 0))])⟩
def l_board_Board_Put : LFn := ⟨3,
 o (.box 38 (.tmp 0)) <|
 o (.box 35 (.tmp 2)) <|
 o (.new 38) <|
 o (.load true 97 (.tmp 3)) <|
 om .pure (.call F_board_Board_there [.tmp 6, .tmp 1]) <|
 o (.un .not (.tmp 7)) <|
 .ite (.tmp 8)
 (o (.load true 97 (.tmp 3)) <|
 o (.store 97 (.tmp 5) (.tmp 9)) <|
 o (.load true 97 (.tmp 5)) <|
 .ret [(.tmp 11), (.const (.int .i64 7))])
 (o (.load true 2 (.tmp 4)) <|
 o (.faddr 0 (.tmp 3)) <|
 o (.iaddrA 48 2 (.tmp 10) (.tmp 1)) <|
 o (.store 2 (.tmp 11) (.tmp 9)) <|
 o (.load true 97 (.tmp 3)) <|
 o (.store 97 (.tmp 5) (.tmp 13)) <|
 o (.load true 97 (.tmp 5)) <|
 .ret [(.tmp 15), (.const (.int .i64 0))])⟩
def l_slices_Clone_Lboard_Cell_board_Cell : LFn := ⟨1,
 o (.eqNil false .slc (.tmp 0)) <|
 .ite (.tmp 1)
 (.ret [(.const (.slice none 0 0))])
 (o (.bslice 35 0 []) <|
 o (.append 2 8 (.tmp 2) (.tmp 0)) <|
 .ret [(.tmp 3)])⟩
def l_slices_Clone_Lcode_Code_code_Code : LFn := ⟨1,
 o (.eqNil false .slc (.tmp 0)) <|
 .ite (.tmp 1)
 (.ret [(.const (.slice none 0 0))])
 (o (.bslice 100 0 []) <|
 o (.append 6 12 (.tmp 2) (.tmp 0)) <|
 .ret [(.tmp 3)])⟩
def l_delta_Full : LFn := ⟨3,
 o (.box 38 (.tmp 0)) <|
 o (.new 102) <|
 o (.load true 97 (.tmp 3)) <|
 om .pure (.call F_delta_Of [.tmp 5, (.const (.int .u64 18446744073709551615)), .tmp 1, .tmp 2]) <|
 o (.store 4 (.tmp 4) (.tmp 6)) <|
 o (.load true 4 (.tmp 4)) <|
 .ret [(.tmp 8)]⟩
def l_vm_Run_k0 : L :=
 o (.bin .lss (.tmp 6) (.const (.int .i64 8))) <|
 .ite (.tmp 7)
 (o (.nilck (.tmp 5)) <|
 o (.faddr 102 (.tmp 8)) <|
 o (.iaddrA 8 2 (.tmp 9) (.tmp 6)) <|
 o (.faddr 1 (.tmp 10)) <|
 o (.store 1 (.tmp 11) (.tmp 1)) <|
 o (.bin .add (.tmp 6) (.const (.int .i64 1))) <|
 .goto 1 [.tmp 0, .tmp 1, .tmp 2, .tmp 3, .tmp 4, .tmp 5, .tmp 13])
 (.goto 0 [.tmp 0, .tmp 2, .tmp 3, .tmp 4, .tmp 5])
def l_vm_Run_k1 : L :=
 o (.nilck (.tmp 4)) <|
 o (.faddr 0 (.tmp 5)) <|
 o (.faddr 100 (.tmp 6)) <|
 o (.load false 1 (.tmp 7)) <|
 o (.bin .eql (.tmp 8) (.const (.int .i64 400))) <|
 .ite (.tmp 9)
 (o (.call F_vm_machine_fail [.tmp 4, (.const (.int .i64 9))]) <|
 .goto 1 [.tmp 1, .tmp 2, .tmp 3, .tmp 4])
 (o (.nilck (.tmp 4)) <|
 o (.faddr 0 (.tmp 10)) <|
 o (.faddr 100 (.tmp 11)) <|
 o (.load false 1 (.tmp 12)) <|
 o (.bin .add (.tmp 13) (.const (.int .i64 1))) <|
 o (.nilck (.tmp 4)) <|
 o (.faddr 0 (.tmp 15)) <|
 o (.faddr 100 (.tmp 16)) <|
 o (.store 1 (.tmp 17) (.tmp 14)) <|
 o (.nilck (.tmp 4)) <|
 o (.faddr 118 (.tmp 19)) <|
 o (.load false 1 (.tmp 20)) <|
 o (.iaddr 6 (.tmp 0) (.tmp 21)) <|
 o (.faddr 0 (.tmp 22)) <|
 o (.load false 1 (.tmp 23)) <|
 o (.bin .eql (.tmp 24) (.const (.int .u8 0))) <|
 .ite (.tmp 25)
 (.goto 1 [.tmp 1, .tmp 2, .tmp 3, .tmp 4])
 (o (.nilck (.tmp 4)) <|
 o (.faddr 118 (.tmp 26)) <|
 o (.load false 1 (.tmp 27)) <|
 o (.iaddr 6 (.tmp 0) (.tmp 28)) <|
 o (.load true 6 (.tmp 29)) <|
 o (.call F_vm_machine_follow [.tmp 4, .tmp 30]) <|
 .goto 2 [.tmp 0, .tmp 1, .tmp 2, .tmp 3, .tmp 4]))
def l_vm_Run_k2 : L :=
 .join 3
 (o (.nilck (.tmp 4)) <|
 o (.faddr 0 (.tmp 5)) <|
 o (.faddr 101 (.tmp 6)) <|
 o (.load false 1 (.tmp 7)) <|
 o (.bin .eql (.tmp 8) (.const (.int .i64 0))) <|
 .ite (.tmp 9)
 (o (.nilck (.tmp 4)) <|
 o (.faddr 118 (.tmp 10)) <|
 o (.load false 1 (.tmp 11)) <|
 o (.len false (.tmp 0)) <|
 o (.bin .lss (.tmp 12) (.tmp 13)) <|
 .ite (.tmp 14)
 (.goto 3 [.tmp 0, .tmp 1, .tmp 2, .tmp 3, .tmp 4])
 (.goto 1 [.tmp 1, .tmp 2, .tmp 3, .tmp 4]))
 (.goto 1 [.tmp 1, .tmp 2, .tmp 3, .tmp 4]))
 l_vm_Run_k1
def l_vm_Run_k3 : L :=
 o (.nilck (.tmp 3)) <|
 o (.faddr 0 (.tmp 4)) <|
 o (.faddr 101 (.tmp 5)) <|
 o (.load false 1 (.tmp 6)) <|
 o (.bin .neq (.tmp 7) (.const (.int .i64 0))) <|
 .ite (.tmp 8)
 (o (.load true 97 (.tmp 0)) <|
 o (.load true 1 (.tmp 1)) <|
 o (.nilck (.tmp 3)) <|
 o (.faddr 0 (.tmp 11)) <|
 o (.faddr 99 (.tmp 12)) <|
 o (.load false 1 (.tmp 13)) <|
 o (.nilck (.tmp 3)) <|
 o (.faddr 0 (.tmp 15)) <|
 o (.faddr 100 (.tmp 16)) <|
 o (.load false 1 (.tmp 17)) <|
 o (.nilck (.tmp 3)) <|
 o (.faddr 0 (.tmp 19)) <|
 o (.faddr 101 (.tmp 20)) <|
 o (.load false 1 (.tmp 21)) <|
 o (.build 108 [(0, 97, (.tmp 9)), (97, 1, (.tmp 10)), (99, 1, (.tmp 14)), (100, 1, (.tmp 18)), (101, 1, (.tmp 22))]) <|
 o (.store 102 (.tmp 2) (.tmp 23)) <|
 o (.load true 102 (.tmp 2)) <|
 .ret [(.tmp 25)])
 (o (.nilck (.tmp 3)) <|
 o (.faddr 0 (.tmp 9)) <|
 o (.load true 102 (.tmp 10)) <|
 o (.store 102 (.tmp 2) (.tmp 11)) <|
 o (.load true 102 (.tmp 2)) <|
 .ret [(.tmp 13)])
def l_vm_Run_k4 : L :=
 .join 1
 (.loop 2 [(.tmp 0), (.tmp 1), (.tmp 2), (.tmp 3), (.tmp 4)] l_vm_Run_k2)
 l_vm_Run_k3
def l_vm_Run : LFn := ⟨6,
 o (.box 38 (.tmp 1)) <|
 o (.box 40 (.tmp 2)) <|
 o (.new 108) <|
 o (.load true 97 (.tmp 6)) <|
 om .pure (.call F_board_Board_Len [.tmp 9]) <|
 o (.len false (.tmp 3)) <|
 om .pure (.call F_code_Right [.tmp 0, .tmp 10, .tmp 11]) <|
 o (.un .not (.tmp 12)) <|
 .ite (.tmp 13)
 (o (.load true 97 (.tmp 6)) <|
 o (.load true 1 (.tmp 7)) <|
 o (.build 108 [(0, 97, (.tmp 14)), (97, 1, (.tmp 15)), (101, 1, (.const (.int .i64 2)))]) <|
 o (.store 102 (.tmp 8) (.tmp 16)) <|
 o (.load true 102 (.tmp 8)) <|
 .ret [(.tmp 18)])
 (o (.build 173 [(119, 1, (.tmp 3)), (120, 1, (.tmp 4)), (121, 1, (.tmp 5)), (122, 1, (.func 80))]) <|
 o (.box 173 (.tmp 14)) <|
 o (.load true 97 (.tmp 6)) <|
 o (.load true 1 (.tmp 7)) <|
 o (.nilck (.tmp 15)) <|
 o (.faddr 0 (.tmp 18)) <|
 o (.faddr 0 (.tmp 19)) <|
 oc none (.store 97 (.tmp 20) (.tmp 16)) .raw [(none, .load true 1 (.tmp 7))] <|
 o (.nilck (.tmp 15)) <|
 o (.faddr 0 (.tmp 22)) <|
 o (.faddr 97 (.tmp 23)) <|
 o (.store 1 (.tmp 24) (.tmp 17)) <|
 .join 0
 (.loop 1 [(.tmp 0), (.tmp 5), (.tmp 6), (.tmp 7), (.tmp 8), (.tmp 15), (.const (.int .i64 0))] l_vm_Run_k0)
 l_vm_Run_k4)⟩
def l_rules_Game_all_k0 : L :=
 o (.conv .i32 (.tmp 3)) <|
 o (.bslice 21 1 [(0, 1, (.tmp 6))]) <|
 o (.append 1 4 (.tmp 2) (.tmp 7)) <|
 o (.bin .add (.tmp 5) (.const (.int .i64 1))) <|
 .goto 1 [.tmp 0, .tmp 1, .tmp 8, .tmp 4, .tmp 9]
def l_rules_Game_all_k1 : L :=
 o (.bin .lss (.tmp 4) (.tmp 3)) <|
 .ite (.tmp 5)
 (o (.faddr 3 (.tmp 1)) <|
 o (.load false 1 (.tmp 6)) <|
 .join 2
 (o (.len false (.tmp 0)) <|
 o (.bin .lss (.tmp 4) (.tmp 8)) <|
 .ite (.tmp 9)
 (o (.load true 6 (.tmp 1)) <|
 o (.iaddr 1 (.tmp 0) (.tmp 4)) <|
 o (.load false 1 (.tmp 11)) <|
 om .pure (.call F_rules_Game_Legal [.tmp 10, .tmp 12]) <|
 .ite (.tmp 13)
 (o (.iaddr 1 (.tmp 0) (.tmp 4)) <|
 o (.load false 1 (.tmp 14)) <|
 .goto 2 [.tmp 0, .tmp 1, .tmp 2, .tmp 15, .tmp 3, .tmp 4])
 (.goto 2 [.tmp 0, .tmp 1, .tmp 2, .tmp 7, .tmp 3, .tmp 4]))
 (.goto 2 [.tmp 0, .tmp 1, .tmp 2, .tmp 7, .tmp 3, .tmp 4]))
 l_rules_Game_all_k0)
 (.goto 0 [.tmp 2])
def l_rules_Game_all_k2 : L :=
 .ret [(.tmp 0)]
def l_rules_Game_all : LFn := ⟨2,
 o (.box 26 (.tmp 0)) <|
 .join 0
 (o (.faddr 1 (.tmp 2)) <|
 o (.load false 1 (.tmp 3)) <|
 .loop 1 [(.tmp 1), (.tmp 2), (.const (.slice none 0 0)), (.tmp 4), (.const (.int .i64 0))] l_rules_Game_all_k1)
 l_rules_Game_all_k2⟩
def l_rules_Game_All : LFn := ⟨1,
 o (.box 26 (.tmp 0)) <|
 o (.faddr 0 (.tmp 1)) <|
 o (.load false 1 (.tmp 2)) <|
 om .pure (.call F_mask_All [.tmp 3]) <|
 .ret [(.tmp 4)]⟩
def l_delta_Of_k0 : L :=
 o (.bin .lss (.tmp 5) (.tmp 4)) <|
 .ite (.tmp 6)
 (o (.bin .shr (.tmp 0) (.tmp 5)) <|
 o (.bin .and (.tmp 7) (.const (.int .u64 1))) <|
 o (.bin .eql (.tmp 8) (.const (.int .u64 0))) <|
 .ite (.tmp 9)
 (o (.bin .add (.tmp 5) (.const (.int .i64 1))) <|
 .goto 1 [.tmp 0, .tmp 1, .tmp 2, .tmp 3, .tmp 4, .tmp 10])
 (o (.load true 97 (.tmp 2)) <|
 om .pure (.call F_board_Board_At [.tmp 10, .tmp 5]) <|
 o (.ext (.tmp 11) 0) <|
 o (.ext (.tmp 11) 1) <|
 o (.new 35) <|
 o (.store 2 (.tmp 14) (.tmp 12)) <|
 o (.faddr 2 (.tmp 3)) <|
 o (.load false 1 (.tmp 16)) <|
 o (.conv .u8 (.tmp 5)) <|
 o (.bslice 5 1 [(0, 1, (.tmp 18))]) <|
 o (.faddr 3 (.tmp 3)) <|
 o (.load false 1 (.tmp 20)) <|
 o (.load true 2 (.tmp 14)) <|
 o (.bslice 35 1 [(0, 2, (.tmp 22))]) <|
 oc none (.append 1 1 (.tmp 17) (.tmp 19)) .raw [(none, .load false 1 (.tmp 20)), (none, .load true 2 (.tmp 14))] <|
 o (.faddr 2 (.tmp 3)) <|
 o (.append 2 8 (.tmp 21) (.tmp 23)) <|
 o (.store 1 (.tmp 25) (.tmp 24)) <|
 o (.faddr 3 (.tmp 3)) <|
 o (.store 1 (.tmp 28) (.tmp 26)) <|
 o (.bin .add (.tmp 5) (.const (.int .i64 1))) <|
 .goto 1 [.tmp 0, .tmp 1, .tmp 2, .tmp 3, .tmp 4, .tmp 30]))
 (.goto 0 [.tmp 1, .tmp 3])
def l_delta_Of_k1 : L :=
 o (.load true 4 (.tmp 1)) <|
 o (.store 4 (.tmp 0) (.tmp 2)) <|
 o (.load true 4 (.tmp 0)) <|
 .ret [(.tmp 4)]
def l_delta_Of : LFn := ⟨4,
 o (.box 38 (.tmp 0)) <|
 o (.new 102) <|
 o (.load true 97 (.tmp 4)) <|
 om .pure (.call F_board_Board_View [.tmp 6, .tmp 2]) <|
 o (.new 38) <|
 o (.store 97 (.tmp 8) (.tmp 7)) <|
 o (.load true 97 (.tmp 8)) <|
 om .pure (.call F_board_Board_Hash [.tmp 10]) <|
 o (.build 102 [(0, 1, (.tmp 3)), (1, 1, (.tmp 11))]) <|
 o (.new 102) <|
 o (.store 4 (.tmp 13) (.tmp 12)) <|
 .join 0
 (o (.load true 97 (.tmp 8)) <|
 om .pure (.call F_board_Board_Len [.tmp 15]) <|
 .loop 1 [(.tmp 1), (.tmp 5), (.tmp 8), (.tmp 13), (.tmp 16), (.const (.int .i64 0))] l_delta_Of_k0)
 l_delta_Of_k1⟩
def l_delta_Delta_Apply_k0 : L :=
 o (.bin .lss (.tmp 6) (.tmp 5)) <|
 .ite (.tmp 7)
 (o (.iaddr 1 (.tmp 4) (.tmp 6)) <|
 o (.load false 1 (.tmp 8)) <|
 o (.faddr 3 (.tmp 0)) <|
 o (.load false 1 (.tmp 10)) <|
 o (.len false (.tmp 11)) <|
 o (.bin .geq (.tmp 6) (.tmp 12)) <|
 .ite (.tmp 13)
 (.goto 0 [.tmp 0, .tmp 1, .tmp 2, .tmp 3])
 (o (.load true 97 (.tmp 3)) <|
 o (.conv .i64 (.tmp 9)) <|
 o (.faddr 3 (.tmp 0)) <|
 o (.load false 1 (.tmp 16)) <|
 o (.iaddr 2 (.tmp 17) (.tmp 6)) <|
 o (.load true 2 (.tmp 18)) <|
 om .pure (.call F_board_Board_Put [.tmp 14, .tmp 15, .tmp 19]) <|
 o (.ext (.tmp 20) 0) <|
 o (.ext (.tmp 20) 1) <|
 o (.store 97 (.tmp 3) (.tmp 21)) <|
 o (.bin .neq (.tmp 22) (.const (.int .i64 0))) <|
 .ite (.tmp 24)
 (o (.load true 97 (.tmp 1)) <|
 o (.store 97 (.tmp 2) (.tmp 25)) <|
 o (.load true 97 (.tmp 2)) <|
 .ret [(.tmp 27), (.tmp 22)])
 (o (.bin .add (.tmp 6) (.const (.int .i64 1))) <|
 .goto 1 [.tmp 0, .tmp 1, .tmp 2, .tmp 3, .tmp 4, .tmp 5, .tmp 25])))
 (.goto 0 [.tmp 0, .tmp 1, .tmp 2, .tmp 3])
def l_delta_Delta_Apply_k1 : L :=
 o (.load true 97 (.tmp 3)) <|
 o (.faddr 1 (.tmp 0)) <|
 o (.load false 1 (.tmp 5)) <|
 oc none (.call F_board_Board_Hash [.tmp 4]) .pure [(none, .load false 1 (.tmp 5))] <|
 o (.bin .neq (.tmp 7) (.tmp 6)) <|
 .ite (.tmp 8)
 (o (.load true 97 (.tmp 1)) <|
 o (.store 97 (.tmp 2) (.tmp 9)) <|
 o (.load true 97 (.tmp 2)) <|
 .ret [(.tmp 11), (.const (.int .i64 13))])
 (o (.load true 97 (.tmp 3)) <|
 o (.store 97 (.tmp 2) (.tmp 9)) <|
 o (.load true 97 (.tmp 2)) <|
 .ret [(.tmp 11), (.const (.int .i64 0))])
def l_delta_Delta_Apply : LFn := ⟨2,
 o (.box 102 (.tmp 0)) <|
 o (.box 38 (.tmp 1)) <|
 o (.new 38) <|
 o (.load true 97 (.tmp 3)) <|
 o (.new 38) <|
 o (.store 97 (.tmp 6) (.tmp 5)) <|
 .join 0
 (o (.faddr 2 (.tmp 2)) <|
 o (.load false 1 (.tmp 8)) <|
 o (.len false (.tmp 9)) <|
 .loop 1 [(.tmp 2), (.tmp 3), (.tmp 4), (.tmp 6), (.tmp 9), (.tmp 10), (.const (.int .i64 0))] l_delta_Delta_Apply_k0)
 l_delta_Delta_Apply_k1⟩
def l_board_Board_View_k0 : L :=
 o (.bin .lss (.tmp 4) (.tmp 3)) <|
 .ite (.tmp 5)
 (o (.faddr 0 (.tmp 1)) <|
 o (.iaddrA 48 2 (.tmp 6) (.tmp 4)) <|
 o (.faddr 1 (.tmp 7)) <|
 o (.load false 1 (.tmp 8)) <|
 om .pure (.call F_mask_Mask_Has [.tmp 9, .tmp 0]) <|
 o (.un .not (.tmp 10)) <|
 .ite (.tmp 11)
 (o (.faddr 0 (.tmp 1)) <|
 o (.iaddrA 48 2 (.tmp 12) (.tmp 4)) <|
 o (.faddr 0 (.tmp 13)) <|
 o (.store 1 (.tmp 14) (.const (.int .i32 0))) <|
 o (.bin .add (.tmp 4) (.const (.int .i64 1))) <|
 .goto 1 [.tmp 0, .tmp 1, .tmp 2, .tmp 3, .tmp 16])
 (o (.bin .add (.tmp 4) (.const (.int .i64 1))) <|
 .goto 1 [.tmp 0, .tmp 1, .tmp 2, .tmp 3, .tmp 12]))
 (.goto 0 [.tmp 1, .tmp 2])
def l_board_Board_View_k1 : L :=
 o (.load true 97 (.tmp 0)) <|
 o (.store 97 (.tmp 1) (.tmp 2)) <|
 o (.load true 97 (.tmp 1)) <|
 .ret [(.tmp 4)]
def l_board_Board_View : LFn := ⟨2,
 o (.box 38 (.tmp 0)) <|
 o (.new 38) <|
 .join 0
 (o (.faddr 96 (.tmp 2)) <|
 o (.load false 1 (.tmp 4)) <|
 .loop 1 [(.tmp 1), (.tmp 2), (.tmp 3), (.tmp 5), (.const (.int .i64 0))] l_board_Board_View_k0)
 l_board_Board_View_k1⟩
def l_ink_Pen_Byte : LFn := ⟨2,
 o (.bslice 5 1 [(0, 1, (.tmp 1))]) <|
 o (.call F_ink_Pen_add [.tmp 0, .tmp 2]) <|
 .ret [(.tmp 3)]⟩
def l_ink_Pen_Blob : LFn := ⟨2,
 o (.len false (.tmp 1)) <|
 o (.conv .u64 (.tmp 2)) <|
 o (.call F_ink_Pen_Num [.tmp 0, .tmp 3]) <|
 o (.call F_ink_Pen_add [.tmp 4, .tmp 1]) <|
 .ret [(.tmp 5)]⟩
def l_rules_Game_Bytes_k0 : L :=
 o (.bin .lss (.tmp 4) (.tmp 3)) <|
 .ite (.tmp 5)
 (o (.iaddr 2 (.tmp 2) (.tmp 4)) <|
 o (.load true 2 (.tmp 6)) <|
 o (.new 35) <|
 o (.store 2 (.tmp 8) (.tmp 7)) <|
 o (.faddr 0 (.tmp 8)) <|
 o (.load false 1 (.tmp 10)) <|
 o (.conv .u32 (.tmp 11)) <|
 o (.faddr 1 (.tmp 8)) <|
 o (.load false 1 (.tmp 13)) <|
 oc none (.call F_ink_Pen_Word [.tmp 1, .tmp 12]) .raw [(none, .load false 1 (.tmp 13))] <|
 o (.call F_ink_Pen_Word [.tmp 15, .tmp 14]) <|
 o (.bin .add (.tmp 4) (.const (.int .i64 1))) <|
 .goto 1 [.tmp 0, .tmp 1, .tmp 2, .tmp 3, .tmp 17])
 (.goto 0 [.tmp 0, .tmp 1])
def l_rules_Game_Bytes_k1 : L :=
 o (.faddr 5 (.tmp 0)) <|
 o (.load false 1 (.tmp 2)) <|
 om .pure (.call F_code_Bytes [.tmp 3]) <|
 o (.call F_ink_Pen_Blob [.tmp 1, .tmp 4]) <|
 o (.call F_ink_Pen_Bytes [.tmp 5]) <|
 .ret [(.tmp 6)]
def l_rules_Game_Bytes : LFn := ⟨1,
 o (.box 26 (.tmp 0)) <|
 o (.load true 6 (.tmp 1)) <|
 om .pure (.call F_rules_Game_Right [.tmp 2]) <|
 o (.un .not (.tmp 3)) <|
 .ite (.tmp 4)
 (.ret [(.const (.slice none 0 0))])
 (o (.new 116) <|
 o (.faddr 0 (.tmp 1)) <|
 o (.load false 1 (.tmp 6)) <|
 o (.conv .u8 (.tmp 7)) <|
 o (.faddr 1 (.tmp 1)) <|
 o (.load false 1 (.tmp 9)) <|
 o (.conv .u8 (.tmp 10)) <|
 o (.faddr 2 (.tmp 1)) <|
 o (.load false 1 (.tmp 12)) <|
 o (.faddr 3 (.tmp 1)) <|
 o (.load false 1 (.tmp 14)) <|
 o (.faddr 4 (.tmp 1)) <|
 o (.load false 1 (.tmp 16)) <|
 o (.len false (.tmp 17)) <|
 o (.conv .u8 (.tmp 18)) <|
 oc none (.call F_ink_Pen_Byte [.tmp 5, .tmp 8]) .raw [(none, .load false 1 (.tmp 9)), (none, .load false 1 (.tmp 12)), (none, .load false 1 (.tmp 14)), (none, .load false 1 (.tmp 16))] <|
 oc none (.call F_ink_Pen_Byte [.tmp 20, .tmp 11]) .raw [(none, .load false 1 (.tmp 12)), (none, .load false 1 (.tmp 14)), (none, .load false 1 (.tmp 16))] <|
 oc none (.call F_ink_Pen_Word [.tmp 21, .tmp 13]) .raw [(none, .load false 1 (.tmp 14)), (none, .load false 1 (.tmp 16))] <|
 oc none (.call F_ink_Pen_Word [.tmp 22, .tmp 15]) .raw [(none, .load false 1 (.tmp 16))] <|
 o (.call F_ink_Pen_Byte [.tmp 23, .tmp 19]) <|
 .join 0
 (o (.faddr 4 (.tmp 1)) <|
 o (.load false 1 (.tmp 25)) <|
 o (.len false (.tmp 26)) <|
 .loop 1 [(.tmp 1), (.tmp 5), (.tmp 26), (.tmp 27), (.const (.int .i64 0))] l_rules_Game_Bytes_k0)
 l_rules_Game_Bytes_k1)⟩
def l_ink_Pen_Num_k0 : L :=
 o (.bin .geq (.tmp 1) (.const (.int .u64 128))) <|
 .ite (.tmp 2)
 (o (.conv .u8 (.tmp 1)) <|
 o (.bin .or (.tmp 3) (.const (.int .u8 128))) <|
 o (.bslice 5 1 [(0, 1, (.tmp 4))]) <|
 o (.call F_ink_Pen_add [.tmp 0, .tmp 5]) <|
 o (.bin .shr (.tmp 1) (.const (.int .u64 7))) <|
 .goto 1 [.tmp 0, .tmp 7])
 (.goto 0 [.tmp 0, .tmp 1])
def l_ink_Pen_Num_k1 : L :=
 o (.conv .u8 (.tmp 1)) <|
 o (.bslice 5 1 [(0, 1, (.tmp 2))]) <|
 o (.call F_ink_Pen_add [.tmp 0, .tmp 3]) <|
 .ret [(.tmp 4)]
def l_ink_Pen_Num : LFn := ⟨2,
 .join 0
 (.loop 1 [(.tmp 0), (.tmp 1)] l_ink_Pen_Num_k0)
 l_ink_Pen_Num_k1⟩
def l_delta_Delta_Bytes_k0 : L :=
 o (.bin .lss (.tmp 4) (.tmp 3)) <|
 .ite (.tmp 5)
 (o (.iaddr 2 (.tmp 2) (.tmp 4)) <|
 o (.load true 2 (.tmp 6)) <|
 o (.new 35) <|
 o (.store 2 (.tmp 8) (.tmp 7)) <|
 o (.faddr 2 (.tmp 0)) <|
 o (.load false 1 (.tmp 10)) <|
 o (.iaddr 1 (.tmp 11) (.tmp 4)) <|
 o (.load false 1 (.tmp 12)) <|
 o (.faddr 0 (.tmp 8)) <|
 o (.load false 1 (.tmp 14)) <|
 o (.conv .u32 (.tmp 15)) <|
 o (.faddr 1 (.tmp 8)) <|
 o (.load false 1 (.tmp 17)) <|
 oc none (.call F_ink_Pen_Byte [.tmp 1, .tmp 13]) .raw [(none, .load false 1 (.tmp 14)), (none, .load false 1 (.tmp 17))] <|
 oc none (.call F_ink_Pen_Word [.tmp 19, .tmp 16]) .raw [(none, .load false 1 (.tmp 17))] <|
 o (.call F_ink_Pen_Word [.tmp 20, .tmp 18]) <|
 o (.bin .add (.tmp 4) (.const (.int .i64 1))) <|
 .goto 1 [.tmp 0, .tmp 1, .tmp 2, .tmp 3, .tmp 22])
 (.goto 0 [.tmp 1])
def l_delta_Delta_Bytes_k1 : L :=
 o (.call F_ink_Pen_Bytes [.tmp 0]) <|
 .ret [(.tmp 1)]
def l_delta_Delta_Bytes : LFn := ⟨1,
 o (.box 102 (.tmp 0)) <|
 o (.load true 4 (.tmp 1)) <|
 om .pure (.call F_delta_Delta_right [.tmp 2]) <|
 o (.un .not (.tmp 3)) <|
 .ite (.tmp 4)
 (.ret [(.const (.slice none 0 0))])
 (o (.new 116) <|
 o (.faddr 0 (.tmp 1)) <|
 o (.load false 1 (.tmp 6)) <|
 o (.faddr 1 (.tmp 1)) <|
 o (.load false 1 (.tmp 8)) <|
 o (.faddr 2 (.tmp 1)) <|
 o (.load false 1 (.tmp 10)) <|
 o (.len false (.tmp 11)) <|
 o (.conv .u8 (.tmp 12)) <|
 oc none (.call F_ink_Pen_Word [.tmp 5, .tmp 7]) .raw [(none, .load false 1 (.tmp 8)), (none, .load false 1 (.tmp 10))] <|
 oc none (.call F_ink_Pen_Word [.tmp 14, .tmp 9]) .raw [(none, .load false 1 (.tmp 10))] <|
 o (.call F_ink_Pen_Byte [.tmp 15, .tmp 13]) <|
 .join 0
 (o (.faddr 3 (.tmp 1)) <|
 o (.load false 1 (.tmp 17)) <|
 o (.len false (.tmp 18)) <|
 .loop 1 [(.tmp 1), (.tmp 5), (.tmp 18), (.tmp 19), (.const (.int .i64 0))] l_delta_Delta_Bytes_k0)
 l_delta_Delta_Bytes_k1)⟩
def l_wax_Make_k0 : L :=
 o (.bin .lss (.tmp 2) (.const (.int .i64 256))) <|
 .ite (.tmp 3)
 (o (.conv .u8 (.tmp 2)) <|
 om .pure (.call F_wax_Step [(.const (.int .u32 0)), .tmp 4]) <|
 o (.iaddrA 256 1 (.tmp 1) (.tmp 2)) <|
 o (.store 1 (.tmp 6) (.tmp 5)) <|
 o (.bin .add (.tmp 2) (.const (.int .i64 1))) <|
 .goto 1 [.tmp 0, .tmp 1, .tmp 8])
 (.goto 0 [.tmp 0, .tmp 1])
def l_wax_Make_k1 : L :=
 o (.load true 256 (.tmp 1)) <|
 o (.store 256 (.tmp 0) (.tmp 2)) <|
 o (.load true 256 (.tmp 0)) <|
 .ret [(.tmp 4)]
def l_wax_Make : LFn := ⟨0,
 o (.new 122) <|
 o (.new 122) <|
 .join 0
 (.loop 1 [(.tmp 0), (.tmp 1), (.const (.int .i64 0))] l_wax_Make_k0)
 l_wax_Make_k1⟩
def l_wax_Table_Seal : LFn := ⟨2,
 o (.box 122 (.tmp 0)) <|
 o (.load true 256 (.tmp 2)) <|
 om .pure (.call F_wax_Table_tail [.tmp 3, .tmp 1]) <|
 o (.new 184) <|
 o (.store 4 (.tmp 5) (.tmp 4)) <|
 o (.sliceArr 4 1 (.tmp 5) none none none) <|
 o (.call F_bytes_Clone [.tmp 1]) <|
 o (.append 1 1 (.tmp 8) (.tmp 7)) <|
 .ret [(.tmp 9)]⟩
def l_ink_Pen_Bytes : LFn := ⟨1,
 o (.eqNil false .ptr (.tmp 0)) <|
 .ite (.tmp 1)
 (.ret [(.const (.slice none 0 0))])
 (o (.nilck (.tmp 0)) <|
 o (.faddr 0 (.tmp 2)) <|
 o (.load false 1 (.tmp 3)) <|
 om .pure (.call F_bytes_Clone [.tmp 4]) <|
 .ret [(.tmp 5)])⟩
def l_wax_Table_Open : LFn := ⟨2,
 o (.box 122 (.tmp 0)) <|
 o (.len false (.tmp 1)) <|
 o (.bin .sub (.tmp 3) (.const (.int .i64 4))) <|
 o (.bin .lss (.tmp 4) (.const (.int .i64 0))) <|
 .ite (.tmp 5)
 (.ret [(.const (.slice none 0 0)), (.const (.int .i64 2))])
 (o (.slice 1 (.tmp 1) (some (.tmp 4)) none none) <|
 o (.s2ap 4 (.tmp 6)) <|
 o (.load true 4 (.tmp 7)) <|
 o (.load true 256 (.tmp 2)) <|
 o (.slice 1 (.tmp 1) none (some (.tmp 4)) none) <|
 oc none (.call F_wax_Table_tail [.tmp 9, .tmp 10]) .pure [(none, .load true 4 (.tmp 7))] <|
 o (.eqAgg true 184 (.tmp 8) (.tmp 11)) <|
 .ite (.tmp 12)
 (.ret [(.const (.slice none 0 0)), (.const (.int .i64 5))])
 (o (.slice 1 (.tmp 1) none (some (.tmp 4)) none) <|
 om .pure (.call F_bytes_Clone [.tmp 13]) <|
 .ret [(.tmp 14), (.const (.int .i64 0))]))⟩
def l_bytes_CutPrefix : LFn := ⟨2,
 om .pure (.call F_bytes_HasPrefix [.tmp 0, .tmp 1]) <|
 o (.un .not (.tmp 2)) <|
 .ite (.tmp 3)
 (.ret [(.tmp 0), (.const (.bool false))])
 (o (.len false (.tmp 1)) <|
 o (.slice 1 (.tmp 0) (some (.tmp 4)) none none) <|
 .ret [(.tmp 5), (.const (.bool true))])⟩
def l_ink_Read : LFn := ⟨1,
 om .pure (.call F_bytes_Clone [.tmp 0]) <|
 o (.build 187 [(0, 1, (.tmp 1))]) <|
 o (.box 187 (.tmp 2)) <|
 .ret [(.tmp 3)]⟩
def l_rules_Parse_k0 : L :=
 o (.bin .lss (.tmp 5) (.tmp 4)) <|
 .ite (.tmp 6)
 (o (.call F_ink_Eye_Word [.tmp 2]) <|
 o (.call F_ink_Eye_Word [.tmp 2]) <|
 o (.faddr 4 (.tmp 3)) <|
 o (.load false 1 (.tmp 9)) <|
 o (.conv .i32 (.tmp 7)) <|
 o (.build 35 [(0, 1, (.tmp 11)), (1, 1, (.tmp 8))]) <|
 o (.bslice 35 1 [(0, 2, (.tmp 12))]) <|
 o (.append 2 8 (.tmp 10) (.tmp 13)) <|
 o (.faddr 4 (.tmp 3)) <|
 o (.store 1 (.tmp 15) (.tmp 14)) <|
 o (.bin .add (.tmp 5) (.const (.int .u8 1))) <|
 .goto 1 [.tmp 0, .tmp 1, .tmp 2, .tmp 3, .tmp 4, .tmp 17])
 (.goto 0 [.tmp 0, .tmp 1, .tmp 2, .tmp 3])
def l_rules_Parse_k1 : L :=
 o (.len false (.tmp 0)) <|
 o (.call F_ink_Eye_Blob [.tmp 2, .tmp 4]) <|
 om .pure (.call F_code_Parse [.tmp 5]) <|
 o (.ext (.tmp 6) 0) <|
 o (.ext (.tmp 6) 1) <|
 o (.faddr 5 (.tmp 3)) <|
 o (.store 1 (.tmp 9) (.tmp 7)) <|
 o (.bin .neq (.tmp 8) (.const (.int .i64 0))) <|
 .ite (.tmp 11)
 (o (.build 26 []) <|
 o (.store 6 (.tmp 1) (.tmp 12)) <|
 o (.load true 6 (.tmp 1)) <|
 .ret [(.tmp 14), (.const (.int .i64 2))])
 (o (.call F_ink_Eye_Done [.tmp 2]) <|
 o (.bin .neq (.tmp 12) (.const (.int .i64 0))) <|
 .ite (.tmp 13)
 (o (.build 26 []) <|
 o (.store 6 (.tmp 1) (.tmp 14)) <|
 o (.load true 6 (.tmp 1)) <|
 .ret [(.tmp 16), (.const (.int .i64 2))])
 (o (.load true 6 (.tmp 3)) <|
 om .pure (.call F_rules_Game_Right [.tmp 14]) <|
 o (.un .not (.tmp 15)) <|
 .ite (.tmp 16)
 (o (.build 26 []) <|
 o (.store 6 (.tmp 1) (.tmp 17)) <|
 o (.load true 6 (.tmp 1)) <|
 .ret [(.tmp 19), (.const (.int .i64 2))])
 (o (.load true 6 (.tmp 3)) <|
 o (.store 6 (.tmp 1) (.tmp 17)) <|
 o (.load true 6 (.tmp 1)) <|
 .ret [(.tmp 19), (.const (.int .i64 0))])))
def l_rules_Parse : LFn := ⟨1,
 o (.new 26) <|
 o (.call F_ink_Read [.tmp 0]) <|
 o (.call F_ink_Eye_Byte [.tmp 2]) <|
 o (.conv .i64 (.tmp 3)) <|
 o (.call F_ink_Eye_Byte [.tmp 2]) <|
 o (.conv .i64 (.tmp 5)) <|
 o (.call F_ink_Eye_Word [.tmp 2]) <|
 o (.call F_ink_Eye_Word [.tmp 2]) <|
 o (.build 26 [(0, 1, (.tmp 4)), (1, 1, (.tmp 6)), (2, 1, (.tmp 7)), (3, 1, (.tmp 8))]) <|
 o (.new 26) <|
 o (.store 6 (.tmp 10) (.tmp 9)) <|
 .join 0
 (o (.call F_ink_Eye_Byte [.tmp 2]) <|
 .loop 1 [(.tmp 0), (.tmp 1), (.tmp 2), (.tmp 10), (.tmp 12), (.const (.int .u8 0))] l_rules_Parse_k0)
 l_rules_Parse_k1⟩
def l_ink_Eye_Blob_k0 : L :=
 o (.conv .i64 (.tmp 1)) <|
 o (.call F_ink_Eye_take [.tmp 0, .tmp 2]) <|
 om .pure (.call F_bytes_Clone [.tmp 3]) <|
 .ret [(.tmp 4)]
def l_ink_Eye_Blob : LFn := ⟨2,
 o (.minmax true [(.tmp 1), (.const (.int .i64 0))]) <|
 o (.conv .u64 (.tmp 2)) <|
 o (.call F_ink_Eye_Num [.tmp 0, .tmp 3]) <|
 .join 0
 (o (.call F_ink_Eye_wrong [.tmp 0]) <|
 .ite (.tmp 5)
 (o (.call F_ink_Eye_fail [.tmp 0]) <|
 .ret [(.const (.slice none 0 0))])
 (o (.nilck (.tmp 0)) <|
 o (.faddr 0 (.tmp 6)) <|
 o (.load false 1 (.tmp 7)) <|
 o (.len false (.tmp 8)) <|
 o (.conv .u64 (.tmp 9)) <|
 o (.bin .gtr (.tmp 4) (.tmp 10)) <|
 .ite (.tmp 11)
 (o (.call F_ink_Eye_fail [.tmp 0]) <|
 .ret [(.const (.slice none 0 0))])
 (.goto 0 [.tmp 0, .tmp 4])))
 l_ink_Eye_Blob_k0⟩
def l_ink_Eye_Byte : LFn := ⟨1,
 o (.call F_ink_Eye_take [.tmp 0, (.const (.int .i64 1))]) <|
 o (.eqNil true .slc (.tmp 1)) <|
 .ite (.tmp 2)
 (o (.iaddr 1 (.tmp 1) (.const (.int .i64 0))) <|
 o (.load false 1 (.tmp 3)) <|
 .ret [(.tmp 4)])
 (.ret [(.const (.int .u8 0))])⟩
def l_ink_Eye_Num_k0 : L :=
 o (.bin .shl (.tmp 5) (.tmp 3)) <|
 o (.bin .or (.tmp 2) (.tmp 6)) <|
 o (.bin .lss (.tmp 4) (.const (.int .u8 128))) <|
 .ite (.tmp 8)
 (.goto 0 [.tmp 0, .tmp 1, .tmp 7])
 (o (.bin .add (.tmp 3) (.const (.int .i64 7))) <|
 .goto 1 [.tmp 0, .tmp 1, .tmp 7, .tmp 9])
def l_ink_Eye_Num_k1 : L :=
 o (.call F_ink_Eye_Byte [.tmp 0]) <|
 o (.bin .andNot (.tmp 4) (.const (.int .u8 128))) <|
 o (.conv .u64 (.tmp 5)) <|
 .join 2
 (o (.call F_ink_Eye_wrong [.tmp 0]) <|
 .ite (.tmp 7)
 (o (.call F_ink_Eye_fail [.tmp 0]) <|
 .ret [(.const (.int .u64 0))])
 (o (.bin .gtr (.tmp 3) (.const (.int .i64 0))) <|
 .ite (.tmp 8)
 (o (.bin .eql (.tmp 4) (.const (.int .u8 0))) <|
 .ite (.tmp 9)
 (o (.call F_ink_Eye_fail [.tmp 0]) <|
 .ret [(.const (.int .u64 0))])
 (o (.bin .gtr (.tmp 3) (.const (.int .i64 63))) <|
 .ite (.tmp 10)
 (o (.call F_ink_Eye_fail [.tmp 0]) <|
 .ret [(.const (.int .u64 0))])
 (o (.bin .shr (.const (.int .u64 18446744073709551615)) (.tmp 3)) <|
 o (.bin .gtr (.tmp 6) (.tmp 11)) <|
 .ite (.tmp 12)
 (o (.call F_ink_Eye_fail [.tmp 0]) <|
 .ret [(.const (.int .u64 0))])
 (.goto 2 [.tmp 0, .tmp 1, .tmp 2, .tmp 3, .tmp 4, .tmp 6]))))
 (o (.bin .gtr (.tmp 3) (.const (.int .i64 63))) <|
 .ite (.tmp 9)
 (o (.call F_ink_Eye_fail [.tmp 0]) <|
 .ret [(.const (.int .u64 0))])
 (o (.bin .shr (.const (.int .u64 18446744073709551615)) (.tmp 3)) <|
 o (.bin .gtr (.tmp 6) (.tmp 10)) <|
 .ite (.tmp 11)
 (o (.call F_ink_Eye_fail [.tmp 0]) <|
 .ret [(.const (.int .u64 0))])
 (.goto 2 [.tmp 0, .tmp 1, .tmp 2, .tmp 3, .tmp 4, .tmp 6])))))
 l_ink_Eye_Num_k0
def l_ink_Eye_Num_k2 : L :=
 o (.bin .gtr (.tmp 2) (.tmp 1)) <|
 .ite (.tmp 3)
 (o (.call F_ink_Eye_fail [.tmp 0]) <|
 .ret [(.const (.int .u64 0))])
 (.ret [(.tmp 2)])
def l_ink_Eye_Num : LFn := ⟨2,
 .join 0
 (.loop 1 [(.tmp 0), (.tmp 1), (.const (.int .u64 0)), (.const (.int .i64 0))] l_ink_Eye_Num_k1)
 l_ink_Eye_Num_k2⟩
def l_replay_Reel_follow_k0 : L :=
 o (.nilck (.tmp 0)) <|
 o (.faddr 7 (.tmp 3)) <|
 o (.load false 1 (.tmp 4)) <|
 o (.load true 97 (.tmp 2)) <|
 o (.faddr 0 (.tmp 1)) <|
 o (.load false 1 (.tmp 7)) <|
 o (.build 42 [(0, 97, (.tmp 6)), (98, 1, (.tmp 8))]) <|
 o (.bslice 42 1 [(0, 99, (.tmp 9))]) <|
 o (.append 99 408 (.tmp 5) (.tmp 10)) <|
 o (.nilck (.tmp 0)) <|
 o (.faddr 7 (.tmp 12)) <|
 o (.store 1 (.tmp 13) (.tmp 11)) <|
 .ret [(.const (.bool true))]
def l_replay_Reel_follow_k1 : L :=
 .join 1
 (o (.bin .neq (.tmp 2) (.const (.int .i64 0))) <|
 .ite (.tmp 4)
 (.ret [(.const (.bool false))])
 (o (.load true 97 (.tmp 3)) <|
 o (.nilck (.tmp 0)) <|
 o (.faddr 0 (.tmp 6)) <|
 o (.faddr 4 (.tmp 7)) <|
 o (.load false 1 (.tmp 8)) <|
 o (.len false (.tmp 9)) <|
 oc none (.call F_board_Board_Len [.tmp 5]) .pure [(none, .load false 1 (.tmp 8))] <|
 o (.bin .neq (.tmp 11) (.tmp 10)) <|
 .ite (.tmp 12)
 (.ret [(.const (.bool false))])
 (o (.load true 97 (.tmp 3)) <|
 o (.load true 97 (.tmp 3)) <|
 o (.nilck (.tmp 0)) <|
 o (.faddr 6 (.tmp 15)) <|
 o (.load false 1 (.tmp 16)) <|
 oc none (.call F_board_Board_View [.tmp 14, .tmp 17]) .pure [(none, .load true 97 (.tmp 3))] <|
 o (.eqAgg true 38 (.tmp 13) (.tmp 18)) <|
 .ite (.tmp 19)
 (.ret [(.const (.bool false))])
 (.goto 1 [.tmp 0, .tmp 1, .tmp 3]))))
 l_replay_Reel_follow_k0
def l_replay_Reel_follow : LFn := ⟨2,
 om .pure (.call F_delta_Parse [.tmp 1]) <|
 o (.ext (.tmp 2) 0) <|
 o (.ext (.tmp 2) 1) <|
 o (.new 102) <|
 o (.store 4 (.tmp 5) (.tmp 3)) <|
 o (.bin .neq (.tmp 4) (.const (.int .i64 0))) <|
 .ite (.tmp 7)
 (.ret [(.const (.bool false))])
 (o (.load true 4 (.tmp 5)) <|
 om .pure (.call F_delta_Delta_Board [.tmp 8]) <|
 o (.ext (.tmp 9) 0) <|
 o (.ext (.tmp 9) 1) <|
 o (.new 38) <|
 o (.store 97 (.tmp 12) (.tmp 10)) <|
 .join 0
 (o (.nilck (.tmp 0)) <|
 o (.faddr 7 (.tmp 14)) <|
 o (.load false 1 (.tmp 15)) <|
 o (.len false (.tmp 16)) <|
 o (.bin .gtr (.tmp 17) (.const (.int .i64 0))) <|
 .ite (.tmp 18)
 (o (.load true 4 (.tmp 5)) <|
 o (.nilck (.tmp 0)) <|
 o (.faddr 7 (.tmp 20)) <|
 o (.load false 1 (.tmp 21)) <|
 o (.bin .sub (.tmp 17) (.const (.int .i64 1))) <|
 o (.iaddr 99 (.tmp 22) (.tmp 23)) <|
 o (.faddr 0 (.tmp 24)) <|
 o (.load true 97 (.tmp 25)) <|
 om .pure (.call F_delta_Delta_Apply [.tmp 19, .tmp 26]) <|
 o (.ext (.tmp 27) 0) <|
 o (.ext (.tmp 27) 1) <|
 o (.store 97 (.tmp 12) (.tmp 28)) <|
 o (.faddr 0 (.tmp 5)) <|
 o (.load false 1 (.tmp 31)) <|
 o (.conv .u64 (.tmp 32)) <|
 o (.nilck (.tmp 0)) <|
 o (.faddr 7 (.tmp 34)) <|
 o (.load false 1 (.tmp 35)) <|
 o (.bin .sub (.tmp 17) (.const (.int .i64 1))) <|
 o (.iaddr 99 (.tmp 36) (.tmp 37)) <|
 o (.faddr 98 (.tmp 38)) <|
 o (.load false 1 (.tmp 39)) <|
 o (.conv .u64 (.tmp 40)) <|
 o (.bin .add (.tmp 41) (.const (.int .u64 1))) <|
 o (.bin .neq (.tmp 33) (.tmp 42)) <|
 .ite (.tmp 43)
 (.ret [(.const (.bool false))])
 (.goto 0 [.tmp 0, .tmp 5, .tmp 29, .tmp 12]))
 (.goto 0 [.tmp 0, .tmp 5, .tmp 11, .tmp 12]))
 l_replay_Reel_follow_k1)⟩
def l_ink_Eye_Done : LFn := ⟨1,
 o (.call F_ink_Eye_wrong [.tmp 0]) <|
 .ite (.tmp 1)
 (.ret [(.const (.int .i64 2))])
 (o (.nilck (.tmp 0)) <|
 o (.faddr 0 (.tmp 2)) <|
 o (.load false 1 (.tmp 3)) <|
 o (.len false (.tmp 4)) <|
 o (.bin .gtr (.tmp 5) (.const (.int .i64 0))) <|
 .ite (.tmp 6)
 (.ret [(.const (.int .i64 2))])
 (.ret [(.const (.int .i64 0))]))⟩
def l_ref01_Low_k0 : L :=
 o (.bin .lss (.tmp 3) (.tmp 1)) <|
 .ite (.tmp 4)
 (o (.bin .rem (.tmp 0) (.const (.int .u64 256))) <|
 o (.conv .u8 (.tmp 5)) <|
 o (.bslice 5 1 [(0, 1, (.tmp 6))]) <|
 o (.append 1 1 (.tmp 2) (.tmp 7)) <|
 o (.bin .quo (.tmp 0) (.const (.int .u64 256))) <|
 o (.bin .add (.tmp 3) (.const (.int .i64 1))) <|
 .goto 1 [.tmp 9, .tmp 1, .tmp 8, .tmp 10])
 (.goto 0 [.tmp 2])
def l_ref01_Low_k1 : L :=
 .ret [(.tmp 0)]
def l_ref01_Low : LFn := ⟨2,
 .join 0
 (.loop 1 [(.tmp 0), (.tmp 1), (.const (.slice none 0 0)), (.const (.int .i64 0))] l_ref01_Low_k0)
 l_ref01_Low_k1⟩
def l_ref02_Sum_k0 : L :=
 o (.bin .lss (.tmp 2) (.const (.int .i64 8))) <|
 .ite (.tmp 6)
 (o (.bin .rem (.tmp 0) (.const (.int .u64 2))) <|
 o (.conv .u64 (.tmp 1)) <|
 o (.bin .shr (.tmp 8) (.tmp 2)) <|
 o (.bin .add (.tmp 7) (.tmp 9)) <|
 o (.bin .rem (.tmp 10) (.const (.int .u64 2))) <|
 o (.bin .quo (.tmp 0) (.const (.int .u64 2))) <|
 o (.bin .eql (.tmp 11) (.const (.int .u64 1))) <|
 .ite (.tmp 13)
 (o (.bin .xor (.tmp 12) (.const (.int .u64 2197175160))) <|
 o (.bin .add (.tmp 2) (.const (.int .i64 1))) <|
 .goto 3 [.tmp 14, .tmp 1, .tmp 15, .tmp 3, .tmp 4, .tmp 5])
 (o (.bin .add (.tmp 2) (.const (.int .i64 1))) <|
 .goto 3 [.tmp 12, .tmp 1, .tmp 14, .tmp 3, .tmp 4, .tmp 5]))
 (.goto 2 [.tmp 0, .tmp 3, .tmp 4, .tmp 5])
def l_ref02_Sum_k1 : L :=
 o (.bin .add (.tmp 3) (.const (.int .i64 1))) <|
 .goto 1 [.tmp 0, .tmp 1, .tmp 2, .tmp 4]
def l_ref02_Sum_k2 : L :=
 o (.bin .lss (.tmp 3) (.tmp 2)) <|
 .ite (.tmp 4)
 (.join 2
 (o (.iaddr 1 (.tmp 1) (.tmp 3)) <|
 o (.load false 1 (.tmp 5)) <|
 .loop 3 [(.tmp 0), (.tmp 6), (.const (.int .i64 0)), (.tmp 1), (.tmp 2), (.tmp 3)] l_ref02_Sum_k0)
 l_ref02_Sum_k1)
 (.goto 0 [.tmp 0])
def l_ref02_Sum_k3 : L :=
 o (.bin .sub (.const (.int .u64 4294967295)) (.tmp 0)) <|
 o (.conv .u32 (.tmp 1)) <|
 .ret [(.tmp 2)]
def l_ref02_Sum : LFn := ⟨1,
 .join 0
 (o (.len false (.tmp 0)) <|
 .loop 1 [(.const (.int .u64 4294967295)), (.tmp 0), (.tmp 1), (.const (.int .i64 0))] l_ref02_Sum_k2)
 l_ref02_Sum_k3⟩
def l_board_Board_there : LFn := ⟨2,
 o (.box 38 (.tmp 0)) <|
 o (.bin .geq (.tmp 1) (.const (.int .i64 0))) <|
 .ite (.tmp 3)
 (o (.faddr 96 (.tmp 2)) <|
 o (.load false 1 (.tmp 4)) <|
 o (.bin .lss (.tmp 1) (.tmp 5)) <|
 .ret [(.tmp 6)])
 (.ret [(.const (.bool false))])⟩
def l_mask_Mask_Within : LFn := ⟨2,
 o (.bin .andNot (.tmp 0) (.tmp 1)) <|
 o (.bin .eql (.tmp 2) (.const (.int .u32 0))) <|
 .ret [(.tmp 3)]⟩
def l_code_Right : LFn := ⟨3,
 om .pure (.call F_code_Check [.tmp 0, .tmp 1, .tmp 2]) <|
 o (.ext (.tmp 3) 0) <|
 o (.ext (.tmp 3) 1) <|
 .ret [(.tmp 5)]⟩
def l_vm_Compute_k0 : L :=
 .ite (.tmp 4)
 (o (.bin .eql (.tmp 0) (.const (.int .u8 10))) <|
 om .pure (.call F_vm_divided [.tmp 1, .tmp 2, .tmp 5]) <|
 .ret [(.tmp 6)])
 (o (.bin .eql (.tmp 3) (.const (.int .u8 11))) <|
 .ite (.tmp 5)
 (o (.bin .and (.tmp 1) (.tmp 2)) <|
 .ret [(.tmp 6)])
 (o (.bin .eql (.tmp 3) (.const (.int .u8 12))) <|
 .ite (.tmp 6)
 (o (.bin .or (.tmp 1) (.tmp 2)) <|
 .ret [(.tmp 7)])
 (o (.bin .eql (.tmp 3) (.const (.int .u8 13))) <|
 .ite (.tmp 7)
 (o (.bin .xor (.tmp 1) (.tmp 2)) <|
 .ret [(.tmp 8)])
 (o (.bin .eql (.tmp 3) (.const (.int .u8 14))) <|
 .ite (.tmp 8)
 (o (.conv .u32 (.tmp 2)) <|
 o (.bin .and (.tmp 9) (.const (.int .u32 31))) <|
 o (.bin .shl (.tmp 1) (.tmp 10)) <|
 .ret [(.tmp 11)])
 (o (.bin .eql (.tmp 3) (.const (.int .u8 15))) <|
 .ite (.tmp 9)
 (o (.conv .u32 (.tmp 2)) <|
 o (.bin .and (.tmp 10) (.const (.int .u32 31))) <|
 o (.bin .shr (.tmp 1) (.tmp 11)) <|
 .ret [(.tmp 12)])
 (o (.bin .eql (.tmp 3) (.const (.int .u8 16))) <|
 .ite (.tmp 10)
 (o (.bin .lss (.tmp 1) (.tmp 2)) <|
 om .pure (.call F_vm_one [.tmp 11]) <|
 .ret [(.tmp 12)])
 (o (.bin .eql (.tmp 3) (.const (.int .u8 17))) <|
 .ite (.tmp 11)
 (o (.bin .eql (.tmp 1) (.tmp 2)) <|
 om .pure (.call F_vm_one [.tmp 12]) <|
 .ret [(.tmp 13)])
 (.ret [(.const (.int .i32 0))]))))))))
def l_vm_Compute : LFn := ⟨3,
 o (.bin .eql (.tmp 0) (.const (.int .u8 6))) <|
 .ite (.tmp 3)
 (o (.bin .add (.tmp 1) (.tmp 2)) <|
 .ret [(.tmp 4)])
 (o (.bin .eql (.tmp 0) (.const (.int .u8 7))) <|
 .ite (.tmp 4)
 (o (.bin .sub (.tmp 1) (.tmp 2)) <|
 .ret [(.tmp 5)])
 (o (.bin .eql (.tmp 0) (.const (.int .u8 8))) <|
 .ite (.tmp 5)
 (o (.bin .mul (.tmp 1) (.tmp 2)) <|
 .ret [(.tmp 6)])
 (.join 0
 (o (.bin .eql (.tmp 0) (.const (.int .u8 9))) <|
 .ite (.tmp 6)
 (.goto 0 [.tmp 0, .tmp 1, .tmp 2, .tmp 0, .tmp 6])
 (o (.bin .eql (.tmp 0) (.const (.int .u8 10))) <|
 .goto 0 [.tmp 0, .tmp 1, .tmp 2, .tmp 0, .tmp 7]))
 l_vm_Compute_k0)))⟩
def l_vm_machine_fail : LFn := ⟨2,
 o (.nilck (.tmp 0)) <|
 o (.faddr 0 (.tmp 2)) <|
 o (.faddr 101 (.tmp 3)) <|
 o (.load false 1 (.tmp 4)) <|
 o (.bin .eql (.tmp 5) (.const (.int .i64 0))) <|
 .ite (.tmp 6)
 (o (.nilck (.tmp 0)) <|
 o (.faddr 0 (.tmp 7)) <|
 o (.faddr 101 (.tmp 8)) <|
 o (.store 1 (.tmp 9) (.tmp 1)) <|
 .ret [])
 (.ret [])⟩
def l_vm_machine_follow_k0 : L :=
 o (.faddr 1 (.tmp 1)) <|
 o (.load false 1 (.tmp 5)) <|
 o (.faddr 0 (.tmp 3)) <|
 o (.load false 1 (.tmp 7)) <|
 o (.faddr 1 (.tmp 2)) <|
 o (.load false 1 (.tmp 9)) <|
 o (.faddr 1 (.tmp 3)) <|
 o (.load false 1 (.tmp 11)) <|
 o (.faddr 1 (.tmp 4)) <|
 o (.load false 1 (.tmp 13)) <|
 o (.bslice 33 2 [(0, 1, (.tmp 12)), (1, 1, (.tmp 14))]) <|
 o (.nilck (.tmp 0)) <|
 o (.faddr 102 (.tmp 16)) <|
 oc none (.call F_mask_Mask_Meet [.tmp 10, .tmp 15]) .pure [(none, .load false 1 (.tmp 5)), (none, .load false 1 (.tmp 7))] <|
 o (.build 170 [(0, 1, (.tmp 8)), (1, 1, (.tmp 18))]) <|
 o (.iaddrA 8 2 (.tmp 17) (.tmp 6)) <|
 o (.store 2 (.tmp 20) (.tmp 19)) <|
 .ret []
def l_vm_machine_follow_k1 : L :=
 .ite (.tmp 4)
 (o (.load true 6 (.tmp 1)) <|
 o (.call F_vm_machine_reach [.tmp 0, .tmp 5]) <|
 .ret [])
 (o (.faddr 1 (.tmp 1)) <|
 o (.load false 1 (.tmp 5)) <|
 o (.nilck (.tmp 0)) <|
 o (.faddr 122 (.tmp 7)) <|
 o (.load false 1 (.tmp 8)) <|
 o (.faddr 0 (.tmp 1)) <|
 o (.load false 1 (.tmp 10)) <|
 o (.faddr 0 (.tmp 2)) <|
 o (.load false 1 (.tmp 12)) <|
 o (.faddr 0 (.tmp 3)) <|
 o (.load false 1 (.tmp 14)) <|
 o (.faddr 1 (.tmp 2)) <|
 o (.load false 1 (.tmp 16)) <|
 o (.faddr 1 (.tmp 3)) <|
 o (.load false 1 (.tmp 18)) <|
 o (.bslice 33 1 [(0, 1, (.tmp 19))]) <|
 o (.nilck (.tmp 0)) <|
 o (.faddr 102 (.tmp 21)) <|
 oc none (.callv (.tmp 9) [(.tmp 11), (.tmp 13), (.tmp 15)]) .raw [(none, .load false 1 (.tmp 5)), (none, .load false 1 (.tmp 16)), (none, .load false 1 (.tmp 18))] <|
 oc none (.call F_mask_Mask_Meet [.tmp 17, .tmp 20]) .pure [(none, .load false 1 (.tmp 5))] <|
 o (.build 170 [(0, 1, (.tmp 23)), (1, 1, (.tmp 24))]) <|
 o (.iaddrA 8 2 (.tmp 22) (.tmp 6)) <|
 o (.store 2 (.tmp 26) (.tmp 25)) <|
 .ret [])
def l_vm_machine_follow : LFn := ⟨2,
 o (.box 100 (.tmp 1)) <|
 o (.nilck (.tmp 0)) <|
 o (.faddr 118 (.tmp 3)) <|
 o (.load false 1 (.tmp 4)) <|
 o (.bin .add (.tmp 5) (.const (.int .i64 1))) <|
 o (.nilck (.tmp 0)) <|
 o (.faddr 118 (.tmp 7)) <|
 o (.store 1 (.tmp 8) (.tmp 6)) <|
 o (.faddr 1 (.tmp 2)) <|
 o (.load false 1 (.tmp 10)) <|
 o (.nilck (.tmp 0)) <|
 o (.faddr 102 (.tmp 12)) <|
 o (.iaddrA 8 2 (.tmp 13) (.tmp 11)) <|
 o (.load true 2 (.tmp 14)) <|
 o (.faddr 2 (.tmp 2)) <|
 o (.load false 1 (.tmp 16)) <|
 o (.nilck (.tmp 0)) <|
 o (.faddr 102 (.tmp 18)) <|
 o (.iaddrA 8 2 (.tmp 19) (.tmp 17)) <|
 o (.load true 2 (.tmp 20)) <|
 o (.faddr 3 (.tmp 2)) <|
 o (.load false 1 (.tmp 22)) <|
 o (.bin .rem (.tmp 23) (.const (.int .u8 8))) <|
 o (.nilck (.tmp 0)) <|
 o (.faddr 102 (.tmp 25)) <|
 o (.iaddrA 8 2 (.tmp 26) (.tmp 24)) <|
 o (.load true 2 (.tmp 27)) <|
 o (.new 170) <|
 o (.new 170) <|
 o (.new 170) <|
 oc none (.store 2 (.tmp 29) (.tmp 15)) .raw [(none, .load false 1 (.tmp 16)), (none, .load true 2 (.tmp 20)), (none, .load false 1 (.tmp 22)), (none, .load true 2 (.tmp 27))] <|
 oc none (.store 2 (.tmp 30) (.tmp 21)) .raw [(none, .load false 1 (.tmp 22)), (none, .load true 2 (.tmp 27))] <|
 o (.store 2 (.tmp 31) (.tmp 28)) <|
 o (.faddr 0 (.tmp 2)) <|
 o (.load false 1 (.tmp 35)) <|
 o (.bin .eql (.tmp 36) (.const (.int .u8 1))) <|
 .ite (.tmp 37)
 (o (.faddr 1 (.tmp 2)) <|
 o (.load false 1 (.tmp 38)) <|
 o (.faddr 4 (.tmp 2)) <|
 o (.load false 1 (.tmp 40)) <|
 o (.nilck (.tmp 0)) <|
 o (.faddr 121 (.tmp 42)) <|
 o (.load false 1 (.tmp 43)) <|
 o (.build 170 [(0, 1, (.tmp 41)), (1, 1, (.tmp 44))]) <|
 o (.nilck (.tmp 0)) <|
 o (.faddr 102 (.tmp 46)) <|
 o (.iaddrA 8 2 (.tmp 47) (.tmp 39)) <|
 o (.store 2 (.tmp 48) (.tmp 45)) <|
 .ret [])
 (o (.bin .eql (.tmp 36) (.const (.int .u8 25))) <|
 .ite (.tmp 38)
 (o (.faddr 1 (.tmp 2)) <|
 o (.load false 1 (.tmp 39)) <|
 o (.nilck (.tmp 0)) <|
 o (.faddr 120 (.tmp 41)) <|
 o (.load false 1 (.tmp 42)) <|
 o (.conv .i32 (.tmp 43)) <|
 o (.nilck (.tmp 0)) <|
 o (.faddr 121 (.tmp 45)) <|
 o (.load false 1 (.tmp 46)) <|
 o (.build 170 [(0, 1, (.tmp 44)), (1, 1, (.tmp 47))]) <|
 o (.nilck (.tmp 0)) <|
 o (.faddr 102 (.tmp 49)) <|
 o (.iaddrA 8 2 (.tmp 50) (.tmp 40)) <|
 o (.store 2 (.tmp 51) (.tmp 48)) <|
 .ret [])
 (o (.bin .eql (.tmp 36) (.const (.int .u8 2))) <|
 .ite (.tmp 39)
 (o (.faddr 1 (.tmp 2)) <|
 o (.load false 1 (.tmp 40)) <|
 o (.faddr 4 (.tmp 2)) <|
 o (.load false 1 (.tmp 42)) <|
 o (.conv .i64 (.tmp 43)) <|
 o (.call F_vm_machine_load [.tmp 0, .tmp 41, .tmp 44]) <|
 .ret [])
 (o (.bin .eql (.tmp 36) (.const (.int .u8 3))) <|
 .ite (.tmp 40)
 (o (.faddr 4 (.tmp 2)) <|
 o (.load false 1 (.tmp 41)) <|
 o (.conv .i64 (.tmp 42)) <|
 o (.load true 2 (.tmp 29)) <|
 o (.call F_vm_machine_store [.tmp 0, .tmp 43, .tmp 44]) <|
 .ret [])
 (o (.bin .eql (.tmp 36) (.const (.int .u8 18))) <|
 .ite (.tmp 41)
 (.join 0
 (o (.faddr 0 (.tmp 29)) <|
 o (.load false 1 (.tmp 42)) <|
 o (.bin .eql (.tmp 43) (.const (.int .i32 0))) <|
 .ite (.tmp 44)
 (o (.faddr 0 (.tmp 31)) <|
 o (.load false 1 (.tmp 45)) <|
 o (.faddr 0 (.tmp 30)) <|
 o (.store 1 (.tmp 47) (.tmp 46)) <|
 .goto 0 [.tmp 0, .tmp 2, .tmp 29, .tmp 30, .tmp 31])
 (.goto 0 [.tmp 0, .tmp 2, .tmp 29, .tmp 30, .tmp 31]))
 l_vm_machine_follow_k0)
 (o (.bin .eql (.tmp 36) (.const (.int .u8 19))) <|
 .ite (.tmp 42)
 (o (.faddr 1 (.tmp 2)) <|
 o (.load false 1 (.tmp 43)) <|
 o (.call F_vm_machine_open [.tmp 0, .tmp 44]) <|
 o (.un .not (.tmp 45)) <|
 .ite (.tmp 46)
 (o (.call F_vm_machine_fail [.tmp 0, (.const (.int .i64 8))]) <|
 .ret [])
 (o (.faddr 0 (.tmp 29)) <|
 o (.load false 1 (.tmp 47)) <|
 o (.bin .eql (.tmp 48) (.const (.int .i32 0))) <|
 .ite (.tmp 49)
 (o (.faddr 4 (.tmp 2)) <|
 o (.load false 1 (.tmp 50)) <|
 o (.conv .i64 (.tmp 51)) <|
 o (.nilck (.tmp 0)) <|
 o (.faddr 118 (.tmp 53)) <|
 o (.store 1 (.tmp 54) (.tmp 52)) <|
 .ret [])
 (.ret [])))
 (o (.bin .eql (.tmp 36) (.const (.int .u8 20))) <|
 .ite (.tmp 43)
 (o (.faddr 4 (.tmp 2)) <|
 o (.load false 1 (.tmp 44)) <|
 o (.conv .i64 (.tmp 45)) <|
 o (.nilck (.tmp 0)) <|
 o (.faddr 118 (.tmp 47)) <|
 o (.store 1 (.tmp 48) (.tmp 46)) <|
 .ret [])
 (o (.bin .eql (.tmp 36) (.const (.int .u8 21))) <|
 .ite (.tmp 44)
 (o (.faddr 1 (.tmp 2)) <|
 o (.load false 1 (.tmp 45)) <|
 o (.nilck (.tmp 0)) <|
 o (.faddr 119 (.tmp 47)) <|
 o (.load false 1 (.tmp 48)) <|
 o (.faddr 4 (.tmp 2)) <|
 o (.load false 1 (.tmp 50)) <|
 o (.iaddr 1 (.tmp 49) (.tmp 51)) <|
 o (.load false 1 (.tmp 52)) <|
 o (.faddr 4 (.tmp 2)) <|
 o (.load false 1 (.tmp 54)) <|
 o (.conv .i64 (.tmp 55)) <|
 o (.bslice 3 1 [(0, 1, (.tmp 56))]) <|
 o (.nilck (.tmp 0)) <|
 o (.faddr 102 (.tmp 58)) <|
 oc none (.call F_mask_Of [.tmp 57]) .pure [(none, .load false 1 (.tmp 45)), (none, .load false 1 (.tmp 48)), (none, .load false 1 (.tmp 50)), (none, .load false 1 (.tmp 52))] <|
 o (.build 170 [(0, 1, (.tmp 53)), (1, 1, (.tmp 60))]) <|
 o (.iaddrA 8 2 (.tmp 59) (.tmp 46)) <|
 o (.store 2 (.tmp 62) (.tmp 61)) <|
 .ret [])
 (o (.bin .eql (.tmp 36) (.const (.int .u8 23))) <|
 .ite (.tmp 45)
 (o (.nilck (.tmp 0)) <|
 o (.faddr 0 (.tmp 46)) <|
 o (.faddr 97 (.tmp 47)) <|
 o (.load true 1 (.tmp 48)) <|
 o (.faddr 4 (.tmp 2)) <|
 o (.load false 1 (.tmp 50)) <|
 o (.conv .u32 (.tmp 51)) <|
 om .pure (.call F_dice_Dice_Below [.tmp 49, .tmp 52]) <|
 o (.ext (.tmp 53) 0) <|
 o (.ext (.tmp 53) 1) <|
 o (.nilck (.tmp 0)) <|
 o (.faddr 0 (.tmp 56)) <|
 o (.faddr 97 (.tmp 57)) <|
 o (.store 1 (.tmp 58) (.tmp 55)) <|
 o (.faddr 1 (.tmp 2)) <|
 o (.load false 1 (.tmp 60)) <|
 o (.conv .i32 (.tmp 54)) <|
 o (.build 170 [(0, 1, (.tmp 62))]) <|
 o (.nilck (.tmp 0)) <|
 o (.faddr 102 (.tmp 64)) <|
 o (.iaddrA 8 2 (.tmp 65) (.tmp 61)) <|
 o (.store 2 (.tmp 66) (.tmp 63)) <|
 .ret [])
 (.join 0
 (o (.bin .eql (.tmp 36) (.const (.int .u8 4))) <|
 .ite (.tmp 46)
 (.goto 0 [.tmp 0, .tmp 2, .tmp 30, .tmp 31, .tmp 46])
 (o (.bin .eql (.tmp 36) (.const (.int .u8 5))) <|
 .ite (.tmp 47)
 (.goto 0 [.tmp 0, .tmp 2, .tmp 30, .tmp 31, .tmp 47])
 (o (.bin .eql (.tmp 36) (.const (.int .u8 22))) <|
 .ite (.tmp 48)
 (.goto 0 [.tmp 0, .tmp 2, .tmp 30, .tmp 31, .tmp 48])
 (o (.bin .eql (.tmp 36) (.const (.int .u8 24))) <|
 .goto 0 [.tmp 0, .tmp 2, .tmp 30, .tmp 31, .tmp 49]))))
 l_vm_machine_follow_k1)))))))))⟩
def l_rules_Game_Legal : LFn := ⟨2,
 o (.box 26 (.tmp 0)) <|
 o (.faddr 2 (.tmp 2)) <|
 o (.load false 1 (.tmp 3)) <|
 o (.bin .lss (.tmp 1) (.tmp 4)) <|
 .ret [(.tmp 5)]⟩
def l_mask_All : LFn := ⟨1,
 o (.minmax true [(.tmp 0), (.const (.int .i64 0))]) <|
 o (.minmax false [(.tmp 1), (.const (.int .i64 32))]) <|
 o (.bin .shl (.const (.int .u64 1)) (.tmp 2)) <|
 o (.bin .sub (.tmp 3) (.const (.int .u64 1))) <|
 o (.conv .u32 (.tmp 4)) <|
 .ret [(.tmp 5)]⟩
def l_board_Board_Hash : LFn := ⟨1,
 o (.box 38 (.tmp 0)) <|
 o (.load true 97 (.tmp 1)) <|
 om .pure (.call F_board_Board_sum [.tmp 2, (.const (.bool true))]) <|
 .ret [(.tmp 3)]⟩
def l_mask_Mask_Has : LFn := ⟨2,
 om .pure (.call F_mask_one [.tmp 1]) <|
 o (.bin .and (.tmp 0) (.tmp 2)) <|
 o (.bin .neq (.tmp 3) (.const (.int .u32 0))) <|
 .ret [(.tmp 4)]⟩
def l_ink_Pen_add : LFn := ⟨2,
 o (.eqNil true .ptr (.tmp 0)) <|
 .ite (.tmp 2)
 (o (.nilck (.tmp 0)) <|
 o (.faddr 0 (.tmp 3)) <|
 o (.load false 1 (.tmp 4)) <|
 o (.append 1 1 (.tmp 5) (.tmp 1)) <|
 o (.nilck (.tmp 0)) <|
 o (.faddr 0 (.tmp 7)) <|
 o (.store 1 (.tmp 8) (.tmp 6)) <|
 .ret [(.tmp 0)])
 (.ret [(.tmp 0)])⟩
def l_ink_Pen_Word : LFn := ⟨2,
 o (.conv .u16 (.tmp 1)) <|
 o (.call F_ink_Pen_Half [.tmp 0, .tmp 2]) <|
 o (.bin .shr (.tmp 1) (.const (.int .u64 16))) <|
 o (.conv .u16 (.tmp 4)) <|
 o (.call F_ink_Pen_Half [.tmp 3, .tmp 5]) <|
 .ret [(.tmp 6)]⟩
def l_code_Bytes_k0 : L :=
 o (.bin .lss (.tmp 3) (.tmp 2)) <|
 .ite (.tmp 4)
 (o (.iaddr 6 (.tmp 1) (.tmp 3)) <|
 o (.load true 6 (.tmp 5)) <|
 o (.new 100) <|
 o (.store 6 (.tmp 7) (.tmp 6)) <|
 o (.faddr 0 (.tmp 7)) <|
 o (.load false 1 (.tmp 9)) <|
 o (.faddr 1 (.tmp 7)) <|
 o (.load false 1 (.tmp 11)) <|
 o (.faddr 2 (.tmp 7)) <|
 o (.load false 1 (.tmp 13)) <|
 o (.faddr 3 (.tmp 7)) <|
 o (.load false 1 (.tmp 15)) <|
 o (.faddr 4 (.tmp 7)) <|
 o (.load false 1 (.tmp 17)) <|
 o (.conv .u32 (.tmp 18)) <|
 o (.faddr 5 (.tmp 7)) <|
 o (.load false 1 (.tmp 20)) <|
 oc none (.call F_ink_Pen_Byte [.tmp 0, .tmp 10]) .raw [(none, .load false 1 (.tmp 11)), (none, .load false 1 (.tmp 13)), (none, .load false 1 (.tmp 15)), (none, .load false 1 (.tmp 17)), (none, .load false 1 (.tmp 20))] <|
 oc none (.call F_ink_Pen_Byte [.tmp 22, .tmp 12]) .raw [(none, .load false 1 (.tmp 13)), (none, .load false 1 (.tmp 15)), (none, .load false 1 (.tmp 17)), (none, .load false 1 (.tmp 20))] <|
 oc none (.call F_ink_Pen_Byte [.tmp 23, .tmp 14]) .raw [(none, .load false 1 (.tmp 15)), (none, .load false 1 (.tmp 17)), (none, .load false 1 (.tmp 20))] <|
 oc none (.call F_ink_Pen_Byte [.tmp 24, .tmp 16]) .raw [(none, .load false 1 (.tmp 17)), (none, .load false 1 (.tmp 20))] <|
 oc none (.call F_ink_Pen_Word [.tmp 25, .tmp 19]) .raw [(none, .load false 1 (.tmp 20))] <|
 o (.call F_ink_Pen_Word [.tmp 26, .tmp 21]) <|
 o (.bin .add (.tmp 3) (.const (.int .i64 1))) <|
 .goto 1 [.tmp 0, .tmp 1, .tmp 2, .tmp 28])
 (.goto 0 [.tmp 0])
def l_code_Bytes_k1 : L :=
 o (.call F_ink_Pen_Bytes [.tmp 0]) <|
 .ret [(.tmp 1)]
def l_code_Bytes : LFn := ⟨1,
 o (.len false (.tmp 0)) <|
 o (.bin .gtr (.tmp 1) (.const (.int .i64 96))) <|
 .ite (.tmp 2)
 (.ret [(.const (.slice none 0 0))])
 (o (.new 116) <|
 o (.len false (.tmp 0)) <|
 o (.conv .u64 (.tmp 4)) <|
 o (.call F_ink_Pen_Num [.tmp 3, .tmp 5]) <|
 .join 0
 (o (.len false (.tmp 0)) <|
 .loop 1 [(.tmp 3), (.tmp 0), (.tmp 7), (.const (.int .i64 0))] l_code_Bytes_k0)
 l_code_Bytes_k1)⟩
def l_delta_Delta_right_k0 : L :=
 o (.bin .lss (.tmp 3) (.tmp 2)) <|
 .ite (.tmp 4)
 (o (.iaddr 1 (.tmp 1) (.tmp 3)) <|
 o (.load false 1 (.tmp 5)) <|
 o (.conv .i64 (.tmp 6)) <|
 o (.bin .geq (.tmp 7) (.const (.int .i64 48))) <|
 .ite (.tmp 8)
 (.ret [(.const (.bool false))])
 (o (.bin .gtr (.tmp 3) (.const (.int .i64 0))) <|
 .ite (.tmp 9)
 (o (.faddr 2 (.tmp 0)) <|
 o (.load false 1 (.tmp 10)) <|
 o (.bin .sub (.tmp 3) (.const (.int .i64 1))) <|
 o (.iaddr 1 (.tmp 11) (.tmp 12)) <|
 o (.load false 1 (.tmp 13)) <|
 o (.bin .leq (.tmp 6) (.tmp 14)) <|
 .ite (.tmp 15)
 (.ret [(.const (.bool false))])
 (o (.bin .add (.tmp 3) (.const (.int .i64 1))) <|
 .goto 1 [.tmp 0, .tmp 1, .tmp 2, .tmp 16]))
 (o (.bin .add (.tmp 3) (.const (.int .i64 1))) <|
 .goto 1 [.tmp 0, .tmp 1, .tmp 2, .tmp 10])))
 (.goto 0 [.tmp 0])
def l_delta_Delta_right_k1 : L :=
 o (.faddr 2 (.tmp 0)) <|
 o (.load false 1 (.tmp 1)) <|
 o (.len false (.tmp 2)) <|
 o (.faddr 3 (.tmp 0)) <|
 o (.load false 1 (.tmp 4)) <|
 o (.len false (.tmp 5)) <|
 o (.bin .eql (.tmp 3) (.tmp 6)) <|
 .ret [(.tmp 7)]
def l_delta_Delta_right : LFn := ⟨1,
 o (.box 102 (.tmp 0)) <|
 .join 0
 (o (.faddr 2 (.tmp 1)) <|
 o (.load false 1 (.tmp 2)) <|
 o (.len false (.tmp 3)) <|
 .loop 1 [(.tmp 1), (.tmp 3), (.tmp 4), (.const (.int .i64 0))] l_delta_Delta_right_k0)
 l_delta_Delta_right_k1⟩
def l_wax_Step_k0 : L :=
 o (.bin .lss (.tmp 1) (.const (.int .i64 8))) <|
 .ite (.tmp 2)
 (o (.bin .and (.tmp 0) (.const (.int .u32 1))) <|
 o (.bin .shr (.tmp 0) (.const (.int .u64 1))) <|
 o (.bin .mul (.tmp 3) (.const (.int .u32 2197175160))) <|
 o (.bin .xor (.tmp 4) (.tmp 5)) <|
 o (.bin .add (.tmp 1) (.const (.int .i64 1))) <|
 .goto 1 [.tmp 6, .tmp 7])
 (.goto 0 [.tmp 0])
def l_wax_Step_k1 : L :=
 .ret [(.tmp 0)]
def l_wax_Step : LFn := ⟨2,
 o (.conv .u32 (.tmp 1)) <|
 o (.bin .xor (.tmp 0) (.tmp 2)) <|
 .join 0
 (.loop 1 [(.tmp 3), (.const (.int .i64 0))] l_wax_Step_k0)
 l_wax_Step_k1⟩
def l_wax_Table_tail : LFn := ⟨2,
 o (.box 122 (.tmp 0)) <|
 o (.new 184) <|
 o (.load true 256 (.tmp 2)) <|
 o (.bslice 30 1 [(0, 1, (.tmp 1))]) <|
 om .pure (.call F_wax_Table_Sum [.tmp 4, .tmp 5]) <|
 o (.conv .u8 (.tmp 6)) <|
 o (.bin .shr (.tmp 6) (.const (.int .u64 8))) <|
 o (.conv .u8 (.tmp 8)) <|
 o (.bin .shr (.tmp 6) (.const (.int .u64 16))) <|
 o (.conv .u8 (.tmp 10)) <|
 o (.bin .shr (.tmp 6) (.const (.int .u64 24))) <|
 o (.conv .u8 (.tmp 12)) <|
 o (.build 184 [(0, 1, (.tmp 7)), (1, 1, (.tmp 9)), (2, 1, (.tmp 11)), (3, 1, (.tmp 13))]) <|
 o (.store 4 (.tmp 3) (.tmp 14)) <|
 o (.load true 4 (.tmp 3)) <|
 .ret [(.tmp 16)]⟩
def l_bytes_Clone : LFn := ⟨1,
 o (.eqNil false .slc (.tmp 0)) <|
 .ite (.tmp 1)
 (.ret [(.const (.slice none 0 0))])
 (o (.bslice 5 0 []) <|
 o (.append 1 1 (.tmp 2) (.tmp 0)) <|
 .ret [(.tmp 3)])⟩
def l_bytes_HasPrefix : LFn := ⟨2,
 o (.len false (.tmp 0)) <|
 o (.len false (.tmp 1)) <|
 o (.bin .geq (.tmp 2) (.tmp 3)) <|
 .ite (.tmp 4)
 (o (.len false (.tmp 1)) <|
 o (.slice 1 (.tmp 0) none (some (.tmp 5)) none) <|
 om .pure (.call F_bytes_Equal [.tmp 6, .tmp 1]) <|
 .ret [(.tmp 7)])
 (.ret [(.const (.bool false))])⟩
def l_ink_Eye_Word : LFn := ⟨1,
 o (.call F_ink_Eye_take [.tmp 0, (.const (.int .i64 4))]) <|
 o (.eqNil true .slc (.tmp 1)) <|
 .ite (.tmp 2)
 (o (.iaddr 1 (.tmp 1) (.const (.int .i64 0))) <|
 o (.load false 1 (.tmp 3)) <|
 o (.conv .u32 (.tmp 4)) <|
 o (.iaddr 1 (.tmp 1) (.const (.int .i64 1))) <|
 o (.load false 1 (.tmp 6)) <|
 o (.conv .u32 (.tmp 7)) <|
 o (.bin .shl (.tmp 8) (.const (.int .u64 8))) <|
 o (.bin .or (.tmp 5) (.tmp 9)) <|
 o (.iaddr 1 (.tmp 1) (.const (.int .i64 2))) <|
 o (.load false 1 (.tmp 11)) <|
 o (.conv .u32 (.tmp 12)) <|
 o (.bin .shl (.tmp 13) (.const (.int .u64 16))) <|
 o (.bin .or (.tmp 10) (.tmp 14)) <|
 o (.iaddr 1 (.tmp 1) (.const (.int .i64 3))) <|
 o (.load false 1 (.tmp 16)) <|
 o (.conv .u32 (.tmp 17)) <|
 o (.bin .shl (.tmp 18) (.const (.int .u64 24))) <|
 o (.bin .or (.tmp 15) (.tmp 19)) <|
 .ret [(.tmp 20)])
 (.ret [(.const (.int .u32 0))])⟩
def l_code_Parse_k0 : L :=
 o (.bin .lss (.tmp 3) (.tmp 2)) <|
 .ite (.tmp 4)
 (o (.call F_ink_Eye_Byte [.tmp 0]) <|
 o (.call F_ink_Eye_Byte [.tmp 0]) <|
 o (.call F_ink_Eye_Byte [.tmp 0]) <|
 o (.call F_ink_Eye_Byte [.tmp 0]) <|
 o (.call F_ink_Eye_Word [.tmp 0]) <|
 o (.conv .i32 (.tmp 9)) <|
 o (.build 100 [(0, 1, (.tmp 5)), (1, 1, (.tmp 6)), (2, 1, (.tmp 7)), (3, 1, (.tmp 8)), (4, 1, (.tmp 10))]) <|
 o (.new 100) <|
 o (.store 6 (.tmp 12) (.tmp 11)) <|
 o (.call F_ink_Eye_Word [.tmp 0]) <|
 o (.faddr 5 (.tmp 12)) <|
 o (.store 1 (.tmp 15) (.tmp 14)) <|
 o (.load true 6 (.tmp 12)) <|
 o (.bslice 100 1 [(0, 6, (.tmp 17))]) <|
 o (.append 6 12 (.tmp 1) (.tmp 18)) <|
 o (.bin .add (.tmp 3) (.const (.int .u64 1))) <|
 .goto 1 [.tmp 0, .tmp 19, .tmp 2, .tmp 20])
 (.goto 0 [.tmp 0, .tmp 1])
def l_code_Parse_k1 : L :=
 o (.call F_ink_Eye_Done [.tmp 0]) <|
 o (.bin .neq (.tmp 2) (.const (.int .i64 0))) <|
 .ite (.tmp 3)
 (.ret [(.const (.slice none 0 0)), (.const (.int .i64 2))])
 (.ret [(.tmp 1), (.const (.int .i64 0))])
def l_code_Parse : LFn := ⟨1,
 o (.call F_ink_Read [.tmp 0]) <|
 .join 0
 (o (.call F_ink_Eye_Num [.tmp 1, (.const (.int .u64 96))]) <|
 .loop 1 [(.tmp 1), (.const (.slice none 0 0)), (.tmp 2), (.const (.int .u64 0))] l_code_Parse_k0)
 l_code_Parse_k1⟩
def l_ink_Eye_wrong : LFn := ⟨1,
 o (.eqNil false .ptr (.tmp 0)) <|
 .ite (.tmp 1)
 (.ret [(.const (.bool true))])
 (o (.nilck (.tmp 0)) <|
 o (.faddr 1 (.tmp 2)) <|
 o (.load false 1 (.tmp 3)) <|
 .ret [(.tmp 4)])⟩
def l_ink_Eye_fail : LFn := ⟨1,
 o (.eqNil true .ptr (.tmp 0)) <|
 .ite (.tmp 1)
 (o (.nilck (.tmp 0)) <|
 o (.faddr 1 (.tmp 2)) <|
 o (.store 1 (.tmp 3) (.const (.bool true))) <|
 o (.nilck (.tmp 0)) <|
 o (.faddr 0 (.tmp 5)) <|
 o (.store 1 (.tmp 6) (.const (.slice none 0 0))) <|
 .ret [])
 (.ret [])⟩
def l_ink_Eye_take_k0 : L :=
 o (.nilck (.tmp 0)) <|
 o (.faddr 0 (.tmp 2)) <|
 o (.load false 1 (.tmp 3)) <|
 o (.slice 1 (.tmp 4) none (some (.tmp 1)) (some (.tmp 1))) <|
 o (.nilck (.tmp 0)) <|
 o (.faddr 0 (.tmp 6)) <|
 o (.load false 1 (.tmp 7)) <|
 o (.slice 1 (.tmp 8) (some (.tmp 1)) none none) <|
 o (.nilck (.tmp 0)) <|
 o (.faddr 0 (.tmp 10)) <|
 o (.store 1 (.tmp 11) (.tmp 9)) <|
 .ret [(.tmp 5)]
def l_ink_Eye_take : LFn := ⟨2,
 .join 0
 (o (.call F_ink_Eye_wrong [.tmp 0]) <|
 .ite (.tmp 2)
 (o (.call F_ink_Eye_fail [.tmp 0]) <|
 .ret [(.const (.slice none 0 0))])
 (o (.nilck (.tmp 0)) <|
 o (.faddr 0 (.tmp 3)) <|
 o (.load false 1 (.tmp 4)) <|
 o (.len false (.tmp 5)) <|
 o (.bin .gtr (.tmp 1) (.tmp 6)) <|
 .ite (.tmp 7)
 (o (.call F_ink_Eye_fail [.tmp 0]) <|
 .ret [(.const (.slice none 0 0))])
 (.goto 0 [.tmp 0, .tmp 1])))
 l_ink_Eye_take_k0⟩
def l_delta_Parse_k0 : L :=
 o (.bin .lss (.tmp 4) (.tmp 3)) <|
 .ite (.tmp 5)
 (o (.faddr 2 (.tmp 2)) <|
 o (.load false 1 (.tmp 6)) <|
 oc none (.call F_ink_Eye_Byte [.tmp 1]) .raw [(none, .load false 1 (.tmp 6))] <|
 o (.bslice 5 1 [(0, 1, (.tmp 8))]) <|
 o (.append 1 1 (.tmp 7) (.tmp 9)) <|
 o (.faddr 2 (.tmp 2)) <|
 o (.store 1 (.tmp 11) (.tmp 10)) <|
 o (.call F_ink_Eye_Word [.tmp 1]) <|
 o (.call F_ink_Eye_Word [.tmp 1]) <|
 o (.faddr 3 (.tmp 2)) <|
 o (.load false 1 (.tmp 15)) <|
 o (.conv .i32 (.tmp 13)) <|
 o (.build 35 [(0, 1, (.tmp 17)), (1, 1, (.tmp 14))]) <|
 o (.bslice 35 1 [(0, 2, (.tmp 18))]) <|
 o (.append 2 8 (.tmp 16) (.tmp 19)) <|
 o (.faddr 3 (.tmp 2)) <|
 o (.store 1 (.tmp 21) (.tmp 20)) <|
 o (.bin .add (.tmp 4) (.const (.int .u8 1))) <|
 .goto 1 [.tmp 0, .tmp 1, .tmp 2, .tmp 3, .tmp 23])
 (.goto 0 [.tmp 0, .tmp 1, .tmp 2])
def l_delta_Parse_k1 : L :=
 o (.call F_ink_Eye_Done [.tmp 1]) <|
 o (.bin .neq (.tmp 3) (.const (.int .i64 0))) <|
 .ite (.tmp 4)
 (o (.build 102 []) <|
 o (.store 4 (.tmp 0) (.tmp 5)) <|
 o (.load true 4 (.tmp 0)) <|
 .ret [(.tmp 7), (.const (.int .i64 2))])
 (o (.load true 4 (.tmp 2)) <|
 om .pure (.call F_delta_Delta_right [.tmp 5]) <|
 o (.un .not (.tmp 6)) <|
 .ite (.tmp 7)
 (o (.build 102 []) <|
 o (.store 4 (.tmp 0) (.tmp 8)) <|
 o (.load true 4 (.tmp 0)) <|
 .ret [(.tmp 10), (.const (.int .i64 2))])
 (o (.load true 4 (.tmp 2)) <|
 o (.store 4 (.tmp 0) (.tmp 8)) <|
 o (.load true 4 (.tmp 0)) <|
 .ret [(.tmp 10), (.const (.int .i64 0))]))
def l_delta_Parse : LFn := ⟨1,
 o (.new 102) <|
 o (.call F_ink_Read [.tmp 0]) <|
 o (.call F_ink_Eye_Word [.tmp 2]) <|
 o (.call F_ink_Eye_Word [.tmp 2]) <|
 o (.build 102 [(0, 1, (.tmp 3)), (1, 1, (.tmp 4))]) <|
 o (.new 102) <|
 o (.store 4 (.tmp 6) (.tmp 5)) <|
 .join 0
 (o (.call F_ink_Eye_Byte [.tmp 2]) <|
 .loop 1 [(.tmp 1), (.tmp 2), (.tmp 6), (.tmp 8), (.const (.int .u8 0))] l_delta_Parse_k0)
 l_delta_Parse_k1⟩
def l_delta_Delta_Board_k0 : L :=
 o (.bin .lss (.tmp 4) (.tmp 3)) <|
 .ite (.tmp 5)
 (o (.iaddr 1 (.tmp 2) (.tmp 4)) <|
 o (.load false 1 (.tmp 6)) <|
 o (.conv .i64 (.tmp 7)) <|
 o (.bin .neq (.tmp 8) (.tmp 4)) <|
 .ite (.tmp 9)
 (o (.build 38 []) <|
 o (.store 97 (.tmp 1) (.tmp 10)) <|
 o (.load true 97 (.tmp 1)) <|
 .ret [(.tmp 12), (.const (.int .i64 2))])
 (o (.bin .add (.tmp 4) (.const (.int .i64 1))) <|
 .goto 1 [.tmp 0, .tmp 1, .tmp 2, .tmp 3, .tmp 10]))
 (.goto 0 [.tmp 0, .tmp 1])
def l_delta_Delta_Board_k1 : L :=
 o (.faddr 3 (.tmp 0)) <|
 o (.load false 1 (.tmp 2)) <|
 om .pure (.call F_board_New [.tmp 3]) <|
 o (.ext (.tmp 4) 0) <|
 o (.ext (.tmp 4) 1) <|
 o (.new 38) <|
 o (.store 97 (.tmp 7) (.tmp 5)) <|
 o (.bin .neq (.tmp 6) (.const (.int .i64 0))) <|
 .ite (.tmp 9)
 (o (.build 38 []) <|
 o (.store 97 (.tmp 1) (.tmp 10)) <|
 o (.load true 97 (.tmp 1)) <|
 .ret [(.tmp 12), (.const (.int .i64 2))])
 (o (.faddr 3 (.tmp 0)) <|
 o (.load false 1 (.tmp 10)) <|
 o (.len false (.tmp 11)) <|
 o (.faddr 2 (.tmp 0)) <|
 o (.load false 1 (.tmp 13)) <|
 o (.len false (.tmp 14)) <|
 o (.bin .neq (.tmp 12) (.tmp 15)) <|
 .ite (.tmp 16)
 (o (.build 38 []) <|
 o (.store 97 (.tmp 1) (.tmp 17)) <|
 o (.load true 97 (.tmp 1)) <|
 .ret [(.tmp 19), (.const (.int .i64 2))])
 (o (.load true 97 (.tmp 7)) <|
 o (.faddr 1 (.tmp 0)) <|
 o (.load false 1 (.tmp 18)) <|
 oc none (.call F_board_Board_Hash [.tmp 17]) .pure [(none, .load false 1 (.tmp 18))] <|
 o (.bin .neq (.tmp 20) (.tmp 19)) <|
 .ite (.tmp 21)
 (o (.build 38 []) <|
 o (.store 97 (.tmp 1) (.tmp 22)) <|
 o (.load true 97 (.tmp 1)) <|
 .ret [(.tmp 24), (.const (.int .i64 13))])
 (o (.load true 97 (.tmp 7)) <|
 o (.store 97 (.tmp 1) (.tmp 22)) <|
 o (.load true 97 (.tmp 1)) <|
 .ret [(.tmp 24), (.const (.int .i64 0))])))
def l_delta_Delta_Board : LFn := ⟨1,
 o (.box 102 (.tmp 0)) <|
 o (.new 38) <|
 .join 0
 (o (.faddr 2 (.tmp 1)) <|
 o (.load false 1 (.tmp 3)) <|
 o (.len false (.tmp 4)) <|
 .loop 1 [(.tmp 1), (.tmp 2), (.tmp 4), (.tmp 5), (.const (.int .i64 0))] l_delta_Delta_Board_k0)
 l_delta_Delta_Board_k1⟩
def l_code_Check_k0 : L :=
 o (.bin .lss (.tmp 6) (.tmp 5)) <|
 .ite (.tmp 7)
 (o (.iaddr 6 (.tmp 4) (.tmp 6)) <|
 o (.load true 6 (.tmp 8)) <|
 o (.new 100) <|
 o (.store 6 (.tmp 10) (.tmp 9)) <|
 o (.load true 6 (.tmp 10)) <|
 o (.load true 130 (.tmp 3)) <|
 o (.len false (.tmp 0)) <|
 om .pure (.call F_code_right [.tmp 12, .tmp 13, .tmp 14, .tmp 1, .tmp 2]) <|
 o (.un .not (.tmp 15)) <|
 .ite (.tmp 16)
 (.ret [(.tmp 6), (.const (.bool false))])
 (o (.bin .add (.tmp 6) (.const (.int .i64 1))) <|
 .goto 1 [.tmp 0, .tmp 1, .tmp 2, .tmp 3, .tmp 4, .tmp 5, .tmp 17]))
 (.goto 0 [])
def l_code_Check_k1 : L :=
 .ret [(.const (.int .i64 0)), (.const (.bool true))]
def l_code_Check : LFn := ⟨3,
 o (.len false (.tmp 0)) <|
 o (.bin .gtr (.tmp 3) (.const (.int .i64 96))) <|
 .ite (.tmp 4)
 (.ret [(.const (.int .i64 96)), (.const (.bool false))])
 (om .pure (.call F_code_uses []) <|
 o (.new 216) <|
 o (.store 130 (.tmp 6) (.tmp 5)) <|
 .join 0
 (o (.len false (.tmp 0)) <|
 .loop 1 [(.tmp 0), (.tmp 1), (.tmp 2), (.tmp 6), (.tmp 0), (.tmp 8), (.const (.int .i64 0))] l_code_Check_k0)
 l_code_Check_k1)⟩
def l_vm_divided : LFn := ⟨3,
 o (.bin .eql (.tmp 1) (.const (.int .i32 0))) <|
 .ite (.tmp 3)
 (.ret [(.const (.int .i32 0))])
 (.ite (.tmp 2)
 (o (.bin .rem (.tmp 0) (.tmp 1)) <|
 .ret [(.tmp 4)])
 (o (.bin .quo (.tmp 0) (.tmp 1)) <|
 .ret [(.tmp 4)]))⟩
def l_vm_one : LFn := ⟨1,
 .ite (.tmp 0)
 (.ret [(.const (.int .i32 1))])
 (.ret [(.const (.int .i32 0))])⟩
def l_vm_machine_load : LFn := ⟨3,
 o (.nilck (.tmp 0)) <|
 o (.faddr 0 (.tmp 3)) <|
 o (.faddr 0 (.tmp 4)) <|
 o (.load true 97 (.tmp 5)) <|
 om .pure (.call F_board_Board_At [.tmp 6, .tmp 2]) <|
 o (.ext (.tmp 7) 0) <|
 o (.ext (.tmp 7) 1) <|
 o (.new 35) <|
 o (.store 2 (.tmp 10) (.tmp 8)) <|
 o (.load true 2 (.tmp 10)) <|
 o (.nilck (.tmp 0)) <|
 o (.faddr 102 (.tmp 13)) <|
 o (.iaddrA 8 2 (.tmp 14) (.tmp 1)) <|
 o (.store 2 (.tmp 15) (.tmp 12)) <|
 .ret []⟩
def l_vm_machine_store : LFn := ⟨3,
 o (.box 35 (.tmp 2)) <|
 o (.nilck (.tmp 0)) <|
 o (.faddr 0 (.tmp 4)) <|
 o (.faddr 0 (.tmp 5)) <|
 o (.load true 97 (.tmp 6)) <|
 o (.load true 2 (.tmp 3)) <|
 om .pure (.call F_board_Board_Put [.tmp 7, .tmp 1, .tmp 8]) <|
 o (.ext (.tmp 9) 0) <|
 o (.ext (.tmp 9) 1) <|
 o (.nilck (.tmp 0)) <|
 o (.faddr 0 (.tmp 12)) <|
 o (.faddr 0 (.tmp 13)) <|
 o (.store 97 (.tmp 14) (.tmp 10)) <|
 o (.nilck (.tmp 0)) <|
 o (.faddr 0 (.tmp 16)) <|
 o (.faddr 98 (.tmp 17)) <|
 o (.load false 1 (.tmp 18)) <|
 o (.bin .shl (.const (.int .u64 1)) (.tmp 1)) <|
 o (.bin .or (.tmp 19) (.tmp 20)) <|
 o (.nilck (.tmp 0)) <|
 o (.faddr 0 (.tmp 22)) <|
 o (.faddr 98 (.tmp 23)) <|
 o (.store 1 (.tmp 24) (.tmp 21)) <|
 .ret []⟩
def l_mask_Mask_Meet_k0 : L :=
 o (.bin .lss (.tmp 3) (.tmp 2)) <|
 .ite (.tmp 4)
 (o (.iaddr 1 (.tmp 1) (.tmp 3)) <|
 o (.load false 1 (.tmp 5)) <|
 o (.bin .and (.tmp 0) (.tmp 6)) <|
 o (.bin .add (.tmp 3) (.const (.int .i64 1))) <|
 .goto 1 [.tmp 7, .tmp 1, .tmp 2, .tmp 8])
 (.goto 0 [.tmp 0])
def l_mask_Mask_Meet_k1 : L :=
 .ret [(.tmp 0)]
def l_mask_Mask_Meet : LFn := ⟨2,
 .join 0
 (o (.len false (.tmp 1)) <|
 .loop 1 [(.tmp 0), (.tmp 1), (.tmp 2), (.const (.int .i64 0))] l_mask_Mask_Meet_k0)
 l_mask_Mask_Meet_k1⟩
def l_vm_machine_open : LFn := ⟨2,
 o (.nilck (.tmp 0)) <|
 o (.faddr 121 (.tmp 2)) <|
 o (.load false 1 (.tmp 3)) <|
 o (.nilck (.tmp 0)) <|
 o (.faddr 102 (.tmp 5)) <|
 o (.iaddrA 8 2 (.tmp 6) (.tmp 1)) <|
 o (.faddr 1 (.tmp 7)) <|
 o (.load false 1 (.tmp 8)) <|
 om .pure (.call F_mask_Mask_Within [.tmp 4, .tmp 9]) <|
 .ret [(.tmp 10)]⟩
def l_mask_Of : LFn := ⟨1,
 om .pure (.call F_mask_Mask_With [(.const (.int .u32 0)), .tmp 0]) <|
 .ret [(.tmp 1)]⟩
def l_dice_Dice_Below : LFn := ⟨2,
 o (.box 40 (.tmp 0)) <|
 o (.new 40) <|
 o (.load true 1 (.tmp 2)) <|
 om .pure (.call F_dice_Dice_Next [.tmp 4]) <|
 o (.ext (.tmp 5) 0) <|
 o (.ext (.tmp 5) 1) <|
 o (.store 1 (.tmp 2) (.tmp 7)) <|
 o (.conv .u64 (.tmp 6)) <|
 o (.conv .u64 (.tmp 1)) <|
 o (.bin .mul (.tmp 9) (.tmp 10)) <|
 o (.bin .shr (.tmp 11) (.const (.int .u64 32))) <|
 o (.conv .u32 (.tmp 12)) <|
 o (.load true 1 (.tmp 2)) <|
 o (.store 1 (.tmp 3) (.tmp 14)) <|
 o (.load true 1 (.tmp 3)) <|
 .ret [(.tmp 13), (.tmp 16)]⟩
def l_vm_machine_reach : LFn := ⟨2,
 o (.box 100 (.tmp 1)) <|
 o (.faddr 0 (.tmp 2)) <|
 o (.load false 1 (.tmp 3)) <|
 o (.bin .eql (.tmp 4) (.const (.int .u8 4))) <|
 .ite (.tmp 5)
 (o (.load true 6 (.tmp 2)) <|
 o (.call F_vm_machine_index [.tmp 0, .tmp 6]) <|
 o (.ext (.tmp 7) 0) <|
 o (.ext (.tmp 7) 1) <|
 .ite (.tmp 9)
 (o (.faddr 1 (.tmp 2)) <|
 o (.load false 1 (.tmp 10)) <|
 o (.call F_vm_machine_load [.tmp 0, .tmp 11, .tmp 8]) <|
 .ret [])
 (.ret []))
 (o (.bin .eql (.tmp 4) (.const (.int .u8 5))) <|
 .ite (.tmp 6)
 (o (.load true 6 (.tmp 2)) <|
 o (.call F_vm_machine_index [.tmp 0, .tmp 7]) <|
 o (.ext (.tmp 8) 0) <|
 o (.ext (.tmp 8) 1) <|
 .ite (.tmp 10)
 (o (.faddr 1 (.tmp 2)) <|
 o (.load false 1 (.tmp 11)) <|
 o (.nilck (.tmp 0)) <|
 o (.faddr 102 (.tmp 13)) <|
 o (.iaddrA 8 2 (.tmp 14) (.tmp 12)) <|
 o (.load true 2 (.tmp 15)) <|
 o (.call F_vm_machine_store [.tmp 0, .tmp 9, .tmp 16]) <|
 .ret [])
 (.ret []))
 (o (.bin .eql (.tmp 4) (.const (.int .u8 22))) <|
 .ite (.tmp 7)
 (o (.load true 6 (.tmp 2)) <|
 o (.call F_vm_machine_reveal [.tmp 0, .tmp 8]) <|
 .ret [])
 (o (.bin .eql (.tmp 4) (.const (.int .u8 24))) <|
 .ite (.tmp 8)
 (o (.faddr 4 (.tmp 2)) <|
 o (.load false 1 (.tmp 9)) <|
 o (.conv .i64 (.tmp 10)) <|
 o (.faddr 3 (.tmp 2)) <|
 o (.load false 1 (.tmp 12)) <|
 o (.conv .i64 (.tmp 13)) <|
 o (.call F_vm_machine_shuffle [.tmp 0, .tmp 11, .tmp 14]) <|
 .ret [])
 (.ret []))))⟩
def l_board_Board_sum_k0 : L :=
 o (.bin .lss (.tmp 4) (.tmp 3)) <|
 .ite (.tmp 5)
 (o (.iaddr 2 (.tmp 2) (.tmp 4)) <|
 o (.load true 2 (.tmp 6)) <|
 o (.new 35) <|
 o (.store 2 (.tmp 8) (.tmp 7)) <|
 .ite (.tmp 0)
 (o (.faddr 0 (.tmp 8)) <|
 o (.load false 1 (.tmp 10)) <|
 o (.conv .u32 (.tmp 11)) <|
 o (.call F_ink_Pen_Word [.tmp 1, .tmp 12]) <|
 o (.faddr 1 (.tmp 8)) <|
 o (.load false 1 (.tmp 14)) <|
 o (.call F_ink_Pen_Word [.tmp 1, .tmp 15]) <|
 o (.bin .add (.tmp 4) (.const (.int .i64 1))) <|
 .goto 1 [.tmp 0, .tmp 1, .tmp 2, .tmp 3, .tmp 17])
 (o (.faddr 1 (.tmp 8)) <|
 o (.load false 1 (.tmp 10)) <|
 o (.call F_ink_Pen_Word [.tmp 1, .tmp 11]) <|
 o (.bin .add (.tmp 4) (.const (.int .i64 1))) <|
 .goto 1 [.tmp 0, .tmp 1, .tmp 2, .tmp 3, .tmp 13]))
 (.goto 0 [.tmp 1])
def l_board_Board_sum_k1 : L :=
 om .pure (.call F_wax_Make []) <|
 o (.call F_ink_Pen_Bytes [.tmp 0]) <|
 o (.bslice 30 1 [(0, 1, (.tmp 2))]) <|
 om .pure (.call F_wax_Table_Sum [.tmp 1, .tmp 3]) <|
 .ret [(.tmp 4)]
def l_board_Board_sum : LFn := ⟨2,
 o (.box 38 (.tmp 0)) <|
 o (.new 116) <|
 .join 0
 (o (.faddr 0 (.tmp 2)) <|
 o (.faddr 96 (.tmp 2)) <|
 o (.load false 1 (.tmp 5)) <|
 o (.sliceArr 48 2 (.tmp 4) none (some (.tmp 6)) none) <|
 o (.len false (.tmp 7)) <|
 .loop 1 [(.tmp 1), (.tmp 3), (.tmp 7), (.tmp 8), (.const (.int .i64 0))] l_board_Board_sum_k0)
 l_board_Board_sum_k1⟩
def l_mask_one : LFn := ⟨1,
 o (.bin .lss (.tmp 0) (.const (.int .i64 0))) <|
 .ite (.tmp 1)
 (.ret [(.const (.int .u32 0))])
 (o (.bin .geq (.tmp 0) (.const (.int .i64 32))) <|
 .ite (.tmp 2)
 (.ret [(.const (.int .u32 0))])
 (o (.bin .shl (.const (.int .u32 1)) (.tmp 0)) <|
 .ret [(.tmp 3)]))⟩
def l_ink_Pen_Half : LFn := ⟨2,
 o (.bin .and (.tmp 1) (.const (.int .u16 255))) <|
 o (.conv .u8 (.tmp 2)) <|
 o (.bin .shr (.tmp 1) (.const (.int .u64 8))) <|
 o (.conv .u8 (.tmp 4)) <|
 o (.bslice 5 2 [(0, 1, (.tmp 3)), (1, 1, (.tmp 5))]) <|
 o (.call F_ink_Pen_add [.tmp 0, .tmp 6]) <|
 .ret [(.tmp 7)]⟩
def l_wax_Table_Sum_k0 : L :=
 o (.bin .lss (.tmp 7) (.tmp 6)) <|
 .ite (.tmp 8)
 (o (.iaddr 1 (.tmp 5) (.tmp 7)) <|
 o (.load false 1 (.tmp 9)) <|
 o (.bin .shr (.tmp 1) (.const (.int .u64 8))) <|
 o (.conv .u8 (.tmp 1)) <|
 o (.bin .xor (.tmp 12) (.tmp 10)) <|
 o (.iaddrA 256 1 (.tmp 0) (.tmp 13)) <|
 o (.load false 1 (.tmp 14)) <|
 o (.bin .xor (.tmp 11) (.tmp 15)) <|
 o (.bin .add (.tmp 7) (.const (.int .i64 1))) <|
 .goto 3 [.tmp 0, .tmp 16, .tmp 2, .tmp 3, .tmp 4, .tmp 5, .tmp 6, .tmp 17])
 (.goto 2 [.tmp 0, .tmp 1, .tmp 2, .tmp 3, .tmp 4])
def l_wax_Table_Sum_k1 : L :=
 o (.bin .add (.tmp 4) (.const (.int .i64 1))) <|
 .goto 1 [.tmp 0, .tmp 1, .tmp 2, .tmp 3, .tmp 5]
def l_wax_Table_Sum_k2 : L :=
 o (.bin .lss (.tmp 4) (.tmp 3)) <|
 .ite (.tmp 5)
 (.join 2
 (o (.iaddr 1 (.tmp 2) (.tmp 4)) <|
 o (.load false 1 (.tmp 6)) <|
 o (.len false (.tmp 7)) <|
 .loop 3 [(.tmp 0), (.tmp 1), (.tmp 2), (.tmp 3), (.tmp 4), (.tmp 7), (.tmp 8), (.const (.int .i64 0))] l_wax_Table_Sum_k0)
 l_wax_Table_Sum_k1)
 (.goto 0 [.tmp 1])
def l_wax_Table_Sum_k3 : L :=
 o (.un .xor (.tmp 0)) <|
 .ret [(.tmp 1)]
def l_wax_Table_Sum : LFn := ⟨2,
 o (.box 122 (.tmp 0)) <|
 .join 0
 (o (.len false (.tmp 1)) <|
 .loop 1 [(.tmp 2), (.const (.int .u32 4294967295)), (.tmp 1), (.tmp 3), (.const (.int .i64 0))] l_wax_Table_Sum_k2)
 l_wax_Table_Sum_k3⟩
def l_bytes_Equal : LFn := ⟨2,
 o (.b2s (.tmp 0)) <|
 o (.b2s (.tmp 1)) <|
 o (.eqS false (.tmp 2) (.tmp 3)) <|
 .ret [(.tmp 4)]⟩
def l_code_uses_k0 : L :=
 o (.bin .leq (.tmp 2) (.const (.int .i64 17))) <|
 .ite (.tmp 3)
 (o (.build 215 [(0, 1, (.const (.bool true))), (1, 1, (.const (.bool true))), (2, 1, (.const (.bool true)))]) <|
 o (.iaddrA 26 5 (.tmp 1) (.tmp 2)) <|
 o (.store 5 (.tmp 5) (.tmp 4)) <|
 o (.bin .add (.tmp 2) (.const (.int .i64 1))) <|
 .goto 1 [.tmp 0, .tmp 1, .tmp 7])
 (.goto 0 [.tmp 0, .tmp 1])
def l_code_uses_k1 : L :=
 o (.load true 130 (.tmp 1)) <|
 o (.store 130 (.tmp 0) (.tmp 2)) <|
 o (.load true 130 (.tmp 0)) <|
 .ret [(.tmp 4)]
def l_code_uses : LFn := ⟨0,
 o (.new 216) <|
 o (.build 215 [(0, 1, (.const (.bool true))), (3, 1, (.const (.int .u8 1)))]) <|
 o (.build 215 [(0, 1, (.const (.bool true))), (3, 1, (.const (.int .u8 2)))]) <|
 o (.build 215 [(0, 1, (.const (.bool true))), (3, 1, (.const (.int .u8 2)))]) <|
 o (.build 215 [(0, 1, (.const (.bool true))), (1, 1, (.const (.bool true))), (3, 1, (.const (.int .u8 2)))]) <|
 o (.build 215 [(0, 1, (.const (.bool true))), (1, 1, (.const (.bool true))), (3, 1, (.const (.int .u8 2)))]) <|
 o (.build 215 [(0, 1, (.const (.bool true))), (1, 1, (.const (.bool true))), (2, 1, (.const (.bool true)))]) <|
 o (.build 215 [(0, 1, (.const (.bool true))), (3, 1, (.const (.int .u8 3)))]) <|
 o (.build 215 [(3, 1, (.const (.int .u8 3)))]) <|
 o (.build 215 [(0, 1, (.const (.bool true))), (3, 1, (.const (.int .u8 4)))]) <|
 o (.build 215 [(1, 1, (.const (.bool true))), (3, 1, (.const (.int .u8 2))), (4, 1, (.const (.bool true)))]) <|
 o (.build 215 [(0, 1, (.const (.bool true))), (3, 1, (.const (.int .u8 5)))]) <|
 o (.build 215 [(3, 1, (.const (.int .u8 6)))]) <|
 o (.build 215 [(0, 1, (.const (.bool true)))]) <|
 o (.build 216 [(5, 5, (.tmp 1)), (10, 5, (.tmp 2)), (15, 5, (.tmp 3)), (20, 5, (.tmp 4)), (25, 5, (.tmp 5)), (90, 5, (.tmp 6)), (95, 5, (.tmp 7)), (100, 5, (.tmp 8)), (105, 5, (.tmp 9)), (110, 5, (.tmp 10)), (115, 5, (.tmp 11)), (120, 5, (.tmp 12)), (125, 5, (.tmp 13))]) <|
 o (.new 216) <|
 o (.store 130 (.tmp 15) (.tmp 14)) <|
 .join 0
 (.loop 1 [(.tmp 0), (.tmp 15), (.const (.int .i64 6))] l_code_uses_k0)
 l_code_uses_k1⟩
def l_code_right_k0 : L :=
 o (.faddr 1 (.tmp 1)) <|
 o (.load false 1 (.tmp 4)) <|
 o (.faddr 2 (.tmp 1)) <|
 o (.load false 1 (.tmp 6)) <|
 o (.bin .or (.tmp 5) (.tmp 7)) <|
 om .pure (.call F_code_register [(.const (.bool false)), .tmp 8]) <|
 .ite (.tmp 9)
 (.ite (.tmp 3)
 (o (.bin .geq (.tmp 2) (.const (.int .i64 0))) <|
 .ite (.tmp 10)
 (o (.faddr 3 (.tmp 1)) <|
 o (.load false 1 (.tmp 11)) <|
 o (.conv .i64 (.tmp 12)) <|
 o (.bin .add (.tmp 2) (.tmp 13)) <|
 o (.bin .leq (.tmp 14) (.tmp 0)) <|
 .ite (.tmp 15)
 (o (.faddr 5 (.tmp 1)) <|
 o (.load false 1 (.tmp 16)) <|
 o (.bin .eql (.tmp 17) (.const (.int .u32 0))) <|
 .ret [(.tmp 18)])
 (.ret [(.const (.bool false))]))
 (.ret [(.const (.bool false))]))
 (.ret [(.const (.bool false))]))
 (.ret [(.const (.bool false))])
def l_code_right_k1 : L :=
 .ite (.tmp 2)
 (o (.faddr 0 (.tmp 1)) <|
 o (.load false 1 (.tmp 3)) <|
 o (.faddr 1 (.tmp 0)) <|
 o (.load false 1 (.tmp 5)) <|
 om .pure (.call F_code_register [.tmp 4, .tmp 6]) <|
 .ite (.tmp 7)
 (o (.faddr 1 (.tmp 1)) <|
 o (.load false 1 (.tmp 8)) <|
 o (.faddr 2 (.tmp 0)) <|
 o (.load false 1 (.tmp 10)) <|
 om .pure (.call F_code_register [.tmp 9, .tmp 11]) <|
 .ite (.tmp 12)
 (o (.faddr 2 (.tmp 1)) <|
 o (.load false 1 (.tmp 13)) <|
 o (.faddr 3 (.tmp 0)) <|
 o (.load false 1 (.tmp 15)) <|
 om .pure (.call F_code_register [.tmp 14, .tmp 16]) <|
 .ite (.tmp 17)
 (o (.faddr 4 (.tmp 1)) <|
 o (.load false 1 (.tmp 18)) <|
 .ite (.tmp 19)
 (.ret [(.const (.bool true))])
 (o (.faddr 5 (.tmp 0)) <|
 o (.load false 1 (.tmp 20)) <|
 o (.bin .eql (.tmp 21) (.const (.int .u32 0))) <|
 .ret [(.tmp 22)]))
 (.ret [(.const (.bool false))]))
 (.ret [(.const (.bool false))]))
 (.ret [(.const (.bool false))]))
 (.ret [(.const (.bool false))])
def l_code_right : LFn := ⟨5,
 o (.box 100 (.tmp 0)) <|
 o (.box 216 (.tmp 1)) <|
 o (.faddr 0 (.tmp 5)) <|
 o (.load false 1 (.tmp 7)) <|
 o (.bin .gtr (.tmp 8) (.const (.int .u8 25))) <|
 .ite (.tmp 9)
 (.ret [(.const (.bool false))])
 (o (.faddr 0 (.tmp 5)) <|
 o (.load false 1 (.tmp 10)) <|
 o (.iaddrA 26 5 (.tmp 6) (.tmp 11)) <|
 o (.load true 5 (.tmp 12)) <|
 o (.new 215) <|
 o (.store 5 (.tmp 14) (.tmp 13)) <|
 o (.faddr 4 (.tmp 5)) <|
 o (.load false 1 (.tmp 16)) <|
 o (.conv .i64 (.tmp 17)) <|
 o (.bin .eql (.tmp 18) (.const (.int .i64 0))) <|
 .join 0
 (o (.faddr 3 (.tmp 14)) <|
 o (.load false 1 (.tmp 20)) <|
 o (.bin .eql (.tmp 21) (.const (.int .u8 1))) <|
 .ite (.tmp 22)
 (.goto 0 [.tmp 5, .tmp 14, (.const (.bool true))])
 (o (.bin .eql (.tmp 21) (.const (.int .u8 2))) <|
 .ite (.tmp 23)
 (o (.bin .geq (.tmp 18) (.const (.int .i64 0))) <|
 .ite (.tmp 24)
 (o (.bin .lss (.tmp 18) (.tmp 3)) <|
 .goto 0 [.tmp 5, .tmp 14, .tmp 25])
 (.goto 0 [.tmp 5, .tmp 14, (.const (.bool false))]))
 (o (.bin .eql (.tmp 21) (.const (.int .u8 3))) <|
 .ite (.tmp 24)
 (o (.bin .geq (.tmp 18) (.const (.int .i64 0))) <|
 .ite (.tmp 25)
 (o (.bin .leq (.tmp 18) (.tmp 2)) <|
 .goto 0 [.tmp 5, .tmp 14, .tmp 26])
 (.goto 0 [.tmp 5, .tmp 14, (.const (.bool false))]))
 (o (.bin .eql (.tmp 21) (.const (.int .u8 4))) <|
 .ite (.tmp 25)
 (o (.bin .geq (.tmp 18) (.const (.int .i64 0))) <|
 .ite (.tmp 26)
 (o (.bin .lss (.tmp 18) (.tmp 4)) <|
 .goto 0 [.tmp 5, .tmp 14, .tmp 27])
 (.goto 0 [.tmp 5, .tmp 14, (.const (.bool false))]))
 (o (.bin .eql (.tmp 21) (.const (.int .u8 5))) <|
 .ite (.tmp 26)
 (o (.bin .geq (.tmp 18) (.const (.int .i64 1))) <|
 .goto 0 [.tmp 5, .tmp 14, .tmp 27])
 (o (.bin .eql (.tmp 21) (.const (.int .u8 6))) <|
 .ite (.tmp 27)
 (.join 1
 (o (.faddr 3 (.tmp 5)) <|
 o (.load false 1 (.tmp 28)) <|
 o (.bin .geq (.tmp 29) (.const (.int .u8 1))) <|
 .ite (.tmp 30)
 (o (.faddr 3 (.tmp 5)) <|
 o (.load false 1 (.tmp 31)) <|
 o (.bin .leq (.tmp 32) (.const (.int .u8 48))) <|
 .goto 1 [.tmp 3, .tmp 5, .tmp 18, .tmp 33])
 (.goto 1 [.tmp 3, .tmp 5, .tmp 18, (.const (.bool false))]))
 l_code_right_k0)
 (.goto 0 [.tmp 5, .tmp 14, .tmp 19])))))))
 l_code_right_k1)⟩
def l_mask_Mask_With_k0 : L :=
 o (.bin .lss (.tmp 3) (.tmp 2)) <|
 .ite (.tmp 4)
 (o (.iaddr 1 (.tmp 1) (.tmp 3)) <|
 o (.load false 1 (.tmp 5)) <|
 om .pure (.call F_mask_one [.tmp 6]) <|
 o (.bin .or (.tmp 0) (.tmp 7)) <|
 o (.bin .add (.tmp 3) (.const (.int .i64 1))) <|
 .goto 1 [.tmp 8, .tmp 1, .tmp 2, .tmp 9])
 (.goto 0 [.tmp 0])
def l_mask_Mask_With_k1 : L :=
 .ret [(.tmp 0)]
def l_mask_Mask_With : LFn := ⟨2,
 .join 0
 (o (.len false (.tmp 1)) <|
 .loop 1 [(.tmp 0), (.tmp 1), (.tmp 2), (.const (.int .i64 0))] l_mask_Mask_With_k0)
 l_mask_Mask_With_k1⟩
def l_dice_Dice_Next : LFn := ⟨1,
 o (.box 40 (.tmp 0)) <|
 o (.new 40) <|
 o (.faddr 0 (.tmp 1)) <|
 o (.load false 1 (.tmp 3)) <|
 o (.bin .add (.tmp 4) (.const (.int .u64 11400714819323198485))) <|
 o (.faddr 0 (.tmp 1)) <|
 o (.store 1 (.tmp 6) (.tmp 5)) <|
 o (.faddr 0 (.tmp 1)) <|
 o (.load false 1 (.tmp 8)) <|
 o (.load true 1 (.tmp 1)) <|
 oc none (.call F_dice_mixed [.tmp 9]) .pure [(none, .load true 1 (.tmp 1))] <|
 o (.bin .shr (.tmp 11) (.const (.int .u64 32))) <|
 o (.conv .u32 (.tmp 12)) <|
 o (.store 1 (.tmp 2) (.tmp 10)) <|
 o (.load true 1 (.tmp 2)) <|
 .ret [(.tmp 13), (.tmp 15)]⟩
def l_vm_machine_index : LFn := ⟨2,
 o (.box 100 (.tmp 1)) <|
 o (.faddr 4 (.tmp 2)) <|
 o (.load false 1 (.tmp 3)) <|
 o (.conv .i64 (.tmp 4)) <|
 o (.faddr 2 (.tmp 2)) <|
 o (.load false 1 (.tmp 6)) <|
 o (.nilck (.tmp 0)) <|
 o (.faddr 102 (.tmp 8)) <|
 o (.iaddrA 8 2 (.tmp 9) (.tmp 7)) <|
 o (.faddr 0 (.tmp 10)) <|
 o (.load false 1 (.tmp 11)) <|
 o (.conv .i64 (.tmp 12)) <|
 o (.bin .add (.tmp 5) (.tmp 13)) <|
 o (.faddr 2 (.tmp 2)) <|
 o (.load false 1 (.tmp 15)) <|
 o (.call F_vm_machine_open [.tmp 0, .tmp 16]) <|
 o (.un .not (.tmp 17)) <|
 .ite (.tmp 18)
 (o (.call F_vm_machine_fail [.tmp 0, (.const (.int .i64 8))]) <|
 .ret [(.const (.int .i64 0)), (.const (.bool false))])
 (o (.bin .lss (.tmp 14) (.const (.int .i64 0))) <|
 .ite (.tmp 19)
 (o (.call F_vm_machine_fail [.tmp 0, (.const (.int .i64 7))]) <|
 .ret [(.const (.int .i64 0)), (.const (.bool false))])
 (o (.nilck (.tmp 0)) <|
 o (.faddr 0 (.tmp 20)) <|
 o (.faddr 0 (.tmp 21)) <|
 o (.load true 97 (.tmp 22)) <|
 om .pure (.call F_board_Board_Len [.tmp 23]) <|
 o (.bin .geq (.tmp 14) (.tmp 24)) <|
 .ite (.tmp 25)
 (o (.call F_vm_machine_fail [.tmp 0, (.const (.int .i64 7))]) <|
 .ret [(.const (.int .i64 0)), (.const (.bool false))])
 (.ret [(.tmp 14), (.const (.bool true))])))⟩
def l_vm_machine_reveal : LFn := ⟨2,
 o (.box 100 (.tmp 1)) <|
 o (.load true 6 (.tmp 2)) <|
 o (.call F_vm_machine_index [.tmp 0, .tmp 3]) <|
 o (.ext (.tmp 4) 0) <|
 o (.ext (.tmp 4) 1) <|
 o (.un .not (.tmp 6)) <|
 .ite (.tmp 7)
 (.ret [])
 (o (.nilck (.tmp 0)) <|
 o (.faddr 0 (.tmp 8)) <|
 o (.faddr 0 (.tmp 9)) <|
 o (.load true 97 (.tmp 10)) <|
 om .pure (.call F_board_Board_At [.tmp 11, .tmp 5]) <|
 o (.ext (.tmp 12) 0) <|
 o (.ext (.tmp 12) 1) <|
 o (.new 35) <|
 o (.store 2 (.tmp 15) (.tmp 13)) <|
 o (.faddr 5 (.tmp 2)) <|
 o (.load false 1 (.tmp 17)) <|
 o (.nilck (.tmp 0)) <|
 o (.faddr 121 (.tmp 19)) <|
 o (.load false 1 (.tmp 20)) <|
 o (.bslice 33 1 [(0, 1, (.tmp 21))]) <|
 o (.faddr 1 (.tmp 15)) <|
 o (.load false 1 (.tmp 23)) <|
 oc none (.call F_mask_Mask_Meet [.tmp 18, .tmp 22]) .pure [(none, .load false 1 (.tmp 23))] <|
 om .pure (.call F_mask_Mask_Less [.tmp 25, .tmp 24]) <|
 o (.nilck (.tmp 0)) <|
 o (.faddr 0 (.tmp 27)) <|
 o (.faddr 0 (.tmp 28)) <|
 o (.load true 97 (.tmp 29)) <|
 om .pure (.call F_board_Board_Show [.tmp 30, .tmp 5, .tmp 26]) <|
 o (.ext (.tmp 31) 0) <|
 o (.ext (.tmp 31) 1) <|
 o (.ext (.tmp 31) 2) <|
 o (.nilck (.tmp 0)) <|
 o (.faddr 0 (.tmp 35)) <|
 o (.faddr 0 (.tmp 36)) <|
 o (.store 97 (.tmp 37) (.tmp 32)) <|
 o (.nilck (.tmp 0)) <|
 o (.faddr 0 (.tmp 39)) <|
 o (.faddr 98 (.tmp 40)) <|
 o (.load false 1 (.tmp 41)) <|
 o (.bin .shl (.const (.int .u64 1)) (.tmp 5)) <|
 o (.bin .or (.tmp 42) (.tmp 43)) <|
 o (.nilck (.tmp 0)) <|
 o (.faddr 0 (.tmp 45)) <|
 o (.faddr 98 (.tmp 46)) <|
 o (.store 1 (.tmp 47) (.tmp 44)) <|
 o (.bin .neq (.tmp 26) (.const (.int .u32 0))) <|
 .ite (.tmp 49)
 (o (.nilck (.tmp 0)) <|
 o (.faddr 0 (.tmp 50)) <|
 o (.faddr 99 (.tmp 51)) <|
 o (.load false 1 (.tmp 52)) <|
 o (.faddr 0 (.tmp 15)) <|
 o (.load false 1 (.tmp 54)) <|
 o (.build 228 [(0, 1, (.tmp 5)), (1, 1, (.tmp 26)), (2, 1, (.tmp 55))]) <|
 o (.bslice 228 1 [(0, 3, (.tmp 56))]) <|
 o (.append 3 16 (.tmp 53) (.tmp 57)) <|
 o (.nilck (.tmp 0)) <|
 o (.faddr 0 (.tmp 59)) <|
 o (.faddr 99 (.tmp 60)) <|
 o (.store 1 (.tmp 61) (.tmp 58)) <|
 .ret [])
 (.ret []))⟩
def l_vm_machine_shuffle_k0 : L :=
 o (.bin .add (.tmp 1) (.tmp 2)) <|
 o (.bin .lss (.tmp 4) (.tmp 5)) <|
 .ite (.tmp 6)
 (o (.nilck (.tmp 0)) <|
 o (.faddr 0 (.tmp 7)) <|
 o (.faddr 0 (.tmp 8)) <|
 o (.load true 97 (.tmp 9)) <|
 om .pure (.call F_board_Board_At [.tmp 10, .tmp 4]) <|
 o (.ext (.tmp 11) 0) <|
 o (.ext (.tmp 11) 1) <|
 o (.new 35) <|
 o (.store 2 (.tmp 14) (.tmp 12)) <|
 o (.faddr 0 (.tmp 14)) <|
 o (.load false 1 (.tmp 16)) <|
 o (.bslice 21 1 [(0, 1, (.tmp 17))]) <|
 o (.append 1 4 (.tmp 3) (.tmp 18)) <|
 o (.bin .add (.tmp 4) (.const (.int .i64 1))) <|
 .goto 1 [.tmp 0, .tmp 1, .tmp 2, .tmp 19, .tmp 20])
 (.goto 0 [.tmp 0, .tmp 1, .tmp 3])
def l_vm_machine_shuffle_k1 : L :=
 o (.bin .lss (.tmp 4) (.tmp 3)) <|
 .ite (.tmp 5)
 (o (.iaddr 1 (.tmp 2) (.tmp 4)) <|
 o (.load false 1 (.tmp 6)) <|
 o (.bin .add (.tmp 1) (.tmp 4)) <|
 o (.build 35 [(0, 1, (.tmp 7))]) <|
 o (.call F_vm_machine_store [.tmp 0, .tmp 8, .tmp 9]) <|
 o (.bin .add (.tmp 4) (.const (.int .i64 1))) <|
 .goto 1 [.tmp 0, .tmp 1, .tmp 2, .tmp 3, .tmp 11])
 (.ret [])
def l_vm_machine_shuffle_k2 : L :=
 o (.nilck (.tmp 0)) <|
 o (.faddr 0 (.tmp 3)) <|
 o (.faddr 97 (.tmp 4)) <|
 o (.load true 1 (.tmp 5)) <|
 om .pure (.call F_dice_Dice_Shuffle [.tmp 6, .tmp 2]) <|
 o (.ext (.tmp 7) 0) <|
 o (.ext (.tmp 7) 1) <|
 o (.nilck (.tmp 0)) <|
 o (.faddr 0 (.tmp 10)) <|
 o (.faddr 97 (.tmp 11)) <|
 o (.store 1 (.tmp 12) (.tmp 9)) <|
 o (.len false (.tmp 8)) <|
 .loop 1 [(.tmp 0), (.tmp 1), (.tmp 8), (.tmp 14), (.const (.int .i64 0))] l_vm_machine_shuffle_k1
def l_vm_machine_shuffle : LFn := ⟨3,
 .join 0
 (.loop 1 [(.tmp 0), (.tmp 1), (.tmp 2), (.const (.slice none 0 0)), (.tmp 1)] l_vm_machine_shuffle_k0)
 l_vm_machine_shuffle_k2⟩
def l_code_register : LFn := ⟨2,
 o (.bin .eql (.tmp 1) (.const (.int .u8 0))) <|
 .ite (.tmp 2)
 (.ret [(.const (.bool true))])
 (.ite (.tmp 0)
 (o (.bin .lss (.tmp 1) (.const (.int .u8 8))) <|
 .ret [(.tmp 3)])
 (.ret [(.const (.bool false))]))⟩
def l_dice_mixed : LFn := ⟨1,
 o (.bin .shr (.tmp 0) (.const (.int .u64 30))) <|
 o (.bin .xor (.tmp 0) (.tmp 1)) <|
 o (.bin .mul (.tmp 2) (.const (.int .u64 13787848793156543929))) <|
 o (.bin .shr (.tmp 3) (.const (.int .u64 27))) <|
 o (.bin .xor (.tmp 3) (.tmp 4)) <|
 o (.bin .mul (.tmp 5) (.const (.int .u64 10723151780598845931))) <|
 o (.bin .shr (.tmp 6) (.const (.int .u64 31))) <|
 o (.bin .xor (.tmp 6) (.tmp 7)) <|
 .ret [(.tmp 8)]⟩
def l_mask_Mask_Less : LFn := ⟨2,
 o (.bin .andNot (.tmp 0) (.tmp 1)) <|
 .ret [(.tmp 2)]⟩
def l_board_Board_Show : LFn := ⟨3,
 o (.box 38 (.tmp 0)) <|
 o (.new 38) <|
 o (.load true 97 (.tmp 3)) <|
 om .pure (.call F_board_Board_there [.tmp 5, .tmp 1]) <|
 o (.un .not (.tmp 6)) <|
 .ite (.tmp 7)
 (o (.load true 97 (.tmp 3)) <|
 o (.store 97 (.tmp 4) (.tmp 8)) <|
 o (.load true 97 (.tmp 4)) <|
 .ret [(.tmp 10), (.const (.bool false)), (.const (.int .i64 7))])
 (o (.faddr 0 (.tmp 3)) <|
 o (.iaddrA 48 2 (.tmp 8) (.tmp 1)) <|
 o (.faddr 1 (.tmp 9)) <|
 o (.load false 1 (.tmp 10)) <|
 om .pure (.call F_mask_Mask_Within [.tmp 2, .tmp 11]) <|
 o (.un .not (.tmp 12)) <|
 o (.faddr 0 (.tmp 3)) <|
 o (.iaddrA 48 2 (.tmp 14) (.tmp 1)) <|
 o (.faddr 1 (.tmp 15)) <|
 o (.load false 1 (.tmp 16)) <|
 o (.bslice 33 1 [(0, 1, (.tmp 2))]) <|
 om .pure (.call F_mask_Mask_Join [.tmp 17, .tmp 18]) <|
 o (.faddr 0 (.tmp 3)) <|
 o (.iaddrA 48 2 (.tmp 20) (.tmp 1)) <|
 o (.faddr 1 (.tmp 21)) <|
 o (.store 1 (.tmp 22) (.tmp 19)) <|
 o (.load true 97 (.tmp 3)) <|
 o (.store 97 (.tmp 4) (.tmp 24)) <|
 o (.load true 97 (.tmp 4)) <|
 .ret [(.tmp 26), (.tmp 13), (.const (.int .i64 0))])⟩
def l_dice_Dice_Shuffle_k0 : L :=
 o (.bin .gtr (.tmp 3) (.const (.int .i64 0))) <|
 .ite (.tmp 4)
 (o (.load true 1 (.tmp 0)) <|
 o (.bin .add (.tmp 3) (.const (.int .i64 1))) <|
 o (.conv .u32 (.tmp 6)) <|
 om .pure (.call F_dice_Dice_Below [.tmp 5, .tmp 7]) <|
 o (.ext (.tmp 8) 0) <|
 o (.ext (.tmp 8) 1) <|
 o (.store 1 (.tmp 0) (.tmp 10)) <|
 o (.iaddr 1 (.tmp 2) (.tmp 9)) <|
 o (.load false 1 (.tmp 12)) <|
 o (.iaddr 1 (.tmp 2) (.tmp 3)) <|
 o (.load false 1 (.tmp 14)) <|
 o (.iaddr 1 (.tmp 2) (.tmp 3)) <|
 o (.store 1 (.tmp 16) (.tmp 13)) <|
 o (.iaddr 1 (.tmp 2) (.tmp 9)) <|
 o (.store 1 (.tmp 18) (.tmp 15)) <|
 o (.bin .sub (.tmp 3) (.const (.int .i64 1))) <|
 .goto 1 [.tmp 0, .tmp 1, .tmp 2, .tmp 20])
 (.goto 0 [.tmp 0, .tmp 1, .tmp 2])
def l_dice_Dice_Shuffle_k1 : L :=
 o (.load true 1 (.tmp 0)) <|
 o (.store 1 (.tmp 1) (.tmp 3)) <|
 o (.load true 1 (.tmp 1)) <|
 .ret [(.tmp 2), (.tmp 5)]
def l_dice_Dice_Shuffle : LFn := ⟨2,
 o (.box 40 (.tmp 0)) <|
 o (.new 40) <|
 o (.call F_slices_Clone_Lint32_int32 [.tmp 1]) <|
 .join 0
 (o (.len false (.tmp 4)) <|
 o (.bin .sub (.tmp 5) (.const (.int .i64 1))) <|
 .loop 1 [(.tmp 2), (.tmp 3), (.tmp 4), (.tmp 6)] l_dice_Dice_Shuffle_k0)
 l_dice_Dice_Shuffle_k1⟩
def l_mask_Mask_Join_k0 : L :=
 o (.bin .lss (.tmp 3) (.tmp 2)) <|
 .ite (.tmp 4)
 (o (.iaddr 1 (.tmp 1) (.tmp 3)) <|
 o (.load false 1 (.tmp 5)) <|
 o (.bin .or (.tmp 0) (.tmp 6)) <|
 o (.bin .add (.tmp 3) (.const (.int .i64 1))) <|
 .goto 1 [.tmp 7, .tmp 1, .tmp 2, .tmp 8])
 (.goto 0 [.tmp 0])
def l_mask_Mask_Join_k1 : L :=
 .ret [(.tmp 0)]
def l_mask_Mask_Join : LFn := ⟨2,
 .join 0
 (o (.len false (.tmp 1)) <|
 .loop 1 [(.tmp 0), (.tmp 1), (.tmp 2), (.const (.int .i64 0))] l_mask_Mask_Join_k0)
 l_mask_Mask_Join_k1⟩
def l_slices_Clone_Lint32_int32 : LFn := ⟨1,
 o (.eqNil false .slc (.tmp 0)) <|
 .ite (.tmp 1)
 (.ret [(.const (.slice none 0 0))])
 (o (.bslice 21 0 []) <|
 o (.append 1 4 (.tmp 2) (.tmp 0)) <|
 .ret [(.tmp 3)])⟩
def mdT : FuncId → FuncId → Md := mdOf 346065642974928242196892293992598380979704 [(13, 18), (53, 93), (135, 137)]
def zcT : TypeId → Option (List Value)
 | 3 => some [(.int .i64 0)]
 | 5 => some [(.int .u8 0)]
 | 21 => some [(.int .i32 0)]
 | 26 => some [(.int .i64 0), (.int .i64 0), (.int .u32 0), (.int .u32 0), (.slice none 0 0), (.slice none 0 0)]
 | 27 => some [(.int .u64 0)]
 | 30 => some [(.slice none 0 0)]
 | 33 => some [(.int .u32 0)]
 | 35 => some [(.int .i32 0), (.int .u32 0)]
 | 38 => some ((reps 48 [(.int .i32 0), (.int .u32 0)]) ++ [(.int .i64 0)])
 | 40 => some [(.int .u64 0)]
 | 42 => some ((reps 48 [(.int .i32 0), (.int .u32 0)]) ++ [(.int .i64 0), (.int .u64 0), (.int .u32 0)])
 | 51 => some [(.int .u64 0), (.slice none 0 0), (.int .i64 0)]
 | 78 => some [(.int .i64 0), (.int .i64 0), (.int .u32 0), (.int .u32 0), (.slice none 0 0), (.slice none 0 0)]
 | 81 => some [(.slice none 0 0), (.int .u64 0), (.int .u32 0)]
 | 100 => some [(.int .u8 0), (.int .u8 0), (.int .u8 0), (.int .u8 0), (.int .i32 0), (.int .u32 0)]
 | 102 => some [(.int .u32 0), (.int .u32 0), (.slice none 0 0), (.slice none 0 0)]
 | 106 => some ([(.int .i64 0), (.int .i64 0), (.int .u32 0), (.int .u32 0), (.slice none 0 0), (.slice none 0 0), (.int .i64 0)] ++ ((reps 48 [(.int .i32 0), (.int .u32 0)]) ++ [(.int .i64 0), (.int .u64 0), (.int .u32 0), (.slice none 0 0)]))
 | 108 => some ((reps 48 [(.int .i32 0), (.int .u32 0)]) ++ [(.int .i64 0), (.int .u64 0), (.int .u64 0), (.slice none 0 0), (.int .i64 0), (.int .i64 0)])
 | 116 => some [(.slice none 0 0)]
 | 122 => some (reps 256 [(.int .u32 0)])
 | 135 => some [(.int .i64 0), (.int .i64 0), (.int .u32 0), (.int .u32 0), (.slice none 0 0), (.slice none 0 0), (.int .i64 0), (.slice none 0 0)]
 | 144 => some [(.int .u32 0), (.int .u32 0), (.slice none 0 0), (.slice none 0 0)]
 | 148 => some [(.int .i64 0), (.int .i64 0), (.int .u32 0), (.int .u32 0), (.slice none 0 0), (.slice none 0 0), (.int .i64 0), (.slice none 0 0), (.slice none 0 0)]
 | 150 => some [(.int .i32 0), (.int .u32 0)]
 | 152 => some [(.int .u8 0), (.int .u8 0), (.int .u8 0), (.int .u8 0), (.int .i32 0), (.int .u32 0)]
 | 170 => some [(.int .i32 0), (.int .u32 0)]
 | 173 => some ((reps 48 [(.int .i32 0), (.int .u32 0)]) ++ ([(.int .i64 0), (.int .u64 0), (.int .u64 0), (.slice none 0 0), (.int .i64 0), (.int .i64 0)] ++ ((reps 8 [(.int .i32 0), (.int .u32 0)]) ++ [(.int .i64 0), (.slice none 0 0), (.int .u32 0), (.int .u32 0), .nilFunc])))
 | 184 => some [(.int .u8 0), (.int .u8 0), (.int .u8 0), (.int .u8 0)]
 | 187 => some [(.slice none 0 0), (.bool false)]
 | 215 => some [(.bool false), (.bool false), (.bool false), (.int .u8 0), (.bool false)]
 | 216 => some [(.bool false), (.bool false), (.bool false), (.int .u8 0), (.bool false), (.bool false), (.bool false), (.bool false), (.int .u8 0), (.bool false), (.bool false), (.bool false), (.bool false), (.int .u8 0), (.bool false), (.bool false), (.bool false), (.bool false), (.int .u8 0), (.bool false), (.bool false), (.bool false), (.bool false), (.int .u8 0), (.bool false), (.bool false), (.bool false), (.bool false), (.int .u8 0), (.bool false), (.bool false), (.bool false), (.bool false), (.int .u8 0), (.bool false), (.bool false), (.bool false), (.bool false), (.int .u8 0), (.bool false), (.bool false), (.bool false), (.bool false), (.int .u8 0), (.bool false), (.bool false), (.bool false), (.bool false), (.int .u8 0), (.bool false), (.bool false), (.bool false), (.bool false), (.int .u8 0), (.bool false), (.bool false), (.bool false), (.bool false), (.int .u8 0), (.bool false), (.bool false), (.bool false), (.bool false), (.int .u8 0), (.bool false), (.bool false), (.bool false), (.bool false), (.int .u8 0), (.bool false), (.bool false), (.bool false), (.bool false), (.int .u8 0), (.bool false), (.bool false), (.bool false), (.bool false), (.int .u8 0), (.bool false), (.bool false), (.bool false), (.bool false), (.int .u8 0), (.bool false), (.bool false), (.bool false), (.bool false), (.int .u8 0), (.bool false), (.bool false), (.bool false), (.bool false), (.int .u8 0), (.bool false), (.bool false), (.bool false), (.bool false), (.int .u8 0), (.bool false), (.bool false), (.bool false), (.bool false), (.int .u8 0), (.bool false), (.bool false), (.bool false), (.bool false), (.int .u8 0), (.bool false), (.bool false), (.bool false), (.bool false), (.int .u8 0), (.bool false), (.bool false), (.bool false), (.bool false), (.int .u8 0), (.bool false), (.bool false), (.bool false), (.bool false), (.int .u8 0), (.bool false), (.bool false), (.bool false), (.bool false), (.int .u8 0), (.bool false)]
 | 228 => some [(.int .i64 0), (.int .u32 0), (.int .i32 0)]
 | _ => none
def zvT : TypeId → Option Value
 | _ => none
def coT : TypeId → Option Nat
 | 35 => some 2
 | 38 => some 97
 | 42 => some 99
 | 100 => some 6
 | 150 => some 2
 | 184 => some 4
 | _ => none
def fnL : List (FuncId × LFn) := [(3, l_law20_ReplayShows), (6, l_law20_awake), (7, l_law20_few), (8, l_rules_Game_Start), (9, l_replay_New), (10, l_rules_Game_Step), (11, l_replay_Tape_Add), (12, l_replay_Tape_Bytes), (13, l_ref02_Turned), (14, l_replay_Read), (15, l_ref01_Same), (16, l_ref01_Cut), (17, l_ref02_Seal), (18, l_ref01_Join), (19, l_replay_Reel_View), (20, l_replay_Reel_Game), (21, l_replay_Reel_Observer), (22, l_replay_Reel_Len), (23, l_replay_Tape_Len), (27, l_rules_State_View), (33, l_board_Board_Len), (34, l_board_Board_At), (35, l_rules_Game_Right), (36, l_board_New), (37, l_board_Board_Put), (38, l_slices_Clone_Lboard_Cell_board_Cell), (39, l_slices_Clone_Lcode_Code_code_Code), (40, l_delta_Full), (41, l_vm_Run), (42, l_rules_Game_all), (43, l_rules_Game_All), (44, l_delta_Of), (45, l_delta_Delta_Apply), (46, l_board_Board_View), (47, l_ink_Pen_Byte), (48, l_ink_Pen_Blob), (49, l_rules_Game_Bytes), (50, l_ink_Pen_Num), (51, l_delta_Delta_Bytes), (52, l_wax_Make), (53, l_wax_Table_Seal), (54, l_ink_Pen_Bytes), (55, l_wax_Table_Open), (56, l_bytes_CutPrefix), (57, l_ink_Read), (58, l_rules_Parse), (59, l_ink_Eye_Blob), (60, l_ink_Eye_Byte), (61, l_ink_Eye_Num), (62, l_replay_Reel_follow), (63, l_ink_Eye_Done), (64, l_ref01_Low), (65, l_ref02_Sum), (77, l_board_Board_there), (78, l_mask_Mask_Within), (79, l_code_Right), (80, l_vm_Compute), (81, l_vm_machine_fail), (82, l_vm_machine_follow), (83, l_rules_Game_Legal), (84, l_mask_All), (85, l_board_Board_Hash), (86, l_mask_Mask_Has), (87, l_ink_Pen_add), (88, l_ink_Pen_Word), (89, l_code_Bytes), (90, l_delta_Delta_right), (91, l_wax_Step), (92, l_wax_Table_tail), (93, l_bytes_Clone), (94, l_bytes_HasPrefix), (95, l_ink_Eye_Word), (96, l_code_Parse), (97, l_ink_Eye_wrong), (98, l_ink_Eye_fail), (99, l_ink_Eye_take), (100, l_delta_Parse), (101, l_delta_Delta_Board), (108, l_code_Check), (109, l_vm_divided), (110, l_vm_one), (111, l_vm_machine_load), (112, l_vm_machine_store), (113, l_mask_Mask_Meet), (114, l_vm_machine_open), (115, l_mask_Of), (116, l_dice_Dice_Below), (117, l_vm_machine_reach), (118, l_board_Board_sum), (119, l_mask_one), (120, l_ink_Pen_Half), (121, l_wax_Table_Sum), (122, l_bytes_Equal), (124, l_code_uses), (125, l_code_right), (126, l_mask_Mask_With), (127, l_dice_Dice_Next), (128, l_vm_machine_index), (129, l_vm_machine_reveal), (130, l_vm_machine_shuffle), (131, l_code_register), (132, l_dice_mixed), (133, l_mask_Mask_Less), (134, l_board_Board_Show), (135, l_dice_Dice_Shuffle), (136, l_mask_Mask_Join), (137, l_slices_Clone_Lint32_int32)]
def fnT (f : FuncId) : Option LFn := lkF fnL f
def givIL : List (FuncId × (List IV → MI IV)) := []
noncomputable def BI : IBook := { zc := zcT, zv := zvT, co := coT, fn := fnT, md := mdT 0, given := gvL givIL }
theorem gv_none {f : FuncId} {l : LFn} (h : BI.fn f = some l) : BI.given f = none := rfl
theorem fn_law20_ReplayShows : BI.fn F_law20_ReplayShows = some l_law20_ReplayShows := by kernel_rfl
theorem fn_law20_awake : BI.fn F_law20_awake = some l_law20_awake := by kernel_rfl
theorem fn_law20_few : BI.fn F_law20_few = some l_law20_few := by kernel_rfl
theorem fn_rules_Game_Start : BI.fn F_rules_Game_Start = some l_rules_Game_Start := by kernel_rfl
theorem fn_replay_New : BI.fn F_replay_New = some l_replay_New := by kernel_rfl
theorem fn_rules_Game_Step : BI.fn F_rules_Game_Step = some l_rules_Game_Step := by kernel_rfl
theorem fn_replay_Tape_Add : BI.fn F_replay_Tape_Add = some l_replay_Tape_Add := by kernel_rfl
theorem fn_replay_Tape_Bytes : BI.fn F_replay_Tape_Bytes = some l_replay_Tape_Bytes := by kernel_rfl
theorem fn_ref02_Turned : BI.fn F_ref02_Turned = some l_ref02_Turned := by kernel_rfl
theorem fn_replay_Read : BI.fn F_replay_Read = some l_replay_Read := by kernel_rfl
theorem fn_ref01_Same : BI.fn F_ref01_Same = some l_ref01_Same := by kernel_rfl
theorem fn_ref01_Cut : BI.fn F_ref01_Cut = some l_ref01_Cut := by kernel_rfl
theorem fn_ref02_Seal : BI.fn F_ref02_Seal = some l_ref02_Seal := by kernel_rfl
theorem fn_ref01_Join : BI.fn F_ref01_Join = some l_ref01_Join := by kernel_rfl
theorem fn_replay_Reel_View : BI.fn F_replay_Reel_View = some l_replay_Reel_View := by kernel_rfl
theorem fn_replay_Reel_Game : BI.fn F_replay_Reel_Game = some l_replay_Reel_Game := by kernel_rfl
theorem fn_replay_Reel_Observer : BI.fn F_replay_Reel_Observer = some l_replay_Reel_Observer := by kernel_rfl
theorem fn_replay_Reel_Len : BI.fn F_replay_Reel_Len = some l_replay_Reel_Len := by kernel_rfl
theorem fn_replay_Tape_Len : BI.fn F_replay_Tape_Len = some l_replay_Tape_Len := by kernel_rfl
theorem fn_rules_State_View : BI.fn F_rules_State_View = some l_rules_State_View := by kernel_rfl
theorem fn_board_Board_Len : BI.fn F_board_Board_Len = some l_board_Board_Len := by kernel_rfl
theorem fn_board_Board_At : BI.fn F_board_Board_At = some l_board_Board_At := by kernel_rfl
theorem fn_rules_Game_Right : BI.fn F_rules_Game_Right = some l_rules_Game_Right := by kernel_rfl
theorem fn_board_New : BI.fn F_board_New = some l_board_New := by kernel_rfl
theorem fn_board_Board_Put : BI.fn F_board_Board_Put = some l_board_Board_Put := by kernel_rfl
theorem fn_slices_Clone_Lboard_Cell_board_Cell : BI.fn F_slices_Clone_Lboard_Cell_board_Cell = some l_slices_Clone_Lboard_Cell_board_Cell := by kernel_rfl
theorem fn_slices_Clone_Lcode_Code_code_Code : BI.fn F_slices_Clone_Lcode_Code_code_Code = some l_slices_Clone_Lcode_Code_code_Code := by kernel_rfl
theorem fn_delta_Full : BI.fn F_delta_Full = some l_delta_Full := by kernel_rfl
theorem fn_vm_Run : BI.fn F_vm_Run = some l_vm_Run := by kernel_rfl
theorem fn_rules_Game_all : BI.fn F_rules_Game_all = some l_rules_Game_all := by kernel_rfl
theorem fn_rules_Game_All : BI.fn F_rules_Game_All = some l_rules_Game_All := by kernel_rfl
theorem fn_delta_Of : BI.fn F_delta_Of = some l_delta_Of := by kernel_rfl
theorem fn_delta_Delta_Apply : BI.fn F_delta_Delta_Apply = some l_delta_Delta_Apply := by kernel_rfl
theorem fn_board_Board_View : BI.fn F_board_Board_View = some l_board_Board_View := by kernel_rfl
theorem fn_ink_Pen_Byte : BI.fn F_ink_Pen_Byte = some l_ink_Pen_Byte := by kernel_rfl
theorem fn_ink_Pen_Blob : BI.fn F_ink_Pen_Blob = some l_ink_Pen_Blob := by kernel_rfl
theorem fn_rules_Game_Bytes : BI.fn F_rules_Game_Bytes = some l_rules_Game_Bytes := by kernel_rfl
theorem fn_ink_Pen_Num : BI.fn F_ink_Pen_Num = some l_ink_Pen_Num := by kernel_rfl
theorem fn_delta_Delta_Bytes : BI.fn F_delta_Delta_Bytes = some l_delta_Delta_Bytes := by kernel_rfl
theorem fn_wax_Make : BI.fn F_wax_Make = some l_wax_Make := by kernel_rfl
theorem fn_wax_Table_Seal : BI.fn F_wax_Table_Seal = some l_wax_Table_Seal := by kernel_rfl
theorem fn_ink_Pen_Bytes : BI.fn F_ink_Pen_Bytes = some l_ink_Pen_Bytes := by kernel_rfl
theorem fn_wax_Table_Open : BI.fn F_wax_Table_Open = some l_wax_Table_Open := by kernel_rfl
theorem fn_bytes_CutPrefix : BI.fn F_bytes_CutPrefix = some l_bytes_CutPrefix := by kernel_rfl
theorem fn_ink_Read : BI.fn F_ink_Read = some l_ink_Read := by kernel_rfl
theorem fn_rules_Parse : BI.fn F_rules_Parse = some l_rules_Parse := by kernel_rfl
theorem fn_ink_Eye_Blob : BI.fn F_ink_Eye_Blob = some l_ink_Eye_Blob := by kernel_rfl
theorem fn_ink_Eye_Byte : BI.fn F_ink_Eye_Byte = some l_ink_Eye_Byte := by kernel_rfl
theorem fn_ink_Eye_Num : BI.fn F_ink_Eye_Num = some l_ink_Eye_Num := by kernel_rfl
theorem fn_replay_Reel_follow : BI.fn F_replay_Reel_follow = some l_replay_Reel_follow := by kernel_rfl
theorem fn_ink_Eye_Done : BI.fn F_ink_Eye_Done = some l_ink_Eye_Done := by kernel_rfl
theorem fn_ref01_Low : BI.fn F_ref01_Low = some l_ref01_Low := by kernel_rfl
theorem fn_ref02_Sum : BI.fn F_ref02_Sum = some l_ref02_Sum := by kernel_rfl
theorem fn_board_Board_there : BI.fn F_board_Board_there = some l_board_Board_there := by kernel_rfl
theorem fn_mask_Mask_Within : BI.fn F_mask_Mask_Within = some l_mask_Mask_Within := by kernel_rfl
theorem fn_code_Right : BI.fn F_code_Right = some l_code_Right := by kernel_rfl
theorem fn_vm_Compute : BI.fn F_vm_Compute = some l_vm_Compute := by kernel_rfl
theorem fn_vm_machine_fail : BI.fn F_vm_machine_fail = some l_vm_machine_fail := by kernel_rfl
theorem fn_vm_machine_follow : BI.fn F_vm_machine_follow = some l_vm_machine_follow := by kernel_rfl
theorem fn_rules_Game_Legal : BI.fn F_rules_Game_Legal = some l_rules_Game_Legal := by kernel_rfl
theorem fn_mask_All : BI.fn F_mask_All = some l_mask_All := by kernel_rfl
theorem fn_board_Board_Hash : BI.fn F_board_Board_Hash = some l_board_Board_Hash := by kernel_rfl
theorem fn_mask_Mask_Has : BI.fn F_mask_Mask_Has = some l_mask_Mask_Has := by kernel_rfl
theorem fn_ink_Pen_add : BI.fn F_ink_Pen_add = some l_ink_Pen_add := by kernel_rfl
theorem fn_ink_Pen_Word : BI.fn F_ink_Pen_Word = some l_ink_Pen_Word := by kernel_rfl
theorem fn_code_Bytes : BI.fn F_code_Bytes = some l_code_Bytes := by kernel_rfl
theorem fn_delta_Delta_right : BI.fn F_delta_Delta_right = some l_delta_Delta_right := by kernel_rfl
theorem fn_wax_Step : BI.fn F_wax_Step = some l_wax_Step := by kernel_rfl
theorem fn_wax_Table_tail : BI.fn F_wax_Table_tail = some l_wax_Table_tail := by kernel_rfl
theorem fn_bytes_Clone : BI.fn F_bytes_Clone = some l_bytes_Clone := by kernel_rfl
theorem fn_bytes_HasPrefix : BI.fn F_bytes_HasPrefix = some l_bytes_HasPrefix := by kernel_rfl
theorem fn_ink_Eye_Word : BI.fn F_ink_Eye_Word = some l_ink_Eye_Word := by kernel_rfl
theorem fn_code_Parse : BI.fn F_code_Parse = some l_code_Parse := by kernel_rfl
theorem fn_ink_Eye_wrong : BI.fn F_ink_Eye_wrong = some l_ink_Eye_wrong := by kernel_rfl
theorem fn_ink_Eye_fail : BI.fn F_ink_Eye_fail = some l_ink_Eye_fail := by kernel_rfl
theorem fn_ink_Eye_take : BI.fn F_ink_Eye_take = some l_ink_Eye_take := by kernel_rfl
theorem fn_delta_Parse : BI.fn F_delta_Parse = some l_delta_Parse := by kernel_rfl
theorem fn_delta_Delta_Board : BI.fn F_delta_Delta_Board = some l_delta_Delta_Board := by kernel_rfl
theorem fn_code_Check : BI.fn F_code_Check = some l_code_Check := by kernel_rfl
theorem fn_vm_divided : BI.fn F_vm_divided = some l_vm_divided := by kernel_rfl
theorem fn_vm_one : BI.fn F_vm_one = some l_vm_one := by kernel_rfl
theorem fn_vm_machine_load : BI.fn F_vm_machine_load = some l_vm_machine_load := by kernel_rfl
theorem fn_vm_machine_store : BI.fn F_vm_machine_store = some l_vm_machine_store := by kernel_rfl
theorem fn_mask_Mask_Meet : BI.fn F_mask_Mask_Meet = some l_mask_Mask_Meet := by kernel_rfl
theorem fn_vm_machine_open : BI.fn F_vm_machine_open = some l_vm_machine_open := by kernel_rfl
theorem fn_mask_Of : BI.fn F_mask_Of = some l_mask_Of := by kernel_rfl
theorem fn_dice_Dice_Below : BI.fn F_dice_Dice_Below = some l_dice_Dice_Below := by kernel_rfl
theorem fn_vm_machine_reach : BI.fn F_vm_machine_reach = some l_vm_machine_reach := by kernel_rfl
theorem fn_board_Board_sum : BI.fn F_board_Board_sum = some l_board_Board_sum := by kernel_rfl
theorem fn_mask_one : BI.fn F_mask_one = some l_mask_one := by kernel_rfl
theorem fn_ink_Pen_Half : BI.fn F_ink_Pen_Half = some l_ink_Pen_Half := by kernel_rfl
theorem fn_wax_Table_Sum : BI.fn F_wax_Table_Sum = some l_wax_Table_Sum := by kernel_rfl
theorem fn_bytes_Equal : BI.fn F_bytes_Equal = some l_bytes_Equal := by kernel_rfl
theorem fn_code_uses : BI.fn F_code_uses = some l_code_uses := by kernel_rfl
theorem fn_code_right : BI.fn F_code_right = some l_code_right := by kernel_rfl
theorem fn_mask_Mask_With : BI.fn F_mask_Mask_With = some l_mask_Mask_With := by kernel_rfl
theorem fn_dice_Dice_Next : BI.fn F_dice_Dice_Next = some l_dice_Dice_Next := by kernel_rfl
theorem fn_vm_machine_index : BI.fn F_vm_machine_index = some l_vm_machine_index := by kernel_rfl
theorem fn_vm_machine_reveal : BI.fn F_vm_machine_reveal = some l_vm_machine_reveal := by kernel_rfl
theorem fn_vm_machine_shuffle : BI.fn F_vm_machine_shuffle = some l_vm_machine_shuffle := by kernel_rfl
theorem fn_code_register : BI.fn F_code_register = some l_code_register := by kernel_rfl
theorem fn_dice_mixed : BI.fn F_dice_mixed = some l_dice_mixed := by kernel_rfl
theorem fn_mask_Mask_Less : BI.fn F_mask_Mask_Less = some l_mask_Mask_Less := by kernel_rfl
theorem fn_board_Board_Show : BI.fn F_board_Board_Show = some l_board_Board_Show := by kernel_rfl
theorem fn_dice_Dice_Shuffle : BI.fn F_dice_Dice_Shuffle = some l_dice_Dice_Shuffle := by kernel_rfl
theorem fn_mask_Mask_Join : BI.fn F_mask_Mask_Join = some l_mask_Mask_Join := by kernel_rfl
theorem fn_slices_Clone_Lint32_int32 : BI.fn F_slices_Clone_Lint32_int32 = some l_slices_Clone_Lint32_int32 := by kernel_rfl
end Go.Proofs.YticfcmaigffhmaaGreat.G
