/- Joined: Q0 to Q1. -/
import Derived.Test.YtccbcbnglnloiaaXD
import Derived.KernelRfl
set_option linter.unusedVariables false
set_option linter.unusedSimpArgs false
set_option maxRecDepth 20000
set_option maxHeartbeats 2000000
namespace Go.Proofs.Ytccbcbnglnloiaa.G
open Go
def o (p : SOp) (k : L) : L := .op ⟨none, p, .raw, []⟩ k
def om (md : Md) (p : SOp) (k : L) : L := .op ⟨none, p, md, []⟩ k
def oc (g : Option (Operand × Bool)) (p : SOp) (md : Md) (chk : List (Option (Operand × Bool) × SOp)) (k : L) : L := .op ⟨g, p, md, chk⟩ k
def thenI (r : Option (IV × JH)) (k : IV → JH → Option (Out IV × JH)) : Option (Out IV × JH) := match r with | some (v, J) => k v J | none => none
def onJoin (l : Nat) (r : Option (Out IV × JH)) (k : List IV → JH → Option (Out IV × JH)) : Option (Out IV × JH) := match r with
 | some (.goto j vs, J) => if j = l then k vs J else some (.goto j vs, J)
 | r => r
def onIf (v : IV) (a b : Option (Out IV × JH)) : Option (Out IV × JH) := match v with | .sc (.bool t) => if t = true then a else b | _ => none
def lkF : List (FuncId × LFn) → FuncId → Option LFn
 | [], _ => none
 | (k, l) :: r, f => if f = k then some l else lkF r f
def allF (q : FuncId → LFn → Prop) : List (FuncId × LFn) → Prop
 | [] => True
 | p :: r => q p.1 p.2 ∧ allF q r
theorem lkF_all {q : FuncId → LFn → Prop} : ∀ {L : List (FuncId × LFn)} {f : FuncId} {l : LFn}, allF q L → lkF L f = some l → q f l
 | [], f, l, _, h => by simp [lkF] at h
 | (k, m) :: r, f, l, ha, h => by
  simp only [lkF] at h
  split at h
  ·rename_i he
   subst he
   simp only [Option.some.injEq] at h
   subst h
   exact ha.1
  ·exact lkF_all ha.2 h
section
variable {B : IBook} {ρ : List IV} {J : JH} {p : SOp} {k : L} {md : Md}
theorem step_plain {C : ICall} : stepI' B C ρ ⟨none, p, md, []⟩ J = iexec B C md ρ p J := by
 unfold stepI'
 simp only [wantsI, List.all_nil, if_true]
 cases iexec B C md ρ p J with
 | none => rfl
 | some q => rfl
theorem dn_o : dn B (o p k) ρ J = thenI (iexec B (ic B) .raw ρ p J) fun v J' => dn B k (ρ ++ [v]) J' := by
 simp only [o, dn, step_plain]; rfl
theorem dn_om : dn B (om md p k) ρ J = thenI (iexec B (ic B) md ρ p J) fun v J' => dn B k (ρ ++ [v]) J' := by
 simp only [om, dn, step_plain]; rfl
theorem dn_oc {g : Option (Operand × Bool)} {chk} : dn B (oc g p md chk k) ρ J = thenI (stepI' B (ic B) ρ ⟨g, p, md, chk⟩ J) fun v J' => dn B k (ρ ++ [v]) J' := by
 simp only [oc, dn]; rfl
theorem dn_ite {c : Operand} {a b : L} : dn B (.ite c a b) ρ J = onIf (evI ρ c) (dn B a ρ J) (dn B b ρ J) := by
 simp only [dn]; rfl
theorem dn_join {l : Nat} {a b : L} : dn B (.join l a b) ρ J = onJoin l (dn B a ρ J) fun vs J => dn B b vs J := by
 simp only [dn, onJoin]
 cases dn B a ρ J with
 | none => rfl
 | some q => obtain ⟨o, J'⟩ := q; cases o <;> rfl
theorem dn_loop {l : Nat} {init : List Operand} {b : L} : dn B (.loop l init b) ρ J = iter (dn B b) l (init.map (evI ρ)) J := by
 simp only [dn]
theorem dn_goto {l : Nat} {vs : List Operand} : dn B (.goto l vs) ρ J = some (.goto l (vs.map (evI ρ)), J) := by simp only [dn]
theorem dn_ret {vs : List Operand} : dn B (.ret vs) ρ J = some (.ret (vs.map (evI ρ)), J) := by simp only [dn]
theorem thenI_some {v : IV} {J : JH} {k : IV → JH → Option (Out IV × JH)} : thenI (some (v, J)) k = k v J := rfl
theorem ilift_some {v : IV} {J : JH} : ilift (some v) J = some (v, J) := rfl
theorem onIf_bool {t : Bool} {a b : Option (Out IV × JH)} : onIf (.sc (.bool t)) a b = if t = true then a else b := rfl
theorem onJoin_goto {l : Nat} {vs : List IV} {J : JH} {k : List IV → JH → Option (Out IV × JH)} : onJoin l (some (.goto l vs, J)) k = k vs J := by simp [onJoin]
theorem onJoin_ret {l : Nat} {vs : List IV} {J : JH} {k : List IV → JH → Option (Out IV × JH)} : onJoin l (some (.ret vs, J)) k = some (.ret vs, J) := rfl
theorem onJoin_ite {l : Nat} {c : Prop} [Decidable c] {a b : Option (Out IV × JH)} {k : List IV → JH → Option (Out IV × JH)} : onJoin l (if c then a else b) k = if c then onJoin l a k else onJoin l b k := by split <;> rfl
theorem thenI_ite {c : Prop} [Decidable c] {a b : Option (IV × JH)} {k : IV → JH → Option (Out IV × JH)} : thenI (if c then a else b) k = if c then thenI a k else thenI b k := by split <;> rfl
theorem evI_0 {x : IV} {r : List IV} : evI (x :: r) (.tmp 0) = x := rfl
theorem evI_succ {x : IV} {r : List IV} {n : Nat} : evI (x :: r) (.tmp (n + 1)) = evI r (.tmp n) := by simp [evI]
theorem scal2_sc {f : Value → Value → Option Value} {a b : Value} : scal2 f (.sc a) (.sc b) = (f a b).map .sc := rfl
end
end Go.Proofs.Ytccbcbnglnloiaa.G
namespace Go.Proofs.Ytccbcbnglnloiaa.G
open Go
abbrev F_law16_TrailMoves : FuncId := 8
abbrev F_law16_awake : FuncId := 9
abbrev F_law16_few : FuncId := 10
abbrev F_trail_New : FuncId := 11
abbrev F_board_New : FuncId := 12
abbrev F_trail_Trail_Reset : FuncId := 13
abbrev F_rules_Game_Legal : FuncId := 14
abbrev F_trail_Trail_Add : FuncId := 15
abbrev F_trail_Trail_Room : FuncId := 16
abbrev F_trail_Trail_Pending : FuncId := 17
abbrev F_trail_Trail_Last : FuncId := 18
abbrev F_trail_Trail_Known : FuncId := 19
abbrev F_trail_Trail_Shown : FuncId := 20
abbrev F_rules_Game_Right : FuncId := 21
abbrev F_rules_Game_Start : FuncId := 22
abbrev F_rules_State_View : FuncId := 23
abbrev F_rules_Game_Predict : FuncId := 24
abbrev F_trail_Trail_Confirm : FuncId := 25
abbrev F_rules_Game_Step : FuncId := 27
abbrev F_mask_Mask_Has : FuncId := 28
abbrev F_board_Board_Put : FuncId := 29
abbrev F_slices_Equal_Luint32_uint32 : FuncId := 30
abbrev F_slices_Clone_Lboard_Cell_board_Cell : FuncId := 31
abbrev F_slices_Clone_Lcode_Code_code_Code : FuncId := 32
abbrev F_slices_Sorted_uint32 : FuncId := 33
abbrev F_maps_Keys_map_uint32_uint32_uint32_uint32 : FuncId := 34
abbrev F_mask_Mask_Within : FuncId := 35
abbrev F_rules_Game_All : FuncId := 36
abbrev F_code_Right : FuncId := 37
abbrev F_board_Board_View : FuncId := 38
abbrev F_maps_DeleteFunc_map_uint32_uint32_uint32_uint32 : FuncId := 39
abbrev F_trail_Trail_Confirm_1 : FuncId := 40
abbrev F_vm_Run : FuncId := 41
abbrev F_rules_Game_all : FuncId := 42
abbrev F_mask_one : FuncId := 43
abbrev F_board_Board_there : FuncId := 44
abbrev F_slices_Sort_Luint32_uint32 : FuncId := 46
abbrev F_maps_Keys_map_uint32_uint32_uint32_uint32_1 : FuncId := 47
abbrev F_mask_All : FuncId := 48
abbrev F_code_Check : FuncId := 49
abbrev F_board_Board_Len : FuncId := 50
abbrev F_vm_Compute : FuncId := 51
abbrev F_vm_machine_fail : FuncId := 52
abbrev F_vm_machine_follow : FuncId := 53
abbrev F_slices_pdqsortOrdered_uint32 : FuncId := 55
abbrev F_math_bits_Len : FuncId := 56
abbrev F_code_uses : FuncId := 57
abbrev F_code_right : FuncId := 58
abbrev F_vm_divided : FuncId := 59
abbrev F_vm_one : FuncId := 60
abbrev F_vm_machine_load : FuncId := 61
abbrev F_vm_machine_store : FuncId := 62
abbrev F_mask_Mask_Meet : FuncId := 63
abbrev F_vm_machine_open : FuncId := 64
abbrev F_mask_Of : FuncId := 65
abbrev F_dice_Dice_Below : FuncId := 66
abbrev F_vm_machine_reach : FuncId := 67
abbrev F_slices_insertionSortOrdered_uint32 : FuncId := 68
abbrev F_slices_heapSortOrdered_uint32 : FuncId := 69
abbrev F_slices_breakPatternsOrdered_uint32 : FuncId := 70
abbrev F_slices_choosePivotOrdered_uint32 : FuncId := 71
abbrev F_slices_reverseRangeOrdered_uint32 : FuncId := 72
abbrev F_slices_partialInsertionSortOrdered_uint32 : FuncId := 73
abbrev F_cmp_Less_uint32 : FuncId := 74
abbrev F_slices_partitionEqualOrdered_uint32 : FuncId := 75
abbrev F_slices_partitionOrdered_uint32 : FuncId := 76
abbrev F_math_bits_Len64 : FuncId := 78
abbrev F_code_register : FuncId := 79
abbrev F_board_Board_At : FuncId := 80
abbrev F_mask_Mask_With : FuncId := 81
abbrev F_dice_Dice_Next : FuncId := 82
abbrev F_vm_machine_index : FuncId := 83
abbrev F_vm_machine_reveal : FuncId := 84
abbrev F_vm_machine_shuffle : FuncId := 85
abbrev F_slices_siftDownOrdered_uint32 : FuncId := 86
abbrev F_slices_nextPowerOfTwo : FuncId := 87
abbrev F_slices_xorshift_Next : FuncId := 88
abbrev F_slices_medianAdjacentOrdered_uint32 : FuncId := 89
abbrev F_slices_medianOrdered_uint32 : FuncId := 90
abbrev F_cmp_isNaN_uint32 : FuncId := 91
abbrev F_dice_mixed : FuncId := 92
abbrev F_mask_Mask_Less : FuncId := 93
abbrev F_board_Board_Show : FuncId := 94
abbrev F_dice_Dice_Shuffle : FuncId := 95
abbrev F_slices_order2Ordered_uint32 : FuncId := 96
abbrev F_mask_Mask_Join : FuncId := 97
abbrev F_slices_Clone_Lint32_int32 : FuncId := 98
def l_law16_TrailMoves_k0 : L :=
 o (.bin .lss (.tmp 6) (.tmp 5)) <|
 .ite (.tmp 7)
 (o (.iaddr 1 (.tmp 4) (.tmp 6)) <|
 o (.load false 1 (.tmp 8)) <|
 o (.bin .lss (.tmp 6) (.const (.int .i64 16))) <|
 .ite (.tmp 10)
 (o (.bin .add (.tmp 6) (.const (.int .i64 1))) <|
 o (.conv .u32 (.tmp 11)) <|
 o (.conv .u32 (.tmp 9)) <|
 o (.call F_trail_Trail_Add [.tmp 1, .tmp 12, .tmp 13]) <|
 o (.bin .eql (.tmp 14) (.const (.int .i64 0))) <|
 .ite (.tmp 15)
 (o (.bin .add (.tmp 6) (.const (.int .i64 1))) <|
 o (.conv .u32 (.tmp 16)) <|
 o (.bin .gtr (.tmp 17) (.tmp 3)) <|
 .ite (.tmp 18)
 (o (.bin .add (.tmp 6) (.const (.int .i64 1))) <|
 o (.conv .u32 (.tmp 19)) <|
 o (.bslice 22 1 [(0, 1, (.tmp 20))]) <|
 o (.append 1 4 (.tmp 2) (.tmp 21)) <|
 o (.bin .add (.tmp 6) (.const (.int .i64 1))) <|
 .goto 1 [.tmp 0, .tmp 1, .tmp 22, .tmp 3, .tmp 4, .tmp 5, .tmp 23])
 (o (.bin .add (.tmp 6) (.const (.int .i64 1))) <|
 .goto 1 [.tmp 0, .tmp 1, .tmp 2, .tmp 3, .tmp 4, .tmp 5, .tmp 19]))
 (o (.bin .add (.tmp 6) (.const (.int .i64 1))) <|
 .goto 1 [.tmp 0, .tmp 1, .tmp 2, .tmp 3, .tmp 4, .tmp 5, .tmp 16]))
 (o (.bin .add (.tmp 6) (.const (.int .i64 1))) <|
 .goto 1 [.tmp 0, .tmp 1, .tmp 2, .tmp 3, .tmp 4, .tmp 5, .tmp 11]))
 (.goto 0 [.tmp 0, .tmp 1, .tmp 2, .tmp 3])
def l_law16_TrailMoves_k1 : L :=
 o (.load true 99 (.tmp 0)) <|
 om .pure (.call F_rules_State_View [.tmp 4, (.const (.int .i64 0))]) <|
 o (.new 45) <|
 o (.store 99 (.tmp 6) (.tmp 5)) <|
 o (.faddr 98 (.tmp 6)) <|
 o (.store 1 (.tmp 8) (.tmp 3)) <|
 o (.load true 99 (.tmp 6)) <|
 o (.call F_trail_Trail_Confirm [.tmp 1, .tmp 10]) <|
 o (.bin .eql (.tmp 3) (.const (.int .u32 0))) <|
 .ite (.tmp 12)
 (o (.bin .eql (.tmp 11) (.const (.int .i64 10))) <|
 .ret [(.tmp 13)])
 (o (.bin .eql (.tmp 11) (.const (.int .i64 0))) <|
 .ite (.tmp 13)
 (o (.call F_trail_Trail_Pending [.tmp 1]) <|
 om .pure (.call F_slices_Equal_Luint32_uint32 [.tmp 14, .tmp 2]) <|
 .ite (.tmp 15)
 (o (.call F_trail_Trail_Room [.tmp 1]) <|
 o (.len false (.tmp 2)) <|
 o (.bin .sub (.const (.int .i64 16)) (.tmp 17)) <|
 o (.bin .eql (.tmp 16) (.tmp 18)) <|
 .ite (.tmp 19)
 (o (.call F_trail_Trail_Known [.tmp 1]) <|
 o (.field false 98 1 (.tmp 20)) <|
 o (.bin .eql (.tmp 21) (.tmp 3)) <|
 .ret [(.tmp 22)])
 (.ret [(.const (.bool false))]))
 (.ret [(.const (.bool false))]))
 (.ret [(.const (.bool false))]))
def l_law16_TrailMoves : LFn := ⟨4,
 o (.box 26 (.tmp 0)) <|
 om .pure (.call F_law16_awake []) <|
 o (.un .not (.tmp 5)) <|
 .ite (.tmp 6)
 (.ret [(.const (.bool false))])
 (o (.load true 6 (.tmp 4)) <|
 om .pure (.call F_law16_few [.tmp 7]) <|
 o (.store 6 (.tmp 4) (.tmp 8)) <|
 o (.load true 6 (.tmp 4)) <|
 om .pure (.call F_rules_Game_Right [.tmp 10]) <|
 o (.un .not (.tmp 11)) <|
 .ite (.tmp 12)
 (.ret [(.const (.bool true))])
 (o (.load true 6 (.tmp 4)) <|
 om .pure (.call F_rules_Game_Start [.tmp 13, .tmp 1, (.const (.slice none 0 0))]) <|
 o (.ext (.tmp 14) 0) <|
 o (.ext (.tmp 14) 1) <|
 o (.new 45) <|
 o (.store 99 (.tmp 17) (.tmp 15)) <|
 o (.load true 6 (.tmp 4)) <|
 o (.call F_trail_New [.tmp 19, (.const (.int .i64 0))]) <|
 o (.load true 99 (.tmp 17)) <|
 om .pure (.call F_rules_State_View [.tmp 21, (.const (.int .i64 0))]) <|
 o (.call F_trail_Trail_Reset [.tmp 20, .tmp 22]) <|
 o (.bin .rem (.tmp 3) (.const (.int .u8 18))) <|
 o (.conv .u32 (.tmp 24)) <|
 .join 0
 (o (.len false (.tmp 2)) <|
 .loop 1 [(.tmp 17), (.tmp 20), (.const (.slice none 0 0)), (.tmp 25), (.tmp 2), (.tmp 26), (.const (.int .i64 0))] l_law16_TrailMoves_k0)
 l_law16_TrailMoves_k1))⟩
def l_law16_awake : LFn := ⟨0,
 o (.build 26 [(0, 1, (.const (.int .i64 1))), (1, 1, (.const (.int .i64 1))), (2, 1, (.const (.int .u32 2)))]) <|
 o (.call F_trail_New [.tmp 0, (.const (.int .i64 0))]) <|
 o (.build 45 [(98, 1, (.const (.int .u32 5)))]) <|
 o (.call F_trail_Trail_Reset [.tmp 1, .tmp 2]) <|
 o (.call F_trail_Trail_Add [.tmp 1, (.const (.int .u32 7)), (.const (.int .u32 1))]) <|
 o (.bin .eql (.tmp 4) (.const (.int .i64 0))) <|
 .ite (.tmp 5)
 (o (.call F_trail_Trail_Shown [.tmp 1, (.const (.int .u32 7))]) <|
 o (.field false 98 1 (.tmp 6)) <|
 o (.bin .eql (.tmp 7) (.const (.int .u32 7))) <|
 .ite (.tmp 8)
 (o (.call F_trail_Trail_Last [.tmp 1]) <|
 o (.bin .eql (.tmp 9) (.const (.int .u32 7))) <|
 .ite (.tmp 10)
 (o (.call F_trail_Trail_Known [.tmp 1]) <|
 o (.field false 98 1 (.tmp 11)) <|
 o (.bin .eql (.tmp 12) (.const (.int .u32 5))) <|
 .ret [(.tmp 13)])
 (.ret [(.const (.bool false))]))
 (.ret [(.const (.bool false))]))
 (.ret [(.const (.bool false))])⟩
def l_law16_few : LFn := ⟨1,
 o (.box 26 (.tmp 0)) <|
 o (.new 26) <|
 o (.bslice 33 0 []) <|
 o (.faddr 4 (.tmp 1)) <|
 o (.load false 1 (.tmp 4)) <|
 o (.faddr 4 (.tmp 1)) <|
 o (.load false 1 (.tmp 6)) <|
 o (.len false (.tmp 7)) <|
 o (.minmax false [(.tmp 8), (.const (.int .i64 48))]) <|
 o (.slice 2 (.tmp 5) none (some (.tmp 9)) none) <|
 o (.append 2 8 (.tmp 3) (.tmp 10)) <|
 o (.faddr 4 (.tmp 1)) <|
 o (.store 1 (.tmp 12) (.tmp 11)) <|
 o (.bslice 80 0 []) <|
 o (.faddr 5 (.tmp 1)) <|
 o (.load false 1 (.tmp 15)) <|
 o (.faddr 5 (.tmp 1)) <|
 o (.load false 1 (.tmp 17)) <|
 o (.len false (.tmp 18)) <|
 o (.minmax false [(.tmp 19), (.const (.int .i64 96))]) <|
 o (.slice 6 (.tmp 16) none (some (.tmp 20)) none) <|
 o (.append 6 12 (.tmp 14) (.tmp 21)) <|
 o (.faddr 5 (.tmp 1)) <|
 o (.store 1 (.tmp 23) (.tmp 22)) <|
 o (.load true 6 (.tmp 1)) <|
 o (.store 6 (.tmp 2) (.tmp 25)) <|
 o (.load true 6 (.tmp 2)) <|
 .ret [(.tmp 27)]⟩
def l_trail_New : LFn := ⟨2,
 o (.box 26 (.tmp 0)) <|
 o (.faddr 4 (.tmp 2)) <|
 o (.load false 1 (.tmp 3)) <|
 o (.faddr 5 (.tmp 2)) <|
 o (.load false 1 (.tmp 5)) <|
 oc none (.call F_slices_Clone_Lboard_Cell_board_Cell [.tmp 4]) .pure [(none, .load false 1 (.tmp 5))] <|
 o (.faddr 4 (.tmp 2)) <|
 om .pure (.call F_slices_Clone_Lcode_Code_code_Code [.tmp 6]) <|
 o (.store 1 (.tmp 8) (.tmp 7)) <|
 o (.faddr 5 (.tmp 2)) <|
 o (.store 1 (.tmp 11) (.tmp 9)) <|
 o (.load true 6 (.tmp 2)) <|
 o (.newmap) <|
 o (.build 83 [(0, 6, (.tmp 13)), (6, 1, (.tmp 1)), (106, 1, (.tmp 14))]) <|
 o (.box 83 (.tmp 15)) <|
 .ret [(.tmp 16)]⟩
def l_board_New : LFn := ⟨1,
 o (.new 36) <|
 o (.new 36) <|
 o (.len false (.tmp 0)) <|
 o (.bin .gtr (.tmp 3) (.const (.int .i64 48))) <|
 .ite (.tmp 4)
 (o (.build 36 []) <|
 o (.store 97 (.tmp 1) (.tmp 5)) <|
 o (.load true 97 (.tmp 1)) <|
 .ret [(.tmp 7), (.const (.int .i64 6))])
 (o (.faddr 0 (.tmp 2)) <|
 o (.sliceArr 48 2 (.tmp 5) none none none) <|
 o (.copy 2 (.tmp 6) (.tmp 0)) <|
 o (.faddr 96 (.tmp 2)) <|
 o (.store 1 (.tmp 8) (.tmp 7)) <|
 o (.load true 97 (.tmp 2)) <|
 o (.store 97 (.tmp 1) (.tmp 10)) <|
 o (.load true 97 (.tmp 1)) <|
 .ret [(.tmp 12), (.const (.int .i64 0))])⟩
def l_trail_Trail_Reset : LFn := ⟨2,
 o (.box 45 (.tmp 1)) <|
 o (.eqNil true .ptr (.tmp 0)) <|
 .ite (.tmp 3)
 (o (.load true 99 (.tmp 2)) <|
 o (.nilck (.tmp 0)) <|
 o (.faddr 7 (.tmp 5)) <|
 o (.store 99 (.tmp 6) (.tmp 4)) <|
 o (.nilck (.tmp 0)) <|
 o (.faddr 107 (.tmp 8)) <|
 o (.store 1 (.tmp 9) (.const (.slice none 0 0))) <|
 o (.nilck (.tmp 0)) <|
 o (.faddr 106 (.tmp 11)) <|
 o (.load false 1 (.tmp 12)) <|
 o (.clearM (.tmp 13)) <|
 .ret [])
 (.ret [])⟩
def l_rules_Game_Legal : LFn := ⟨2,
 o (.box 26 (.tmp 0)) <|
 o (.faddr 2 (.tmp 2)) <|
 o (.load false 1 (.tmp 3)) <|
 o (.bin .lss (.tmp 1) (.tmp 4)) <|
 .ret [(.tmp 5)]⟩
def l_trail_Trail_Add : LFn := ⟨3,
 o (.eqNil false .ptr (.tmp 0)) <|
 .ite (.tmp 3)
 (.ret [(.const (.int .i64 3))])
 (o (.nilck (.tmp 0)) <|
 o (.faddr 0 (.tmp 4)) <|
 o (.load true 6 (.tmp 5)) <|
 om .pure (.call F_rules_Game_Legal [.tmp 6, .tmp 2]) <|
 o (.un .not (.tmp 7)) <|
 .ite (.tmp 8)
 (.ret [(.const (.int .i64 1))])
 (o (.nilck (.tmp 0)) <|
 o (.faddr 7 (.tmp 9)) <|
 o (.faddr 98 (.tmp 10)) <|
 o (.load false 1 (.tmp 11)) <|
 o (.bin .leq (.tmp 1) (.tmp 12)) <|
 .ite (.tmp 13)
 (.ret [(.const (.int .i64 11))])
 (o (.nilck (.tmp 0)) <|
 o (.faddr 7 (.tmp 14)) <|
 o (.faddr 98 (.tmp 15)) <|
 o (.load false 1 (.tmp 16)) <|
 o (.bin .sub (.tmp 1) (.tmp 17)) <|
 o (.bin .gtr (.tmp 18) (.const (.int .u32 16))) <|
 .ite (.tmp 19)
 (.ret [(.const (.int .i64 6))])
 (o (.nilck (.tmp 0)) <|
 o (.faddr 106 (.tmp 20)) <|
 o (.load false 1 (.tmp 21)) <|
 o (.lookup 22 (.int .u32) true (.tmp 22) (.tmp 1)) <|
 o (.ext (.tmp 23) 0) <|
 o (.ext (.tmp 23) 1) <|
 .ite (.tmp 25)
 (.ret [(.const (.int .i64 12))])
 (o (.nilck (.tmp 0)) <|
 o (.faddr 106 (.tmp 26)) <|
 o (.load false 1 (.tmp 27)) <|
 o (.mapset (.int .u32) (.tmp 28) (.tmp 1) (.tmp 2)) <|
 o (.nilck (.tmp 0)) <|
 o (.faddr 107 (.tmp 30)) <|
 o (.load false 1 (.tmp 31)) <|
 o (.nilck (.tmp 0)) <|
 o (.faddr 107 (.tmp 33)) <|
 o (.load false 1 (.tmp 34)) <|
 o (.len false (.tmp 35)) <|
 o (.nilck (.tmp 0)) <|
 o (.faddr 7 (.tmp 37)) <|
 o (.faddr 98 (.tmp 38)) <|
 o (.load false 1 (.tmp 39)) <|
 o (.bin .sub (.tmp 1) (.tmp 40)) <|
 o (.conv .i64 (.tmp 41)) <|
 o (.bin .sub (.tmp 42) (.const (.int .i64 1))) <|
 o (.minmax false [(.tmp 36), (.tmp 43)]) <|
 o (.slice 99 (.tmp 32) none (some (.tmp 44)) none) <|
 o (.nilck (.tmp 0)) <|
 o (.faddr 107 (.tmp 46)) <|
 o (.store 1 (.tmp 47) (.tmp 45)) <|
 .ret [(.const (.int .i64 0))])))))⟩
def l_trail_Trail_Room : LFn := ⟨1,
 o (.eqNil false .ptr (.tmp 0)) <|
 .ite (.tmp 1)
 (.ret [(.const (.int .i64 0))])
 (o (.nilck (.tmp 0)) <|
 o (.faddr 106 (.tmp 2)) <|
 o (.load false 1 (.tmp 3)) <|
 o (.lenM (.tmp 4)) <|
 o (.bin .sub (.const (.int .i64 16)) (.tmp 5)) <|
 .ret [(.tmp 6)])⟩
def l_trail_Trail_Pending : LFn := ⟨1,
 o (.eqNil false .ptr (.tmp 0)) <|
 .ite (.tmp 1)
 (.ret [(.const (.slice none 0 0))])
 (o (.nilck (.tmp 0)) <|
 o (.faddr 106 (.tmp 2)) <|
 o (.load false 1 (.tmp 3)) <|
 o (.call F_maps_Keys_map_uint32_uint32_uint32_uint32 [.tmp 4]) <|
 o (.call F_slices_Sorted_uint32 [.tmp 5]) <|
 .ret [(.tmp 6)])⟩
def l_trail_Trail_Last_k0 : L :=
 o (.bin .lss (.tmp 3) (.tmp 2)) <|
 .ite (.tmp 4)
 (o (.iaddr 1 (.tmp 1) (.tmp 3)) <|
 o (.load false 1 (.tmp 5)) <|
 o (.minmax true [(.tmp 0), (.tmp 6)]) <|
 o (.bin .add (.tmp 3) (.const (.int .i64 1))) <|
 .goto 1 [.tmp 7, .tmp 1, .tmp 2, .tmp 8])
 (.goto 0 [.tmp 0])
def l_trail_Trail_Last_k1 : L :=
 .ret [(.tmp 0)]
def l_trail_Trail_Last : LFn := ⟨1,
 o (.call F_trail_Trail_Known [.tmp 0]) <|
 o (.field false 98 1 (.tmp 1)) <|
 .join 0
 (o (.call F_trail_Trail_Pending [.tmp 0]) <|
 o (.len false (.tmp 3)) <|
 .loop 1 [(.tmp 2), (.tmp 3), (.tmp 4), (.const (.int .i64 0))] l_trail_Trail_Last_k0)
 l_trail_Trail_Last_k1⟩
def l_trail_Trail_Known : LFn := ⟨1,
 o (.new 45) <|
 o (.eqNil false .ptr (.tmp 0)) <|
 .ite (.tmp 2)
 (o (.build 45 []) <|
 o (.store 99 (.tmp 1) (.tmp 3)) <|
 o (.load true 99 (.tmp 1)) <|
 .ret [(.tmp 5)])
 (o (.nilck (.tmp 0)) <|
 o (.faddr 7 (.tmp 3)) <|
 o (.load true 99 (.tmp 4)) <|
 o (.store 99 (.tmp 1) (.tmp 5)) <|
 o (.load true 99 (.tmp 1)) <|
 .ret [(.tmp 7)])⟩
def l_trail_Trail_Shown_k0 : L :=
 o (.nilck (.tmp 0)) <|
 o (.faddr 107 (.tmp 5)) <|
 o (.load false 1 (.tmp 6)) <|
 o (.nilck (.tmp 0)) <|
 o (.faddr 0 (.tmp 8)) <|
 o (.load true 6 (.tmp 9)) <|
 o (.load true 99 (.tmp 3)) <|
 o (.nilck (.tmp 0)) <|
 o (.faddr 6 (.tmp 12)) <|
 o (.load false 1 (.tmp 13)) <|
 oc none (.call F_rules_Game_Predict [.tmp 10, .tmp 11, .tmp 14, .tmp 4]) .pure [(none, .load false 1 (.tmp 6))] <|
 o (.bslice 45 1 [(0, 99, (.tmp 15))]) <|
 o (.append 99 408 (.tmp 7) (.tmp 16)) <|
 o (.nilck (.tmp 0)) <|
 o (.faddr 107 (.tmp 18)) <|
 o (.store 1 (.tmp 19) (.tmp 17)) <|
 .goto 1 [.tmp 0, .tmp 1, .tmp 2]
def l_trail_Trail_Shown_k1 : L :=
 o (.nilck (.tmp 0)) <|
 o (.faddr 106 (.tmp 4)) <|
 o (.load false 1 (.tmp 5)) <|
 o (.faddr 98 (.tmp 3)) <|
 o (.load false 1 (.tmp 7)) <|
 o (.bin .add (.tmp 8) (.const (.int .u32 1))) <|
 o (.lookup 22 (.int .u32) true (.tmp 6) (.tmp 9)) <|
 o (.ext (.tmp 10) 0) <|
 o (.ext (.tmp 10) 1) <|
 .join 3
 (o (.un .not (.tmp 12)) <|
 .ite (.tmp 13)
 (o (.nilck (.tmp 0)) <|
 o (.faddr 0 (.tmp 14)) <|
 o (.faddr 3 (.tmp 15)) <|
 o (.load false 1 (.tmp 16)) <|
 .goto 3 [.tmp 0, .tmp 1, .tmp 2, .tmp 3, .tmp 17])
 (.goto 3 [.tmp 0, .tmp 1, .tmp 2, .tmp 3, .tmp 11]))
 l_trail_Trail_Shown_k0
def l_trail_Trail_Shown_k2 : L :=
 o (.nilck (.tmp 0)) <|
 o (.faddr 107 (.tmp 3)) <|
 o (.load false 1 (.tmp 4)) <|
 o (.len false (.tmp 5)) <|
 o (.bin .lss (.tmp 6) (.tmp 2)) <|
 .ite (.tmp 7)
 (o (.nilck (.tmp 0)) <|
 o (.faddr 7 (.tmp 8)) <|
 o (.load true 99 (.tmp 9)) <|
 o (.new 45) <|
 o (.store 99 (.tmp 11) (.tmp 10)) <|
 .join 2
 (o (.nilck (.tmp 0)) <|
 o (.faddr 107 (.tmp 13)) <|
 o (.load false 1 (.tmp 14)) <|
 o (.len false (.tmp 15)) <|
 o (.bin .gtr (.tmp 16) (.const (.int .i64 0))) <|
 .ite (.tmp 17)
 (o (.nilck (.tmp 0)) <|
 o (.faddr 107 (.tmp 18)) <|
 o (.load false 1 (.tmp 19)) <|
 o (.bin .sub (.tmp 16) (.const (.int .i64 1))) <|
 o (.iaddr 99 (.tmp 20) (.tmp 21)) <|
 o (.load true 99 (.tmp 22)) <|
 o (.store 99 (.tmp 11) (.tmp 23)) <|
 .goto 2 [.tmp 0, .tmp 1, .tmp 2, .tmp 11])
 (.goto 2 [.tmp 0, .tmp 1, .tmp 2, .tmp 11]))
 l_trail_Trail_Shown_k1)
 (.goto 0 [.tmp 0, .tmp 1, .tmp 2])
def l_trail_Trail_Shown_k3 : L :=
 o (.nilck (.tmp 0)) <|
 o (.faddr 107 (.tmp 3)) <|
 o (.load false 1 (.tmp 4)) <|
 o (.bin .sub (.tmp 2) (.const (.int .i64 1))) <|
 o (.iaddr 99 (.tmp 5) (.tmp 6)) <|
 o (.load true 99 (.tmp 7)) <|
 o (.store 99 (.tmp 1) (.tmp 8)) <|
 o (.load true 99 (.tmp 1)) <|
 .ret [(.tmp 10)]
def l_trail_Trail_Shown : LFn := ⟨2,
 o (.new 45) <|
 o (.eqNil false .ptr (.tmp 0)) <|
 .ite (.tmp 3)
 (o (.build 45 []) <|
 o (.store 99 (.tmp 2) (.tmp 4)) <|
 o (.load true 99 (.tmp 2)) <|
 .ret [(.tmp 6)])
 (o (.nilck (.tmp 0)) <|
 o (.faddr 7 (.tmp 4)) <|
 o (.faddr 98 (.tmp 5)) <|
 o (.load false 1 (.tmp 6)) <|
 o (.bin .leq (.tmp 1) (.tmp 7)) <|
 .ite (.tmp 8)
 (o (.nilck (.tmp 0)) <|
 o (.faddr 7 (.tmp 9)) <|
 o (.load true 99 (.tmp 10)) <|
 o (.store 99 (.tmp 2) (.tmp 11)) <|
 o (.load true 99 (.tmp 2)) <|
 .ret [(.tmp 13)])
 (o (.nilck (.tmp 0)) <|
 o (.faddr 7 (.tmp 9)) <|
 o (.faddr 98 (.tmp 10)) <|
 o (.load false 1 (.tmp 11)) <|
 o (.bin .sub (.tmp 1) (.tmp 12)) <|
 o (.minmax false [(.tmp 13), (.const (.int .u32 16))]) <|
 o (.conv .i64 (.tmp 14)) <|
 .join 0
 (.loop 1 [(.tmp 0), (.tmp 2), (.tmp 15)] l_trail_Trail_Shown_k2)
 l_trail_Trail_Shown_k3))⟩
def l_rules_Game_Right_k0 : L :=
 o (.bin .lss (.tmp 3) (.tmp 2)) <|
 .ite (.tmp 4)
 (o (.iaddr 2 (.tmp 1) (.tmp 3)) <|
 o (.load true 2 (.tmp 5)) <|
 o (.new 33) <|
 o (.store 2 (.tmp 7) (.tmp 6)) <|
 o (.faddr 1 (.tmp 7)) <|
 o (.load false 1 (.tmp 9)) <|
 o (.load true 6 (.tmp 0)) <|
 oc none (.call F_rules_Game_All [.tmp 11]) .pure [(none, .load false 1 (.tmp 9))] <|
 om .pure (.call F_mask_Mask_Within [.tmp 10, .tmp 12]) <|
 o (.un .not (.tmp 13)) <|
 .ite (.tmp 14)
 (.ret [(.const (.bool false))])
 (o (.bin .add (.tmp 3) (.const (.int .i64 1))) <|
 .goto 2 [.tmp 0, .tmp 1, .tmp 2, .tmp 15]))
 (.goto 1 [.tmp 0])
def l_rules_Game_Right_k1 : L :=
 o (.faddr 5 (.tmp 0)) <|
 o (.load false 1 (.tmp 1)) <|
 o (.faddr 4 (.tmp 0)) <|
 o (.load false 1 (.tmp 3)) <|
 o (.len false (.tmp 4)) <|
 o (.faddr 1 (.tmp 0)) <|
 o (.load false 1 (.tmp 6)) <|
 om .pure (.call F_code_Right [.tmp 2, .tmp 5, .tmp 7]) <|
 .ret [(.tmp 8)]
def l_rules_Game_Right_k2 : L :=
 .join 1
 (o (.faddr 4 (.tmp 0)) <|
 o (.load false 1 (.tmp 1)) <|
 o (.len false (.tmp 2)) <|
 .loop 2 [(.tmp 0), (.tmp 2), (.tmp 3), (.const (.int .i64 0))] l_rules_Game_Right_k0)
 l_rules_Game_Right_k1
def l_rules_Game_Right : LFn := ⟨1,
 o (.box 26 (.tmp 0)) <|
 .join 0
 (o (.faddr 0 (.tmp 1)) <|
 o (.load false 1 (.tmp 2)) <|
 o (.bin .lss (.tmp 3) (.const (.int .i64 1))) <|
 .ite (.tmp 4)
 (.ret [(.const (.bool false))])
 (o (.faddr 0 (.tmp 1)) <|
 o (.load false 1 (.tmp 5)) <|
 o (.bin .gtr (.tmp 6) (.const (.int .i64 32))) <|
 .ite (.tmp 7)
 (.ret [(.const (.bool false))])
 (o (.faddr 1 (.tmp 1)) <|
 o (.load false 1 (.tmp 8)) <|
 o (.bin .lss (.tmp 9) (.const (.int .i64 1))) <|
 .ite (.tmp 10)
 (.ret [(.const (.bool false))])
 (o (.faddr 1 (.tmp 1)) <|
 o (.load false 1 (.tmp 11)) <|
 o (.faddr 0 (.tmp 1)) <|
 o (.load false 1 (.tmp 13)) <|
 o (.minmax false [(.const (.int .i64 6)), (.tmp 14)]) <|
 o (.bin .gtr (.tmp 12) (.tmp 15)) <|
 .ite (.tmp 16)
 (.ret [(.const (.bool false))])
 (o (.faddr 3 (.tmp 1)) <|
 o (.load false 1 (.tmp 17)) <|
 o (.faddr 2 (.tmp 1)) <|
 o (.load false 1 (.tmp 19)) <|
 o (.bin .geq (.tmp 18) (.tmp 20)) <|
 .ite (.tmp 21)
 (.ret [(.const (.bool false))])
 (o (.faddr 4 (.tmp 1)) <|
 o (.load false 1 (.tmp 22)) <|
 o (.len false (.tmp 23)) <|
 o (.bin .gtr (.tmp 24) (.const (.int .i64 48))) <|
 .ite (.tmp 25)
 (.ret [(.const (.bool false))])
 (.goto 0 [.tmp 1])))))))
 l_rules_Game_Right_k2⟩
def l_rules_Game_Start_k0 : L :=
 o (.bin .lss (.tmp 6) (.tmp 5)) <|
 .ite (.tmp 7)
 (o (.iaddr 2 (.tmp 4) (.tmp 6)) <|
 o (.load true 2 (.tmp 8)) <|
 o (.new 33) <|
 o (.store 2 (.tmp 10) (.tmp 9)) <|
 o (.faddr 1 (.tmp 10)) <|
 o (.load false 1 (.tmp 12)) <|
 o (.bin .eql (.tmp 13) (.const (.int .u32 0))) <|
 .ite (.tmp 14)
 (o (.len false (.tmp 1)) <|
 o (.bin .gtr (.tmp 15) (.const (.int .i64 0))) <|
 .ite (.tmp 16)
 (o (.load true 97 (.tmp 3)) <|
 o (.iaddr 1 (.tmp 1) (.const (.int .i64 0))) <|
 o (.load false 1 (.tmp 18)) <|
 o (.build 33 [(0, 1, (.tmp 19))]) <|
 om .pure (.call F_board_Board_Put [.tmp 17, .tmp 6, .tmp 20]) <|
 o (.ext (.tmp 21) 0) <|
 o (.ext (.tmp 21) 1) <|
 o (.store 97 (.tmp 3) (.tmp 22)) <|
 o (.slice 1 (.tmp 1) (some (.const (.int .i64 1))) none none) <|
 o (.bin .add (.tmp 6) (.const (.int .i64 1))) <|
 .goto 1 [.tmp 0, .tmp 25, .tmp 2, .tmp 3, .tmp 4, .tmp 5, .tmp 26])
 (o (.bin .add (.tmp 6) (.const (.int .i64 1))) <|
 .goto 1 [.tmp 0, .tmp 1, .tmp 2, .tmp 3, .tmp 4, .tmp 5, .tmp 17]))
 (o (.bin .add (.tmp 6) (.const (.int .i64 1))) <|
 .goto 1 [.tmp 0, .tmp 1, .tmp 2, .tmp 3, .tmp 4, .tmp 5, .tmp 15]))
 (.goto 0 [.tmp 0, .tmp 2, .tmp 3])
def l_rules_Game_Start_k1 : L :=
 o (.load true 97 (.tmp 2)) <|
 o (.build 43 [(0, 1, (.tmp 0))]) <|
 o (.build 45 [(0, 97, (.tmp 3)), (97, 1, (.tmp 4))]) <|
 o (.store 99 (.tmp 1) (.tmp 5)) <|
 o (.load true 99 (.tmp 1)) <|
 .ret [(.tmp 7), (.const (.int .i64 0))]
def l_rules_Game_Start : LFn := ⟨3,
 o (.box 26 (.tmp 0)) <|
 o (.new 45) <|
 o (.load true 6 (.tmp 3)) <|
 om .pure (.call F_rules_Game_Right [.tmp 5]) <|
 o (.un .not (.tmp 6)) <|
 .ite (.tmp 7)
 (o (.build 45 []) <|
 o (.store 99 (.tmp 4) (.tmp 8)) <|
 o (.load true 99 (.tmp 4)) <|
 .ret [(.tmp 10), (.const (.int .i64 2))])
 (o (.faddr 4 (.tmp 3)) <|
 o (.load false 1 (.tmp 8)) <|
 om .pure (.call F_board_New [.tmp 9]) <|
 o (.ext (.tmp 10) 0) <|
 o (.ext (.tmp 10) 1) <|
 o (.new 36) <|
 o (.store 97 (.tmp 13) (.tmp 11)) <|
 .join 0
 (o (.faddr 4 (.tmp 3)) <|
 o (.load false 1 (.tmp 15)) <|
 o (.len false (.tmp 16)) <|
 .loop 1 [(.tmp 1), (.tmp 2), (.tmp 4), (.tmp 13), (.tmp 16), (.tmp 17), (.const (.int .i64 0))] l_rules_Game_Start_k0)
 l_rules_Game_Start_k1)⟩
def l_rules_State_View : LFn := ⟨2,
 o (.box 45 (.tmp 0)) <|
 o (.new 45) <|
 o (.faddr 0 (.tmp 2)) <|
 o (.load true 97 (.tmp 4)) <|
 o (.faddr 98 (.tmp 2)) <|
 o (.load false 1 (.tmp 6)) <|
 oc none (.call F_board_Board_View [.tmp 5, .tmp 1]) .pure [(none, .load false 1 (.tmp 6))] <|
 o (.build 45 [(0, 97, (.tmp 8)), (98, 1, (.tmp 7))]) <|
 o (.store 99 (.tmp 3) (.tmp 9)) <|
 o (.load true 99 (.tmp 3)) <|
 .ret [(.tmp 11)]⟩
def l_rules_Game_Predict_k0 : L :=
 o (.bin .lss (.tmp 7) (.tmp 6)) <|
 .ite (.tmp 8)
 (o (.faddr 3 (.tmp 2)) <|
 o (.load false 1 (.tmp 9)) <|
 o (.iaddr 1 (.tmp 5) (.tmp 7)) <|
 o (.store 1 (.tmp 11) (.tmp 10)) <|
 o (.bin .add (.tmp 7) (.const (.int .i64 1))) <|
 .goto 1 [.tmp 0, .tmp 1, .tmp 2, .tmp 3, .tmp 4, .tmp 5, .tmp 6, .tmp 13])
 (.goto 0 [.tmp 0, .tmp 1, .tmp 2, .tmp 3, .tmp 4, .tmp 5])
def l_rules_Game_Predict_k1 : L :=
 o (.load true 6 (.tmp 1)) <|
 o (.load true 99 (.tmp 2)) <|
 om .pure (.call F_rules_Game_Step [.tmp 5, .tmp 6, .tmp 4]) <|
 o (.ext (.tmp 7) 0) <|
 o (.ext (.tmp 7) 1) <|
 o (.new 45) <|
 o (.new 66) <|
 o (.store 99 (.tmp 10) (.tmp 8)) <|
 o (.store 3 (.tmp 11) (.tmp 9)) <|
 o (.load true 99 (.tmp 10)) <|
 om .pure (.call F_rules_State_View [.tmp 14, .tmp 0]) <|
 o (.store 99 (.tmp 3) (.tmp 15)) <|
 o (.load true 99 (.tmp 3)) <|
 .ret [(.tmp 17)]
def l_rules_Game_Predict_k2 : L :=
 .join 1
 (o (.bin .geq (.tmp 0) (.const (.int .i64 0))) <|
 .ite (.tmp 6)
 (o (.len false (.tmp 5)) <|
 o (.bin .lss (.tmp 0) (.tmp 7)) <|
 .ite (.tmp 8)
 (o (.iaddr 1 (.tmp 5) (.tmp 0)) <|
 o (.store 1 (.tmp 9) (.tmp 1)) <|
 .goto 1 [.tmp 0, .tmp 2, .tmp 3, .tmp 4, .tmp 5])
 (.goto 1 [.tmp 0, .tmp 2, .tmp 3, .tmp 4, .tmp 5]))
 (.goto 1 [.tmp 0, .tmp 2, .tmp 3, .tmp 4, .tmp 5]))
 l_rules_Game_Predict_k1
def l_rules_Game_Predict : LFn := ⟨4,
 o (.box 26 (.tmp 0)) <|
 o (.box 45 (.tmp 1)) <|
 o (.new 45) <|
 o (.faddr 1 (.tmp 4)) <|
 o (.load false 1 (.tmp 7)) <|
 o (.minmax true [(.tmp 8), (.const (.int .i64 0))]) <|
 o (.minmax false [(.tmp 9), (.const (.int .i64 6))]) <|
 o (.mkslice 22 4 (.tmp 10) (.tmp 10)) <|
 .join 0
 (o (.len false (.tmp 11)) <|
 .loop 1 [(.tmp 2), (.tmp 3), (.tmp 4), (.tmp 5), (.tmp 6), (.tmp 11), (.tmp 12), (.const (.int .i64 0))] l_rules_Game_Predict_k0)
 l_rules_Game_Predict_k2⟩
def l_trail_Trail_Confirm_k0 : L :=
 o (.load true 99 (.tmp 1)) <|
 o (.nilck (.tmp 0)) <|
 o (.faddr 7 (.tmp 3)) <|
 o (.store 99 (.tmp 4) (.tmp 2)) <|
 o (.nilck (.tmp 0)) <|
 o (.faddr 106 (.tmp 6)) <|
 o (.load false 1 (.tmp 7)) <|
 o (.fn (.func F_trail_Trail_Confirm_1) [] [(.tmp 1)]) <|
 o (.call F_maps_DeleteFunc_map_uint32_uint32_uint32_uint32 [.tmp 8, .tmp 9]) <|
 .ret [(.const (.int .i64 0))]
def l_trail_Trail_Confirm_k1 : L :=
 .join 1
 (.ite (.tmp 3)
 (o (.nilck (.tmp 0)) <|
 o (.faddr 107 (.tmp 4)) <|
 o (.load false 1 (.tmp 5)) <|
 o (.slice 99 (.tmp 6) (some (.tmp 2)) none none) <|
 o (.nilck (.tmp 0)) <|
 o (.faddr 107 (.tmp 8)) <|
 o (.store 1 (.tmp 9) (.tmp 7)) <|
 .goto 1 [.tmp 0, .tmp 1])
 (o (.nilck (.tmp 0)) <|
 o (.faddr 107 (.tmp 4)) <|
 o (.store 1 (.tmp 5) (.const (.slice none 0 0))) <|
 .goto 1 [.tmp 0, .tmp 1]))
 l_trail_Trail_Confirm_k0
def l_trail_Trail_Confirm : LFn := ⟨2,
 o (.box 45 (.tmp 1)) <|
 o (.eqNil false .ptr (.tmp 0)) <|
 .ite (.tmp 3)
 (.ret [(.const (.int .i64 3))])
 (o (.faddr 98 (.tmp 2)) <|
 o (.load false 1 (.tmp 4)) <|
 o (.nilck (.tmp 0)) <|
 o (.faddr 7 (.tmp 6)) <|
 o (.faddr 98 (.tmp 7)) <|
 o (.load false 1 (.tmp 8)) <|
 o (.bin .leq (.tmp 5) (.tmp 9)) <|
 .ite (.tmp 10)
 (.ret [(.const (.int .i64 10))])
 (o (.faddr 98 (.tmp 2)) <|
 o (.load false 1 (.tmp 11)) <|
 o (.nilck (.tmp 0)) <|
 o (.faddr 7 (.tmp 13)) <|
 o (.faddr 98 (.tmp 14)) <|
 o (.load false 1 (.tmp 15)) <|
 o (.bin .sub (.tmp 12) (.tmp 16)) <|
 o (.conv .u64 (.tmp 17)) <|
 .join 0
 (o (.bin .leq (.tmp 18) (.const (.int .u64 16))) <|
 .ite (.tmp 19)
 (o (.faddr 98 (.tmp 2)) <|
 o (.load false 1 (.tmp 20)) <|
 o (.load true 99 (.tmp 2)) <|
 oc none (.call F_trail_Trail_Shown [.tmp 0, .tmp 21]) .raw [(none, .load true 99 (.tmp 2))] <|
 o (.eqAgg false 45 (.tmp 23) (.tmp 22)) <|
 o (.un .not (.tmp 24)) <|
 .ite (.tmp 25)
 (o (.nilck (.tmp 0)) <|
 o (.faddr 108 (.tmp 26)) <|
 o (.load false 1 (.tmp 27)) <|
 o (.bin .add (.tmp 28) (.const (.int .i64 1))) <|
 o (.nilck (.tmp 0)) <|
 o (.faddr 108 (.tmp 30)) <|
 o (.store 1 (.tmp 31) (.tmp 29)) <|
 .goto 0 [.tmp 0, .tmp 2, .tmp 18, .tmp 24])
 (.goto 0 [.tmp 0, .tmp 2, .tmp 18, .tmp 24]))
 (.goto 0 [.tmp 0, .tmp 2, .tmp 18, (.const (.bool false))]))
 l_trail_Trail_Confirm_k1))⟩
def l_rules_Game_Step : LFn := ⟨3,
 o (.box 26 (.tmp 0)) <|
 o (.box 45 (.tmp 1)) <|
 o (.new 45) <|
 o (.new 66) <|
 o (.load true 6 (.tmp 3)) <|
 om .pure (.call F_rules_Game_Right [.tmp 7]) <|
 o (.un .not (.tmp 8)) <|
 .ite (.tmp 9)
 (o (.load true 99 (.tmp 4)) <|
 o (.build 66 [(2, 1, (.const (.int .i64 2)))]) <|
 o (.store 99 (.tmp 5) (.tmp 10)) <|
 o (.store 3 (.tmp 6) (.tmp 11)) <|
 o (.load true 99 (.tmp 5)) <|
 o (.load true 3 (.tmp 6)) <|
 .ret [(.tmp 14), (.tmp 15)])
 (o (.faddr 5 (.tmp 3)) <|
 o (.load false 1 (.tmp 10)) <|
 o (.faddr 0 (.tmp 4)) <|
 o (.load true 97 (.tmp 12)) <|
 o (.faddr 97 (.tmp 4)) <|
 o (.load true 1 (.tmp 14)) <|
 o (.load true 6 (.tmp 3)) <|
 o (.faddr 98 (.tmp 4)) <|
 o (.load false 1 (.tmp 17)) <|
 o (.bin .add (.tmp 18) (.const (.int .u32 1))) <|
 o (.load true 6 (.tmp 3)) <|
 o (.new 97) <|
 oc none (.call F_rules_Game_all [.tmp 16, .tmp 2]) .pure [(none, .load false 1 (.tmp 10)), (none, .load true 97 (.tmp 12)), (none, .load true 1 (.tmp 14)), (none, .load false 1 (.tmp 17)), (none, .load true 6 (.tmp 3))] <|
 oc none (.call F_rules_Game_All [.tmp 20]) .pure [(none, .load false 1 (.tmp 10)), (none, .load true 97 (.tmp 12)), (none, .load true 1 (.tmp 14)), (none, .load false 1 (.tmp 17))] <|
 om .pure (.call F_vm_Run [.tmp 11, .tmp 13, .tmp 15, .tmp 22, .tmp 19, .tmp 23]) <|
 o (.store 102 (.tmp 21) (.tmp 24)) <|
 o (.faddr 0 (.tmp 21)) <|
 o (.load true 97 (.tmp 26)) <|
 o (.faddr 97 (.tmp 21)) <|
 o (.load true 1 (.tmp 28)) <|
 o (.faddr 98 (.tmp 4)) <|
 o (.load false 1 (.tmp 30)) <|
 o (.bin .add (.tmp 31) (.const (.int .u32 1))) <|
 o (.build 45 [(0, 97, (.tmp 27)), (97, 1, (.tmp 29)), (98, 1, (.tmp 32))]) <|
 o (.faddr 98 (.tmp 21)) <|
 o (.load false 1 (.tmp 34)) <|
 o (.faddr 99 (.tmp 21)) <|
 o (.load false 1 (.tmp 36)) <|
 o (.faddr 101 (.tmp 21)) <|
 o (.load false 1 (.tmp 38)) <|
 o (.build 66 [(0, 1, (.tmp 35)), (1, 1, (.tmp 37)), (2, 1, (.tmp 39))]) <|
 oc none (.store 99 (.tmp 5) (.tmp 33)) .raw [(none, .load false 1 (.tmp 34)), (none, .load false 1 (.tmp 36)), (none, .load false 1 (.tmp 38))] <|
 o (.store 3 (.tmp 6) (.tmp 40)) <|
 o (.load true 99 (.tmp 5)) <|
 o (.load true 3 (.tmp 6)) <|
 .ret [(.tmp 43), (.tmp 44)])⟩
def l_mask_Mask_Has : LFn := ⟨2,
 om .pure (.call F_mask_one [.tmp 1]) <|
 o (.bin .and (.tmp 0) (.tmp 2)) <|
 o (.bin .neq (.tmp 3) (.const (.int .u32 0))) <|
 .ret [(.tmp 4)]⟩
def l_board_Board_Put : LFn := ⟨3,
 o (.box 36 (.tmp 0)) <|
 o (.box 33 (.tmp 2)) <|
 o (.new 36) <|
 o (.load true 97 (.tmp 3)) <|
 om .pure (.call F_board_Board_there [.tmp 6, .tmp 1]) <|
 o (.un .not (.tmp 7)) <|
 .ite (.tmp 8)
 (o (.load true 97 (.tmp 3)) <|
 o (.store 97 (.tmp 5) (.tmp 9)) <|
 o (.load true 97 (.tmp 5)) <|
 .ret [(.tmp 11), (.const (.int .i64 7))])
 (o (.load true 2 (.tmp 4)) <|
 o (.faddr 0 (.tmp 3)) <|
 o (.iaddrA 48 2 (.tmp 10) (.tmp 1)) <|
 o (.store 2 (.tmp 11) (.tmp 9)) <|
 o (.load true 97 (.tmp 3)) <|
 o (.store 97 (.tmp 5) (.tmp 13)) <|
 o (.load true 97 (.tmp 5)) <|
 .ret [(.tmp 15), (.const (.int .i64 0))])⟩
def l_slices_Equal_Luint32_uint32_k0 : L :=
 o (.bin .lss (.tmp 3) (.tmp 2)) <|
 .ite (.tmp 4)
 (o (.iaddr 1 (.tmp 0) (.tmp 3)) <|
 o (.load false 1 (.tmp 5)) <|
 o (.iaddr 1 (.tmp 1) (.tmp 3)) <|
 o (.load false 1 (.tmp 7)) <|
 o (.bin .neq (.tmp 6) (.tmp 8)) <|
 .ite (.tmp 9)
 (.ret [(.const (.bool false))])
 (o (.bin .add (.tmp 3) (.const (.int .i64 1))) <|
 .goto 1 [.tmp 0, .tmp 1, .tmp 2, .tmp 10]))
 (.goto 0 [])
def l_slices_Equal_Luint32_uint32_k1 : L :=
 .ret [(.const (.bool true))]
def l_slices_Equal_Luint32_uint32 : LFn := ⟨2,
 o (.len false (.tmp 0)) <|
 o (.len false (.tmp 1)) <|
 o (.bin .neq (.tmp 2) (.tmp 3)) <|
 .ite (.tmp 4)
 (.ret [(.const (.bool false))])
 (.join 0
 (o (.len false (.tmp 0)) <|
 .loop 1 [(.tmp 0), (.tmp 1), (.tmp 5), (.const (.int .i64 0))] l_slices_Equal_Luint32_uint32_k0)
 l_slices_Equal_Luint32_uint32_k1)⟩
def l_slices_Clone_Lboard_Cell_board_Cell : LFn := ⟨1,
 o (.eqNil false .slc (.tmp 0)) <|
 .ite (.tmp 1)
 (.ret [(.const (.slice none 0 0))])
 (o (.bslice 33 0 []) <|
 o (.append 2 8 (.tmp 2) (.tmp 0)) <|
 .ret [(.tmp 3)])⟩
def l_slices_Clone_Lcode_Code_code_Code : LFn := ⟨1,
 o (.eqNil false .slc (.tmp 0)) <|
 .ite (.tmp 1)
 (.ret [(.const (.slice none 0 0))])
 (o (.bslice 80 0 []) <|
 o (.append 6 12 (.tmp 2) (.tmp 0)) <|
 .ret [(.tmp 3)])⟩
def l_maps_Keys_map_uint32_uint32_uint32_uint32 : LFn := ⟨1,
 o (.box 81 (.tmp 0)) <|
 o (.fn (.func F_maps_Keys_map_uint32_uint32_uint32_uint32_1) [] [(.tmp 1)]) <|
 .ret [(.tmp 2)]⟩
def l_mask_Mask_Within : LFn := ⟨2,
 o (.bin .andNot (.tmp 0) (.tmp 1)) <|
 o (.bin .eql (.tmp 2) (.const (.int .u32 0))) <|
 .ret [(.tmp 3)]⟩
def l_rules_Game_All : LFn := ⟨1,
 o (.box 26 (.tmp 0)) <|
 o (.faddr 0 (.tmp 1)) <|
 o (.load false 1 (.tmp 2)) <|
 om .pure (.call F_mask_All [.tmp 3]) <|
 .ret [(.tmp 4)]⟩
def l_code_Right : LFn := ⟨3,
 om .pure (.call F_code_Check [.tmp 0, .tmp 1, .tmp 2]) <|
 o (.ext (.tmp 3) 0) <|
 o (.ext (.tmp 3) 1) <|
 .ret [(.tmp 5)]⟩
def l_board_Board_View_k0 : L :=
 o (.bin .lss (.tmp 4) (.tmp 3)) <|
 .ite (.tmp 5)
 (o (.faddr 0 (.tmp 1)) <|
 o (.iaddrA 48 2 (.tmp 6) (.tmp 4)) <|
 o (.faddr 1 (.tmp 7)) <|
 o (.load false 1 (.tmp 8)) <|
 om .pure (.call F_mask_Mask_Has [.tmp 9, .tmp 0]) <|
 o (.un .not (.tmp 10)) <|
 .ite (.tmp 11)
 (o (.faddr 0 (.tmp 1)) <|
 o (.iaddrA 48 2 (.tmp 12) (.tmp 4)) <|
 o (.faddr 0 (.tmp 13)) <|
 o (.store 1 (.tmp 14) (.const (.int .i32 0))) <|
 o (.bin .add (.tmp 4) (.const (.int .i64 1))) <|
 .goto 1 [.tmp 0, .tmp 1, .tmp 2, .tmp 3, .tmp 16])
 (o (.bin .add (.tmp 4) (.const (.int .i64 1))) <|
 .goto 1 [.tmp 0, .tmp 1, .tmp 2, .tmp 3, .tmp 12]))
 (.goto 0 [.tmp 1, .tmp 2])
def l_board_Board_View_k1 : L :=
 o (.load true 97 (.tmp 0)) <|
 o (.store 97 (.tmp 1) (.tmp 2)) <|
 o (.load true 97 (.tmp 1)) <|
 .ret [(.tmp 4)]
def l_board_Board_View : LFn := ⟨2,
 o (.box 36 (.tmp 0)) <|
 o (.new 36) <|
 .join 0
 (o (.faddr 96 (.tmp 2)) <|
 o (.load false 1 (.tmp 4)) <|
 .loop 1 [(.tmp 1), (.tmp 2), (.tmp 3), (.tmp 5), (.const (.int .i64 0))] l_board_Board_View_k0)
 l_board_Board_View_k1⟩
def l_trail_Trail_Confirm_1 : LFn := ⟨3,
 o (.faddr 98 (.tmp 2)) <|
 o (.load false 1 (.tmp 3)) <|
 o (.bin .leq (.tmp 0) (.tmp 4)) <|
 .ret [(.tmp 5)]⟩
def l_vm_Run_k0 : L :=
 o (.bin .lss (.tmp 6) (.const (.int .i64 8))) <|
 .ite (.tmp 7)
 (o (.nilck (.tmp 5)) <|
 o (.faddr 102 (.tmp 8)) <|
 o (.iaddrA 8 2 (.tmp 9) (.tmp 6)) <|
 o (.faddr 1 (.tmp 10)) <|
 o (.store 1 (.tmp 11) (.tmp 1)) <|
 o (.bin .add (.tmp 6) (.const (.int .i64 1))) <|
 .goto 1 [.tmp 0, .tmp 1, .tmp 2, .tmp 3, .tmp 4, .tmp 5, .tmp 13])
 (.goto 0 [.tmp 0, .tmp 2, .tmp 3, .tmp 4, .tmp 5])
def l_vm_Run_k1 : L :=
 o (.nilck (.tmp 4)) <|
 o (.faddr 0 (.tmp 5)) <|
 o (.faddr 100 (.tmp 6)) <|
 o (.load false 1 (.tmp 7)) <|
 o (.bin .eql (.tmp 8) (.const (.int .i64 400))) <|
 .ite (.tmp 9)
 (o (.call F_vm_machine_fail [.tmp 4, (.const (.int .i64 9))]) <|
 .goto 1 [.tmp 1, .tmp 2, .tmp 3, .tmp 4])
 (o (.nilck (.tmp 4)) <|
 o (.faddr 0 (.tmp 10)) <|
 o (.faddr 100 (.tmp 11)) <|
 o (.load false 1 (.tmp 12)) <|
 o (.bin .add (.tmp 13) (.const (.int .i64 1))) <|
 o (.nilck (.tmp 4)) <|
 o (.faddr 0 (.tmp 15)) <|
 o (.faddr 100 (.tmp 16)) <|
 o (.store 1 (.tmp 17) (.tmp 14)) <|
 o (.nilck (.tmp 4)) <|
 o (.faddr 118 (.tmp 19)) <|
 o (.load false 1 (.tmp 20)) <|
 o (.iaddr 6 (.tmp 0) (.tmp 21)) <|
 o (.faddr 0 (.tmp 22)) <|
 o (.load false 1 (.tmp 23)) <|
 o (.bin .eql (.tmp 24) (.const (.int .u8 0))) <|
 .ite (.tmp 25)
 (.goto 1 [.tmp 1, .tmp 2, .tmp 3, .tmp 4])
 (o (.nilck (.tmp 4)) <|
 o (.faddr 118 (.tmp 26)) <|
 o (.load false 1 (.tmp 27)) <|
 o (.iaddr 6 (.tmp 0) (.tmp 28)) <|
 o (.load true 6 (.tmp 29)) <|
 o (.call F_vm_machine_follow [.tmp 4, .tmp 30]) <|
 .goto 2 [.tmp 0, .tmp 1, .tmp 2, .tmp 3, .tmp 4]))
def l_vm_Run_k2 : L :=
 .join 3
 (o (.nilck (.tmp 4)) <|
 o (.faddr 0 (.tmp 5)) <|
 o (.faddr 101 (.tmp 6)) <|
 o (.load false 1 (.tmp 7)) <|
 o (.bin .eql (.tmp 8) (.const (.int .i64 0))) <|
 .ite (.tmp 9)
 (o (.nilck (.tmp 4)) <|
 o (.faddr 118 (.tmp 10)) <|
 o (.load false 1 (.tmp 11)) <|
 o (.len false (.tmp 0)) <|
 o (.bin .lss (.tmp 12) (.tmp 13)) <|
 .ite (.tmp 14)
 (.goto 3 [.tmp 0, .tmp 1, .tmp 2, .tmp 3, .tmp 4])
 (.goto 1 [.tmp 1, .tmp 2, .tmp 3, .tmp 4]))
 (.goto 1 [.tmp 1, .tmp 2, .tmp 3, .tmp 4]))
 l_vm_Run_k1
def l_vm_Run_k3 : L :=
 o (.nilck (.tmp 3)) <|
 o (.faddr 0 (.tmp 4)) <|
 o (.faddr 101 (.tmp 5)) <|
 o (.load false 1 (.tmp 6)) <|
 o (.bin .neq (.tmp 7) (.const (.int .i64 0))) <|
 .ite (.tmp 8)
 (o (.load true 97 (.tmp 0)) <|
 o (.load true 1 (.tmp 1)) <|
 o (.nilck (.tmp 3)) <|
 o (.faddr 0 (.tmp 11)) <|
 o (.faddr 99 (.tmp 12)) <|
 o (.load false 1 (.tmp 13)) <|
 o (.nilck (.tmp 3)) <|
 o (.faddr 0 (.tmp 15)) <|
 o (.faddr 100 (.tmp 16)) <|
 o (.load false 1 (.tmp 17)) <|
 o (.nilck (.tmp 3)) <|
 o (.faddr 0 (.tmp 19)) <|
 o (.faddr 101 (.tmp 20)) <|
 o (.load false 1 (.tmp 21)) <|
 o (.build 97 [(0, 97, (.tmp 9)), (97, 1, (.tmp 10)), (99, 1, (.tmp 14)), (100, 1, (.tmp 18)), (101, 1, (.tmp 22))]) <|
 o (.store 102 (.tmp 2) (.tmp 23)) <|
 o (.load true 102 (.tmp 2)) <|
 .ret [(.tmp 25)])
 (o (.nilck (.tmp 3)) <|
 o (.faddr 0 (.tmp 9)) <|
 o (.load true 102 (.tmp 10)) <|
 o (.store 102 (.tmp 2) (.tmp 11)) <|
 o (.load true 102 (.tmp 2)) <|
 .ret [(.tmp 13)])
def l_vm_Run_k4 : L :=
 .join 1
 (.loop 2 [(.tmp 0), (.tmp 1), (.tmp 2), (.tmp 3), (.tmp 4)] l_vm_Run_k2)
 l_vm_Run_k3
def l_vm_Run : LFn := ⟨6,
 o (.box 36 (.tmp 1)) <|
 o (.box 43 (.tmp 2)) <|
 o (.new 97) <|
 o (.load true 97 (.tmp 6)) <|
 om .pure (.call F_board_Board_Len [.tmp 9]) <|
 o (.len false (.tmp 3)) <|
 om .pure (.call F_code_Right [.tmp 0, .tmp 10, .tmp 11]) <|
 o (.un .not (.tmp 12)) <|
 .ite (.tmp 13)
 (o (.load true 97 (.tmp 6)) <|
 o (.load true 1 (.tmp 7)) <|
 o (.build 97 [(0, 97, (.tmp 14)), (97, 1, (.tmp 15)), (101, 1, (.const (.int .i64 2)))]) <|
 o (.store 102 (.tmp 8) (.tmp 16)) <|
 o (.load true 102 (.tmp 8)) <|
 .ret [(.tmp 18)])
 (o (.build 109 [(119, 1, (.tmp 3)), (120, 1, (.tmp 4)), (121, 1, (.tmp 5)), (122, 1, (.func 51))]) <|
 o (.box 109 (.tmp 14)) <|
 o (.load true 97 (.tmp 6)) <|
 o (.load true 1 (.tmp 7)) <|
 o (.nilck (.tmp 15)) <|
 o (.faddr 0 (.tmp 18)) <|
 o (.faddr 0 (.tmp 19)) <|
 oc none (.store 97 (.tmp 20) (.tmp 16)) .raw [(none, .load true 1 (.tmp 7))] <|
 o (.nilck (.tmp 15)) <|
 o (.faddr 0 (.tmp 22)) <|
 o (.faddr 97 (.tmp 23)) <|
 o (.store 1 (.tmp 24) (.tmp 17)) <|
 .join 0
 (.loop 1 [(.tmp 0), (.tmp 5), (.tmp 6), (.tmp 7), (.tmp 8), (.tmp 15), (.const (.int .i64 0))] l_vm_Run_k0)
 l_vm_Run_k4)⟩
def l_rules_Game_all_k0 : L :=
 o (.conv .i32 (.tmp 3)) <|
 o (.bslice 21 1 [(0, 1, (.tmp 6))]) <|
 o (.append 1 4 (.tmp 2) (.tmp 7)) <|
 o (.bin .add (.tmp 5) (.const (.int .i64 1))) <|
 .goto 1 [.tmp 0, .tmp 1, .tmp 8, .tmp 4, .tmp 9]
def l_rules_Game_all_k1 : L :=
 o (.bin .lss (.tmp 4) (.tmp 3)) <|
 .ite (.tmp 5)
 (o (.faddr 3 (.tmp 1)) <|
 o (.load false 1 (.tmp 6)) <|
 .join 2
 (o (.len false (.tmp 0)) <|
 o (.bin .lss (.tmp 4) (.tmp 8)) <|
 .ite (.tmp 9)
 (o (.load true 6 (.tmp 1)) <|
 o (.iaddr 1 (.tmp 0) (.tmp 4)) <|
 o (.load false 1 (.tmp 11)) <|
 om .pure (.call F_rules_Game_Legal [.tmp 10, .tmp 12]) <|
 .ite (.tmp 13)
 (o (.iaddr 1 (.tmp 0) (.tmp 4)) <|
 o (.load false 1 (.tmp 14)) <|
 .goto 2 [.tmp 0, .tmp 1, .tmp 2, .tmp 15, .tmp 3, .tmp 4])
 (.goto 2 [.tmp 0, .tmp 1, .tmp 2, .tmp 7, .tmp 3, .tmp 4]))
 (.goto 2 [.tmp 0, .tmp 1, .tmp 2, .tmp 7, .tmp 3, .tmp 4]))
 l_rules_Game_all_k0)
 (.goto 0 [.tmp 2])
def l_rules_Game_all_k2 : L :=
 .ret [(.tmp 0)]
def l_rules_Game_all : LFn := ⟨2,
 o (.box 26 (.tmp 0)) <|
 .join 0
 (o (.faddr 1 (.tmp 2)) <|
 o (.load false 1 (.tmp 3)) <|
 .loop 1 [(.tmp 1), (.tmp 2), (.const (.slice none 0 0)), (.tmp 4), (.const (.int .i64 0))] l_rules_Game_all_k1)
 l_rules_Game_all_k2⟩
def l_mask_one : LFn := ⟨1,
 o (.bin .lss (.tmp 0) (.const (.int .i64 0))) <|
 .ite (.tmp 1)
 (.ret [(.const (.int .u32 0))])
 (o (.bin .geq (.tmp 0) (.const (.int .i64 32))) <|
 .ite (.tmp 2)
 (.ret [(.const (.int .u32 0))])
 (o (.bin .shl (.const (.int .u32 1)) (.tmp 0)) <|
 .ret [(.tmp 3)]))⟩
def l_board_Board_there : LFn := ⟨2,
 o (.box 36 (.tmp 0)) <|
 o (.bin .geq (.tmp 1) (.const (.int .i64 0))) <|
 .ite (.tmp 3)
 (o (.faddr 96 (.tmp 2)) <|
 o (.load false 1 (.tmp 4)) <|
 o (.bin .lss (.tmp 1) (.tmp 5)) <|
 .ret [(.tmp 6)])
 (.ret [(.const (.bool false))])⟩
def l_slices_Sort_Luint32_uint32 : LFn := ⟨1,
 o (.len false (.tmp 0)) <|
 o (.conv .u64 (.tmp 1)) <|
 om .pure (.call F_math_bits_Len [.tmp 2]) <|
 o (.call F_slices_pdqsortOrdered_uint32 [.tmp 0, (.const (.int .i64 0)), .tmp 1, .tmp 3]) <|
 .ret []⟩
def l_mask_All : LFn := ⟨1,
 o (.minmax true [(.tmp 0), (.const (.int .i64 0))]) <|
 o (.minmax false [(.tmp 1), (.const (.int .i64 32))]) <|
 o (.bin .shl (.const (.int .u64 1)) (.tmp 2)) <|
 o (.bin .sub (.tmp 3) (.const (.int .u64 1))) <|
 o (.conv .u32 (.tmp 4)) <|
 .ret [(.tmp 5)]⟩
def l_code_Check_k0 : L :=
 o (.bin .lss (.tmp 6) (.tmp 5)) <|
 .ite (.tmp 7)
 (o (.iaddr 6 (.tmp 4) (.tmp 6)) <|
 o (.load true 6 (.tmp 8)) <|
 o (.new 80) <|
 o (.store 6 (.tmp 10) (.tmp 9)) <|
 o (.load true 6 (.tmp 10)) <|
 o (.load true 130 (.tmp 3)) <|
 o (.len false (.tmp 0)) <|
 om .pure (.call F_code_right [.tmp 12, .tmp 13, .tmp 14, .tmp 1, .tmp 2]) <|
 o (.un .not (.tmp 15)) <|
 .ite (.tmp 16)
 (.ret [(.tmp 6), (.const (.bool false))])
 (o (.bin .add (.tmp 6) (.const (.int .i64 1))) <|
 .goto 1 [.tmp 0, .tmp 1, .tmp 2, .tmp 3, .tmp 4, .tmp 5, .tmp 17]))
 (.goto 0 [])
def l_code_Check_k1 : L :=
 .ret [(.const (.int .i64 0)), (.const (.bool true))]
def l_code_Check : LFn := ⟨3,
 o (.len false (.tmp 0)) <|
 o (.bin .gtr (.tmp 3) (.const (.int .i64 96))) <|
 .ite (.tmp 4)
 (.ret [(.const (.int .i64 96)), (.const (.bool false))])
 (om .pure (.call F_code_uses []) <|
 o (.new 118) <|
 o (.store 130 (.tmp 6) (.tmp 5)) <|
 .join 0
 (o (.len false (.tmp 0)) <|
 .loop 1 [(.tmp 0), (.tmp 1), (.tmp 2), (.tmp 6), (.tmp 0), (.tmp 8), (.const (.int .i64 0))] l_code_Check_k0)
 l_code_Check_k1)⟩
def l_board_Board_Len : LFn := ⟨1,
 o (.box 36 (.tmp 0)) <|
 o (.faddr 96 (.tmp 1)) <|
 o (.load false 1 (.tmp 2)) <|
 .ret [(.tmp 3)]⟩
def l_vm_Compute_k0 : L :=
 .ite (.tmp 4)
 (o (.bin .eql (.tmp 0) (.const (.int .u8 10))) <|
 om .pure (.call F_vm_divided [.tmp 1, .tmp 2, .tmp 5]) <|
 .ret [(.tmp 6)])
 (o (.bin .eql (.tmp 3) (.const (.int .u8 11))) <|
 .ite (.tmp 5)
 (o (.bin .and (.tmp 1) (.tmp 2)) <|
 .ret [(.tmp 6)])
 (o (.bin .eql (.tmp 3) (.const (.int .u8 12))) <|
 .ite (.tmp 6)
 (o (.bin .or (.tmp 1) (.tmp 2)) <|
 .ret [(.tmp 7)])
 (o (.bin .eql (.tmp 3) (.const (.int .u8 13))) <|
 .ite (.tmp 7)
 (o (.bin .xor (.tmp 1) (.tmp 2)) <|
 .ret [(.tmp 8)])
 (o (.bin .eql (.tmp 3) (.const (.int .u8 14))) <|
 .ite (.tmp 8)
 (o (.conv .u32 (.tmp 2)) <|
 o (.bin .and (.tmp 9) (.const (.int .u32 31))) <|
 o (.bin .shl (.tmp 1) (.tmp 10)) <|
 .ret [(.tmp 11)])
 (o (.bin .eql (.tmp 3) (.const (.int .u8 15))) <|
 .ite (.tmp 9)
 (o (.conv .u32 (.tmp 2)) <|
 o (.bin .and (.tmp 10) (.const (.int .u32 31))) <|
 o (.bin .shr (.tmp 1) (.tmp 11)) <|
 .ret [(.tmp 12)])
 (o (.bin .eql (.tmp 3) (.const (.int .u8 16))) <|
 .ite (.tmp 10)
 (o (.bin .lss (.tmp 1) (.tmp 2)) <|
 om .pure (.call F_vm_one [.tmp 11]) <|
 .ret [(.tmp 12)])
 (o (.bin .eql (.tmp 3) (.const (.int .u8 17))) <|
 .ite (.tmp 11)
 (o (.bin .eql (.tmp 1) (.tmp 2)) <|
 om .pure (.call F_vm_one [.tmp 12]) <|
 .ret [(.tmp 13)])
 (.ret [(.const (.int .i32 0))]))))))))
def l_vm_Compute : LFn := ⟨3,
 o (.bin .eql (.tmp 0) (.const (.int .u8 6))) <|
 .ite (.tmp 3)
 (o (.bin .add (.tmp 1) (.tmp 2)) <|
 .ret [(.tmp 4)])
 (o (.bin .eql (.tmp 0) (.const (.int .u8 7))) <|
 .ite (.tmp 4)
 (o (.bin .sub (.tmp 1) (.tmp 2)) <|
 .ret [(.tmp 5)])
 (o (.bin .eql (.tmp 0) (.const (.int .u8 8))) <|
 .ite (.tmp 5)
 (o (.bin .mul (.tmp 1) (.tmp 2)) <|
 .ret [(.tmp 6)])
 (.join 0
 (o (.bin .eql (.tmp 0) (.const (.int .u8 9))) <|
 .ite (.tmp 6)
 (.goto 0 [.tmp 0, .tmp 1, .tmp 2, .tmp 0, .tmp 6])
 (o (.bin .eql (.tmp 0) (.const (.int .u8 10))) <|
 .goto 0 [.tmp 0, .tmp 1, .tmp 2, .tmp 0, .tmp 7]))
 l_vm_Compute_k0)))⟩
def l_vm_machine_fail : LFn := ⟨2,
 o (.nilck (.tmp 0)) <|
 o (.faddr 0 (.tmp 2)) <|
 o (.faddr 101 (.tmp 3)) <|
 o (.load false 1 (.tmp 4)) <|
 o (.bin .eql (.tmp 5) (.const (.int .i64 0))) <|
 .ite (.tmp 6)
 (o (.nilck (.tmp 0)) <|
 o (.faddr 0 (.tmp 7)) <|
 o (.faddr 101 (.tmp 8)) <|
 o (.store 1 (.tmp 9) (.tmp 1)) <|
 .ret [])
 (.ret [])⟩
def l_vm_machine_follow_k0 : L :=
 o (.faddr 1 (.tmp 1)) <|
 o (.load false 1 (.tmp 5)) <|
 o (.faddr 0 (.tmp 3)) <|
 o (.load false 1 (.tmp 7)) <|
 o (.faddr 1 (.tmp 2)) <|
 o (.load false 1 (.tmp 9)) <|
 o (.faddr 1 (.tmp 3)) <|
 o (.load false 1 (.tmp 11)) <|
 o (.faddr 1 (.tmp 4)) <|
 o (.load false 1 (.tmp 13)) <|
 o (.bslice 31 2 [(0, 1, (.tmp 12)), (1, 1, (.tmp 14))]) <|
 o (.nilck (.tmp 0)) <|
 o (.faddr 102 (.tmp 16)) <|
 oc none (.call F_mask_Mask_Meet [.tmp 10, .tmp 15]) .pure [(none, .load false 1 (.tmp 5)), (none, .load false 1 (.tmp 7))] <|
 o (.build 106 [(0, 1, (.tmp 8)), (1, 1, (.tmp 18))]) <|
 o (.iaddrA 8 2 (.tmp 17) (.tmp 6)) <|
 o (.store 2 (.tmp 20) (.tmp 19)) <|
 .ret []
def l_vm_machine_follow_k1 : L :=
 .ite (.tmp 4)
 (o (.load true 6 (.tmp 1)) <|
 o (.call F_vm_machine_reach [.tmp 0, .tmp 5]) <|
 .ret [])
 (o (.faddr 1 (.tmp 1)) <|
 o (.load false 1 (.tmp 5)) <|
 o (.nilck (.tmp 0)) <|
 o (.faddr 122 (.tmp 7)) <|
 o (.load false 1 (.tmp 8)) <|
 o (.faddr 0 (.tmp 1)) <|
 o (.load false 1 (.tmp 10)) <|
 o (.faddr 0 (.tmp 2)) <|
 o (.load false 1 (.tmp 12)) <|
 o (.faddr 0 (.tmp 3)) <|
 o (.load false 1 (.tmp 14)) <|
 o (.faddr 1 (.tmp 2)) <|
 o (.load false 1 (.tmp 16)) <|
 o (.faddr 1 (.tmp 3)) <|
 o (.load false 1 (.tmp 18)) <|
 o (.bslice 31 1 [(0, 1, (.tmp 19))]) <|
 o (.nilck (.tmp 0)) <|
 o (.faddr 102 (.tmp 21)) <|
 oc none (.callv (.tmp 9) [(.tmp 11), (.tmp 13), (.tmp 15)]) .raw [(none, .load false 1 (.tmp 5)), (none, .load false 1 (.tmp 16)), (none, .load false 1 (.tmp 18))] <|
 oc none (.call F_mask_Mask_Meet [.tmp 17, .tmp 20]) .pure [(none, .load false 1 (.tmp 5))] <|
 o (.build 106 [(0, 1, (.tmp 23)), (1, 1, (.tmp 24))]) <|
 o (.iaddrA 8 2 (.tmp 22) (.tmp 6)) <|
 o (.store 2 (.tmp 26) (.tmp 25)) <|
 .ret [])
def l_vm_machine_follow : LFn := ⟨2,
 o (.box 80 (.tmp 1)) <|
 o (.nilck (.tmp 0)) <|
 o (.faddr 118 (.tmp 3)) <|
 o (.load false 1 (.tmp 4)) <|
 o (.bin .add (.tmp 5) (.const (.int .i64 1))) <|
 o (.nilck (.tmp 0)) <|
 o (.faddr 118 (.tmp 7)) <|
 o (.store 1 (.tmp 8) (.tmp 6)) <|
 o (.faddr 1 (.tmp 2)) <|
 o (.load false 1 (.tmp 10)) <|
 o (.nilck (.tmp 0)) <|
 o (.faddr 102 (.tmp 12)) <|
 o (.iaddrA 8 2 (.tmp 13) (.tmp 11)) <|
 o (.load true 2 (.tmp 14)) <|
 o (.faddr 2 (.tmp 2)) <|
 o (.load false 1 (.tmp 16)) <|
 o (.nilck (.tmp 0)) <|
 o (.faddr 102 (.tmp 18)) <|
 o (.iaddrA 8 2 (.tmp 19) (.tmp 17)) <|
 o (.load true 2 (.tmp 20)) <|
 o (.faddr 3 (.tmp 2)) <|
 o (.load false 1 (.tmp 22)) <|
 o (.bin .rem (.tmp 23) (.const (.int .u8 8))) <|
 o (.nilck (.tmp 0)) <|
 o (.faddr 102 (.tmp 25)) <|
 o (.iaddrA 8 2 (.tmp 26) (.tmp 24)) <|
 o (.load true 2 (.tmp 27)) <|
 o (.new 106) <|
 o (.new 106) <|
 o (.new 106) <|
 oc none (.store 2 (.tmp 29) (.tmp 15)) .raw [(none, .load false 1 (.tmp 16)), (none, .load true 2 (.tmp 20)), (none, .load false 1 (.tmp 22)), (none, .load true 2 (.tmp 27))] <|
 oc none (.store 2 (.tmp 30) (.tmp 21)) .raw [(none, .load false 1 (.tmp 22)), (none, .load true 2 (.tmp 27))] <|
 o (.store 2 (.tmp 31) (.tmp 28)) <|
 o (.faddr 0 (.tmp 2)) <|
 o (.load false 1 (.tmp 35)) <|
 o (.bin .eql (.tmp 36) (.const (.int .u8 1))) <|
 .ite (.tmp 37)
 (o (.faddr 1 (.tmp 2)) <|
 o (.load false 1 (.tmp 38)) <|
 o (.faddr 4 (.tmp 2)) <|
 o (.load false 1 (.tmp 40)) <|
 o (.nilck (.tmp 0)) <|
 o (.faddr 121 (.tmp 42)) <|
 o (.load false 1 (.tmp 43)) <|
 o (.build 106 [(0, 1, (.tmp 41)), (1, 1, (.tmp 44))]) <|
 o (.nilck (.tmp 0)) <|
 o (.faddr 102 (.tmp 46)) <|
 o (.iaddrA 8 2 (.tmp 47) (.tmp 39)) <|
 o (.store 2 (.tmp 48) (.tmp 45)) <|
 .ret [])
 (o (.bin .eql (.tmp 36) (.const (.int .u8 25))) <|
 .ite (.tmp 38)
 (o (.faddr 1 (.tmp 2)) <|
 o (.load false 1 (.tmp 39)) <|
 o (.nilck (.tmp 0)) <|
 o (.faddr 120 (.tmp 41)) <|
 o (.load false 1 (.tmp 42)) <|
 o (.conv .i32 (.tmp 43)) <|
 o (.nilck (.tmp 0)) <|
 o (.faddr 121 (.tmp 45)) <|
 o (.load false 1 (.tmp 46)) <|
 o (.build 106 [(0, 1, (.tmp 44)), (1, 1, (.tmp 47))]) <|
 o (.nilck (.tmp 0)) <|
 o (.faddr 102 (.tmp 49)) <|
 o (.iaddrA 8 2 (.tmp 50) (.tmp 40)) <|
 o (.store 2 (.tmp 51) (.tmp 48)) <|
 .ret [])
 (o (.bin .eql (.tmp 36) (.const (.int .u8 2))) <|
 .ite (.tmp 39)
 (o (.faddr 1 (.tmp 2)) <|
 o (.load false 1 (.tmp 40)) <|
 o (.faddr 4 (.tmp 2)) <|
 o (.load false 1 (.tmp 42)) <|
 o (.conv .i64 (.tmp 43)) <|
 o (.call F_vm_machine_load [.tmp 0, .tmp 41, .tmp 44]) <|
 .ret [])
 (o (.bin .eql (.tmp 36) (.const (.int .u8 3))) <|
 .ite (.tmp 40)
 (o (.faddr 4 (.tmp 2)) <|
 o (.load false 1 (.tmp 41)) <|
 o (.conv .i64 (.tmp 42)) <|
 o (.load true 2 (.tmp 29)) <|
 o (.call F_vm_machine_store [.tmp 0, .tmp 43, .tmp 44]) <|
 .ret [])
 (o (.bin .eql (.tmp 36) (.const (.int .u8 18))) <|
 .ite (.tmp 41)
 (.join 0
 (o (.faddr 0 (.tmp 29)) <|
 o (.load false 1 (.tmp 42)) <|
 o (.bin .eql (.tmp 43) (.const (.int .i32 0))) <|
 .ite (.tmp 44)
 (o (.faddr 0 (.tmp 31)) <|
 o (.load false 1 (.tmp 45)) <|
 o (.faddr 0 (.tmp 30)) <|
 o (.store 1 (.tmp 47) (.tmp 46)) <|
 .goto 0 [.tmp 0, .tmp 2, .tmp 29, .tmp 30, .tmp 31])
 (.goto 0 [.tmp 0, .tmp 2, .tmp 29, .tmp 30, .tmp 31]))
 l_vm_machine_follow_k0)
 (o (.bin .eql (.tmp 36) (.const (.int .u8 19))) <|
 .ite (.tmp 42)
 (o (.faddr 1 (.tmp 2)) <|
 o (.load false 1 (.tmp 43)) <|
 o (.call F_vm_machine_open [.tmp 0, .tmp 44]) <|
 o (.un .not (.tmp 45)) <|
 .ite (.tmp 46)
 (o (.call F_vm_machine_fail [.tmp 0, (.const (.int .i64 8))]) <|
 .ret [])
 (o (.faddr 0 (.tmp 29)) <|
 o (.load false 1 (.tmp 47)) <|
 o (.bin .eql (.tmp 48) (.const (.int .i32 0))) <|
 .ite (.tmp 49)
 (o (.faddr 4 (.tmp 2)) <|
 o (.load false 1 (.tmp 50)) <|
 o (.conv .i64 (.tmp 51)) <|
 o (.nilck (.tmp 0)) <|
 o (.faddr 118 (.tmp 53)) <|
 o (.store 1 (.tmp 54) (.tmp 52)) <|
 .ret [])
 (.ret [])))
 (o (.bin .eql (.tmp 36) (.const (.int .u8 20))) <|
 .ite (.tmp 43)
 (o (.faddr 4 (.tmp 2)) <|
 o (.load false 1 (.tmp 44)) <|
 o (.conv .i64 (.tmp 45)) <|
 o (.nilck (.tmp 0)) <|
 o (.faddr 118 (.tmp 47)) <|
 o (.store 1 (.tmp 48) (.tmp 46)) <|
 .ret [])
 (o (.bin .eql (.tmp 36) (.const (.int .u8 21))) <|
 .ite (.tmp 44)
 (o (.faddr 1 (.tmp 2)) <|
 o (.load false 1 (.tmp 45)) <|
 o (.nilck (.tmp 0)) <|
 o (.faddr 119 (.tmp 47)) <|
 o (.load false 1 (.tmp 48)) <|
 o (.faddr 4 (.tmp 2)) <|
 o (.load false 1 (.tmp 50)) <|
 o (.iaddr 1 (.tmp 49) (.tmp 51)) <|
 o (.load false 1 (.tmp 52)) <|
 o (.faddr 4 (.tmp 2)) <|
 o (.load false 1 (.tmp 54)) <|
 o (.conv .i64 (.tmp 55)) <|
 o (.bslice 3 1 [(0, 1, (.tmp 56))]) <|
 o (.nilck (.tmp 0)) <|
 o (.faddr 102 (.tmp 58)) <|
 oc none (.call F_mask_Of [.tmp 57]) .pure [(none, .load false 1 (.tmp 45)), (none, .load false 1 (.tmp 48)), (none, .load false 1 (.tmp 50)), (none, .load false 1 (.tmp 52))] <|
 o (.build 106 [(0, 1, (.tmp 53)), (1, 1, (.tmp 60))]) <|
 o (.iaddrA 8 2 (.tmp 59) (.tmp 46)) <|
 o (.store 2 (.tmp 62) (.tmp 61)) <|
 .ret [])
 (o (.bin .eql (.tmp 36) (.const (.int .u8 23))) <|
 .ite (.tmp 45)
 (o (.nilck (.tmp 0)) <|
 o (.faddr 0 (.tmp 46)) <|
 o (.faddr 97 (.tmp 47)) <|
 o (.load true 1 (.tmp 48)) <|
 o (.faddr 4 (.tmp 2)) <|
 o (.load false 1 (.tmp 50)) <|
 o (.conv .u32 (.tmp 51)) <|
 om .pure (.call F_dice_Dice_Below [.tmp 49, .tmp 52]) <|
 o (.ext (.tmp 53) 0) <|
 o (.ext (.tmp 53) 1) <|
 o (.nilck (.tmp 0)) <|
 o (.faddr 0 (.tmp 56)) <|
 o (.faddr 97 (.tmp 57)) <|
 o (.store 1 (.tmp 58) (.tmp 55)) <|
 o (.faddr 1 (.tmp 2)) <|
 o (.load false 1 (.tmp 60)) <|
 o (.conv .i32 (.tmp 54)) <|
 o (.build 106 [(0, 1, (.tmp 62))]) <|
 o (.nilck (.tmp 0)) <|
 o (.faddr 102 (.tmp 64)) <|
 o (.iaddrA 8 2 (.tmp 65) (.tmp 61)) <|
 o (.store 2 (.tmp 66) (.tmp 63)) <|
 .ret [])
 (.join 0
 (o (.bin .eql (.tmp 36) (.const (.int .u8 4))) <|
 .ite (.tmp 46)
 (.goto 0 [.tmp 0, .tmp 2, .tmp 30, .tmp 31, .tmp 46])
 (o (.bin .eql (.tmp 36) (.const (.int .u8 5))) <|
 .ite (.tmp 47)
 (.goto 0 [.tmp 0, .tmp 2, .tmp 30, .tmp 31, .tmp 47])
 (o (.bin .eql (.tmp 36) (.const (.int .u8 22))) <|
 .ite (.tmp 48)
 (.goto 0 [.tmp 0, .tmp 2, .tmp 30, .tmp 31, .tmp 48])
 (o (.bin .eql (.tmp 36) (.const (.int .u8 24))) <|
 .goto 0 [.tmp 0, .tmp 2, .tmp 30, .tmp 31, .tmp 49]))))
 l_vm_machine_follow_k1)))))))))⟩
def l_slices_pdqsortOrdered_uint32_k0 : L :=
 o (.call F_slices_partitionOrdered_uint32 [.tmp 0, .tmp 1, .tmp 2, .tmp 5]) <|
 o (.ext (.tmp 6) 0) <|
 o (.ext (.tmp 6) 1) <|
 o (.bin .sub (.tmp 7) (.tmp 1)) <|
 o (.bin .sub (.tmp 2) (.tmp 7)) <|
 o (.bin .quo (.tmp 4) (.const (.int .i64 8))) <|
 o (.bin .lss (.tmp 9) (.tmp 10)) <|
 .ite (.tmp 12)
 (o (.bin .geq (.tmp 9) (.tmp 11)) <|
 o (.call F_slices_pdqsortOrdered_uint32 [.tmp 0, .tmp 1, .tmp 7, .tmp 3]) <|
 o (.bin .add (.tmp 7) (.const (.int .i64 1))) <|
 .goto 0 [.tmp 0, .tmp 15, .tmp 2, .tmp 3, .tmp 13, .tmp 8])
 (o (.bin .geq (.tmp 10) (.tmp 11)) <|
 o (.bin .add (.tmp 7) (.const (.int .i64 1))) <|
 o (.call F_slices_pdqsortOrdered_uint32 [.tmp 0, .tmp 14, .tmp 2, .tmp 3]) <|
 .goto 0 [.tmp 0, .tmp 1, .tmp 7, .tmp 3, .tmp 13, .tmp 8])
def l_slices_pdqsortOrdered_uint32_k1 : L :=
 .join 4
 (o (.bin .gtr (.tmp 1) (.const (.int .i64 0))) <|
 .ite (.tmp 8)
 (o (.bin .sub (.tmp 1) (.const (.int .i64 1))) <|
 o (.iaddr 1 (.tmp 0) (.tmp 9)) <|
 o (.load false 1 (.tmp 10)) <|
 o (.iaddr 1 (.tmp 0) (.tmp 7)) <|
 o (.load false 1 (.tmp 12)) <|
 om .pure (.call F_cmp_Less_uint32 [.tmp 11, .tmp 13]) <|
 o (.un .not (.tmp 14)) <|
 .ite (.tmp 15)
 (o (.call F_slices_partitionEqualOrdered_uint32 [.tmp 0, .tmp 1, .tmp 2, .tmp 7]) <|
 .goto 0 [.tmp 0, .tmp 16, .tmp 2, .tmp 3, .tmp 4, .tmp 5])
 (.goto 4 [.tmp 0, .tmp 1, .tmp 2, .tmp 3, .tmp 6, .tmp 7]))
 (.goto 4 [.tmp 0, .tmp 1, .tmp 2, .tmp 3, .tmp 6, .tmp 7]))
 l_slices_pdqsortOrdered_uint32_k0
def l_slices_pdqsortOrdered_uint32_k2 : L :=
 .join 3
 (.ite (.tmp 4)
 (.ite (.tmp 5)
 (o (.bin .eql (.tmp 8) (.const (.int .i64 1))) <|
 .ite (.tmp 9)
 (o (.call F_slices_partialInsertionSortOrdered_uint32 [.tmp 0, .tmp 1, .tmp 2]) <|
 .ite (.tmp 10)
 (.ret [])
 (.goto 3 [.tmp 0, .tmp 1, .tmp 2, .tmp 3, .tmp 4, .tmp 5, .tmp 6, .tmp 7]))
 (.goto 3 [.tmp 0, .tmp 1, .tmp 2, .tmp 3, .tmp 4, .tmp 5, .tmp 6, .tmp 7]))
 (.goto 3 [.tmp 0, .tmp 1, .tmp 2, .tmp 3, .tmp 4, .tmp 5, .tmp 6, .tmp 7]))
 (.goto 3 [.tmp 0, .tmp 1, .tmp 2, .tmp 3, .tmp 4, .tmp 5, .tmp 6, .tmp 7]))
 l_slices_pdqsortOrdered_uint32_k1
def l_slices_pdqsortOrdered_uint32_k3 : L :=
 o (.call F_slices_choosePivotOrdered_uint32 [.tmp 0, .tmp 1, .tmp 2]) <|
 o (.ext (.tmp 7) 0) <|
 o (.ext (.tmp 7) 1) <|
 .join 2
 (o (.bin .eql (.tmp 9) (.const (.int .i64 2))) <|
 .ite (.tmp 10)
 (o (.call F_slices_reverseRangeOrdered_uint32 [.tmp 0, .tmp 1, .tmp 2]) <|
 o (.bin .sub (.tmp 2) (.const (.int .i64 1))) <|
 o (.bin .sub (.tmp 8) (.tmp 1)) <|
 o (.bin .sub (.tmp 12) (.tmp 13)) <|
 .goto 2 [.tmp 0, .tmp 1, .tmp 2, .tmp 3, .tmp 4, .tmp 5, .tmp 6, .tmp 14, (.const (.int .i64 1))])
 (.goto 2 [.tmp 0, .tmp 1, .tmp 2, .tmp 3, .tmp 4, .tmp 5, .tmp 6, .tmp 8, .tmp 9]))
 l_slices_pdqsortOrdered_uint32_k2
def l_slices_pdqsortOrdered_uint32_k4 : L :=
 o (.bin .sub (.tmp 2) (.tmp 1)) <|
 o (.bin .leq (.tmp 6) (.const (.int .i64 12))) <|
 .ite (.tmp 7)
 (o (.call F_slices_insertionSortOrdered_uint32 [.tmp 0, .tmp 1, .tmp 2]) <|
 .ret [])
 (o (.bin .eql (.tmp 3) (.const (.int .i64 0))) <|
 .ite (.tmp 8)
 (o (.call F_slices_heapSortOrdered_uint32 [.tmp 0, .tmp 1, .tmp 2]) <|
 .ret [])
 (.join 1
 (o (.un .not (.tmp 4)) <|
 .ite (.tmp 9)
 (o (.call F_slices_breakPatternsOrdered_uint32 [.tmp 0, .tmp 1, .tmp 2]) <|
 o (.bin .sub (.tmp 3) (.const (.int .i64 1))) <|
 .goto 1 [.tmp 0, .tmp 1, .tmp 2, .tmp 11, .tmp 4, .tmp 5, .tmp 6])
 (.goto 1 [.tmp 0, .tmp 1, .tmp 2, .tmp 3, .tmp 4, .tmp 5, .tmp 6]))
 l_slices_pdqsortOrdered_uint32_k3))
def l_slices_pdqsortOrdered_uint32 : LFn := ⟨4,
 .loop 0 [(.tmp 0), (.tmp 1), (.tmp 2), (.tmp 3), (.const (.bool true)), (.const (.bool true))] l_slices_pdqsortOrdered_uint32_k4⟩
def l_math_bits_Len : LFn := ⟨1,
 om .pure (.call F_math_bits_Len64 [.tmp 0]) <|
 .ret [(.tmp 1)]⟩
def l_code_uses_k0 : L :=
 o (.bin .leq (.tmp 2) (.const (.int .i64 17))) <|
 .ite (.tmp 3)
 (o (.build 117 [(0, 1, (.const (.bool true))), (1, 1, (.const (.bool true))), (2, 1, (.const (.bool true)))]) <|
 o (.iaddrA 26 5 (.tmp 1) (.tmp 2)) <|
 o (.store 5 (.tmp 5) (.tmp 4)) <|
 o (.bin .add (.tmp 2) (.const (.int .i64 1))) <|
 .goto 1 [.tmp 0, .tmp 1, .tmp 7])
 (.goto 0 [.tmp 0, .tmp 1])
def l_code_uses_k1 : L :=
 o (.load true 130 (.tmp 1)) <|
 o (.store 130 (.tmp 0) (.tmp 2)) <|
 o (.load true 130 (.tmp 0)) <|
 .ret [(.tmp 4)]
def l_code_uses : LFn := ⟨0,
 o (.new 118) <|
 o (.build 117 [(0, 1, (.const (.bool true))), (3, 1, (.const (.int .u8 1)))]) <|
 o (.build 117 [(0, 1, (.const (.bool true))), (3, 1, (.const (.int .u8 2)))]) <|
 o (.build 117 [(0, 1, (.const (.bool true))), (3, 1, (.const (.int .u8 2)))]) <|
 o (.build 117 [(0, 1, (.const (.bool true))), (1, 1, (.const (.bool true))), (3, 1, (.const (.int .u8 2)))]) <|
 o (.build 117 [(0, 1, (.const (.bool true))), (1, 1, (.const (.bool true))), (3, 1, (.const (.int .u8 2)))]) <|
 o (.build 117 [(0, 1, (.const (.bool true))), (1, 1, (.const (.bool true))), (2, 1, (.const (.bool true)))]) <|
 o (.build 117 [(0, 1, (.const (.bool true))), (3, 1, (.const (.int .u8 3)))]) <|
 o (.build 117 [(3, 1, (.const (.int .u8 3)))]) <|
 o (.build 117 [(0, 1, (.const (.bool true))), (3, 1, (.const (.int .u8 4)))]) <|
 o (.build 117 [(1, 1, (.const (.bool true))), (3, 1, (.const (.int .u8 2))), (4, 1, (.const (.bool true)))]) <|
 o (.build 117 [(0, 1, (.const (.bool true))), (3, 1, (.const (.int .u8 5)))]) <|
 o (.build 117 [(3, 1, (.const (.int .u8 6)))]) <|
 o (.build 117 [(0, 1, (.const (.bool true)))]) <|
 o (.build 118 [(5, 5, (.tmp 1)), (10, 5, (.tmp 2)), (15, 5, (.tmp 3)), (20, 5, (.tmp 4)), (25, 5, (.tmp 5)), (90, 5, (.tmp 6)), (95, 5, (.tmp 7)), (100, 5, (.tmp 8)), (105, 5, (.tmp 9)), (110, 5, (.tmp 10)), (115, 5, (.tmp 11)), (120, 5, (.tmp 12)), (125, 5, (.tmp 13))]) <|
 o (.new 118) <|
 o (.store 130 (.tmp 15) (.tmp 14)) <|
 .join 0
 (.loop 1 [(.tmp 0), (.tmp 15), (.const (.int .i64 6))] l_code_uses_k0)
 l_code_uses_k1⟩
def l_code_right_k0 : L :=
 o (.faddr 1 (.tmp 1)) <|
 o (.load false 1 (.tmp 4)) <|
 o (.faddr 2 (.tmp 1)) <|
 o (.load false 1 (.tmp 6)) <|
 o (.bin .or (.tmp 5) (.tmp 7)) <|
 om .pure (.call F_code_register [(.const (.bool false)), .tmp 8]) <|
 .ite (.tmp 9)
 (.ite (.tmp 3)
 (o (.bin .geq (.tmp 2) (.const (.int .i64 0))) <|
 .ite (.tmp 10)
 (o (.faddr 3 (.tmp 1)) <|
 o (.load false 1 (.tmp 11)) <|
 o (.conv .i64 (.tmp 12)) <|
 o (.bin .add (.tmp 2) (.tmp 13)) <|
 o (.bin .leq (.tmp 14) (.tmp 0)) <|
 .ite (.tmp 15)
 (o (.faddr 5 (.tmp 1)) <|
 o (.load false 1 (.tmp 16)) <|
 o (.bin .eql (.tmp 17) (.const (.int .u32 0))) <|
 .ret [(.tmp 18)])
 (.ret [(.const (.bool false))]))
 (.ret [(.const (.bool false))]))
 (.ret [(.const (.bool false))]))
 (.ret [(.const (.bool false))])
def l_code_right_k1 : L :=
 .ite (.tmp 2)
 (o (.faddr 0 (.tmp 1)) <|
 o (.load false 1 (.tmp 3)) <|
 o (.faddr 1 (.tmp 0)) <|
 o (.load false 1 (.tmp 5)) <|
 om .pure (.call F_code_register [.tmp 4, .tmp 6]) <|
 .ite (.tmp 7)
 (o (.faddr 1 (.tmp 1)) <|
 o (.load false 1 (.tmp 8)) <|
 o (.faddr 2 (.tmp 0)) <|
 o (.load false 1 (.tmp 10)) <|
 om .pure (.call F_code_register [.tmp 9, .tmp 11]) <|
 .ite (.tmp 12)
 (o (.faddr 2 (.tmp 1)) <|
 o (.load false 1 (.tmp 13)) <|
 o (.faddr 3 (.tmp 0)) <|
 o (.load false 1 (.tmp 15)) <|
 om .pure (.call F_code_register [.tmp 14, .tmp 16]) <|
 .ite (.tmp 17)
 (o (.faddr 4 (.tmp 1)) <|
 o (.load false 1 (.tmp 18)) <|
 .ite (.tmp 19)
 (.ret [(.const (.bool true))])
 (o (.faddr 5 (.tmp 0)) <|
 o (.load false 1 (.tmp 20)) <|
 o (.bin .eql (.tmp 21) (.const (.int .u32 0))) <|
 .ret [(.tmp 22)]))
 (.ret [(.const (.bool false))]))
 (.ret [(.const (.bool false))]))
 (.ret [(.const (.bool false))]))
 (.ret [(.const (.bool false))])
def l_code_right : LFn := ⟨5,
 o (.box 80 (.tmp 0)) <|
 o (.box 118 (.tmp 1)) <|
 o (.faddr 0 (.tmp 5)) <|
 o (.load false 1 (.tmp 7)) <|
 o (.bin .gtr (.tmp 8) (.const (.int .u8 25))) <|
 .ite (.tmp 9)
 (.ret [(.const (.bool false))])
 (o (.faddr 0 (.tmp 5)) <|
 o (.load false 1 (.tmp 10)) <|
 o (.iaddrA 26 5 (.tmp 6) (.tmp 11)) <|
 o (.load true 5 (.tmp 12)) <|
 o (.new 117) <|
 o (.store 5 (.tmp 14) (.tmp 13)) <|
 o (.faddr 4 (.tmp 5)) <|
 o (.load false 1 (.tmp 16)) <|
 o (.conv .i64 (.tmp 17)) <|
 o (.bin .eql (.tmp 18) (.const (.int .i64 0))) <|
 .join 0
 (o (.faddr 3 (.tmp 14)) <|
 o (.load false 1 (.tmp 20)) <|
 o (.bin .eql (.tmp 21) (.const (.int .u8 1))) <|
 .ite (.tmp 22)
 (.goto 0 [.tmp 5, .tmp 14, (.const (.bool true))])
 (o (.bin .eql (.tmp 21) (.const (.int .u8 2))) <|
 .ite (.tmp 23)
 (o (.bin .geq (.tmp 18) (.const (.int .i64 0))) <|
 .ite (.tmp 24)
 (o (.bin .lss (.tmp 18) (.tmp 3)) <|
 .goto 0 [.tmp 5, .tmp 14, .tmp 25])
 (.goto 0 [.tmp 5, .tmp 14, (.const (.bool false))]))
 (o (.bin .eql (.tmp 21) (.const (.int .u8 3))) <|
 .ite (.tmp 24)
 (o (.bin .geq (.tmp 18) (.const (.int .i64 0))) <|
 .ite (.tmp 25)
 (o (.bin .leq (.tmp 18) (.tmp 2)) <|
 .goto 0 [.tmp 5, .tmp 14, .tmp 26])
 (.goto 0 [.tmp 5, .tmp 14, (.const (.bool false))]))
 (o (.bin .eql (.tmp 21) (.const (.int .u8 4))) <|
 .ite (.tmp 25)
 (o (.bin .geq (.tmp 18) (.const (.int .i64 0))) <|
 .ite (.tmp 26)
 (o (.bin .lss (.tmp 18) (.tmp 4)) <|
 .goto 0 [.tmp 5, .tmp 14, .tmp 27])
 (.goto 0 [.tmp 5, .tmp 14, (.const (.bool false))]))
 (o (.bin .eql (.tmp 21) (.const (.int .u8 5))) <|
 .ite (.tmp 26)
 (o (.bin .geq (.tmp 18) (.const (.int .i64 1))) <|
 .goto 0 [.tmp 5, .tmp 14, .tmp 27])
 (o (.bin .eql (.tmp 21) (.const (.int .u8 6))) <|
 .ite (.tmp 27)
 (.join 1
 (o (.faddr 3 (.tmp 5)) <|
 o (.load false 1 (.tmp 28)) <|
 o (.bin .geq (.tmp 29) (.const (.int .u8 1))) <|
 .ite (.tmp 30)
 (o (.faddr 3 (.tmp 5)) <|
 o (.load false 1 (.tmp 31)) <|
 o (.bin .leq (.tmp 32) (.const (.int .u8 48))) <|
 .goto 1 [.tmp 3, .tmp 5, .tmp 18, .tmp 33])
 (.goto 1 [.tmp 3, .tmp 5, .tmp 18, (.const (.bool false))]))
 l_code_right_k0)
 (.goto 0 [.tmp 5, .tmp 14, .tmp 19])))))))
 l_code_right_k1)⟩
def l_vm_divided : LFn := ⟨3,
 o (.bin .eql (.tmp 1) (.const (.int .i32 0))) <|
 .ite (.tmp 3)
 (.ret [(.const (.int .i32 0))])
 (.ite (.tmp 2)
 (o (.bin .rem (.tmp 0) (.tmp 1)) <|
 .ret [(.tmp 4)])
 (o (.bin .quo (.tmp 0) (.tmp 1)) <|
 .ret [(.tmp 4)]))⟩
def l_vm_one : LFn := ⟨1,
 .ite (.tmp 0)
 (.ret [(.const (.int .i32 1))])
 (.ret [(.const (.int .i32 0))])⟩
def l_vm_machine_load : LFn := ⟨3,
 o (.nilck (.tmp 0)) <|
 o (.faddr 0 (.tmp 3)) <|
 o (.faddr 0 (.tmp 4)) <|
 o (.load true 97 (.tmp 5)) <|
 om .pure (.call F_board_Board_At [.tmp 6, .tmp 2]) <|
 o (.ext (.tmp 7) 0) <|
 o (.ext (.tmp 7) 1) <|
 o (.new 33) <|
 o (.store 2 (.tmp 10) (.tmp 8)) <|
 o (.load true 2 (.tmp 10)) <|
 o (.nilck (.tmp 0)) <|
 o (.faddr 102 (.tmp 13)) <|
 o (.iaddrA 8 2 (.tmp 14) (.tmp 1)) <|
 o (.store 2 (.tmp 15) (.tmp 12)) <|
 .ret []⟩
def l_vm_machine_store : LFn := ⟨3,
 o (.box 33 (.tmp 2)) <|
 o (.nilck (.tmp 0)) <|
 o (.faddr 0 (.tmp 4)) <|
 o (.faddr 0 (.tmp 5)) <|
 o (.load true 97 (.tmp 6)) <|
 o (.load true 2 (.tmp 3)) <|
 om .pure (.call F_board_Board_Put [.tmp 7, .tmp 1, .tmp 8]) <|
 o (.ext (.tmp 9) 0) <|
 o (.ext (.tmp 9) 1) <|
 o (.nilck (.tmp 0)) <|
 o (.faddr 0 (.tmp 12)) <|
 o (.faddr 0 (.tmp 13)) <|
 o (.store 97 (.tmp 14) (.tmp 10)) <|
 o (.nilck (.tmp 0)) <|
 o (.faddr 0 (.tmp 16)) <|
 o (.faddr 98 (.tmp 17)) <|
 o (.load false 1 (.tmp 18)) <|
 o (.bin .shl (.const (.int .u64 1)) (.tmp 1)) <|
 o (.bin .or (.tmp 19) (.tmp 20)) <|
 o (.nilck (.tmp 0)) <|
 o (.faddr 0 (.tmp 22)) <|
 o (.faddr 98 (.tmp 23)) <|
 o (.store 1 (.tmp 24) (.tmp 21)) <|
 .ret []⟩
def l_mask_Mask_Meet_k0 : L :=
 o (.bin .lss (.tmp 3) (.tmp 2)) <|
 .ite (.tmp 4)
 (o (.iaddr 1 (.tmp 1) (.tmp 3)) <|
 o (.load false 1 (.tmp 5)) <|
 o (.bin .and (.tmp 0) (.tmp 6)) <|
 o (.bin .add (.tmp 3) (.const (.int .i64 1))) <|
 .goto 1 [.tmp 7, .tmp 1, .tmp 2, .tmp 8])
 (.goto 0 [.tmp 0])
def l_mask_Mask_Meet_k1 : L :=
 .ret [(.tmp 0)]
def l_mask_Mask_Meet : LFn := ⟨2,
 .join 0
 (o (.len false (.tmp 1)) <|
 .loop 1 [(.tmp 0), (.tmp 1), (.tmp 2), (.const (.int .i64 0))] l_mask_Mask_Meet_k0)
 l_mask_Mask_Meet_k1⟩
def l_vm_machine_open : LFn := ⟨2,
 o (.nilck (.tmp 0)) <|
 o (.faddr 121 (.tmp 2)) <|
 o (.load false 1 (.tmp 3)) <|
 o (.nilck (.tmp 0)) <|
 o (.faddr 102 (.tmp 5)) <|
 o (.iaddrA 8 2 (.tmp 6) (.tmp 1)) <|
 o (.faddr 1 (.tmp 7)) <|
 o (.load false 1 (.tmp 8)) <|
 om .pure (.call F_mask_Mask_Within [.tmp 4, .tmp 9]) <|
 .ret [(.tmp 10)]⟩
def l_mask_Of : LFn := ⟨1,
 om .pure (.call F_mask_Mask_With [(.const (.int .u32 0)), .tmp 0]) <|
 .ret [(.tmp 1)]⟩
def l_dice_Dice_Below : LFn := ⟨2,
 o (.box 43 (.tmp 0)) <|
 o (.new 43) <|
 o (.load true 1 (.tmp 2)) <|
 om .pure (.call F_dice_Dice_Next [.tmp 4]) <|
 o (.ext (.tmp 5) 0) <|
 o (.ext (.tmp 5) 1) <|
 o (.store 1 (.tmp 2) (.tmp 7)) <|
 o (.conv .u64 (.tmp 6)) <|
 o (.conv .u64 (.tmp 1)) <|
 o (.bin .mul (.tmp 9) (.tmp 10)) <|
 o (.bin .shr (.tmp 11) (.const (.int .u64 32))) <|
 o (.conv .u32 (.tmp 12)) <|
 o (.load true 1 (.tmp 2)) <|
 o (.store 1 (.tmp 3) (.tmp 14)) <|
 o (.load true 1 (.tmp 3)) <|
 .ret [(.tmp 13), (.tmp 16)]⟩
def l_vm_machine_reach : LFn := ⟨2,
 o (.box 80 (.tmp 1)) <|
 o (.faddr 0 (.tmp 2)) <|
 o (.load false 1 (.tmp 3)) <|
 o (.bin .eql (.tmp 4) (.const (.int .u8 4))) <|
 .ite (.tmp 5)
 (o (.load true 6 (.tmp 2)) <|
 o (.call F_vm_machine_index [.tmp 0, .tmp 6]) <|
 o (.ext (.tmp 7) 0) <|
 o (.ext (.tmp 7) 1) <|
 .ite (.tmp 9)
 (o (.faddr 1 (.tmp 2)) <|
 o (.load false 1 (.tmp 10)) <|
 o (.call F_vm_machine_load [.tmp 0, .tmp 11, .tmp 8]) <|
 .ret [])
 (.ret []))
 (o (.bin .eql (.tmp 4) (.const (.int .u8 5))) <|
 .ite (.tmp 6)
 (o (.load true 6 (.tmp 2)) <|
 o (.call F_vm_machine_index [.tmp 0, .tmp 7]) <|
 o (.ext (.tmp 8) 0) <|
 o (.ext (.tmp 8) 1) <|
 .ite (.tmp 10)
 (o (.faddr 1 (.tmp 2)) <|
 o (.load false 1 (.tmp 11)) <|
 o (.nilck (.tmp 0)) <|
 o (.faddr 102 (.tmp 13)) <|
 o (.iaddrA 8 2 (.tmp 14) (.tmp 12)) <|
 o (.load true 2 (.tmp 15)) <|
 o (.call F_vm_machine_store [.tmp 0, .tmp 9, .tmp 16]) <|
 .ret [])
 (.ret []))
 (o (.bin .eql (.tmp 4) (.const (.int .u8 22))) <|
 .ite (.tmp 7)
 (o (.load true 6 (.tmp 2)) <|
 o (.call F_vm_machine_reveal [.tmp 0, .tmp 8]) <|
 .ret [])
 (o (.bin .eql (.tmp 4) (.const (.int .u8 24))) <|
 .ite (.tmp 8)
 (o (.faddr 4 (.tmp 2)) <|
 o (.load false 1 (.tmp 9)) <|
 o (.conv .i64 (.tmp 10)) <|
 o (.faddr 3 (.tmp 2)) <|
 o (.load false 1 (.tmp 12)) <|
 o (.conv .i64 (.tmp 13)) <|
 o (.call F_vm_machine_shuffle [.tmp 0, .tmp 11, .tmp 14]) <|
 .ret [])
 (.ret []))))⟩
def l_slices_insertionSortOrdered_uint32_k0 : L :=
 o (.bin .sub (.tmp 4) (.const (.int .i64 1))) <|
 o (.bin .sub (.tmp 4) (.const (.int .i64 1))) <|
 o (.iaddr 1 (.tmp 0) (.tmp 6)) <|
 o (.load false 1 (.tmp 7)) <|
 o (.iaddr 1 (.tmp 0) (.tmp 4)) <|
 o (.load false 1 (.tmp 9)) <|
 o (.iaddr 1 (.tmp 0) (.tmp 4)) <|
 o (.store 1 (.tmp 11) (.tmp 8)) <|
 o (.iaddr 1 (.tmp 0) (.tmp 5)) <|
 o (.store 1 (.tmp 13) (.tmp 10)) <|
 o (.bin .sub (.tmp 4) (.const (.int .i64 1))) <|
 .goto 2 [.tmp 0, .tmp 1, .tmp 2, .tmp 3, .tmp 15]
def l_slices_insertionSortOrdered_uint32_k1 : L :=
 .join 3
 (o (.bin .gtr (.tmp 4) (.tmp 1)) <|
 .ite (.tmp 5)
 (o (.iaddr 1 (.tmp 0) (.tmp 4)) <|
 o (.load false 1 (.tmp 6)) <|
 o (.bin .sub (.tmp 4) (.const (.int .i64 1))) <|
 o (.iaddr 1 (.tmp 0) (.tmp 8)) <|
 o (.load false 1 (.tmp 9)) <|
 om .pure (.call F_cmp_Less_uint32 [.tmp 7, .tmp 10]) <|
 .ite (.tmp 11)
 (.goto 3 [.tmp 0, .tmp 1, .tmp 2, .tmp 3, .tmp 4])
 (.goto 1 [.tmp 0, .tmp 1, .tmp 2, .tmp 3]))
 (.goto 1 [.tmp 0, .tmp 1, .tmp 2, .tmp 3]))
 l_slices_insertionSortOrdered_uint32_k0
def l_slices_insertionSortOrdered_uint32_k2 : L :=
 o (.bin .add (.tmp 3) (.const (.int .i64 1))) <|
 .goto 0 [.tmp 0, .tmp 1, .tmp 2, .tmp 4]
def l_slices_insertionSortOrdered_uint32_k3 : L :=
 o (.bin .lss (.tmp 3) (.tmp 2)) <|
 .ite (.tmp 4)
 (.join 1
 (.loop 2 [(.tmp 0), (.tmp 1), (.tmp 2), (.tmp 3), (.tmp 3)] l_slices_insertionSortOrdered_uint32_k1)
 l_slices_insertionSortOrdered_uint32_k2)
 (.ret [])
def l_slices_insertionSortOrdered_uint32 : LFn := ⟨3,
 o (.bin .add (.tmp 1) (.const (.int .i64 1))) <|
 .loop 0 [(.tmp 0), (.tmp 1), (.tmp 2), (.tmp 3)] l_slices_insertionSortOrdered_uint32_k3⟩
def l_slices_heapSortOrdered_uint32_k0 : L :=
 o (.bin .geq (.tmp 4) (.const (.int .i64 0))) <|
 .ite (.tmp 5)
 (o (.call F_slices_siftDownOrdered_uint32 [.tmp 0, .tmp 4, .tmp 3, .tmp 1]) <|
 o (.bin .sub (.tmp 4) (.const (.int .i64 1))) <|
 .goto 1 [.tmp 0, .tmp 1, .tmp 2, .tmp 3, .tmp 7])
 (.goto 0 [.tmp 0, .tmp 1, .tmp 2, .tmp 3])
def l_slices_heapSortOrdered_uint32_k1 : L :=
 o (.bin .geq (.tmp 3) (.const (.int .i64 0))) <|
 .ite (.tmp 4)
 (o (.bin .add (.tmp 1) (.tmp 3)) <|
 o (.bin .add (.tmp 1) (.tmp 3)) <|
 o (.iaddr 1 (.tmp 0) (.tmp 6)) <|
 o (.load false 1 (.tmp 7)) <|
 o (.iaddr 1 (.tmp 0) (.tmp 1)) <|
 o (.load false 1 (.tmp 9)) <|
 o (.iaddr 1 (.tmp 0) (.tmp 1)) <|
 o (.store 1 (.tmp 11) (.tmp 8)) <|
 o (.iaddr 1 (.tmp 0) (.tmp 5)) <|
 o (.store 1 (.tmp 13) (.tmp 10)) <|
 o (.call F_slices_siftDownOrdered_uint32 [.tmp 0, .tmp 2, .tmp 3, .tmp 1]) <|
 o (.bin .sub (.tmp 3) (.const (.int .i64 1))) <|
 .goto 1 [.tmp 0, .tmp 1, .tmp 2, .tmp 16])
 (.ret [])
def l_slices_heapSortOrdered_uint32_k2 : L :=
 o (.bin .sub (.tmp 3) (.const (.int .i64 1))) <|
 .loop 1 [(.tmp 0), (.tmp 1), (.tmp 2), (.tmp 4)] l_slices_heapSortOrdered_uint32_k1
def l_slices_heapSortOrdered_uint32 : LFn := ⟨3,
 o (.bin .sub (.tmp 2) (.tmp 1)) <|
 .join 0
 (o (.bin .sub (.tmp 3) (.const (.int .i64 1))) <|
 o (.bin .quo (.tmp 4) (.const (.int .i64 2))) <|
 .loop 1 [(.tmp 0), (.tmp 1), (.const (.int .i64 0)), (.tmp 3), (.tmp 5)] l_slices_heapSortOrdered_uint32_k0)
 l_slices_heapSortOrdered_uint32_k2⟩
def l_slices_breakPatternsOrdered_uint32_k0 : L :=
 o (.bin .add (.tmp 1) (.tmp 6)) <|
 o (.bin .add (.tmp 1) (.tmp 6)) <|
 o (.iaddr 1 (.tmp 0) (.tmp 8)) <|
 o (.load false 1 (.tmp 9)) <|
 o (.iaddr 1 (.tmp 0) (.tmp 5)) <|
 o (.load false 1 (.tmp 11)) <|
 o (.iaddr 1 (.tmp 0) (.tmp 5)) <|
 o (.store 1 (.tmp 13) (.tmp 10)) <|
 o (.iaddr 1 (.tmp 0) (.tmp 7)) <|
 o (.store 1 (.tmp 15) (.tmp 12)) <|
 o (.bin .add (.tmp 5) (.const (.int .i64 1))) <|
 .goto 0 [.tmp 0, .tmp 1, .tmp 2, .tmp 3, .tmp 4, .tmp 17]
def l_slices_breakPatternsOrdered_uint32_k1 : L :=
 o (.bin .quo (.tmp 2) (.const (.int .i64 4))) <|
 o (.bin .mul (.tmp 6) (.const (.int .i64 2))) <|
 o (.bin .add (.tmp 1) (.tmp 7)) <|
 o (.bin .add (.tmp 8) (.const (.int .i64 1))) <|
 o (.bin .leq (.tmp 5) (.tmp 9)) <|
 .ite (.tmp 10)
 (o (.call F_slices_xorshift_Next [.tmp 3]) <|
 o (.bin .sub (.tmp 4) (.const (.int .u64 1))) <|
 o (.bin .and (.tmp 11) (.tmp 12)) <|
 o (.conv .i64 (.tmp 13)) <|
 .join 1
 (o (.bin .geq (.tmp 14) (.tmp 2)) <|
 .ite (.tmp 15)
 (o (.bin .sub (.tmp 14) (.tmp 2)) <|
 .goto 1 [.tmp 0, .tmp 1, .tmp 2, .tmp 3, .tmp 4, .tmp 5, .tmp 16])
 (.goto 1 [.tmp 0, .tmp 1, .tmp 2, .tmp 3, .tmp 4, .tmp 5, .tmp 14]))
 l_slices_breakPatternsOrdered_uint32_k0)
 (.ret [])
def l_slices_breakPatternsOrdered_uint32 : LFn := ⟨3,
 o (.bin .sub (.tmp 2) (.tmp 1)) <|
 o (.bin .geq (.tmp 3) (.const (.int .i64 8))) <|
 .ite (.tmp 4)
 (o (.conv .u64 (.tmp 3)) <|
 o (.new 147) <|
 o (.store 1 (.tmp 6) (.tmp 5)) <|
 om .pure (.call F_slices_nextPowerOfTwo [.tmp 3]) <|
 o (.bin .quo (.tmp 3) (.const (.int .i64 4))) <|
 o (.bin .mul (.tmp 9) (.const (.int .i64 2))) <|
 o (.bin .add (.tmp 1) (.tmp 10)) <|
 o (.bin .sub (.tmp 11) (.const (.int .i64 1))) <|
 .loop 0 [(.tmp 0), (.tmp 1), (.tmp 3), (.tmp 6), (.tmp 8), (.tmp 12)] l_slices_breakPatternsOrdered_uint32_k1)
 (.ret [])⟩
def l_slices_choosePivotOrdered_uint32_k0 : L :=
 o (.call F_slices_medianOrdered_uint32 [.tmp 0, .tmp 2, .tmp 3, .tmp 4, .tmp 1]) <|
 .goto 0 [.tmp 1, .tmp 5]
def l_slices_choosePivotOrdered_uint32_k1 : L :=
 o (.load false 1 (.tmp 0)) <|
 o (.bin .eql (.tmp 2) (.const (.int .i64 0))) <|
 .ite (.tmp 3)
 (.ret [(.tmp 1), (.const (.int .i64 1))])
 (o (.bin .eql (.tmp 2) (.const (.int .i64 12))) <|
 .ite (.tmp 4)
 (.ret [(.tmp 1), (.const (.int .i64 2))])
 (.ret [(.tmp 1), (.const (.int .i64 0))]))
def l_slices_choosePivotOrdered_uint32 : LFn := ⟨3,
 o (.bin .sub (.tmp 2) (.tmp 1)) <|
 o (.new 3) <|
 o (.bin .quo (.tmp 3) (.const (.int .i64 4))) <|
 o (.bin .mul (.tmp 5) (.const (.int .i64 1))) <|
 o (.bin .add (.tmp 1) (.tmp 6)) <|
 o (.bin .quo (.tmp 3) (.const (.int .i64 4))) <|
 o (.bin .mul (.tmp 8) (.const (.int .i64 2))) <|
 o (.bin .add (.tmp 1) (.tmp 9)) <|
 o (.bin .quo (.tmp 3) (.const (.int .i64 4))) <|
 o (.bin .mul (.tmp 11) (.const (.int .i64 3))) <|
 o (.bin .add (.tmp 1) (.tmp 12)) <|
 .join 0
 (o (.bin .geq (.tmp 3) (.const (.int .i64 8))) <|
 .ite (.tmp 14)
 (.join 1
 (o (.bin .geq (.tmp 3) (.const (.int .i64 50))) <|
 .ite (.tmp 15)
 (o (.call F_slices_medianAdjacentOrdered_uint32 [.tmp 0, .tmp 7, .tmp 4]) <|
 o (.call F_slices_medianAdjacentOrdered_uint32 [.tmp 0, .tmp 10, .tmp 4]) <|
 o (.call F_slices_medianAdjacentOrdered_uint32 [.tmp 0, .tmp 13, .tmp 4]) <|
 .goto 1 [.tmp 0, .tmp 4, .tmp 16, .tmp 17, .tmp 18])
 (.goto 1 [.tmp 0, .tmp 4, .tmp 7, .tmp 10, .tmp 13]))
 l_slices_choosePivotOrdered_uint32_k0)
 (.goto 0 [.tmp 4, .tmp 10]))
 l_slices_choosePivotOrdered_uint32_k1⟩
def l_slices_reverseRangeOrdered_uint32_k0 : L :=
 o (.bin .lss (.tmp 1) (.tmp 2)) <|
 .ite (.tmp 3)
 (o (.iaddr 1 (.tmp 0) (.tmp 2)) <|
 o (.load false 1 (.tmp 4)) <|
 o (.iaddr 1 (.tmp 0) (.tmp 1)) <|
 o (.load false 1 (.tmp 6)) <|
 o (.iaddr 1 (.tmp 0) (.tmp 1)) <|
 o (.store 1 (.tmp 8) (.tmp 5)) <|
 o (.iaddr 1 (.tmp 0) (.tmp 2)) <|
 o (.store 1 (.tmp 10) (.tmp 7)) <|
 o (.bin .add (.tmp 1) (.const (.int .i64 1))) <|
 o (.bin .sub (.tmp 2) (.const (.int .i64 1))) <|
 .goto 0 [.tmp 0, .tmp 12, .tmp 13])
 (.ret [])
def l_slices_reverseRangeOrdered_uint32 : LFn := ⟨3,
 o (.bin .sub (.tmp 2) (.const (.int .i64 1))) <|
 .loop 0 [(.tmp 0), (.tmp 1), (.tmp 3)] l_slices_reverseRangeOrdered_uint32_k0⟩
def l_slices_partialInsertionSortOrdered_uint32_k0 : L :=
 o (.bin .add (.tmp 3) (.const (.int .i64 1))) <|
 .goto 4 [.tmp 0, .tmp 1, .tmp 2, .tmp 5, .tmp 4]
def l_slices_partialInsertionSortOrdered_uint32_k1 : L :=
 .join 5
 (o (.bin .lss (.tmp 3) (.tmp 2)) <|
 .ite (.tmp 5)
 (o (.iaddr 1 (.tmp 0) (.tmp 3)) <|
 o (.load false 1 (.tmp 6)) <|
 o (.bin .sub (.tmp 3) (.const (.int .i64 1))) <|
 o (.iaddr 1 (.tmp 0) (.tmp 8)) <|
 o (.load false 1 (.tmp 9)) <|
 om .pure (.call F_cmp_Less_uint32 [.tmp 7, .tmp 10]) <|
 o (.un .not (.tmp 11)) <|
 .ite (.tmp 12)
 (.goto 5 [.tmp 0, .tmp 1, .tmp 2, .tmp 3, .tmp 4])
 (.goto 3 [.tmp 0, .tmp 1, .tmp 2, .tmp 3, .tmp 4]))
 (.goto 3 [.tmp 0, .tmp 1, .tmp 2, .tmp 3, .tmp 4]))
 l_slices_partialInsertionSortOrdered_uint32_k0
def l_slices_partialInsertionSortOrdered_uint32_k2 : L :=
 o (.bin .geq (.tmp 5) (.const (.int .i64 1))) <|
 .ite (.tmp 6)
 (o (.iaddr 1 (.tmp 0) (.tmp 5)) <|
 o (.load false 1 (.tmp 7)) <|
 o (.bin .sub (.tmp 5) (.const (.int .i64 1))) <|
 o (.iaddr 1 (.tmp 0) (.tmp 9)) <|
 o (.load false 1 (.tmp 10)) <|
 om .pure (.call F_cmp_Less_uint32 [.tmp 8, .tmp 11]) <|
 o (.un .not (.tmp 12)) <|
 .ite (.tmp 13)
 (.goto 4 [.tmp 0, .tmp 1, .tmp 2, .tmp 3, .tmp 4])
 (o (.bin .sub (.tmp 5) (.const (.int .i64 1))) <|
 o (.bin .sub (.tmp 5) (.const (.int .i64 1))) <|
 o (.iaddr 1 (.tmp 0) (.tmp 15)) <|
 o (.load false 1 (.tmp 16)) <|
 o (.iaddr 1 (.tmp 0) (.tmp 5)) <|
 o (.load false 1 (.tmp 18)) <|
 o (.iaddr 1 (.tmp 0) (.tmp 5)) <|
 o (.store 1 (.tmp 20) (.tmp 17)) <|
 o (.iaddr 1 (.tmp 0) (.tmp 14)) <|
 o (.store 1 (.tmp 22) (.tmp 19)) <|
 o (.bin .sub (.tmp 5) (.const (.int .i64 1))) <|
 .goto 5 [.tmp 0, .tmp 1, .tmp 2, .tmp 3, .tmp 4, .tmp 24]))
 (.goto 4 [.tmp 0, .tmp 1, .tmp 2, .tmp 3, .tmp 4])
def l_slices_partialInsertionSortOrdered_uint32_k3 : L :=
 o (.bin .lss (.tmp 5) (.tmp 2)) <|
 .ite (.tmp 6)
 (o (.iaddr 1 (.tmp 0) (.tmp 5)) <|
 o (.load false 1 (.tmp 7)) <|
 o (.bin .sub (.tmp 5) (.const (.int .i64 1))) <|
 o (.iaddr 1 (.tmp 0) (.tmp 9)) <|
 o (.load false 1 (.tmp 10)) <|
 om .pure (.call F_cmp_Less_uint32 [.tmp 8, .tmp 11]) <|
 o (.un .not (.tmp 12)) <|
 .ite (.tmp 13)
 (.goto 2 [.tmp 0, .tmp 1, .tmp 2, .tmp 3, .tmp 4])
 (o (.bin .sub (.tmp 5) (.const (.int .i64 1))) <|
 o (.bin .sub (.tmp 5) (.const (.int .i64 1))) <|
 o (.iaddr 1 (.tmp 0) (.tmp 15)) <|
 o (.load false 1 (.tmp 16)) <|
 o (.iaddr 1 (.tmp 0) (.tmp 5)) <|
 o (.load false 1 (.tmp 18)) <|
 o (.iaddr 1 (.tmp 0) (.tmp 5)) <|
 o (.store 1 (.tmp 20) (.tmp 17)) <|
 o (.iaddr 1 (.tmp 0) (.tmp 14)) <|
 o (.store 1 (.tmp 22) (.tmp 19)) <|
 o (.bin .add (.tmp 5) (.const (.int .i64 1))) <|
 .goto 5 [.tmp 0, .tmp 1, .tmp 2, .tmp 3, .tmp 4, .tmp 24]))
 (.goto 2 [.tmp 0, .tmp 1, .tmp 2, .tmp 3, .tmp 4])
def l_slices_partialInsertionSortOrdered_uint32_k4 : L :=
 o (.bin .sub (.tmp 2) (.tmp 3)) <|
 o (.bin .geq (.tmp 5) (.const (.int .i64 2))) <|
 .ite (.tmp 6)
 (o (.bin .add (.tmp 3) (.const (.int .i64 1))) <|
 .loop 5 [(.tmp 0), (.tmp 1), (.tmp 2), (.tmp 3), (.tmp 4), (.tmp 7)] l_slices_partialInsertionSortOrdered_uint32_k3)
 (.goto 2 [.tmp 0, .tmp 1, .tmp 2, .tmp 3, .tmp 4])
def l_slices_partialInsertionSortOrdered_uint32_k5 : L :=
 o (.bin .eql (.tmp 3) (.tmp 2)) <|
 .ite (.tmp 5)
 (.ret [(.const (.bool true))])
 (o (.bin .sub (.tmp 2) (.tmp 1)) <|
 o (.bin .lss (.tmp 6) (.const (.int .i64 50))) <|
 .ite (.tmp 7)
 (.ret [(.const (.bool false))])
 (o (.bin .sub (.tmp 3) (.const (.int .i64 1))) <|
 o (.bin .sub (.tmp 3) (.const (.int .i64 1))) <|
 o (.iaddr 1 (.tmp 0) (.tmp 9)) <|
 o (.load false 1 (.tmp 10)) <|
 o (.iaddr 1 (.tmp 0) (.tmp 3)) <|
 o (.load false 1 (.tmp 12)) <|
 o (.iaddr 1 (.tmp 0) (.tmp 3)) <|
 o (.store 1 (.tmp 14) (.tmp 11)) <|
 o (.iaddr 1 (.tmp 0) (.tmp 8)) <|
 o (.store 1 (.tmp 16) (.tmp 13)) <|
 .join 4
 (o (.bin .sub (.tmp 3) (.tmp 1)) <|
 o (.bin .geq (.tmp 18) (.const (.int .i64 2))) <|
 .ite (.tmp 19)
 (o (.bin .sub (.tmp 3) (.const (.int .i64 1))) <|
 .loop 5 [(.tmp 0), (.tmp 1), (.tmp 2), (.tmp 3), (.tmp 4), (.tmp 20)] l_slices_partialInsertionSortOrdered_uint32_k2)
 (.goto 4 [.tmp 0, .tmp 1, .tmp 2, .tmp 3, .tmp 4]))
 l_slices_partialInsertionSortOrdered_uint32_k4))
def l_slices_partialInsertionSortOrdered_uint32_k6 : L :=
 o (.bin .add (.tmp 4) (.const (.int .i64 1))) <|
 .goto 1 [.tmp 0, .tmp 1, .tmp 2, .tmp 3, .tmp 5]
def l_slices_partialInsertionSortOrdered_uint32_k7 : L :=
 o (.bin .lss (.tmp 4) (.const (.int .i64 5))) <|
 .ite (.tmp 5)
 (.join 2
 (.join 3
 (.loop 4 [(.tmp 0), (.tmp 1), (.tmp 2), (.tmp 3), (.tmp 4)] l_slices_partialInsertionSortOrdered_uint32_k1)
 l_slices_partialInsertionSortOrdered_uint32_k5)
 l_slices_partialInsertionSortOrdered_uint32_k6)
 (.goto 0 [])
def l_slices_partialInsertionSortOrdered_uint32_k8 : L :=
 .ret [(.const (.bool false))]
def l_slices_partialInsertionSortOrdered_uint32 : LFn := ⟨3,
 o (.bin .add (.tmp 1) (.const (.int .i64 1))) <|
 .join 0
 (.loop 1 [(.tmp 0), (.tmp 1), (.tmp 2), (.tmp 3), (.const (.int .i64 0))] l_slices_partialInsertionSortOrdered_uint32_k7)
 l_slices_partialInsertionSortOrdered_uint32_k8⟩
def l_cmp_Less_uint32 : LFn := ⟨2,
 om .pure (.call F_cmp_isNaN_uint32 [.tmp 0]) <|
 .ite (.tmp 2)
 (om .pure (.call F_cmp_isNaN_uint32 [.tmp 1]) <|
 o (.un .not (.tmp 3)) <|
 .ite (.tmp 4)
 (.ret [(.const (.bool true))])
 (o (.bin .lss (.tmp 0) (.tmp 1)) <|
 .ret [(.tmp 5)]))
 (o (.bin .lss (.tmp 0) (.tmp 1)) <|
 .ret [(.tmp 3)])⟩
def l_slices_partitionEqualOrdered_uint32_k0 : L :=
 o (.bin .add (.tmp 2) (.const (.int .i64 1))) <|
 .goto 3 [.tmp 0, .tmp 1, .tmp 4, .tmp 3]
def l_slices_partitionEqualOrdered_uint32_k1 : L :=
 .join 4
 (o (.bin .leq (.tmp 2) (.tmp 3)) <|
 .ite (.tmp 4)
 (o (.iaddr 1 (.tmp 0) (.tmp 1)) <|
 o (.load false 1 (.tmp 5)) <|
 o (.iaddr 1 (.tmp 0) (.tmp 2)) <|
 o (.load false 1 (.tmp 7)) <|
 om .pure (.call F_cmp_Less_uint32 [.tmp 6, .tmp 8]) <|
 o (.un .not (.tmp 9)) <|
 .ite (.tmp 10)
 (.goto 4 [.tmp 0, .tmp 1, .tmp 2, .tmp 3])
 (.goto 2 [.tmp 0, .tmp 1, .tmp 2, .tmp 3]))
 (.goto 2 [.tmp 0, .tmp 1, .tmp 2, .tmp 3]))
 l_slices_partitionEqualOrdered_uint32_k0
def l_slices_partitionEqualOrdered_uint32_k2 : L :=
 o (.bin .sub (.tmp 3) (.const (.int .i64 1))) <|
 .goto 4 [.tmp 0, .tmp 1, .tmp 2, .tmp 4]
def l_slices_partitionEqualOrdered_uint32_k3 : L :=
 .join 5
 (o (.bin .leq (.tmp 2) (.tmp 3)) <|
 .ite (.tmp 4)
 (o (.iaddr 1 (.tmp 0) (.tmp 1)) <|
 o (.load false 1 (.tmp 5)) <|
 o (.iaddr 1 (.tmp 0) (.tmp 3)) <|
 o (.load false 1 (.tmp 7)) <|
 om .pure (.call F_cmp_Less_uint32 [.tmp 6, .tmp 8]) <|
 .ite (.tmp 9)
 (.goto 5 [.tmp 0, .tmp 1, .tmp 2, .tmp 3])
 (.goto 3 [.tmp 0, .tmp 1, .tmp 2, .tmp 3]))
 (.goto 3 [.tmp 0, .tmp 1, .tmp 2, .tmp 3]))
 l_slices_partitionEqualOrdered_uint32_k2
def l_slices_partitionEqualOrdered_uint32_k4 : L :=
 o (.bin .gtr (.tmp 2) (.tmp 3)) <|
 .ite (.tmp 4)
 (.goto 0 [.tmp 2])
 (o (.iaddr 1 (.tmp 0) (.tmp 3)) <|
 o (.load false 1 (.tmp 5)) <|
 o (.iaddr 1 (.tmp 0) (.tmp 2)) <|
 o (.load false 1 (.tmp 7)) <|
 o (.iaddr 1 (.tmp 0) (.tmp 2)) <|
 o (.store 1 (.tmp 9) (.tmp 6)) <|
 o (.iaddr 1 (.tmp 0) (.tmp 3)) <|
 o (.store 1 (.tmp 11) (.tmp 8)) <|
 o (.bin .add (.tmp 2) (.const (.int .i64 1))) <|
 o (.bin .sub (.tmp 3) (.const (.int .i64 1))) <|
 .goto 1 [.tmp 0, .tmp 1, .tmp 13, .tmp 14])
def l_slices_partitionEqualOrdered_uint32_k5 : L :=
 .join 3
 (.loop 4 [(.tmp 0), (.tmp 1), (.tmp 2), (.tmp 3)] l_slices_partitionEqualOrdered_uint32_k3)
 l_slices_partitionEqualOrdered_uint32_k4
def l_slices_partitionEqualOrdered_uint32_k6 : L :=
 .join 2
 (.loop 3 [(.tmp 0), (.tmp 1), (.tmp 2), (.tmp 3)] l_slices_partitionEqualOrdered_uint32_k1)
 l_slices_partitionEqualOrdered_uint32_k5
def l_slices_partitionEqualOrdered_uint32_k7 : L :=
 .ret [(.tmp 0)]
def l_slices_partitionEqualOrdered_uint32 : LFn := ⟨4,
 o (.iaddr 1 (.tmp 0) (.tmp 3)) <|
 o (.load false 1 (.tmp 4)) <|
 o (.iaddr 1 (.tmp 0) (.tmp 1)) <|
 o (.load false 1 (.tmp 6)) <|
 o (.iaddr 1 (.tmp 0) (.tmp 1)) <|
 o (.store 1 (.tmp 8) (.tmp 5)) <|
 o (.iaddr 1 (.tmp 0) (.tmp 3)) <|
 o (.store 1 (.tmp 10) (.tmp 7)) <|
 o (.bin .add (.tmp 1) (.const (.int .i64 1))) <|
 o (.bin .sub (.tmp 2) (.const (.int .i64 1))) <|
 .join 0
 (.loop 1 [(.tmp 0), (.tmp 1), (.tmp 12), (.tmp 13)] l_slices_partitionEqualOrdered_uint32_k6)
 l_slices_partitionEqualOrdered_uint32_k7⟩
def l_slices_partitionOrdered_uint32_k0 : L :=
 o (.bin .add (.tmp 2) (.const (.int .i64 1))) <|
 .goto 1 [.tmp 0, .tmp 1, .tmp 4, .tmp 3]
def l_slices_partitionOrdered_uint32_k1 : L :=
 .join 2
 (o (.bin .leq (.tmp 2) (.tmp 3)) <|
 .ite (.tmp 4)
 (o (.iaddr 1 (.tmp 0) (.tmp 2)) <|
 o (.load false 1 (.tmp 5)) <|
 o (.iaddr 1 (.tmp 0) (.tmp 1)) <|
 o (.load false 1 (.tmp 7)) <|
 om .pure (.call F_cmp_Less_uint32 [.tmp 6, .tmp 8]) <|
 .ite (.tmp 9)
 (.goto 2 [.tmp 0, .tmp 1, .tmp 2, .tmp 3])
 (.goto 0 [.tmp 0, .tmp 1, .tmp 2, .tmp 3]))
 (.goto 0 [.tmp 0, .tmp 1, .tmp 2, .tmp 3]))
 l_slices_partitionOrdered_uint32_k0
def l_slices_partitionOrdered_uint32_k2 : L :=
 o (.bin .sub (.tmp 3) (.const (.int .i64 1))) <|
 .goto 2 [.tmp 0, .tmp 1, .tmp 2, .tmp 4]
def l_slices_partitionOrdered_uint32_k3 : L :=
 .join 3
 (o (.bin .leq (.tmp 2) (.tmp 3)) <|
 .ite (.tmp 4)
 (o (.iaddr 1 (.tmp 0) (.tmp 3)) <|
 o (.load false 1 (.tmp 5)) <|
 o (.iaddr 1 (.tmp 0) (.tmp 1)) <|
 o (.load false 1 (.tmp 7)) <|
 om .pure (.call F_cmp_Less_uint32 [.tmp 6, .tmp 8]) <|
 o (.un .not (.tmp 9)) <|
 .ite (.tmp 10)
 (.goto 3 [.tmp 0, .tmp 1, .tmp 2, .tmp 3])
 (.goto 1 [.tmp 0, .tmp 1, .tmp 2, .tmp 3]))
 (.goto 1 [.tmp 0, .tmp 1, .tmp 2, .tmp 3]))
 l_slices_partitionOrdered_uint32_k2
def l_slices_partitionOrdered_uint32_k4 : L :=
 o (.bin .add (.tmp 2) (.const (.int .i64 1))) <|
 .goto 5 [.tmp 0, .tmp 1, .tmp 4, .tmp 3]
def l_slices_partitionOrdered_uint32_k5 : L :=
 .join 6
 (o (.bin .leq (.tmp 2) (.tmp 3)) <|
 .ite (.tmp 4)
 (o (.iaddr 1 (.tmp 0) (.tmp 2)) <|
 o (.load false 1 (.tmp 5)) <|
 o (.iaddr 1 (.tmp 0) (.tmp 1)) <|
 o (.load false 1 (.tmp 7)) <|
 om .pure (.call F_cmp_Less_uint32 [.tmp 6, .tmp 8]) <|
 .ite (.tmp 9)
 (.goto 6 [.tmp 0, .tmp 1, .tmp 2, .tmp 3])
 (.goto 4 [.tmp 0, .tmp 1, .tmp 2, .tmp 3]))
 (.goto 4 [.tmp 0, .tmp 1, .tmp 2, .tmp 3]))
 l_slices_partitionOrdered_uint32_k4
def l_slices_partitionOrdered_uint32_k6 : L :=
 o (.bin .sub (.tmp 3) (.const (.int .i64 1))) <|
 .goto 6 [.tmp 0, .tmp 1, .tmp 2, .tmp 4]
def l_slices_partitionOrdered_uint32_k7 : L :=
 .join 7
 (o (.bin .leq (.tmp 2) (.tmp 3)) <|
 .ite (.tmp 4)
 (o (.iaddr 1 (.tmp 0) (.tmp 3)) <|
 o (.load false 1 (.tmp 5)) <|
 o (.iaddr 1 (.tmp 0) (.tmp 1)) <|
 o (.load false 1 (.tmp 7)) <|
 om .pure (.call F_cmp_Less_uint32 [.tmp 6, .tmp 8]) <|
 o (.un .not (.tmp 9)) <|
 .ite (.tmp 10)
 (.goto 7 [.tmp 0, .tmp 1, .tmp 2, .tmp 3])
 (.goto 5 [.tmp 0, .tmp 1, .tmp 2, .tmp 3]))
 (.goto 5 [.tmp 0, .tmp 1, .tmp 2, .tmp 3]))
 l_slices_partitionOrdered_uint32_k6
def l_slices_partitionOrdered_uint32_k8 : L :=
 o (.bin .gtr (.tmp 2) (.tmp 3)) <|
 .ite (.tmp 4)
 (.goto 2 [.tmp 0, .tmp 1, .tmp 3])
 (o (.iaddr 1 (.tmp 0) (.tmp 3)) <|
 o (.load false 1 (.tmp 5)) <|
 o (.iaddr 1 (.tmp 0) (.tmp 2)) <|
 o (.load false 1 (.tmp 7)) <|
 o (.iaddr 1 (.tmp 0) (.tmp 2)) <|
 o (.store 1 (.tmp 9) (.tmp 6)) <|
 o (.iaddr 1 (.tmp 0) (.tmp 3)) <|
 o (.store 1 (.tmp 11) (.tmp 8)) <|
 o (.bin .add (.tmp 2) (.const (.int .i64 1))) <|
 o (.bin .sub (.tmp 3) (.const (.int .i64 1))) <|
 .goto 3 [.tmp 0, .tmp 1, .tmp 13, .tmp 14])
def l_slices_partitionOrdered_uint32_k9 : L :=
 .join 5
 (.loop 6 [(.tmp 0), (.tmp 1), (.tmp 2), (.tmp 3)] l_slices_partitionOrdered_uint32_k7)
 l_slices_partitionOrdered_uint32_k8
def l_slices_partitionOrdered_uint32_k10 : L :=
 .join 4
 (.loop 5 [(.tmp 0), (.tmp 1), (.tmp 2), (.tmp 3)] l_slices_partitionOrdered_uint32_k5)
 l_slices_partitionOrdered_uint32_k9
def l_slices_partitionOrdered_uint32_k11 : L :=
 o (.iaddr 1 (.tmp 0) (.tmp 1)) <|
 o (.load false 1 (.tmp 3)) <|
 o (.iaddr 1 (.tmp 0) (.tmp 2)) <|
 o (.load false 1 (.tmp 5)) <|
 o (.iaddr 1 (.tmp 0) (.tmp 2)) <|
 o (.store 1 (.tmp 7) (.tmp 4)) <|
 o (.iaddr 1 (.tmp 0) (.tmp 1)) <|
 o (.store 1 (.tmp 9) (.tmp 6)) <|
 .ret [(.tmp 2), (.const (.bool false))]
def l_slices_partitionOrdered_uint32_k12 : L :=
 o (.bin .gtr (.tmp 2) (.tmp 3)) <|
 .ite (.tmp 4)
 (o (.iaddr 1 (.tmp 0) (.tmp 1)) <|
 o (.load false 1 (.tmp 5)) <|
 o (.iaddr 1 (.tmp 0) (.tmp 3)) <|
 o (.load false 1 (.tmp 7)) <|
 o (.iaddr 1 (.tmp 0) (.tmp 3)) <|
 o (.store 1 (.tmp 9) (.tmp 6)) <|
 o (.iaddr 1 (.tmp 0) (.tmp 1)) <|
 o (.store 1 (.tmp 11) (.tmp 8)) <|
 .ret [(.tmp 3), (.const (.bool true))])
 (o (.iaddr 1 (.tmp 0) (.tmp 3)) <|
 o (.load false 1 (.tmp 5)) <|
 o (.iaddr 1 (.tmp 0) (.tmp 2)) <|
 o (.load false 1 (.tmp 7)) <|
 o (.iaddr 1 (.tmp 0) (.tmp 2)) <|
 o (.store 1 (.tmp 9) (.tmp 6)) <|
 o (.iaddr 1 (.tmp 0) (.tmp 3)) <|
 o (.store 1 (.tmp 11) (.tmp 8)) <|
 o (.bin .add (.tmp 2) (.const (.int .i64 1))) <|
 o (.bin .sub (.tmp 3) (.const (.int .i64 1))) <|
 .join 2
 (.loop 3 [(.tmp 0), (.tmp 1), (.tmp 13), (.tmp 14)] l_slices_partitionOrdered_uint32_k10)
 l_slices_partitionOrdered_uint32_k11)
def l_slices_partitionOrdered_uint32_k13 : L :=
 .join 1
 (.loop 2 [(.tmp 0), (.tmp 1), (.tmp 2), (.tmp 3)] l_slices_partitionOrdered_uint32_k3)
 l_slices_partitionOrdered_uint32_k12
def l_slices_partitionOrdered_uint32 : LFn := ⟨4,
 o (.iaddr 1 (.tmp 0) (.tmp 3)) <|
 o (.load false 1 (.tmp 4)) <|
 o (.iaddr 1 (.tmp 0) (.tmp 1)) <|
 o (.load false 1 (.tmp 6)) <|
 o (.iaddr 1 (.tmp 0) (.tmp 1)) <|
 o (.store 1 (.tmp 8) (.tmp 5)) <|
 o (.iaddr 1 (.tmp 0) (.tmp 3)) <|
 o (.store 1 (.tmp 10) (.tmp 7)) <|
 o (.bin .add (.tmp 1) (.const (.int .i64 1))) <|
 o (.bin .sub (.tmp 2) (.const (.int .i64 1))) <|
 .join 0
 (.loop 1 [(.tmp 0), (.tmp 1), (.tmp 12), (.tmp 13)] l_slices_partitionOrdered_uint32_k1)
 l_slices_partitionOrdered_uint32_k13⟩
def l_math_bits_Len64_k0 : L :=
 o (.conv .u8 (.tmp 0)) <|
 o (.sidx (.const (.string ⟨#[0, 1, 2, 2, 3, 3, 3, 3, 4, 4, 4, 4, 4, 4, 4, 4, 5, 5, 5, 5, 5, 5, 5, 5, 5, 5, 5, 5, 5, 5, 5, 5, 6, 6, 6, 6, 6, 6, 6, 6, 6, 6, 6, 6, 6, 6, 6, 6, 6, 6, 6, 6, 6, 6, 6, 6, 6, 6, 6, 6, 6, 6, 6, 6, 7, 7, 7, 7, 7, 7, 7, 7, 7, 7, 7, 7, 7, 7, 7, 7, 7, 7, 7, 7, 7, 7, 7, 7, 7, 7, 7, 7, 7, 7, 7, 7, 7, 7, 7, 7, 7, 7, 7, 7, 7, 7, 7, 7, 7, 7, 7, 7, 7, 7, 7, 7, 7, 7, 7, 7, 7, 7, 7, 7, 7, 7, 7, 7, 8, 8, 8, 8, 8, 8, 8, 8, 8, 8, 8, 8, 8, 8, 8, 8, 8, 8, 8, 8, 8, 8, 8, 8, 8, 8, 8, 8, 8, 8, 8, 8, 8, 8, 8, 8, 8, 8, 8, 8, 8, 8, 8, 8, 8, 8, 8, 8, 8, 8, 8, 8, 8, 8, 8, 8, 8, 8, 8, 8, 8, 8, 8, 8, 8, 8, 8, 8, 8, 8, 8, 8, 8, 8, 8, 8, 8, 8, 8, 8, 8, 8, 8, 8, 8, 8, 8, 8, 8, 8, 8, 8, 8, 8, 8, 8, 8, 8, 8, 8, 8, 8, 8, 8, 8, 8, 8, 8, 8, 8, 8, 8, 8, 8, 8, 8, 8, 8, 8, 8, 8, 8, 8, 8, 8, 8, 8, 8]⟩)) (.tmp 2)) <|
 o (.conv .i64 (.tmp 3)) <|
 o (.bin .add (.tmp 1) (.tmp 4)) <|
 .ret [(.tmp 5)]
def l_math_bits_Len64_k1 : L :=
 .join 2
 (o (.bin .geq (.tmp 0) (.const (.int .u64 256))) <|
 .ite (.tmp 2)
 (o (.bin .shr (.tmp 0) (.const (.int .u64 8))) <|
 o (.bin .add (.tmp 1) (.const (.int .i64 8))) <|
 .goto 2 [.tmp 3, .tmp 4])
 (.goto 2 [.tmp 0, .tmp 1]))
 l_math_bits_Len64_k0
def l_math_bits_Len64_k2 : L :=
 .join 1
 (o (.bin .geq (.tmp 0) (.const (.int .u64 65536))) <|
 .ite (.tmp 2)
 (o (.bin .shr (.tmp 0) (.const (.int .u64 16))) <|
 o (.bin .add (.tmp 1) (.const (.int .i64 16))) <|
 .goto 1 [.tmp 3, .tmp 4])
 (.goto 1 [.tmp 0, .tmp 1]))
 l_math_bits_Len64_k1
def l_math_bits_Len64 : LFn := ⟨1,
 .join 0
 (o (.bin .geq (.tmp 0) (.const (.int .u64 4294967296))) <|
 .ite (.tmp 1)
 (o (.bin .shr (.tmp 0) (.const (.int .u64 32))) <|
 .goto 0 [.tmp 2, (.const (.int .i64 32))])
 (.goto 0 [.tmp 0, (.const (.int .i64 0))]))
 l_math_bits_Len64_k2⟩
def l_code_register : LFn := ⟨2,
 o (.bin .eql (.tmp 1) (.const (.int .u8 0))) <|
 .ite (.tmp 2)
 (.ret [(.const (.bool true))])
 (.ite (.tmp 0)
 (o (.bin .lss (.tmp 1) (.const (.int .u8 8))) <|
 .ret [(.tmp 3)])
 (.ret [(.const (.bool false))]))⟩
def l_board_Board_At : LFn := ⟨2,
 o (.box 36 (.tmp 0)) <|
 o (.new 33) <|
 o (.load true 97 (.tmp 2)) <|
 om .pure (.call F_board_Board_there [.tmp 4, .tmp 1]) <|
 o (.un .not (.tmp 5)) <|
 .ite (.tmp 6)
 (o (.build 33 []) <|
 o (.store 2 (.tmp 3) (.tmp 7)) <|
 o (.load true 2 (.tmp 3)) <|
 .ret [(.tmp 9), (.const (.bool false))])
 (o (.faddr 0 (.tmp 2)) <|
 o (.iaddrA 48 2 (.tmp 7) (.tmp 1)) <|
 o (.load true 2 (.tmp 8)) <|
 o (.store 2 (.tmp 3) (.tmp 9)) <|
 o (.load true 2 (.tmp 3)) <|
 .ret [(.tmp 11), (.const (.bool true))])⟩
def l_mask_Mask_With_k0 : L :=
 o (.bin .lss (.tmp 3) (.tmp 2)) <|
 .ite (.tmp 4)
 (o (.iaddr 1 (.tmp 1) (.tmp 3)) <|
 o (.load false 1 (.tmp 5)) <|
 om .pure (.call F_mask_one [.tmp 6]) <|
 o (.bin .or (.tmp 0) (.tmp 7)) <|
 o (.bin .add (.tmp 3) (.const (.int .i64 1))) <|
 .goto 1 [.tmp 8, .tmp 1, .tmp 2, .tmp 9])
 (.goto 0 [.tmp 0])
def l_mask_Mask_With_k1 : L :=
 .ret [(.tmp 0)]
def l_mask_Mask_With : LFn := ⟨2,
 .join 0
 (o (.len false (.tmp 1)) <|
 .loop 1 [(.tmp 0), (.tmp 1), (.tmp 2), (.const (.int .i64 0))] l_mask_Mask_With_k0)
 l_mask_Mask_With_k1⟩
def l_dice_Dice_Next : LFn := ⟨1,
 o (.box 43 (.tmp 0)) <|
 o (.new 43) <|
 o (.faddr 0 (.tmp 1)) <|
 o (.load false 1 (.tmp 3)) <|
 o (.bin .add (.tmp 4) (.const (.int .u64 11400714819323198485))) <|
 o (.faddr 0 (.tmp 1)) <|
 o (.store 1 (.tmp 6) (.tmp 5)) <|
 o (.faddr 0 (.tmp 1)) <|
 o (.load false 1 (.tmp 8)) <|
 o (.load true 1 (.tmp 1)) <|
 oc none (.call F_dice_mixed [.tmp 9]) .pure [(none, .load true 1 (.tmp 1))] <|
 o (.bin .shr (.tmp 11) (.const (.int .u64 32))) <|
 o (.conv .u32 (.tmp 12)) <|
 o (.store 1 (.tmp 2) (.tmp 10)) <|
 o (.load true 1 (.tmp 2)) <|
 .ret [(.tmp 13), (.tmp 15)]⟩
def l_vm_machine_index : LFn := ⟨2,
 o (.box 80 (.tmp 1)) <|
 o (.faddr 4 (.tmp 2)) <|
 o (.load false 1 (.tmp 3)) <|
 o (.conv .i64 (.tmp 4)) <|
 o (.faddr 2 (.tmp 2)) <|
 o (.load false 1 (.tmp 6)) <|
 o (.nilck (.tmp 0)) <|
 o (.faddr 102 (.tmp 8)) <|
 o (.iaddrA 8 2 (.tmp 9) (.tmp 7)) <|
 o (.faddr 0 (.tmp 10)) <|
 o (.load false 1 (.tmp 11)) <|
 o (.conv .i64 (.tmp 12)) <|
 o (.bin .add (.tmp 5) (.tmp 13)) <|
 o (.faddr 2 (.tmp 2)) <|
 o (.load false 1 (.tmp 15)) <|
 o (.call F_vm_machine_open [.tmp 0, .tmp 16]) <|
 o (.un .not (.tmp 17)) <|
 .ite (.tmp 18)
 (o (.call F_vm_machine_fail [.tmp 0, (.const (.int .i64 8))]) <|
 .ret [(.const (.int .i64 0)), (.const (.bool false))])
 (o (.bin .lss (.tmp 14) (.const (.int .i64 0))) <|
 .ite (.tmp 19)
 (o (.call F_vm_machine_fail [.tmp 0, (.const (.int .i64 7))]) <|
 .ret [(.const (.int .i64 0)), (.const (.bool false))])
 (o (.nilck (.tmp 0)) <|
 o (.faddr 0 (.tmp 20)) <|
 o (.faddr 0 (.tmp 21)) <|
 o (.load true 97 (.tmp 22)) <|
 om .pure (.call F_board_Board_Len [.tmp 23]) <|
 o (.bin .geq (.tmp 14) (.tmp 24)) <|
 .ite (.tmp 25)
 (o (.call F_vm_machine_fail [.tmp 0, (.const (.int .i64 7))]) <|
 .ret [(.const (.int .i64 0)), (.const (.bool false))])
 (.ret [(.tmp 14), (.const (.bool true))])))⟩
def l_vm_machine_reveal : LFn := ⟨2,
 o (.box 80 (.tmp 1)) <|
 o (.load true 6 (.tmp 2)) <|
 o (.call F_vm_machine_index [.tmp 0, .tmp 3]) <|
 o (.ext (.tmp 4) 0) <|
 o (.ext (.tmp 4) 1) <|
 o (.un .not (.tmp 6)) <|
 .ite (.tmp 7)
 (.ret [])
 (o (.nilck (.tmp 0)) <|
 o (.faddr 0 (.tmp 8)) <|
 o (.faddr 0 (.tmp 9)) <|
 o (.load true 97 (.tmp 10)) <|
 om .pure (.call F_board_Board_At [.tmp 11, .tmp 5]) <|
 o (.ext (.tmp 12) 0) <|
 o (.ext (.tmp 12) 1) <|
 o (.new 33) <|
 o (.store 2 (.tmp 15) (.tmp 13)) <|
 o (.faddr 5 (.tmp 2)) <|
 o (.load false 1 (.tmp 17)) <|
 o (.nilck (.tmp 0)) <|
 o (.faddr 121 (.tmp 19)) <|
 o (.load false 1 (.tmp 20)) <|
 o (.bslice 31 1 [(0, 1, (.tmp 21))]) <|
 o (.faddr 1 (.tmp 15)) <|
 o (.load false 1 (.tmp 23)) <|
 oc none (.call F_mask_Mask_Meet [.tmp 18, .tmp 22]) .pure [(none, .load false 1 (.tmp 23))] <|
 om .pure (.call F_mask_Mask_Less [.tmp 25, .tmp 24]) <|
 o (.nilck (.tmp 0)) <|
 o (.faddr 0 (.tmp 27)) <|
 o (.faddr 0 (.tmp 28)) <|
 o (.load true 97 (.tmp 29)) <|
 om .pure (.call F_board_Board_Show [.tmp 30, .tmp 5, .tmp 26]) <|
 o (.ext (.tmp 31) 0) <|
 o (.ext (.tmp 31) 1) <|
 o (.ext (.tmp 31) 2) <|
 o (.nilck (.tmp 0)) <|
 o (.faddr 0 (.tmp 35)) <|
 o (.faddr 0 (.tmp 36)) <|
 o (.store 97 (.tmp 37) (.tmp 32)) <|
 o (.nilck (.tmp 0)) <|
 o (.faddr 0 (.tmp 39)) <|
 o (.faddr 98 (.tmp 40)) <|
 o (.load false 1 (.tmp 41)) <|
 o (.bin .shl (.const (.int .u64 1)) (.tmp 5)) <|
 o (.bin .or (.tmp 42) (.tmp 43)) <|
 o (.nilck (.tmp 0)) <|
 o (.faddr 0 (.tmp 45)) <|
 o (.faddr 98 (.tmp 46)) <|
 o (.store 1 (.tmp 47) (.tmp 44)) <|
 o (.bin .neq (.tmp 26) (.const (.int .u32 0))) <|
 .ite (.tmp 49)
 (o (.nilck (.tmp 0)) <|
 o (.faddr 0 (.tmp 50)) <|
 o (.faddr 99 (.tmp 51)) <|
 o (.load false 1 (.tmp 52)) <|
 o (.faddr 0 (.tmp 15)) <|
 o (.load false 1 (.tmp 54)) <|
 o (.build 70 [(0, 1, (.tmp 5)), (1, 1, (.tmp 26)), (2, 1, (.tmp 55))]) <|
 o (.bslice 70 1 [(0, 3, (.tmp 56))]) <|
 o (.append 3 16 (.tmp 53) (.tmp 57)) <|
 o (.nilck (.tmp 0)) <|
 o (.faddr 0 (.tmp 59)) <|
 o (.faddr 99 (.tmp 60)) <|
 o (.store 1 (.tmp 61) (.tmp 58)) <|
 .ret [])
 (.ret []))⟩
def l_vm_machine_shuffle_k0 : L :=
 o (.bin .add (.tmp 1) (.tmp 2)) <|
 o (.bin .lss (.tmp 4) (.tmp 5)) <|
 .ite (.tmp 6)
 (o (.nilck (.tmp 0)) <|
 o (.faddr 0 (.tmp 7)) <|
 o (.faddr 0 (.tmp 8)) <|
 o (.load true 97 (.tmp 9)) <|
 om .pure (.call F_board_Board_At [.tmp 10, .tmp 4]) <|
 o (.ext (.tmp 11) 0) <|
 o (.ext (.tmp 11) 1) <|
 o (.new 33) <|
 o (.store 2 (.tmp 14) (.tmp 12)) <|
 o (.faddr 0 (.tmp 14)) <|
 o (.load false 1 (.tmp 16)) <|
 o (.bslice 21 1 [(0, 1, (.tmp 17))]) <|
 o (.append 1 4 (.tmp 3) (.tmp 18)) <|
 o (.bin .add (.tmp 4) (.const (.int .i64 1))) <|
 .goto 1 [.tmp 0, .tmp 1, .tmp 2, .tmp 19, .tmp 20])
 (.goto 0 [.tmp 0, .tmp 1, .tmp 3])
def l_vm_machine_shuffle_k1 : L :=
 o (.bin .lss (.tmp 4) (.tmp 3)) <|
 .ite (.tmp 5)
 (o (.iaddr 1 (.tmp 2) (.tmp 4)) <|
 o (.load false 1 (.tmp 6)) <|
 o (.bin .add (.tmp 1) (.tmp 4)) <|
 o (.build 33 [(0, 1, (.tmp 7))]) <|
 o (.call F_vm_machine_store [.tmp 0, .tmp 8, .tmp 9]) <|
 o (.bin .add (.tmp 4) (.const (.int .i64 1))) <|
 .goto 1 [.tmp 0, .tmp 1, .tmp 2, .tmp 3, .tmp 11])
 (.ret [])
def l_vm_machine_shuffle_k2 : L :=
 o (.nilck (.tmp 0)) <|
 o (.faddr 0 (.tmp 3)) <|
 o (.faddr 97 (.tmp 4)) <|
 o (.load true 1 (.tmp 5)) <|
 om .pure (.call F_dice_Dice_Shuffle [.tmp 6, .tmp 2]) <|
 o (.ext (.tmp 7) 0) <|
 o (.ext (.tmp 7) 1) <|
 o (.nilck (.tmp 0)) <|
 o (.faddr 0 (.tmp 10)) <|
 o (.faddr 97 (.tmp 11)) <|
 o (.store 1 (.tmp 12) (.tmp 9)) <|
 o (.len false (.tmp 8)) <|
 .loop 1 [(.tmp 0), (.tmp 1), (.tmp 8), (.tmp 14), (.const (.int .i64 0))] l_vm_machine_shuffle_k1
def l_vm_machine_shuffle : LFn := ⟨3,
 .join 0
 (.loop 1 [(.tmp 0), (.tmp 1), (.tmp 2), (.const (.slice none 0 0)), (.tmp 1)] l_vm_machine_shuffle_k0)
 l_vm_machine_shuffle_k2⟩
def l_slices_siftDownOrdered_uint32_k0 : L :=
 o (.bin .add (.tmp 2) (.tmp 3)) <|
 o (.iaddr 1 (.tmp 0) (.tmp 5)) <|
 o (.load false 1 (.tmp 6)) <|
 o (.bin .add (.tmp 2) (.tmp 4)) <|
 o (.iaddr 1 (.tmp 0) (.tmp 8)) <|
 o (.load false 1 (.tmp 9)) <|
 om .pure (.call F_cmp_Less_uint32 [.tmp 7, .tmp 10]) <|
 o (.un .not (.tmp 11)) <|
 .ite (.tmp 12)
 (.ret [])
 (o (.bin .add (.tmp 2) (.tmp 3)) <|
 o (.bin .add (.tmp 2) (.tmp 4)) <|
 o (.bin .add (.tmp 2) (.tmp 4)) <|
 o (.iaddr 1 (.tmp 0) (.tmp 15)) <|
 o (.load false 1 (.tmp 16)) <|
 o (.bin .add (.tmp 2) (.tmp 3)) <|
 o (.iaddr 1 (.tmp 0) (.tmp 18)) <|
 o (.load false 1 (.tmp 19)) <|
 o (.iaddr 1 (.tmp 0) (.tmp 13)) <|
 o (.store 1 (.tmp 21) (.tmp 17)) <|
 o (.iaddr 1 (.tmp 0) (.tmp 14)) <|
 o (.store 1 (.tmp 23) (.tmp 20)) <|
 .goto 0 [.tmp 0, .tmp 1, .tmp 2, .tmp 4])
def l_slices_siftDownOrdered_uint32_k1 : L :=
 o (.bin .mul (.const (.int .i64 2)) (.tmp 3)) <|
 o (.bin .add (.tmp 4) (.const (.int .i64 1))) <|
 o (.bin .geq (.tmp 5) (.tmp 1)) <|
 .ite (.tmp 6)
 (.ret [])
 (.join 1
 (o (.bin .add (.tmp 5) (.const (.int .i64 1))) <|
 o (.bin .lss (.tmp 7) (.tmp 1)) <|
 .ite (.tmp 8)
 (o (.bin .add (.tmp 2) (.tmp 5)) <|
 o (.iaddr 1 (.tmp 0) (.tmp 9)) <|
 o (.load false 1 (.tmp 10)) <|
 o (.bin .add (.tmp 2) (.tmp 5)) <|
 o (.bin .add (.tmp 12) (.const (.int .i64 1))) <|
 o (.iaddr 1 (.tmp 0) (.tmp 13)) <|
 o (.load false 1 (.tmp 14)) <|
 om .pure (.call F_cmp_Less_uint32 [.tmp 11, .tmp 15]) <|
 .ite (.tmp 16)
 (o (.bin .add (.tmp 5) (.const (.int .i64 1))) <|
 .goto 1 [.tmp 0, .tmp 1, .tmp 2, .tmp 3, .tmp 17])
 (.goto 1 [.tmp 0, .tmp 1, .tmp 2, .tmp 3, .tmp 5]))
 (.goto 1 [.tmp 0, .tmp 1, .tmp 2, .tmp 3, .tmp 5]))
 l_slices_siftDownOrdered_uint32_k0)
def l_slices_siftDownOrdered_uint32 : LFn := ⟨4,
 .loop 0 [(.tmp 0), (.tmp 2), (.tmp 3), (.tmp 1)] l_slices_siftDownOrdered_uint32_k1⟩
def l_slices_nextPowerOfTwo : LFn := ⟨1,
 o (.conv .u64 (.tmp 0)) <|
 om .pure (.call F_math_bits_Len [.tmp 1]) <|
 o (.bin .shl (.const (.int .u64 1)) (.tmp 2)) <|
 .ret [(.tmp 3)]⟩
def l_slices_xorshift_Next : LFn := ⟨1,
 o (.nilck (.tmp 0)) <|
 o (.load false 1 (.tmp 1)) <|
 o (.nilck (.tmp 0)) <|
 o (.load false 1 (.tmp 3)) <|
 o (.bin .shl (.tmp 4) (.const (.int .u64 13))) <|
 o (.bin .xor (.tmp 2) (.tmp 5)) <|
 o (.nilck (.tmp 0)) <|
 o (.store 1 (.tmp 7) (.tmp 6)) <|
 o (.nilck (.tmp 0)) <|
 o (.load false 1 (.tmp 9)) <|
 o (.nilck (.tmp 0)) <|
 o (.load false 1 (.tmp 11)) <|
 o (.bin .shr (.tmp 12) (.const (.int .u64 7))) <|
 o (.bin .xor (.tmp 10) (.tmp 13)) <|
 o (.nilck (.tmp 0)) <|
 o (.store 1 (.tmp 15) (.tmp 14)) <|
 o (.nilck (.tmp 0)) <|
 o (.load false 1 (.tmp 17)) <|
 o (.nilck (.tmp 0)) <|
 o (.load false 1 (.tmp 19)) <|
 o (.bin .shl (.tmp 20) (.const (.int .u64 17))) <|
 o (.bin .xor (.tmp 18) (.tmp 21)) <|
 o (.nilck (.tmp 0)) <|
 o (.store 1 (.tmp 23) (.tmp 22)) <|
 o (.nilck (.tmp 0)) <|
 o (.load false 1 (.tmp 25)) <|
 .ret [(.tmp 26)]⟩
def l_slices_medianAdjacentOrdered_uint32 : LFn := ⟨3,
 o (.bin .sub (.tmp 1) (.const (.int .i64 1))) <|
 o (.bin .add (.tmp 1) (.const (.int .i64 1))) <|
 o (.call F_slices_medianOrdered_uint32 [.tmp 0, .tmp 3, .tmp 1, .tmp 4, .tmp 2]) <|
 .ret [(.tmp 5)]⟩
def l_slices_medianOrdered_uint32 : LFn := ⟨5,
 o (.call F_slices_order2Ordered_uint32 [.tmp 0, .tmp 1, .tmp 2, .tmp 4]) <|
 o (.ext (.tmp 5) 0) <|
 o (.ext (.tmp 5) 1) <|
 o (.call F_slices_order2Ordered_uint32 [.tmp 0, .tmp 7, .tmp 3, .tmp 4]) <|
 o (.ext (.tmp 8) 0) <|
 o (.ext (.tmp 8) 1) <|
 o (.call F_slices_order2Ordered_uint32 [.tmp 0, .tmp 6, .tmp 9, .tmp 4]) <|
 o (.ext (.tmp 11) 0) <|
 o (.ext (.tmp 11) 1) <|
 .ret [(.tmp 13)]⟩
def l_cmp_isNaN_uint32 : LFn := ⟨1,
 o (.bin .neq (.tmp 0) (.tmp 0)) <|
 .ret [(.tmp 1)]⟩
def l_dice_mixed : LFn := ⟨1,
 o (.bin .shr (.tmp 0) (.const (.int .u64 30))) <|
 o (.bin .xor (.tmp 0) (.tmp 1)) <|
 o (.bin .mul (.tmp 2) (.const (.int .u64 13787848793156543929))) <|
 o (.bin .shr (.tmp 3) (.const (.int .u64 27))) <|
 o (.bin .xor (.tmp 3) (.tmp 4)) <|
 o (.bin .mul (.tmp 5) (.const (.int .u64 10723151780598845931))) <|
 o (.bin .shr (.tmp 6) (.const (.int .u64 31))) <|
 o (.bin .xor (.tmp 6) (.tmp 7)) <|
 .ret [(.tmp 8)]⟩
def l_mask_Mask_Less : LFn := ⟨2,
 o (.bin .andNot (.tmp 0) (.tmp 1)) <|
 .ret [(.tmp 2)]⟩
def l_board_Board_Show : LFn := ⟨3,
 o (.box 36 (.tmp 0)) <|
 o (.new 36) <|
 o (.load true 97 (.tmp 3)) <|
 om .pure (.call F_board_Board_there [.tmp 5, .tmp 1]) <|
 o (.un .not (.tmp 6)) <|
 .ite (.tmp 7)
 (o (.load true 97 (.tmp 3)) <|
 o (.store 97 (.tmp 4) (.tmp 8)) <|
 o (.load true 97 (.tmp 4)) <|
 .ret [(.tmp 10), (.const (.bool false)), (.const (.int .i64 7))])
 (o (.faddr 0 (.tmp 3)) <|
 o (.iaddrA 48 2 (.tmp 8) (.tmp 1)) <|
 o (.faddr 1 (.tmp 9)) <|
 o (.load false 1 (.tmp 10)) <|
 om .pure (.call F_mask_Mask_Within [.tmp 2, .tmp 11]) <|
 o (.un .not (.tmp 12)) <|
 o (.faddr 0 (.tmp 3)) <|
 o (.iaddrA 48 2 (.tmp 14) (.tmp 1)) <|
 o (.faddr 1 (.tmp 15)) <|
 o (.load false 1 (.tmp 16)) <|
 o (.bslice 31 1 [(0, 1, (.tmp 2))]) <|
 om .pure (.call F_mask_Mask_Join [.tmp 17, .tmp 18]) <|
 o (.faddr 0 (.tmp 3)) <|
 o (.iaddrA 48 2 (.tmp 20) (.tmp 1)) <|
 o (.faddr 1 (.tmp 21)) <|
 o (.store 1 (.tmp 22) (.tmp 19)) <|
 o (.load true 97 (.tmp 3)) <|
 o (.store 97 (.tmp 4) (.tmp 24)) <|
 o (.load true 97 (.tmp 4)) <|
 .ret [(.tmp 26), (.tmp 13), (.const (.int .i64 0))])⟩
def l_dice_Dice_Shuffle_k0 : L :=
 o (.bin .gtr (.tmp 3) (.const (.int .i64 0))) <|
 .ite (.tmp 4)
 (o (.load true 1 (.tmp 0)) <|
 o (.bin .add (.tmp 3) (.const (.int .i64 1))) <|
 o (.conv .u32 (.tmp 6)) <|
 om .pure (.call F_dice_Dice_Below [.tmp 5, .tmp 7]) <|
 o (.ext (.tmp 8) 0) <|
 o (.ext (.tmp 8) 1) <|
 o (.store 1 (.tmp 0) (.tmp 10)) <|
 o (.iaddr 1 (.tmp 2) (.tmp 9)) <|
 o (.load false 1 (.tmp 12)) <|
 o (.iaddr 1 (.tmp 2) (.tmp 3)) <|
 o (.load false 1 (.tmp 14)) <|
 o (.iaddr 1 (.tmp 2) (.tmp 3)) <|
 o (.store 1 (.tmp 16) (.tmp 13)) <|
 o (.iaddr 1 (.tmp 2) (.tmp 9)) <|
 o (.store 1 (.tmp 18) (.tmp 15)) <|
 o (.bin .sub (.tmp 3) (.const (.int .i64 1))) <|
 .goto 1 [.tmp 0, .tmp 1, .tmp 2, .tmp 20])
 (.goto 0 [.tmp 0, .tmp 1, .tmp 2])
def l_dice_Dice_Shuffle_k1 : L :=
 o (.load true 1 (.tmp 0)) <|
 o (.store 1 (.tmp 1) (.tmp 3)) <|
 o (.load true 1 (.tmp 1)) <|
 .ret [(.tmp 2), (.tmp 5)]
def l_dice_Dice_Shuffle : LFn := ⟨2,
 o (.box 43 (.tmp 0)) <|
 o (.new 43) <|
 o (.call F_slices_Clone_Lint32_int32 [.tmp 1]) <|
 .join 0
 (o (.len false (.tmp 4)) <|
 o (.bin .sub (.tmp 5) (.const (.int .i64 1))) <|
 .loop 1 [(.tmp 2), (.tmp 3), (.tmp 4), (.tmp 6)] l_dice_Dice_Shuffle_k0)
 l_dice_Dice_Shuffle_k1⟩
def l_slices_order2Ordered_uint32 : LFn := ⟨4,
 o (.iaddr 1 (.tmp 0) (.tmp 2)) <|
 o (.load false 1 (.tmp 4)) <|
 o (.iaddr 1 (.tmp 0) (.tmp 1)) <|
 o (.load false 1 (.tmp 6)) <|
 om .pure (.call F_cmp_Less_uint32 [.tmp 5, .tmp 7]) <|
 .ite (.tmp 8)
 (o (.nilck (.tmp 3)) <|
 o (.load false 1 (.tmp 9)) <|
 o (.bin .add (.tmp 10) (.const (.int .i64 1))) <|
 o (.nilck (.tmp 3)) <|
 o (.store 1 (.tmp 12) (.tmp 11)) <|
 .ret [(.tmp 2), (.tmp 1)])
 (.ret [(.tmp 1), (.tmp 2)])⟩
def l_mask_Mask_Join_k0 : L :=
 o (.bin .lss (.tmp 3) (.tmp 2)) <|
 .ite (.tmp 4)
 (o (.iaddr 1 (.tmp 1) (.tmp 3)) <|
 o (.load false 1 (.tmp 5)) <|
 o (.bin .or (.tmp 0) (.tmp 6)) <|
 o (.bin .add (.tmp 3) (.const (.int .i64 1))) <|
 .goto 1 [.tmp 7, .tmp 1, .tmp 2, .tmp 8])
 (.goto 0 [.tmp 0])
def l_mask_Mask_Join_k1 : L :=
 .ret [(.tmp 0)]
def l_mask_Mask_Join : LFn := ⟨2,
 .join 0
 (o (.len false (.tmp 1)) <|
 .loop 1 [(.tmp 0), (.tmp 1), (.tmp 2), (.const (.int .i64 0))] l_mask_Mask_Join_k0)
 l_mask_Mask_Join_k1⟩
def l_slices_Clone_Lint32_int32 : LFn := ⟨1,
 o (.eqNil false .slc (.tmp 0)) <|
 .ite (.tmp 1)
 (.ret [(.const (.slice none 0 0))])
 (o (.bslice 21 0 []) <|
 o (.append 1 4 (.tmp 2) (.tmp 0)) <|
 .ret [(.tmp 3)])⟩
def mdT : FuncId → FuncId → Md := mdOf 552362891396505148125884733432 [(33, 46), (46, 55), (55, 68), (55, 69), (55, 70), (55, 71), (55, 72), (55, 73), (55, 75), (55, 76), (55, 55), (69, 86), (95, 98)]
def zcT : TypeId → Option (List Value)
 | 3 => some [(.int .i64 0)]
 | 21 => some [(.int .i32 0)]
 | 22 => some [(.int .u32 0)]
 | 26 => some [(.int .i64 0), (.int .i64 0), (.int .u32 0), (.int .u32 0), (.slice none 0 0), (.slice none 0 0)]
 | 31 => some [(.int .u32 0)]
 | 33 => some [(.int .i32 0), (.int .u32 0)]
 | 36 => some ((reps 48 [(.int .i32 0), (.int .u32 0)]) ++ [(.int .i64 0)])
 | 43 => some [(.int .u64 0)]
 | 45 => some ((reps 48 [(.int .i32 0), (.int .u32 0)]) ++ [(.int .i64 0), (.int .u64 0), (.int .u32 0)])
 | 66 => some [(.int .u64 0), (.slice none 0 0), (.int .i64 0)]
 | 70 => some [(.int .i64 0), (.int .u32 0), (.int .i32 0)]
 | 80 => some [(.int .u8 0), (.int .u8 0), (.int .u8 0), (.int .u8 0), (.int .i32 0), (.int .u32 0)]
 | 83 => some ([(.int .i64 0), (.int .i64 0), (.int .u32 0), (.int .u32 0), (.slice none 0 0), (.slice none 0 0), (.int .i64 0)] ++ ((reps 48 [(.int .i32 0), (.int .u32 0)]) ++ [(.int .i64 0), (.int .u64 0), (.int .u32 0), (.map none), (.slice none 0 0), (.int .i64 0)]))
 | 97 => some ((reps 48 [(.int .i32 0), (.int .u32 0)]) ++ [(.int .i64 0), (.int .u64 0), (.int .u64 0), (.slice none 0 0), (.int .i64 0), (.int .i64 0)])
 | 106 => some [(.int .i32 0), (.int .u32 0)]
 | 109 => some ((reps 48 [(.int .i32 0), (.int .u32 0)]) ++ ([(.int .i64 0), (.int .u64 0), (.int .u64 0), (.slice none 0 0), (.int .i64 0), (.int .i64 0)] ++ ((reps 8 [(.int .i32 0), (.int .u32 0)]) ++ [(.int .i64 0), (.slice none 0 0), (.int .u32 0), (.int .u32 0), .nilFunc])))
 | 117 => some [(.bool false), (.bool false), (.bool false), (.int .u8 0), (.bool false)]
 | 118 => some [(.bool false), (.bool false), (.bool false), (.int .u8 0), (.bool false), (.bool false), (.bool false), (.bool false), (.int .u8 0), (.bool false), (.bool false), (.bool false), (.bool false), (.int .u8 0), (.bool false), (.bool false), (.bool false), (.bool false), (.int .u8 0), (.bool false), (.bool false), (.bool false), (.bool false), (.int .u8 0), (.bool false), (.bool false), (.bool false), (.bool false), (.int .u8 0), (.bool false), (.bool false), (.bool false), (.bool false), (.int .u8 0), (.bool false), (.bool false), (.bool false), (.bool false), (.int .u8 0), (.bool false), (.bool false), (.bool false), (.bool false), (.int .u8 0), (.bool false), (.bool false), (.bool false), (.bool false), (.int .u8 0), (.bool false), (.bool false), (.bool false), (.bool false), (.int .u8 0), (.bool false), (.bool false), (.bool false), (.bool false), (.int .u8 0), (.bool false), (.bool false), (.bool false), (.bool false), (.int .u8 0), (.bool false), (.bool false), (.bool false), (.bool false), (.int .u8 0), (.bool false), (.bool false), (.bool false), (.bool false), (.int .u8 0), (.bool false), (.bool false), (.bool false), (.bool false), (.int .u8 0), (.bool false), (.bool false), (.bool false), (.bool false), (.int .u8 0), (.bool false), (.bool false), (.bool false), (.bool false), (.int .u8 0), (.bool false), (.bool false), (.bool false), (.bool false), (.int .u8 0), (.bool false), (.bool false), (.bool false), (.bool false), (.int .u8 0), (.bool false), (.bool false), (.bool false), (.bool false), (.int .u8 0), (.bool false), (.bool false), (.bool false), (.bool false), (.int .u8 0), (.bool false), (.bool false), (.bool false), (.bool false), (.int .u8 0), (.bool false), (.bool false), (.bool false), (.bool false), (.int .u8 0), (.bool false), (.bool false), (.bool false), (.bool false), (.int .u8 0), (.bool false), (.bool false), (.bool false), (.bool false), (.int .u8 0), (.bool false)]
 | 147 => some [(.int .u64 0)]
 | _ => none
def zvT : TypeId → Option Value
 | 22 => some (.int .u32 0)
 | _ => none
def coT : TypeId → Option Nat
 | 45 => some 99
 | _ => none
def fnL : List (FuncId × LFn) := [(8, l_law16_TrailMoves), (9, l_law16_awake), (10, l_law16_few), (11, l_trail_New), (12, l_board_New), (13, l_trail_Trail_Reset), (14, l_rules_Game_Legal), (15, l_trail_Trail_Add), (16, l_trail_Trail_Room), (17, l_trail_Trail_Pending), (18, l_trail_Trail_Last), (19, l_trail_Trail_Known), (20, l_trail_Trail_Shown), (21, l_rules_Game_Right), (22, l_rules_Game_Start), (23, l_rules_State_View), (24, l_rules_Game_Predict), (25, l_trail_Trail_Confirm), (27, l_rules_Game_Step), (28, l_mask_Mask_Has), (29, l_board_Board_Put), (30, l_slices_Equal_Luint32_uint32), (31, l_slices_Clone_Lboard_Cell_board_Cell), (32, l_slices_Clone_Lcode_Code_code_Code), (34, l_maps_Keys_map_uint32_uint32_uint32_uint32), (35, l_mask_Mask_Within), (36, l_rules_Game_All), (37, l_code_Right), (38, l_board_Board_View), (40, l_trail_Trail_Confirm_1), (41, l_vm_Run), (42, l_rules_Game_all), (43, l_mask_one), (44, l_board_Board_there), (46, l_slices_Sort_Luint32_uint32), (48, l_mask_All), (49, l_code_Check), (50, l_board_Board_Len), (51, l_vm_Compute), (52, l_vm_machine_fail), (53, l_vm_machine_follow), (55, l_slices_pdqsortOrdered_uint32), (56, l_math_bits_Len), (57, l_code_uses), (58, l_code_right), (59, l_vm_divided), (60, l_vm_one), (61, l_vm_machine_load), (62, l_vm_machine_store), (63, l_mask_Mask_Meet), (64, l_vm_machine_open), (65, l_mask_Of), (66, l_dice_Dice_Below), (67, l_vm_machine_reach), (68, l_slices_insertionSortOrdered_uint32), (69, l_slices_heapSortOrdered_uint32), (70, l_slices_breakPatternsOrdered_uint32), (71, l_slices_choosePivotOrdered_uint32), (72, l_slices_reverseRangeOrdered_uint32), (73, l_slices_partialInsertionSortOrdered_uint32), (74, l_cmp_Less_uint32), (75, l_slices_partitionEqualOrdered_uint32), (76, l_slices_partitionOrdered_uint32), (78, l_math_bits_Len64), (79, l_code_register), (80, l_board_Board_At), (81, l_mask_Mask_With), (82, l_dice_Dice_Next), (83, l_vm_machine_index), (84, l_vm_machine_reveal), (85, l_vm_machine_shuffle), (86, l_slices_siftDownOrdered_uint32), (87, l_slices_nextPowerOfTwo), (88, l_slices_xorshift_Next), (89, l_slices_medianAdjacentOrdered_uint32), (90, l_slices_medianOrdered_uint32), (91, l_cmp_isNaN_uint32), (92, l_dice_mixed), (93, l_mask_Mask_Less), (94, l_board_Board_Show), (95, l_dice_Dice_Shuffle), (96, l_slices_order2Ordered_uint32), (97, l_mask_Mask_Join), (98, l_slices_Clone_Lint32_int32)]
def fnT (f : FuncId) : Option LFn := lkF fnL f
def givIL : List (FuncId × (List IV → MI IV)) := [(F_slices_Sorted_uint32, isorted), (F_maps_DeleteFunc_map_uint32_uint32_uint32_uint32, idelf)]
noncomputable def BI : IBook := { zc := zcT, zv := zvT, co := coT, fn := fnT, md := mdT 0, given := gvL givIL }
theorem gv_none {f : FuncId} {l : LFn} (h : BI.fn f = some l) : BI.given f = none := lkF_all (q := fun f _ => gvL givIL f = none) (L := fnL) (by unfold fnL; repeat (first | exact trivial | refine ⟨rfl, ?_⟩)) h
theorem fn_law16_TrailMoves : BI.fn F_law16_TrailMoves = some l_law16_TrailMoves := by kernel_rfl
theorem fn_law16_awake : BI.fn F_law16_awake = some l_law16_awake := by kernel_rfl
theorem fn_law16_few : BI.fn F_law16_few = some l_law16_few := by kernel_rfl
theorem fn_trail_New : BI.fn F_trail_New = some l_trail_New := by kernel_rfl
theorem fn_board_New : BI.fn F_board_New = some l_board_New := by kernel_rfl
theorem fn_trail_Trail_Reset : BI.fn F_trail_Trail_Reset = some l_trail_Trail_Reset := by kernel_rfl
theorem fn_rules_Game_Legal : BI.fn F_rules_Game_Legal = some l_rules_Game_Legal := by kernel_rfl
theorem fn_trail_Trail_Add : BI.fn F_trail_Trail_Add = some l_trail_Trail_Add := by kernel_rfl
theorem fn_trail_Trail_Room : BI.fn F_trail_Trail_Room = some l_trail_Trail_Room := by kernel_rfl
theorem fn_trail_Trail_Pending : BI.fn F_trail_Trail_Pending = some l_trail_Trail_Pending := by kernel_rfl
theorem fn_trail_Trail_Last : BI.fn F_trail_Trail_Last = some l_trail_Trail_Last := by kernel_rfl
theorem fn_trail_Trail_Known : BI.fn F_trail_Trail_Known = some l_trail_Trail_Known := by kernel_rfl
theorem fn_trail_Trail_Shown : BI.fn F_trail_Trail_Shown = some l_trail_Trail_Shown := by kernel_rfl
theorem fn_rules_Game_Right : BI.fn F_rules_Game_Right = some l_rules_Game_Right := by kernel_rfl
theorem fn_rules_Game_Start : BI.fn F_rules_Game_Start = some l_rules_Game_Start := by kernel_rfl
theorem fn_rules_State_View : BI.fn F_rules_State_View = some l_rules_State_View := by kernel_rfl
theorem fn_rules_Game_Predict : BI.fn F_rules_Game_Predict = some l_rules_Game_Predict := by kernel_rfl
theorem fn_trail_Trail_Confirm : BI.fn F_trail_Trail_Confirm = some l_trail_Trail_Confirm := by kernel_rfl
theorem fn_rules_Game_Step : BI.fn F_rules_Game_Step = some l_rules_Game_Step := by kernel_rfl
theorem fn_mask_Mask_Has : BI.fn F_mask_Mask_Has = some l_mask_Mask_Has := by kernel_rfl
theorem fn_board_Board_Put : BI.fn F_board_Board_Put = some l_board_Board_Put := by kernel_rfl
theorem fn_slices_Equal_Luint32_uint32 : BI.fn F_slices_Equal_Luint32_uint32 = some l_slices_Equal_Luint32_uint32 := by kernel_rfl
theorem fn_slices_Clone_Lboard_Cell_board_Cell : BI.fn F_slices_Clone_Lboard_Cell_board_Cell = some l_slices_Clone_Lboard_Cell_board_Cell := by kernel_rfl
theorem fn_slices_Clone_Lcode_Code_code_Code : BI.fn F_slices_Clone_Lcode_Code_code_Code = some l_slices_Clone_Lcode_Code_code_Code := by kernel_rfl
theorem fn_maps_Keys_map_uint32_uint32_uint32_uint32 : BI.fn F_maps_Keys_map_uint32_uint32_uint32_uint32 = some l_maps_Keys_map_uint32_uint32_uint32_uint32 := by kernel_rfl
theorem fn_mask_Mask_Within : BI.fn F_mask_Mask_Within = some l_mask_Mask_Within := by kernel_rfl
theorem fn_rules_Game_All : BI.fn F_rules_Game_All = some l_rules_Game_All := by kernel_rfl
theorem fn_code_Right : BI.fn F_code_Right = some l_code_Right := by kernel_rfl
theorem fn_board_Board_View : BI.fn F_board_Board_View = some l_board_Board_View := by kernel_rfl
theorem fn_trail_Trail_Confirm_1 : BI.fn F_trail_Trail_Confirm_1 = some l_trail_Trail_Confirm_1 := by kernel_rfl
theorem fn_vm_Run : BI.fn F_vm_Run = some l_vm_Run := by kernel_rfl
theorem fn_rules_Game_all : BI.fn F_rules_Game_all = some l_rules_Game_all := by kernel_rfl
theorem fn_mask_one : BI.fn F_mask_one = some l_mask_one := by kernel_rfl
theorem fn_board_Board_there : BI.fn F_board_Board_there = some l_board_Board_there := by kernel_rfl
theorem fn_slices_Sort_Luint32_uint32 : BI.fn F_slices_Sort_Luint32_uint32 = some l_slices_Sort_Luint32_uint32 := by kernel_rfl
theorem fn_mask_All : BI.fn F_mask_All = some l_mask_All := by kernel_rfl
theorem fn_code_Check : BI.fn F_code_Check = some l_code_Check := by kernel_rfl
theorem fn_board_Board_Len : BI.fn F_board_Board_Len = some l_board_Board_Len := by kernel_rfl
theorem fn_vm_Compute : BI.fn F_vm_Compute = some l_vm_Compute := by kernel_rfl
theorem fn_vm_machine_fail : BI.fn F_vm_machine_fail = some l_vm_machine_fail := by kernel_rfl
theorem fn_vm_machine_follow : BI.fn F_vm_machine_follow = some l_vm_machine_follow := by kernel_rfl
theorem fn_slices_pdqsortOrdered_uint32 : BI.fn F_slices_pdqsortOrdered_uint32 = some l_slices_pdqsortOrdered_uint32 := by kernel_rfl
theorem fn_math_bits_Len : BI.fn F_math_bits_Len = some l_math_bits_Len := by kernel_rfl
theorem fn_code_uses : BI.fn F_code_uses = some l_code_uses := by kernel_rfl
theorem fn_code_right : BI.fn F_code_right = some l_code_right := by kernel_rfl
theorem fn_vm_divided : BI.fn F_vm_divided = some l_vm_divided := by kernel_rfl
theorem fn_vm_one : BI.fn F_vm_one = some l_vm_one := by kernel_rfl
theorem fn_vm_machine_load : BI.fn F_vm_machine_load = some l_vm_machine_load := by kernel_rfl
theorem fn_vm_machine_store : BI.fn F_vm_machine_store = some l_vm_machine_store := by kernel_rfl
theorem fn_mask_Mask_Meet : BI.fn F_mask_Mask_Meet = some l_mask_Mask_Meet := by kernel_rfl
theorem fn_vm_machine_open : BI.fn F_vm_machine_open = some l_vm_machine_open := by kernel_rfl
theorem fn_mask_Of : BI.fn F_mask_Of = some l_mask_Of := by kernel_rfl
theorem fn_dice_Dice_Below : BI.fn F_dice_Dice_Below = some l_dice_Dice_Below := by kernel_rfl
theorem fn_vm_machine_reach : BI.fn F_vm_machine_reach = some l_vm_machine_reach := by kernel_rfl
theorem fn_slices_insertionSortOrdered_uint32 : BI.fn F_slices_insertionSortOrdered_uint32 = some l_slices_insertionSortOrdered_uint32 := by kernel_rfl
theorem fn_slices_heapSortOrdered_uint32 : BI.fn F_slices_heapSortOrdered_uint32 = some l_slices_heapSortOrdered_uint32 := by kernel_rfl
theorem fn_slices_breakPatternsOrdered_uint32 : BI.fn F_slices_breakPatternsOrdered_uint32 = some l_slices_breakPatternsOrdered_uint32 := by kernel_rfl
theorem fn_slices_choosePivotOrdered_uint32 : BI.fn F_slices_choosePivotOrdered_uint32 = some l_slices_choosePivotOrdered_uint32 := by kernel_rfl
theorem fn_slices_reverseRangeOrdered_uint32 : BI.fn F_slices_reverseRangeOrdered_uint32 = some l_slices_reverseRangeOrdered_uint32 := by kernel_rfl
theorem fn_slices_partialInsertionSortOrdered_uint32 : BI.fn F_slices_partialInsertionSortOrdered_uint32 = some l_slices_partialInsertionSortOrdered_uint32 := by kernel_rfl
theorem fn_cmp_Less_uint32 : BI.fn F_cmp_Less_uint32 = some l_cmp_Less_uint32 := by kernel_rfl
theorem fn_slices_partitionEqualOrdered_uint32 : BI.fn F_slices_partitionEqualOrdered_uint32 = some l_slices_partitionEqualOrdered_uint32 := by kernel_rfl
theorem fn_slices_partitionOrdered_uint32 : BI.fn F_slices_partitionOrdered_uint32 = some l_slices_partitionOrdered_uint32 := by kernel_rfl
theorem fn_math_bits_Len64 : BI.fn F_math_bits_Len64 = some l_math_bits_Len64 := by kernel_rfl
theorem fn_code_register : BI.fn F_code_register = some l_code_register := by kernel_rfl
theorem fn_board_Board_At : BI.fn F_board_Board_At = some l_board_Board_At := by kernel_rfl
theorem fn_mask_Mask_With : BI.fn F_mask_Mask_With = some l_mask_Mask_With := by kernel_rfl
theorem fn_dice_Dice_Next : BI.fn F_dice_Dice_Next = some l_dice_Dice_Next := by kernel_rfl
theorem fn_vm_machine_index : BI.fn F_vm_machine_index = some l_vm_machine_index := by kernel_rfl
theorem fn_vm_machine_reveal : BI.fn F_vm_machine_reveal = some l_vm_machine_reveal := by kernel_rfl
theorem fn_vm_machine_shuffle : BI.fn F_vm_machine_shuffle = some l_vm_machine_shuffle := by kernel_rfl
theorem fn_slices_siftDownOrdered_uint32 : BI.fn F_slices_siftDownOrdered_uint32 = some l_slices_siftDownOrdered_uint32 := by kernel_rfl
theorem fn_slices_nextPowerOfTwo : BI.fn F_slices_nextPowerOfTwo = some l_slices_nextPowerOfTwo := by kernel_rfl
theorem fn_slices_xorshift_Next : BI.fn F_slices_xorshift_Next = some l_slices_xorshift_Next := by kernel_rfl
theorem fn_slices_medianAdjacentOrdered_uint32 : BI.fn F_slices_medianAdjacentOrdered_uint32 = some l_slices_medianAdjacentOrdered_uint32 := by kernel_rfl
theorem fn_slices_medianOrdered_uint32 : BI.fn F_slices_medianOrdered_uint32 = some l_slices_medianOrdered_uint32 := by kernel_rfl
theorem fn_cmp_isNaN_uint32 : BI.fn F_cmp_isNaN_uint32 = some l_cmp_isNaN_uint32 := by kernel_rfl
theorem fn_dice_mixed : BI.fn F_dice_mixed = some l_dice_mixed := by kernel_rfl
theorem fn_mask_Mask_Less : BI.fn F_mask_Mask_Less = some l_mask_Mask_Less := by kernel_rfl
theorem fn_board_Board_Show : BI.fn F_board_Board_Show = some l_board_Board_Show := by kernel_rfl
theorem fn_dice_Dice_Shuffle : BI.fn F_dice_Dice_Shuffle = some l_dice_Dice_Shuffle := by kernel_rfl
theorem fn_slices_order2Ordered_uint32 : BI.fn F_slices_order2Ordered_uint32 = some l_slices_order2Ordered_uint32 := by kernel_rfl
theorem fn_mask_Mask_Join : BI.fn F_mask_Mask_Join = some l_mask_Mask_Join := by kernel_rfl
theorem fn_slices_Clone_Lint32_int32 : BI.fn F_slices_Clone_Lint32_int32 = some l_slices_Clone_Lint32_int32 := by kernel_rfl
end Go.Proofs.Ytccbcbnglnloiaa.G
