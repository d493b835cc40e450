/- Joined: Q0 to Q1. -/
import Derived.Test.YthihgfkpdbgogaaXD
import Derived.KernelRfl
set_option linter.unusedVariables false
set_option linter.unusedSimpArgs false
namespace Go.Proofs.Ythihgfkpdbgogaa.G
open Go
set_option linter.unusedSimpArgs false
set_option linter.unusedVariables false
def o (p : SOp) (k : L) : L := .op ⟨none, p, .raw, []⟩ k
def om (md : Md) (p : SOp) (k : L) : L := .op ⟨none, p, md, []⟩ k
def oc (g : Option (Operand × Bool)) (p : SOp) (md : Md) (chk : List (Option (Operand × Bool) × SOp)) (k : L) : L := .op ⟨g, p, md, chk⟩ k
def thenI (r : Option (IV × JH)) (k : IV → JH → Option (Out IV × JH)) : Option (Out IV × JH) := match r with | some (v, J) => k v J | none => none
def onJoin (l : Nat) (r : Option (Out IV × JH)) (k : List IV → JH → Option (Out IV × JH)) : Option (Out IV × JH) := match r with
  | some (.goto j vs, J) => if j = l then k vs J else some (.goto j vs, J)
  | r => r
def onIf (v : IV) (a b : Option (Out IV × JH)) : Option (Out IV × JH) := match v with | .sc (.bool t) => if t = true then a else b | _ => none
def lkF : List (FuncId × LFn) → FuncId → Option LFn
  | [], _ => none
  | (k, l) :: r, f => if f = k then some l else lkF r f
def allF (q : FuncId → LFn → Prop) : List (FuncId × LFn) → Prop
  | [] => True
  | p :: r => q p.1 p.2 ∧ allF q r
theorem lkF_all {q : FuncId → LFn → Prop} : ∀ {L : List (FuncId × LFn)} {f : FuncId} {l : LFn}, allF q L → lkF L f = some l → q f l
  | [], f, l, _, h => by simp [lkF] at h
  | (k, m) :: r, f, l, ha, h => by
    simp only [lkF] at h
    split at h
    · rename_i he
      subst he
      simp only [Option.some.injEq] at h
      subst h
      exact ha.1
    · exact lkF_all ha.2 h
section
variable {B : IBook} {ρ : List IV} {J : JH} {p : SOp} {k : L} {md : Md}
theorem step_plain {C : ICall} : stepI' B C ρ ⟨none, p, md, []⟩ J = iexec B C md ρ p J := by
  unfold stepI'
  simp only [wantsI, List.all_nil, if_true]
  cases iexec B C md ρ p J with
  | none => rfl
  | some q => rfl
theorem dn_o : dn B (o p k) ρ J = thenI (iexec B (ic B) .raw ρ p J) fun v J' => dn B k (ρ ++ [v]) J' := by
  simp only [o, dn, step_plain]; rfl
theorem dn_om : dn B (om md p k) ρ J = thenI (iexec B (ic B) md ρ p J) fun v J' => dn B k (ρ ++ [v]) J' := by
  simp only [om, dn, step_plain]; rfl
theorem dn_oc {g : Option (Operand × Bool)} {chk} : dn B (oc g p md chk k) ρ J = thenI (stepI' B (ic B) ρ ⟨g, p, md, chk⟩ J) fun v J' => dn B k (ρ ++ [v]) J' := by
  simp only [oc, dn]; rfl
theorem dn_ite {c : Operand} {a b : L} : dn B (.ite c a b) ρ J = onIf (evI ρ c) (dn B a ρ J) (dn B b ρ J) := by
  simp only [dn]; rfl
theorem dn_join {l : Nat} {a b : L} : dn B (.join l a b) ρ J = onJoin l (dn B a ρ J) fun vs J => dn B b vs J := by
  simp only [dn, onJoin]
  cases dn B a ρ J with
  | none => rfl
  | some q => obtain ⟨o, J'⟩ := q; cases o <;> rfl
theorem dn_loop {l : Nat} {init : List Operand} {b : L} : dn B (.loop l init b) ρ J = iter (dn B b) l (init.map (evI ρ)) J := by
  simp only [dn]
theorem dn_goto {l : Nat} {vs : List Operand} : dn B (.goto l vs) ρ J = some (.goto l (vs.map (evI ρ)), J) := by simp only [dn]
theorem dn_ret {vs : List Operand} : dn B (.ret vs) ρ J = some (.ret (vs.map (evI ρ)), J) := by simp only [dn]
theorem thenI_some {v : IV} {J : JH} {k : IV → JH → Option (Out IV × JH)} : thenI (some (v, J)) k = k v J := rfl
theorem thenI_lift {v : IV} {J : JH} {k : IV → JH → Option (Out IV × JH)} : thenI (ilift (some v) J) k = k v J := rfl
theorem ilift_some {v : IV} {J : JH} : ilift (some v) J = some (v, J) := rfl
theorem onIf_bool {t : Bool} {a b : Option (Out IV × JH)} : onIf (.sc (.bool t)) a b = if t = true then a else b := rfl
theorem onJoin_goto {l : Nat} {vs : List IV} {J : JH} {k : List IV → JH → Option (Out IV × JH)} : onJoin l (some (.goto l vs, J)) k = k vs J := by simp [onJoin]
theorem onJoin_ret {l : Nat} {vs : List IV} {J : JH} {k : List IV → JH → Option (Out IV × JH)} : onJoin l (some (.ret vs, J)) k = some (.ret vs, J) := rfl
theorem onJoin_ne {l j : Nat} {vs : List IV} {J : JH} {k : List IV → JH → Option (Out IV × JH)} (h : j ≠ l) : onJoin l (some (.goto j vs, J)) k = some (.goto j vs, J) := by simp [onJoin, h]
theorem onJoin_ite {l : Nat} {c : Prop} [Decidable c] {a b : Option (Out IV × JH)} {k : List IV → JH → Option (Out IV × JH)} : onJoin l (if c then a else b) k = if c then onJoin l a k else onJoin l b k := by split <;> rfl
theorem thenI_ite {c : Prop} [Decidable c] {a b : Option (IV × JH)} {k : IV → JH → Option (Out IV × JH)} : thenI (if c then a else b) k = if c then thenI a k else thenI b k := by split <;> rfl
theorem evI_0 {x : IV} {r : List IV} : evI (x :: r) (.tmp 0) = x := rfl
theorem evI_succ {x : IV} {r : List IV} {n : Nat} : evI (x :: r) (.tmp (n + 1)) = evI r (.tmp n) := by simp [evI]
theorem scal2_sc {f : Value → Value → Option Value} {a b : Value} : scal2 f (.sc a) (.sc b) = (f a b).map .sc := rfl
end
end Go.Proofs.Ythihgfkpdbgogaa.G
namespace Go.Proofs.Ythihgfkpdbgogaa.G
open Go
abbrev F_law09_VmComputes : FuncId := 3
abbrev F_law09_VmNone : FuncId := 4
abbrev F_law09_VmTaint : FuncId := 5
abbrev F_law09_VmKeeps : FuncId := 6
abbrev F_law09_VmFuel : FuncId := 7
abbrev F_law09_VmRolls : FuncId := 8
abbrev F_law09_VmViews : FuncId := 9
abbrev F_law09_VmLabels : FuncId := 10
abbrev F_law09_VmHides : FuncId := 11
abbrev F_law09_awake : FuncId := 12
abbrev F_vm_Compute : FuncId := 13
abbrev F_ref09_Compute : FuncId := 14
abbrev F_law09_few : FuncId := 15
abbrev F_law09_codes : FuncId := 16
abbrev F_board_New : FuncId := 17
abbrev F_vm_Run : FuncId := 18
abbrev F_ref08_Check : FuncId := 19
abbrev F_mask_Mask_Within : FuncId := 20
abbrev F_law09_players : FuncId := 21
abbrev F_mask_All : FuncId := 22
abbrev F_board_Board_At : FuncId := 23
abbrev F_board_Board_Len : FuncId := 24
abbrev F_vm_Fuel : FuncId := 25
abbrev F_dice_Dice_Skip : FuncId := 26
abbrev F_mask_Mask_Meet : FuncId := 27
abbrev F_board_Board_View : FuncId := 28
abbrev F_mask_Mask_Has : FuncId := 29
abbrev F_board_Board_Labels : FuncId := 30
abbrev F_board_Alike : FuncId := 31
abbrev F_vm_divided : FuncId := 32
abbrev F_vm_one : FuncId := 33
abbrev F_ref09_truth : FuncId := 34
abbrev F_code_Right : FuncId := 35
abbrev F_vm_machine_fail : FuncId := 36
abbrev F_vm_machine_follow : FuncId := 37
abbrev F_ref08_Right : FuncId := 38
abbrev F_board_Board_there : FuncId := 39
abbrev F_mask_one : FuncId := 40
abbrev F_board_Board_sum : FuncId := 41
abbrev F_code_Check : FuncId := 42
abbrev F_vm_machine_load : FuncId := 43
abbrev F_vm_machine_store : FuncId := 44
abbrev F_vm_machine_open : FuncId := 45
abbrev F_mask_Of : FuncId := 46
abbrev F_dice_Dice_Below : FuncId := 47
abbrev F_vm_machine_reach : FuncId := 48
abbrev F_ref08_Parts : FuncId := 49
abbrev F_ref08_has : FuncId := 50
abbrev F_ink_Pen_Word : FuncId := 51
abbrev F_wax_Make : FuncId := 52
abbrev F_wax_Table_Sum : FuncId := 53
abbrev F_ink_Pen_Bytes : FuncId := 54
abbrev F_code_uses : FuncId := 55
abbrev F_code_right : FuncId := 56
abbrev F_board_Board_Put : FuncId := 57
abbrev F_mask_Mask_With : FuncId := 58
abbrev F_dice_Dice_Next : FuncId := 59
abbrev F_vm_machine_index : FuncId := 60
abbrev F_vm_machine_reveal : FuncId := 61
abbrev F_vm_machine_shuffle : FuncId := 62
abbrev F_ref08_Table : FuncId := 63
abbrev F_ink_Pen_Half : FuncId := 64
abbrev F_wax_Step : FuncId := 65
abbrev F_bytes_Clone : FuncId := 66
abbrev F_code_register : FuncId := 67
abbrev F_dice_mixed : FuncId := 68
abbrev F_mask_Mask_Less : FuncId := 69
abbrev F_board_Board_Show : FuncId := 70
abbrev F_dice_Dice_Shuffle : FuncId := 71
abbrev F_ink_Pen_add : FuncId := 72
abbrev F_mask_Mask_Join : FuncId := 73
abbrev F_slices_Clone_Lint32_int32 : FuncId := 74
/-! hoodwink/hoodwinklaw09.VmComputes -/
def l_law09_VmComputes : LFn := ⟨3,
    om .pure (.call F_law09_awake []) <|
    o (.un .not (.tmp 3)) <|
    .ite (.tmp 4)
      (.ret [(.const (.bool false))])
      (om .pure (.call F_vm_Compute [(.tmp 0), (.tmp 1), (.tmp 2)]) <|
      om .pure (.call F_ref09_Compute [(.tmp 0), (.tmp 1), (.tmp 2)]) <|
      o (.bin .eql (.tmp 5) (.tmp 6)) <|
      .ret [(.tmp 7)])⟩
/-! hoodwink/hoodwinklaw09.VmNone -/
def l_law09_VmNone_k0 : L :=
  o (.faddr 101 (.tmp 0)) <|
  o (.load false 1 (.tmp 1)) <|
  o (.bin .neq (.tmp 2) (.const (.int .i64 2))) <|
  .ret [(.tmp 3)]
def l_law09_VmNone : LFn := ⟨3,
    o (.box 29 (.tmp 2)) <|
    om .pure (.call F_law09_awake []) <|
    o (.un .not (.tmp 4)) <|
    .ite (.tmp 5)
      (.ret [(.const (.bool false))])
      (om .pure (.call F_law09_few [(.tmp 1)]) <|
      om .pure (.call F_law09_codes [(.tmp 0)]) <|
      o (.ext (.tmp 7) 0) <|
      o (.ext (.tmp 7) 1) <|
      om .pure (.call F_board_New [(.tmp 6)]) <|
      o (.ext (.tmp 10) 0) <|
      o (.ext (.tmp 10) 1) <|
      o (.new 40) <|
      o (.store 97 (.tmp 13) (.tmp 11)) <|
      o (.load true 97 (.tmp 13)) <|
      o (.load true 1 (.tmp 3)) <|
      om .pure (.call F_vm_Run [(.tmp 8), (.tmp 15), (.tmp 16), (.const (.slice none 0 0)), (.const (.int .u32 0)), (.const (.int .u32 1))]) <|
      o (.new 46) <|
      o (.store 102 (.tmp 18) (.tmp 17)) <|
      .join 0
        (o (.len false (.tmp 6)) <|
        om .pure (.call F_ref08_Check [(.tmp 9), (.tmp 20), (.const (.int .i64 0))]) <|
        o (.bin .geq (.tmp 21) (.const (.int .i64 0))) <|
        .ite (.tmp 22)
          (o (.faddr 101 (.tmp 18)) <|
          o (.load false 1 (.tmp 23)) <|
          o (.bin .eql (.tmp 24) (.const (.int .i64 2))) <|
          .ite (.tmp 25)
            (o (.faddr 0 (.tmp 18)) <|
            o (.load true 97 (.tmp 26)) <|
            o (.load true 97 (.tmp 13)) <|
            o (.eqAgg false 40 (.tmp 27) (.tmp 28)) <|
            .ite (.tmp 29)
              (o (.faddr 97 (.tmp 18)) <|
              o (.load true 1 (.tmp 30)) <|
              o (.load true 1 (.tmp 3)) <|
              o (.eqAgg false 29 (.tmp 31) (.tmp 32)) <|
              .ite (.tmp 33)
                (o (.faddr 100 (.tmp 18)) <|
                o (.load false 1 (.tmp 34)) <|
                o (.bin .eql (.tmp 35) (.const (.int .i64 0))) <|
                .ret [(.tmp 36)])
                (.ret [(.const (.bool false))]))
              (.ret [(.const (.bool false))]))
            (.ret [(.const (.bool false))]))
          (.goto 0 [(.tmp 18)]))
        l_law09_VmNone_k0)⟩
/-! hoodwink/hoodwinklaw09.VmTaint -/
def l_law09_VmTaint_k0 : L :=
  o (.faddr 101 (.tmp 0)) <|
  o (.load false 1 (.tmp 1)) <|
  o (.bin .eql (.tmp 2) (.const (.int .i64 0))) <|
  .ret [(.tmp 3)]
def l_law09_VmTaint_k1 : L :=
  .join 1
    (o (.bin .rem (.tmp 1) (.const (.int .u8 4))) <|
    o (.bin .gtr (.tmp 3) (.const (.int .u8 0))) <|
    .ite (.tmp 4)
      (o (.bin .lss (.tmp 0) (.const (.int .i32 0))) <|
      .ite (.tmp 5)
        (o (.faddr 101 (.tmp 2)) <|
        o (.load false 1 (.tmp 6)) <|
        o (.bin .eql (.tmp 7) (.const (.int .i64 7))) <|
        .ret [(.tmp 8)])
        (o (.bin .gtr (.tmp 0) (.const (.int .i32 1))) <|
        .ite (.tmp 6)
          (o (.faddr 101 (.tmp 2)) <|
          o (.load false 1 (.tmp 7)) <|
          o (.bin .eql (.tmp 8) (.const (.int .i64 7))) <|
          .ret [(.tmp 9)])
          (.goto 1 [(.tmp 2)])))
      (.goto 1 [(.tmp 2)]))
    l_law09_VmTaint_k0
def l_law09_VmTaint : LFn := ⟨4,
    om .pure (.call F_law09_awake []) <|
    o (.un .not (.tmp 4)) <|
    .ite (.tmp 5)
      (.ret [(.const (.bool false))])
      (o (.build 51 [(0, 1, (.const (.int .u8 19))), (1, 1, (.const (.int .u8 1))), (4, 1, (.const (.int .i32 2)))]) <|
      o (.build 51 [(0, 1, (.const (.int .u8 4))), (1, 1, (.const (.int .u8 2))), (2, 1, (.const (.int .u8 1)))]) <|
      o (.build 51 [(0, 1, (.const (.int .u8 5))), (1, 1, (.const (.int .u8 2))), (2, 1, (.const (.int .u8 1)))]) <|
      o (.build 51 [(0, 1, (.const (.int .u8 22))), (2, 1, (.const (.int .u8 1))), (5, 1, (.const (.int .u32 7)))]) <|
      o (.bslice 51 4 [(0, 6, (.tmp 6)), (6, 6, (.tmp 7)), (12, 6, (.tmp 8)), (18, 6, (.tmp 9))]) <|
      o (.bin .rem (.tmp 2) (.const (.int .u8 4))) <|
      o (.iaddr 6 (.tmp 10) (.tmp 11)) <|
      o (.load true 6 (.tmp 12)) <|
      o (.new 51) <|
      o (.store 6 (.tmp 14) (.tmp 13)) <|
      o (.build 51 [(0, 1, (.const (.int .u8 2))), (1, 1, (.const (.int .u8 1)))]) <|
      o (.load true 6 (.tmp 14)) <|
      o (.bslice 51 2 [(0, 6, (.tmp 16)), (6, 6, (.tmp 17))]) <|
      o (.build 37 [(0, 1, (.tmp 1)), (1, 1, (.tmp 0))]) <|
      o (.build 37 [(1, 1, (.const (.int .u32 7)))]) <|
      o (.bslice 37 2 [(0, 2, (.tmp 19)), (2, 2, (.tmp 20))]) <|
      om .pure (.call F_board_New [(.tmp 21)]) <|
      o (.ext (.tmp 22) 0) <|
      o (.ext (.tmp 22) 1) <|
      o (.new 40) <|
      o (.store 97 (.tmp 25) (.tmp 23)) <|
      o (.build 37 [(0, 1, (.tmp 3)), (1, 1, (.tmp 0))]) <|
      o (.build 37 [(1, 1, (.const (.int .u32 7)))]) <|
      o (.bslice 37 2 [(0, 2, (.tmp 27)), (2, 2, (.tmp 28))]) <|
      om .pure (.call F_board_New [(.tmp 29)]) <|
      o (.ext (.tmp 30) 0) <|
      o (.ext (.tmp 30) 1) <|
      o (.new 40) <|
      o (.store 97 (.tmp 33) (.tmp 31)) <|
      o (.load true 97 (.tmp 25)) <|
      o (.build 29 []) <|
      o (.bslice 21 1 [(0, 1, (.const (.int .i32 0)))]) <|
      om .pure (.call F_vm_Run [(.tmp 18), (.tmp 35), (.tmp 36), (.tmp 37), (.const (.int .u32 1)), (.const (.int .u32 7))]) <|
      o (.new 46) <|
      o (.store 102 (.tmp 39) (.tmp 38)) <|
      o (.load true 97 (.tmp 33)) <|
      o (.build 29 []) <|
      o (.bslice 21 1 [(0, 1, (.const (.int .i32 0)))]) <|
      om .pure (.call F_vm_Run [(.tmp 18), (.tmp 41), (.tmp 42), (.tmp 43), (.const (.int .u32 1)), (.const (.int .u32 7))]) <|
      o (.new 46) <|
      o (.store 102 (.tmp 45) (.tmp 44)) <|
      .join 0
        (om .pure (.call F_mask_Mask_Within [(.const (.int .u32 7)), (.tmp 0)]) <|
        o (.un .not (.tmp 47)) <|
        .ite (.tmp 48)
          (o (.faddr 101 (.tmp 39)) <|
          o (.load false 1 (.tmp 49)) <|
          o (.bin .eql (.tmp 50) (.const (.int .i64 8))) <|
          .ite (.tmp 51)
            (o (.faddr 101 (.tmp 45)) <|
            o (.load false 1 (.tmp 52)) <|
            o (.bin .eql (.tmp 53) (.const (.int .i64 8))) <|
            .ite (.tmp 54)
              (o (.faddr 0 (.tmp 39)) <|
              o (.load true 97 (.tmp 55)) <|
              o (.load true 97 (.tmp 25)) <|
              o (.eqAgg false 40 (.tmp 56) (.tmp 57)) <|
              .ite (.tmp 58)
                (o (.faddr 0 (.tmp 45)) <|
                o (.load true 97 (.tmp 59)) <|
                o (.load true 97 (.tmp 33)) <|
                o (.eqAgg false 40 (.tmp 60) (.tmp 61)) <|
                .ite (.tmp 62)
                  (o (.faddr 100 (.tmp 39)) <|
                  o (.load false 1 (.tmp 63)) <|
                  o (.faddr 100 (.tmp 45)) <|
                  o (.load false 1 (.tmp 65)) <|
                  o (.bin .eql (.tmp 64) (.tmp 66)) <|
                  .ret [(.tmp 67)])
                  (.ret [(.const (.bool false))]))
                (.ret [(.const (.bool false))]))
              (.ret [(.const (.bool false))]))
            (.ret [(.const (.bool false))]))
          (.goto 0 [(.tmp 1), (.tmp 2), (.tmp 39)]))
        l_law09_VmTaint_k1)⟩
/-! hoodwink/hoodwinklaw09.VmKeeps -/
def l_law09_VmKeeps_k0 : L :=
  o (.bin .lss (.tmp 5) (.tmp 4)) <|
  .ite (.tmp 6)
    (o (.iaddr 6 (.tmp 3) (.tmp 5)) <|
    o (.load true 6 (.tmp 7)) <|
    o (.new 51) <|
    o (.store 6 (.tmp 9) (.tmp 8)) <|
    .ite (.tmp 2)
      (o (.bin .add (.tmp 5) (.const (.int .i64 1))) <|
      .goto 2 [(.tmp 0), (.tmp 1), (.const (.bool true)), (.tmp 3), (.tmp 4), (.tmp 11)])
      (o (.faddr 0 (.tmp 9)) <|
      o (.load false 1 (.tmp 11)) <|
      o (.bin .eql (.tmp 12) (.const (.int .u8 3))) <|
      .ite (.tmp 13)
        (o (.bin .add (.tmp 5) (.const (.int .i64 1))) <|
        .goto 2 [(.tmp 0), (.tmp 1), (.const (.bool true)), (.tmp 3), (.tmp 4), (.tmp 14)])
        (o (.faddr 0 (.tmp 9)) <|
        o (.load false 1 (.tmp 14)) <|
        o (.bin .eql (.tmp 15) (.const (.int .u8 5))) <|
        .ite (.tmp 16)
          (o (.bin .add (.tmp 5) (.const (.int .i64 1))) <|
          .goto 2 [(.tmp 0), (.tmp 1), (.const (.bool true)), (.tmp 3), (.tmp 4), (.tmp 17)])
          (o (.faddr 0 (.tmp 9)) <|
          o (.load false 1 (.tmp 17)) <|
          o (.bin .eql (.tmp 18) (.const (.int .u8 24))) <|
          o (.bin .add (.tmp 5) (.const (.int .i64 1))) <|
          .goto 2 [(.tmp 0), (.tmp 1), (.tmp 19), (.tmp 3), (.tmp 4), (.tmp 20)]))))
    (.goto 1 [(.tmp 0), (.tmp 1), (.tmp 2)])
def l_law09_VmKeeps_k1 : L :=
  o (.bin .lss (.tmp 5) (.tmp 4)) <|
  .ite (.tmp 6)
    (o (.iaddr 2 (.tmp 3) (.tmp 5)) <|
    o (.load true 2 (.tmp 7)) <|
    o (.new 37) <|
    o (.store 2 (.tmp 9) (.tmp 8)) <|
    o (.faddr 0 (.tmp 1)) <|
    o (.load true 97 (.tmp 11)) <|
    om .pure (.call F_board_Board_At [(.tmp 12), (.tmp 5)]) <|
    o (.ext (.tmp 13) 0) <|
    o (.ext (.tmp 13) 1) <|
    o (.new 37) <|
    o (.store 2 (.tmp 16) (.tmp 14)) <|
    o (.un .not (.tmp 15)) <|
    .ite (.tmp 18)
      (.ret [(.const (.bool false))])
      (o (.faddr 98 (.tmp 1)) <|
      o (.load false 1 (.tmp 19)) <|
      o (.bin .shr (.tmp 20) (.tmp 5)) <|
      o (.bin .rem (.tmp 21) (.const (.int .u64 2))) <|
      o (.bin .eql (.tmp 22) (.const (.int .u64 0))) <|
      .ite (.tmp 23)
        (o (.load true 2 (.tmp 9)) <|
        o (.load true 2 (.tmp 16)) <|
        o (.eqAgg true 37 (.tmp 24) (.tmp 25)) <|
        .ite (.tmp 26)
          (.ret [(.const (.bool false))])
          (o (.un .not (.tmp 2)) <|
          .ite (.tmp 27)
            (o (.faddr 0 (.tmp 9)) <|
            o (.load false 1 (.tmp 28)) <|
            o (.faddr 0 (.tmp 16)) <|
            o (.load false 1 (.tmp 30)) <|
            o (.bin .neq (.tmp 29) (.tmp 31)) <|
            .ite (.tmp 32)
              (.ret [(.const (.bool false))])
              (o (.faddr 1 (.tmp 9)) <|
              o (.load false 1 (.tmp 33)) <|
              o (.faddr 1 (.tmp 16)) <|
              o (.load false 1 (.tmp 35)) <|
              om .pure (.call F_mask_Mask_Within [(.tmp 34), (.tmp 36)]) <|
              o (.un .not (.tmp 37)) <|
              .ite (.tmp 38)
                (.ret [(.const (.bool false))])
                (o (.bin .add (.tmp 5) (.const (.int .i64 1))) <|
                .goto 3 [(.tmp 0), (.tmp 1), (.tmp 2), (.tmp 3), (.tmp 4), (.tmp 39)])))
            (o (.bin .add (.tmp 5) (.const (.int .i64 1))) <|
            .goto 3 [(.tmp 0), (.tmp 1), (.tmp 2), (.tmp 3), (.tmp 4), (.tmp 28)])))
        (o (.un .not (.tmp 2)) <|
        .ite (.tmp 24)
          (o (.faddr 0 (.tmp 9)) <|
          o (.load false 1 (.tmp 25)) <|
          o (.faddr 0 (.tmp 16)) <|
          o (.load false 1 (.tmp 27)) <|
          o (.bin .neq (.tmp 26) (.tmp 28)) <|
          .ite (.tmp 29)
            (.ret [(.const (.bool false))])
            (o (.faddr 1 (.tmp 9)) <|
            o (.load false 1 (.tmp 30)) <|
            o (.faddr 1 (.tmp 16)) <|
            o (.load false 1 (.tmp 32)) <|
            om .pure (.call F_mask_Mask_Within [(.tmp 31), (.tmp 33)]) <|
            o (.un .not (.tmp 34)) <|
            .ite (.tmp 35)
              (.ret [(.const (.bool false))])
              (o (.bin .add (.tmp 5) (.const (.int .i64 1))) <|
              .goto 3 [(.tmp 0), (.tmp 1), (.tmp 2), (.tmp 3), (.tmp 4), (.tmp 36)])))
          (o (.bin .add (.tmp 5) (.const (.int .i64 1))) <|
          .goto 3 [(.tmp 0), (.tmp 1), (.tmp 2), (.tmp 3), (.tmp 4), (.tmp 25)]))))
    (.goto 2 [(.tmp 0), (.tmp 1)])
def l_law09_VmKeeps_k2 : L :=
  o (.faddr 0 (.tmp 1)) <|
  o (.load true 97 (.tmp 2)) <|
  om .pure (.call F_board_Board_Len [(.tmp 3)]) <|
  o (.len false (.tmp 0)) <|
  o (.bin .eql (.tmp 4) (.tmp 5)) <|
  .ite (.tmp 6)
    (o (.faddr 98 (.tmp 1)) <|
    o (.load false 1 (.tmp 7)) <|
    o (.len false (.tmp 0)) <|
    o (.bin .shr (.tmp 8) (.tmp 9)) <|
    o (.bin .eql (.tmp 10) (.const (.int .u64 0))) <|
    .ret [(.tmp 11)])
    (.ret [(.const (.bool false))])
def l_law09_VmKeeps_k3 : L :=
  .join 2
    (o (.len false (.tmp 0)) <|
    .loop 3 [(.tmp 0), (.tmp 1), (.tmp 2), (.tmp 0), (.tmp 3), (.const (.int .i64 0))] l_law09_VmKeeps_k1)
    l_law09_VmKeeps_k2
def l_law09_VmKeeps_k4 : L :=
  .join 1
    (o (.len false (.tmp 0)) <|
    .loop 2 [(.tmp 1), (.tmp 2), (.const (.bool false)), (.tmp 0), (.tmp 3), (.const (.int .i64 0))] l_law09_VmKeeps_k0)
    l_law09_VmKeeps_k3
def l_law09_VmKeeps : LFn := ⟨4,
    o (.box 29 (.tmp 2)) <|
    om .pure (.call F_law09_awake []) <|
    o (.un .not (.tmp 5)) <|
    .ite (.tmp 6)
      (.ret [(.const (.bool false))])
      (om .pure (.call F_law09_few [(.tmp 1)]) <|
      om .pure (.call F_law09_players [(.tmp 3)]) <|
      om .pure (.call F_law09_codes [(.tmp 0)]) <|
      o (.ext (.tmp 9) 0) <|
      o (.ext (.tmp 9) 1) <|
      om .pure (.call F_board_New [(.tmp 7)]) <|
      o (.ext (.tmp 12) 0) <|
      o (.ext (.tmp 12) 1) <|
      o (.new 40) <|
      o (.store 97 (.tmp 15) (.tmp 13)) <|
      om .pure (.call F_mask_All [(.const (.int .i64 8))]) <|
      o (.load true 97 (.tmp 15)) <|
      o (.load true 1 (.tmp 4)) <|
      om .pure (.call F_vm_Run [(.tmp 10), (.tmp 18), (.tmp 19), (.tmp 8), (.const (.int .u32 3)), (.tmp 17)]) <|
      o (.new 46) <|
      o (.store 102 (.tmp 21) (.tmp 20)) <|
      .join 0
        (o (.faddr 101 (.tmp 21)) <|
        o (.load false 1 (.tmp 23)) <|
        o (.bin .neq (.tmp 24) (.const (.int .i64 0))) <|
        .ite (.tmp 25)
          (o (.faddr 0 (.tmp 21)) <|
          o (.load true 97 (.tmp 26)) <|
          o (.load true 97 (.tmp 15)) <|
          o (.eqAgg false 40 (.tmp 27) (.tmp 28)) <|
          .ite (.tmp 29)
            (o (.faddr 97 (.tmp 21)) <|
            o (.load true 1 (.tmp 30)) <|
            o (.load true 1 (.tmp 4)) <|
            o (.eqAgg false 29 (.tmp 31) (.tmp 32)) <|
            .ite (.tmp 33)
              (o (.faddr 98 (.tmp 21)) <|
              o (.load false 1 (.tmp 34)) <|
              o (.bin .eql (.tmp 35) (.const (.int .u64 0))) <|
              .ite (.tmp 36)
                (o (.faddr 100 (.tmp 21)) <|
                o (.load false 1 (.tmp 37)) <|
                o (.bin .leq (.tmp 38) (.const (.int .i64 400))) <|
                .ret [(.tmp 39)])
                (.ret [(.const (.bool false))]))
              (.ret [(.const (.bool false))]))
            (.ret [(.const (.bool false))]))
          (.goto 0 [(.tmp 10), (.tmp 7), (.tmp 21)]))
        l_law09_VmKeeps_k4)⟩
/-! hoodwink/hoodwinklaw09.VmFuel -/
def l_law09_VmFuel_k0 : L :=
  o (.faddr 101 (.tmp 0)) <|
  o (.load false 1 (.tmp 2)) <|
  o (.bin .eql (.tmp 3) (.const (.int .i64 0))) <|
  .ite (.tmp 4)
    (o (.faddr 100 (.tmp 0)) <|
    o (.load false 1 (.tmp 5)) <|
    o (.bin .eql (.tmp 6) (.tmp 1)) <|
    .ite (.tmp 7)
      (o (.load true 102 (.tmp 0)) <|
      om .pure (.call F_vm_Fuel [(.tmp 8)]) <|
      o (.bin .sub (.const (.int .i64 400)) (.tmp 1)) <|
      o (.bin .eql (.tmp 9) (.tmp 10)) <|
      .ret [(.tmp 11)])
      (.ret [(.const (.bool false))]))
    (.ret [(.const (.bool false))])
def l_law09_VmFuel_k1 : L :=
  .join 1
    (o (.bin .gtr (.tmp 1) (.const (.int .i64 400))) <|
    .ite (.tmp 2)
      (o (.faddr 101 (.tmp 0)) <|
      o (.load false 1 (.tmp 3)) <|
      o (.bin .eql (.tmp 4) (.const (.int .i64 9))) <|
      .ite (.tmp 5)
        (o (.faddr 100 (.tmp 0)) <|
        o (.load false 1 (.tmp 6)) <|
        o (.bin .eql (.tmp 7) (.const (.int .i64 400))) <|
        .ret [(.tmp 8)])
        (.ret [(.const (.bool false))]))
      (.goto 1 [(.tmp 0), (.tmp 1)]))
    l_law09_VmFuel_k0
def l_law09_VmFuel : LFn := ⟨2,
    om .pure (.call F_law09_awake []) <|
    o (.un .not (.tmp 2)) <|
    .ite (.tmp 3)
      (.ret [(.const (.bool false))])
      (o (.build 37 [(1, 1, (.const (.int .u32 1)))]) <|
      o (.bslice 37 1 [(0, 2, (.tmp 4))]) <|
      om .pure (.call F_board_New [(.tmp 5)]) <|
      o (.ext (.tmp 6) 0) <|
      o (.ext (.tmp 6) 1) <|
      o (.new 40) <|
      o (.store 97 (.tmp 9) (.tmp 7)) <|
      o (.build 51 [(0, 1, (.const (.int .u8 20)))]) <|
      o (.bslice 51 1 [(0, 6, (.tmp 11))]) <|
      o (.load true 97 (.tmp 9)) <|
      o (.build 29 []) <|
      o (.bslice 21 1 [(0, 1, (.const (.int .i32 0)))]) <|
      om .pure (.call F_vm_Run [(.tmp 12), (.tmp 13), (.tmp 14), (.tmp 15), (.const (.int .u32 1)), (.const (.int .u32 1))]) <|
      o (.new 46) <|
      o (.store 102 (.tmp 17) (.tmp 16)) <|
      o (.bin .rem (.tmp 0) (.const (.int .u16 200))) <|
      o (.conv .i32 (.tmp 19)) <|
      o (.build 51 [(0, 1, (.const (.int .u8 1))), (1, 1, (.const (.int .u8 1))), (4, 1, (.tmp 20))]) <|
      o (.build 51 [(0, 1, (.const (.int .u8 1))), (1, 1, (.const (.int .u8 2))), (4, 1, (.const (.int .i32 1)))]) <|
      o (.build 51 [(0, 1, (.const (.int .u8 19))), (1, 1, (.const (.int .u8 1))), (4, 1, (.const (.int .i32 5)))]) <|
      o (.build 51 [(0, 1, (.const (.int .u8 7))), (1, 1, (.const (.int .u8 1))), (2, 1, (.const (.int .u8 1))), (3, 1, (.const (.int .u8 2)))]) <|
      o (.build 51 [(0, 1, (.const (.int .u8 20))), (4, 1, (.const (.int .i32 2)))]) <|
      o (.bslice 51 5 [(0, 6, (.tmp 21)), (6, 6, (.tmp 22)), (12, 6, (.tmp 23)), (18, 6, (.tmp 24)), (24, 6, (.tmp 25))]) <|
      o (.load true 97 (.tmp 9)) <|
      o (.build 29 []) <|
      o (.bslice 21 1 [(0, 1, (.const (.int .i32 0)))]) <|
      o (.conv .u32 (.tmp 1)) <|
      om .pure (.call F_vm_Run [(.tmp 26), (.tmp 27), (.tmp 28), (.tmp 29), (.tmp 30), (.const (.int .u32 1))]) <|
      o (.new 46) <|
      o (.store 102 (.tmp 32) (.tmp 31)) <|
      o (.conv .i64 (.tmp 20)) <|
      o (.bin .mul (.const (.int .i64 3)) (.tmp 34)) <|
      o (.bin .add (.const (.int .i64 3)) (.tmp 35)) <|
      .join 0
        (o (.faddr 101 (.tmp 17)) <|
        o (.load false 1 (.tmp 37)) <|
        o (.bin .neq (.tmp 38) (.const (.int .i64 9))) <|
        .ite (.tmp 39)
          (.ret [(.const (.bool false))])
          (o (.faddr 100 (.tmp 17)) <|
          o (.load false 1 (.tmp 40)) <|
          o (.bin .neq (.tmp 41) (.const (.int .i64 400))) <|
          .ite (.tmp 42)
            (.ret [(.const (.bool false))])
            (o (.faddr 0 (.tmp 17)) <|
            o (.load true 97 (.tmp 43)) <|
            o (.load true 97 (.tmp 9)) <|
            o (.eqAgg true 40 (.tmp 44) (.tmp 45)) <|
            .ite (.tmp 46)
              (.ret [(.const (.bool false))])
              (.goto 0 [(.tmp 32), (.tmp 36)]))))
        l_law09_VmFuel_k1)⟩
/-! hoodwink/hoodwinklaw09.VmRolls -/
def l_law09_VmRolls_k0 : L :=
  o (.bin .lss (.tmp 10) (.tmp 9)) <|
  .ite (.tmp 11)
    (o (.faddr 0 (.tmp 5)) <|
    o (.load true 97 (.tmp 12)) <|
    om .pure (.call F_board_Board_At [(.tmp 13), (.tmp 10)]) <|
    o (.ext (.tmp 14) 0) <|
    o (.ext (.tmp 14) 1) <|
    o (.new 37) <|
    o (.store 2 (.tmp 17) (.tmp 15)) <|
    o (.faddr 0 (.tmp 17)) <|
    o (.load false 1 (.tmp 19)) <|
    o (.conv .i64 (.tmp 20)) <|
    o (.bin .add (.tmp 7) (.tmp 21)) <|
    o (.iaddr 2 (.tmp 0) (.tmp 10)) <|
    o (.faddr 0 (.tmp 23)) <|
    o (.load false 1 (.tmp 24)) <|
    o (.conv .i64 (.tmp 25)) <|
    o (.bin .add (.tmp 8) (.tmp 26)) <|
    o (.faddr 1 (.tmp 17)) <|
    o (.load false 1 (.tmp 28)) <|
    o (.bin .neq (.tmp 29) (.const (.int .u32 0))) <|
    .ite (.tmp 30)
      (.ret [(.const (.bool false))])
      (o (.bin .add (.tmp 10) (.const (.int .i64 1))) <|
      .goto 1 [(.tmp 0), (.tmp 1), (.tmp 2), (.tmp 3), (.tmp 4), (.tmp 5), (.tmp 6), (.tmp 22), (.tmp 27), (.tmp 9), (.tmp 31)]))
    (.goto 0 [(.tmp 1), (.tmp 2), (.tmp 3), (.tmp 4), (.tmp 5), (.tmp 6), (.tmp 7), (.tmp 8)])
def l_law09_VmRolls_k1 : L :=
  o (.faddr 101 (.tmp 3)) <|
  o (.load false 1 (.tmp 8)) <|
  o (.bin .eql (.tmp 9) (.const (.int .i64 0))) <|
  .ite (.tmp 10)
    (o (.faddr 101 (.tmp 4)) <|
    o (.load false 1 (.tmp 11)) <|
    o (.bin .eql (.tmp 12) (.const (.int .i64 0))) <|
    .ite (.tmp 13)
      (o (.faddr 1 (.tmp 5)) <|
      o (.load false 1 (.tmp 14)) <|
      o (.bin .eql (.tmp 15) (.const (.int .u32 0))) <|
      .ite (.tmp 16)
        (o (.faddr 0 (.tmp 5)) <|
        o (.load false 1 (.tmp 17)) <|
        o (.bin .geq (.tmp 18) (.const (.int .i32 0))) <|
        .ite (.tmp 19)
          (o (.faddr 0 (.tmp 5)) <|
          o (.load false 1 (.tmp 20)) <|
          o (.bin .lss (.tmp 21) (.tmp 0)) <|
          .ite (.tmp 22)
            (o (.bin .eql (.tmp 6) (.tmp 7)) <|
            .ite (.tmp 23)
              (o (.faddr 97 (.tmp 3)) <|
              o (.load true 1 (.tmp 24)) <|
              o (.load true 1 (.tmp 1)) <|
              oc none (.call F_dice_Dice_Skip [(.tmp 26), (.tmp 2)]) .pure [(none, .load true 1 (.tmp 24))] <|
              o (.eqAgg false 29 (.tmp 25) (.tmp 27)) <|
              .ret [(.tmp 28)])
              (.ret [(.const (.bool false))]))
            (.ret [(.const (.bool false))]))
          (.ret [(.const (.bool false))]))
        (.ret [(.const (.bool false))]))
      (.ret [(.const (.bool false))]))
    (.ret [(.const (.bool false))])
def l_law09_VmRolls : LFn := ⟨4,
    o (.box 29 (.tmp 1)) <|
    om .pure (.call F_law09_awake []) <|
    o (.un .not (.tmp 5)) <|
    .ite (.tmp 6)
      (.ret [(.const (.bool false))])
      (om .pure (.call F_law09_few [(.tmp 0)]) <|
      o (.len false (.tmp 7)) <|
      o (.bin .eql (.tmp 8) (.const (.int .i64 0))) <|
      .ite (.tmp 9)
        (.ret [(.const (.bool true))])
        (o (.conv .i64 (.tmp 2)) <|
        o (.len false (.tmp 7)) <|
        o (.bin .rem (.tmp 10) (.tmp 11)) <|
        o (.bin .add (.const (.int .i64 1)) (.tmp 12)) <|
        o (.minmax true [(.tmp 3), (.const (.int .i32 1))]) <|
        om .pure (.call F_board_New [(.tmp 7)]) <|
        o (.ext (.tmp 15) 0) <|
        o (.ext (.tmp 15) 1) <|
        o (.new 40) <|
        o (.store 97 (.tmp 18) (.tmp 16)) <|
        o (.conv .u8 (.tmp 13)) <|
        o (.build 51 [(0, 1, (.const (.int .u8 24))), (3, 1, (.tmp 20))]) <|
        o (.build 51 [(0, 1, (.const (.int .u8 23))), (1, 1, (.const (.int .u8 1))), (4, 1, (.tmp 14))]) <|
        o (.bin .sub (.tmp 13) (.const (.int .i64 1))) <|
        o (.conv .i32 (.tmp 23)) <|
        o (.build 51 [(0, 1, (.const (.int .u8 3))), (1, 1, (.const (.int .u8 1))), (4, 1, (.tmp 24))]) <|
        o (.bslice 51 3 [(0, 6, (.tmp 21)), (6, 6, (.tmp 22)), (12, 6, (.tmp 25))]) <|
        o (.load true 97 (.tmp 18)) <|
        o (.load true 1 (.tmp 4)) <|
        o (.bslice 21 1 [(0, 1, (.const (.int .i32 0)))]) <|
        om .pure (.call F_vm_Run [(.tmp 26), (.tmp 27), (.tmp 28), (.tmp 29), (.const (.int .u32 1)), (.const (.int .u32 3))]) <|
        o (.new 46) <|
        o (.store 102 (.tmp 31) (.tmp 30)) <|
        o (.conv .u8 (.tmp 13)) <|
        o (.build 51 [(0, 1, (.const (.int .u8 24))), (3, 1, (.tmp 33))]) <|
        o (.bslice 51 1 [(0, 6, (.tmp 34))]) <|
        o (.load true 97 (.tmp 18)) <|
        o (.load true 1 (.tmp 4)) <|
        o (.bslice 21 1 [(0, 1, (.const (.int .i32 0)))]) <|
        om .pure (.call F_vm_Run [(.tmp 35), (.tmp 36), (.tmp 37), (.tmp 38), (.const (.int .u32 1)), (.const (.int .u32 3))]) <|
        o (.new 46) <|
        o (.store 102 (.tmp 40) (.tmp 39)) <|
        o (.faddr 0 (.tmp 31)) <|
        o (.load true 97 (.tmp 42)) <|
        o (.bin .sub (.tmp 13) (.const (.int .i64 1))) <|
        om .pure (.call F_board_Board_At [(.tmp 43), (.tmp 44)]) <|
        o (.ext (.tmp 45) 0) <|
        o (.ext (.tmp 45) 1) <|
        o (.new 37) <|
        o (.store 2 (.tmp 48) (.tmp 46)) <|
        .join 0
          (.loop 1 [(.tmp 7), (.tmp 14), (.tmp 4), (.tmp 13), (.tmp 31), (.tmp 40), (.tmp 48), (.const (.int .i64 0)), (.const (.int .i64 0)), (.tmp 13), (.const (.int .i64 0))] l_law09_VmRolls_k0)
          l_law09_VmRolls_k1))⟩
/-! hoodwink/hoodwinklaw09.VmViews -/
def l_law09_VmViews_k0 : L :=
  o (.bin .lss (.tmp 9) (.tmp 8)) <|
  .ite (.tmp 10)
    (o (.iaddr 2 (.tmp 1) (.tmp 9)) <|
    o (.faddr 1 (.tmp 11)) <|
    o (.load false 1 (.tmp 12)) <|
    o (.bslice 35 1 [(0, 1, (.tmp 7))]) <|
    om .pure (.call F_mask_Mask_Meet [(.tmp 13), (.tmp 14)]) <|
    o (.iaddr 2 (.tmp 1) (.tmp 9)) <|
    o (.faddr 1 (.tmp 16)) <|
    o (.store 1 (.tmp 17) (.tmp 15)) <|
    o (.bin .add (.tmp 9) (.const (.int .i64 1))) <|
    .goto 1 [(.tmp 0), (.tmp 1), (.tmp 2), (.tmp 3), (.tmp 4), (.tmp 5), (.tmp 6), (.tmp 7), (.tmp 8), (.tmp 19)])
    (.goto 0 [(.tmp 0), (.tmp 1), (.tmp 2), (.tmp 3), (.tmp 4), (.tmp 5), (.tmp 6), (.tmp 7)])
def l_law09_VmViews_k1 : L :=
  o (.bin .lss (.tmp 5) (.tmp 4)) <|
  .ite (.tmp 6)
    (o (.iaddr 3 (.tmp 3) (.tmp 5)) <|
    o (.load true 3 (.tmp 7)) <|
    o (.new 69) <|
    o (.store 3 (.tmp 9) (.tmp 8)) <|
    o (.faddr 1 (.tmp 9)) <|
    o (.load false 1 (.tmp 11)) <|
    om .pure (.call F_mask_Mask_Has [(.tmp 12), (.tmp 0)]) <|
    .ite (.tmp 13)
      (.ret [(.const (.bool true))])
      (o (.bin .add (.tmp 5) (.const (.int .i64 1))) <|
      .goto 3 [(.tmp 0), (.tmp 1), (.tmp 2), (.tmp 3), (.tmp 4), (.tmp 14)]))
    (.goto 2 [(.tmp 0), (.tmp 1), (.tmp 2)])
def l_law09_VmViews_k2 : L :=
  o (.faddr 101 (.tmp 1)) <|
  o (.load false 1 (.tmp 3)) <|
  o (.faddr 101 (.tmp 2)) <|
  o (.load false 1 (.tmp 5)) <|
  o (.bin .eql (.tmp 4) (.tmp 6)) <|
  .ite (.tmp 7)
    (o (.faddr 98 (.tmp 1)) <|
    o (.load false 1 (.tmp 8)) <|
    o (.faddr 98 (.tmp 2)) <|
    o (.load false 1 (.tmp 10)) <|
    o (.bin .eql (.tmp 9) (.tmp 11)) <|
    .ite (.tmp 12)
      (o (.faddr 0 (.tmp 2)) <|
      o (.load true 97 (.tmp 13)) <|
      o (.faddr 0 (.tmp 1)) <|
      o (.load true 97 (.tmp 15)) <|
      oc none (.call F_board_Board_View [(.tmp 14), (.tmp 0)]) .pure [(none, .load true 97 (.tmp 15))] <|
      om .pure (.call F_board_Board_View [(.tmp 16), (.tmp 0)]) <|
      o (.eqAgg false 40 (.tmp 17) (.tmp 18)) <|
      .ret [(.tmp 19)])
      (.ret [(.const (.bool false))]))
    (.ret [(.const (.bool false))])
def l_law09_VmViews_k3 : L :=
  o (.load true 97 (.tmp 6)) <|
  o (.load true 1 (.tmp 3)) <|
  om .pure (.call F_vm_Run [(.tmp 0), (.tmp 8), (.tmp 9), (.tmp 1), (.tmp 2), (.tmp 5)]) <|
  o (.new 46) <|
  o (.store 102 (.tmp 11) (.tmp 10)) <|
  o (.load true 97 (.tmp 6)) <|
  om .pure (.call F_board_Board_View [(.tmp 13), (.tmp 4)]) <|
  o (.build 29 []) <|
  om .pure (.call F_vm_Run [(.tmp 0), (.tmp 14), (.tmp 15), (.tmp 7), (.tmp 2), (.tmp 5)]) <|
  o (.new 46) <|
  o (.store 102 (.tmp 17) (.tmp 16)) <|
  .join 2
    (o (.faddr 99 (.tmp 11)) <|
    o (.load false 1 (.tmp 19)) <|
    o (.len false (.tmp 20)) <|
    .loop 3 [(.tmp 4), (.tmp 11), (.tmp 17), (.tmp 20), (.tmp 21), (.const (.int .i64 0))] l_law09_VmViews_k1)
    l_law09_VmViews_k2
def l_law09_VmViews_k4 : L :=
  o (.len false (.tmp 1)) <|
  o (.len false (.tmp 2)) <|
  om .pure (.call F_ref08_Check [(.tmp 5), (.tmp 8), (.tmp 9)]) <|
  o (.bin .geq (.tmp 10) (.const (.int .i64 0))) <|
  .ite (.tmp 11)
    (.ret [(.const (.bool true))])
    (om .pure (.call F_board_New [(.tmp 1)]) <|
    o (.ext (.tmp 12) 0) <|
    o (.ext (.tmp 12) 1) <|
    o (.new 40) <|
    o (.store 97 (.tmp 15) (.tmp 13)) <|
    o (.len false (.tmp 2)) <|
    o (.mkslice 21 4 (.tmp 17) (.tmp 17)) <|
    .join 1
      (o (.len false (.tmp 2)) <|
      o (.bin .lss (.tmp 6) (.tmp 19)) <|
      .ite (.tmp 20)
        (o (.iaddr 1 (.tmp 2) (.tmp 6)) <|
        o (.load false 1 (.tmp 21)) <|
        o (.iaddr 1 (.tmp 18) (.tmp 6)) <|
        o (.store 1 (.tmp 23) (.tmp 22)) <|
        .goto 1 [(.tmp 0), (.tmp 2), (.tmp 3), (.tmp 4), (.tmp 6), (.tmp 7), (.tmp 15), (.tmp 18)])
        (.goto 1 [(.tmp 0), (.tmp 2), (.tmp 3), (.tmp 4), (.tmp 6), (.tmp 7), (.tmp 15), (.tmp 18)]))
      l_law09_VmViews_k3)
def l_law09_VmViews : LFn := ⟨6,
    o (.box 29 (.tmp 2)) <|
    om .pure (.call F_law09_awake []) <|
    o (.un .not (.tmp 7)) <|
    .ite (.tmp 8)
      (.ret [(.const (.bool false))])
      (o (.call F_law09_few [(.tmp 1)]) <|
      om .pure (.call F_law09_players [(.tmp 3)]) <|
      om .pure (.call F_law09_codes [(.tmp 0)]) <|
      o (.ext (.tmp 11) 0) <|
      o (.ext (.tmp 11) 1) <|
      o (.len false (.tmp 10)) <|
      o (.bin .quo (.tmp 5) (.const (.int .u8 64))) <|
      o (.conv .i64 (.tmp 15)) <|
      o (.bin .add (.tmp 14) (.tmp 16)) <|
      o (.conv .i64 (.tmp 5)) <|
      o (.bin .rem (.tmp 18) (.tmp 17)) <|
      om .pure (.call F_mask_All [(.tmp 17)]) <|
      .join 0
        (o (.len false (.tmp 9)) <|
        .loop 1 [(.tmp 12), (.tmp 9), (.tmp 10), (.tmp 4), (.tmp 6), (.tmp 13), (.tmp 19), (.tmp 20), (.tmp 21), (.const (.int .i64 0))] l_law09_VmViews_k0)
        l_law09_VmViews_k4)⟩
/-! hoodwink/hoodwinklaw09.VmLabels -/
def l_law09_VmLabels_k0 : L :=
  o (.bin .lss (.tmp 9) (.tmp 8)) <|
  .ite (.tmp 10)
    (o (.len false (.tmp 2)) <|
    o (.bin .lss (.tmp 9) (.tmp 11)) <|
    .ite (.tmp 12)
      (o (.iaddr 2 (.tmp 7) (.tmp 9)) <|
      o (.faddr 1 (.tmp 13)) <|
      o (.load false 1 (.tmp 14)) <|
      om .pure (.call F_mask_Mask_Within [(.tmp 6), (.tmp 15)]) <|
      o (.un .not (.tmp 16)) <|
      .ite (.tmp 17)
        (o (.iaddr 1 (.tmp 2) (.tmp 9)) <|
        o (.load false 1 (.tmp 18)) <|
        o (.iaddr 2 (.tmp 7) (.tmp 9)) <|
        o (.faddr 0 (.tmp 20)) <|
        o (.store 1 (.tmp 21) (.tmp 19)) <|
        o (.bin .add (.tmp 9) (.const (.int .i64 1))) <|
        .goto 1 [(.tmp 0), (.tmp 1), (.tmp 2), (.tmp 3), (.tmp 4), (.tmp 5), (.tmp 6), (.tmp 7), (.tmp 8), (.tmp 23)])
        (o (.bin .add (.tmp 9) (.const (.int .i64 1))) <|
        .goto 1 [(.tmp 0), (.tmp 1), (.tmp 2), (.tmp 3), (.tmp 4), (.tmp 5), (.tmp 6), (.tmp 7), (.tmp 8), (.tmp 18)]))
      (o (.bin .add (.tmp 9) (.const (.int .i64 1))) <|
      .goto 1 [(.tmp 0), (.tmp 1), (.tmp 2), (.tmp 3), (.tmp 4), (.tmp 5), (.tmp 6), (.tmp 7), (.tmp 8), (.tmp 13)]))
    (.goto 0 [(.tmp 0), (.tmp 1), (.tmp 3), (.tmp 4), (.tmp 5), (.tmp 6), (.tmp 7)])
def l_law09_VmLabels_k1 : L :=
  o (.bin .lss (.tmp 9) (.tmp 8)) <|
  .ite (.tmp 10)
    (o (.iaddr 6 (.tmp 7) (.tmp 9)) <|
    o (.load true 6 (.tmp 11)) <|
    o (.new 51) <|
    o (.store 6 (.tmp 13) (.tmp 12)) <|
    o (.faddr 0 (.tmp 13)) <|
    o (.load false 1 (.tmp 15)) <|
    o (.bin .eql (.tmp 16) (.const (.int .u8 22))) <|
    .ite (.tmp 17)
      (.ret [(.const (.bool true))])
      (o (.bin .add (.tmp 9) (.const (.int .i64 1))) <|
      .goto 2 [(.tmp 0), (.tmp 1), (.tmp 2), (.tmp 3), (.tmp 4), (.tmp 5), (.tmp 6), (.tmp 7), (.tmp 8), (.tmp 18)]))
    (.goto 1 [(.tmp 0), (.tmp 1), (.tmp 2), (.tmp 3), (.tmp 4), (.tmp 5), (.tmp 6)])
def l_law09_VmLabels_k2 : L :=
  om .pure (.call F_board_New [(.tmp 1)]) <|
  o (.ext (.tmp 7) 0) <|
  o (.ext (.tmp 7) 1) <|
  o (.new 40) <|
  o (.store 97 (.tmp 10) (.tmp 8)) <|
  om .pure (.call F_board_New [(.tmp 6)]) <|
  o (.ext (.tmp 12) 0) <|
  o (.ext (.tmp 12) 1) <|
  o (.new 40) <|
  o (.store 97 (.tmp 15) (.tmp 13)) <|
  o (.load true 97 (.tmp 10)) <|
  o (.load true 1 (.tmp 3)) <|
  o (.load true 97 (.tmp 15)) <|
  o (.load true 1 (.tmp 4)) <|
  o (.new 46) <|
  o (.new 46) <|
  oc none (.call F_vm_Run [(.tmp 0), (.tmp 17), (.tmp 18), (.tmp 2), (.const (.int .u32 2)), (.tmp 5)]) .pure [(none, .load true 97 (.tmp 15)), (none, .load true 1 (.tmp 4))] <|
  om .pure (.call F_vm_Run [(.tmp 0), (.tmp 19), (.tmp 20), (.tmp 2), (.const (.int .u32 2)), (.tmp 5)]) <|
  o (.store 102 (.tmp 21) (.tmp 23)) <|
  o (.store 102 (.tmp 22) (.tmp 24)) <|
  o (.faddr 101 (.tmp 21)) <|
  o (.load false 1 (.tmp 27)) <|
  o (.faddr 101 (.tmp 22)) <|
  o (.load false 1 (.tmp 29)) <|
  o (.bin .eql (.tmp 28) (.tmp 30)) <|
  .ite (.tmp 31)
    (o (.faddr 98 (.tmp 21)) <|
    o (.load false 1 (.tmp 32)) <|
    o (.faddr 98 (.tmp 22)) <|
    o (.load false 1 (.tmp 34)) <|
    o (.bin .eql (.tmp 33) (.tmp 35)) <|
    .ite (.tmp 36)
      (o (.faddr 100 (.tmp 21)) <|
      o (.load false 1 (.tmp 37)) <|
      o (.faddr 100 (.tmp 22)) <|
      o (.load false 1 (.tmp 39)) <|
      o (.bin .eql (.tmp 38) (.tmp 40)) <|
      .ite (.tmp 41)
        (o (.faddr 0 (.tmp 21)) <|
        o (.load true 97 (.tmp 42)) <|
        o (.faddr 0 (.tmp 22)) <|
        o (.load true 97 (.tmp 44)) <|
        oc none (.call F_board_Board_Labels [(.tmp 43)]) .pure [(none, .load true 97 (.tmp 44))] <|
        om .pure (.call F_board_Board_Labels [(.tmp 45)]) <|
        o (.bin .eql (.tmp 46) (.tmp 47)) <|
        .ret [(.tmp 48)])
        (.ret [(.const (.bool false))]))
      (.ret [(.const (.bool false))]))
    (.ret [(.const (.bool false))])
def l_law09_VmLabels_k3 : L :=
  .join 1
    (o (.len false (.tmp 0)) <|
    .loop 2 [(.tmp 0), (.tmp 1), (.tmp 2), (.tmp 3), (.tmp 4), (.tmp 5), (.tmp 6), (.tmp 0), (.tmp 7), (.const (.int .i64 0))] l_law09_VmLabels_k1)
    l_law09_VmLabels_k2
def l_law09_VmLabels : LFn := ⟨6,
    o (.box 29 (.tmp 3)) <|
    o (.box 29 (.tmp 4)) <|
    om .pure (.call F_law09_awake []) <|
    o (.un .not (.tmp 8)) <|
    .ite (.tmp 9)
      (.ret [(.const (.bool false))])
      (o (.call F_law09_few [(.tmp 1)]) <|
      om .pure (.call F_law09_players [(.tmp 5)]) <|
      om .pure (.call F_law09_codes [(.tmp 0)]) <|
      o (.ext (.tmp 12) 0) <|
      o (.ext (.tmp 12) 1) <|
      om .pure (.call F_mask_All [(.const (.int .i64 8))]) <|
      o (.call F_law09_few [(.tmp 10)]) <|
      .join 0
        (o (.len false (.tmp 16)) <|
        .loop 1 [(.tmp 13), (.tmp 10), (.tmp 2), (.tmp 11), (.tmp 6), (.tmp 7), (.tmp 15), (.tmp 16), (.tmp 17), (.const (.int .i64 0))] l_law09_VmLabels_k0)
        l_law09_VmLabels_k3)⟩
/-! hoodwink/hoodwinklaw09.VmHides -/
def l_law09_VmHides_k0 : L :=
  o (.bin .lss (.tmp 12) (.tmp 11)) <|
  .ite (.tmp 13)
    (o (.iaddr 2 (.tmp 1) (.tmp 12)) <|
    o (.faddr 1 (.tmp 14)) <|
    o (.load false 1 (.tmp 15)) <|
    o (.bslice 35 1 [(0, 1, (.tmp 10))]) <|
    om .pure (.call F_mask_Mask_Meet [(.tmp 16), (.tmp 17)]) <|
    o (.iaddr 2 (.tmp 1) (.tmp 12)) <|
    o (.faddr 1 (.tmp 19)) <|
    o (.store 1 (.tmp 20) (.tmp 18)) <|
    o (.bin .add (.tmp 12) (.const (.int .i64 1))) <|
    .goto 1 [(.tmp 0), (.tmp 1), (.tmp 2), (.tmp 3), (.tmp 4), (.tmp 5), (.tmp 6), (.tmp 7), (.tmp 8), (.tmp 9), (.tmp 10), (.tmp 11), (.tmp 22)])
    (.goto 0 [(.tmp 0), (.tmp 1), (.tmp 2), (.tmp 3), (.tmp 4), (.tmp 5), (.tmp 6), (.tmp 7), (.tmp 8), (.tmp 9), (.tmp 10)])
def l_law09_VmHides_k1 : L :=
  o (.bin .lss (.tmp 12) (.tmp 11)) <|
  .ite (.tmp 13)
    (o (.len false (.tmp 2)) <|
    o (.bin .lss (.tmp 12) (.tmp 14)) <|
    .ite (.tmp 15)
      (o (.iaddr 2 (.tmp 10) (.tmp 12)) <|
      o (.faddr 1 (.tmp 16)) <|
      o (.load false 1 (.tmp 17)) <|
      om .pure (.call F_mask_Mask_Has [(.tmp 18), (.tmp 8)]) <|
      o (.un .not (.tmp 19)) <|
      .ite (.tmp 20)
        (o (.iaddr 1 (.tmp 2) (.tmp 12)) <|
        o (.load false 1 (.tmp 21)) <|
        o (.iaddr 2 (.tmp 10) (.tmp 12)) <|
        o (.faddr 0 (.tmp 23)) <|
        o (.store 1 (.tmp 24) (.tmp 22)) <|
        o (.bin .add (.tmp 12) (.const (.int .i64 1))) <|
        .goto 2 [(.tmp 0), (.tmp 1), (.tmp 2), (.tmp 3), (.tmp 4), (.tmp 5), (.tmp 6), (.tmp 7), (.tmp 8), (.tmp 9), (.tmp 10), (.tmp 11), (.tmp 26)])
        (o (.bin .add (.tmp 12) (.const (.int .i64 1))) <|
        .goto 2 [(.tmp 0), (.tmp 1), (.tmp 2), (.tmp 3), (.tmp 4), (.tmp 5), (.tmp 6), (.tmp 7), (.tmp 8), (.tmp 9), (.tmp 10), (.tmp 11), (.tmp 21)]))
      (o (.bin .add (.tmp 12) (.const (.int .i64 1))) <|
      .goto 2 [(.tmp 0), (.tmp 1), (.tmp 2), (.tmp 3), (.tmp 4), (.tmp 5), (.tmp 6), (.tmp 7), (.tmp 8), (.tmp 9), (.tmp 10), (.tmp 11), (.tmp 16)]))
    (.goto 1 [(.tmp 0), (.tmp 1), (.tmp 3), (.tmp 4), (.tmp 5), (.tmp 6), (.tmp 7), (.tmp 8), (.tmp 9), (.tmp 10)])
def l_law09_VmHides_k2 : L :=
  o (.bin .lss (.tmp 12) (.tmp 11)) <|
  .ite (.tmp 13)
    (o (.bin .neq (.tmp 12) (.tmp 7)) <|
    .ite (.tmp 14)
      (o (.len false (.tmp 3)) <|
      o (.bin .lss (.tmp 12) (.tmp 15)) <|
      .ite (.tmp 16)
        (o (.iaddr 1 (.tmp 3) (.tmp 12)) <|
        o (.load false 1 (.tmp 17)) <|
        o (.iaddr 1 (.tmp 10) (.tmp 12)) <|
        o (.store 1 (.tmp 19) (.tmp 18)) <|
        o (.bin .add (.tmp 12) (.const (.int .i64 1))) <|
        .goto 3 [(.tmp 0), (.tmp 1), (.tmp 2), (.tmp 3), (.tmp 4), (.tmp 5), (.tmp 6), (.tmp 7), (.tmp 8), (.tmp 9), (.tmp 10), (.tmp 11), (.tmp 21)])
        (o (.bin .add (.tmp 12) (.const (.int .i64 1))) <|
        .goto 3 [(.tmp 0), (.tmp 1), (.tmp 2), (.tmp 3), (.tmp 4), (.tmp 5), (.tmp 6), (.tmp 7), (.tmp 8), (.tmp 9), (.tmp 10), (.tmp 11), (.tmp 17)]))
      (o (.bin .add (.tmp 12) (.const (.int .i64 1))) <|
      .goto 3 [(.tmp 0), (.tmp 1), (.tmp 2), (.tmp 3), (.tmp 4), (.tmp 5), (.tmp 6), (.tmp 7), (.tmp 8), (.tmp 9), (.tmp 10), (.tmp 11), (.tmp 15)]))
    (.goto 2 [(.tmp 0), (.tmp 1), (.tmp 2), (.tmp 4), (.tmp 5), (.tmp 6), (.tmp 7), (.tmp 8), (.tmp 9), (.tmp 10)])
def l_law09_VmHides_k3 : L :=
  o (.faddr 99 (.tmp 1)) <|
  o (.load false 1 (.tmp 6)) <|
  o (.iaddr 3 (.tmp 7) (.tmp 3)) <|
  o (.faddr 1 (.tmp 8)) <|
  o (.load false 1 (.tmp 9)) <|
  om .pure (.call F_mask_Mask_Has [(.tmp 10), (.tmp 0)]) <|
  .ite (.tmp 11)
    (o (.faddr 99 (.tmp 1)) <|
    o (.load false 1 (.tmp 12)) <|
    o (.iaddr 3 (.tmp 13) (.tmp 3)) <|
    o (.faddr 2 (.tmp 14)) <|
    o (.load false 1 (.tmp 15)) <|
    o (.faddr 99 (.tmp 2)) <|
    o (.load false 1 (.tmp 17)) <|
    o (.iaddr 3 (.tmp 18) (.tmp 3)) <|
    o (.faddr 2 (.tmp 19)) <|
    o (.load false 1 (.tmp 20)) <|
    o (.bin .neq (.tmp 16) (.tmp 21)) <|
    .ite (.tmp 22)
      (.ret [(.const (.bool true))])
      (o (.bin .add (.tmp 5) (.const (.int .i64 1))) <|
      .goto 4 [(.tmp 0), (.tmp 1), (.tmp 2), (.tmp 4), (.tmp 23)]))
    (o (.bin .add (.tmp 5) (.const (.int .i64 1))) <|
    .goto 4 [(.tmp 0), (.tmp 1), (.tmp 2), (.tmp 4), (.tmp 12)])
def l_law09_VmHides_k4 : L :=
  o (.bin .lss (.tmp 4) (.tmp 3)) <|
  .ite (.tmp 5)
    (.join 5
      (o (.faddr 99 (.tmp 1)) <|
      o (.load false 1 (.tmp 6)) <|
      o (.iaddr 3 (.tmp 7) (.tmp 4)) <|
      o (.faddr 0 (.tmp 8)) <|
      o (.load false 1 (.tmp 9)) <|
      o (.faddr 99 (.tmp 2)) <|
      o (.load false 1 (.tmp 11)) <|
      o (.iaddr 3 (.tmp 12) (.tmp 4)) <|
      o (.faddr 0 (.tmp 13)) <|
      o (.load false 1 (.tmp 14)) <|
      o (.bin .neq (.tmp 10) (.tmp 15)) <|
      .ite (.tmp 16)
        (.ret [(.const (.bool false))])
        (o (.faddr 99 (.tmp 1)) <|
        o (.load false 1 (.tmp 17)) <|
        o (.iaddr 3 (.tmp 18) (.tmp 4)) <|
        o (.faddr 1 (.tmp 19)) <|
        o (.load false 1 (.tmp 20)) <|
        o (.faddr 99 (.tmp 2)) <|
        o (.load false 1 (.tmp 22)) <|
        o (.iaddr 3 (.tmp 23) (.tmp 4)) <|
        o (.faddr 1 (.tmp 24)) <|
        o (.load false 1 (.tmp 25)) <|
        o (.bin .neq (.tmp 21) (.tmp 26)) <|
        .ite (.tmp 27)
          (.ret [(.const (.bool false))])
          (.goto 5 [(.tmp 0), (.tmp 1), (.tmp 2), (.tmp 4), (.tmp 3), (.tmp 4)])))
      l_law09_VmHides_k3)
    (.goto 3 [(.tmp 0), (.tmp 1), (.tmp 2)])
def l_law09_VmHides_k5 : L :=
  o (.faddr 101 (.tmp 1)) <|
  o (.load false 1 (.tmp 3)) <|
  o (.faddr 101 (.tmp 2)) <|
  o (.load false 1 (.tmp 5)) <|
  o (.bin .eql (.tmp 4) (.tmp 6)) <|
  .ite (.tmp 7)
    (o (.faddr 100 (.tmp 1)) <|
    o (.load false 1 (.tmp 8)) <|
    o (.faddr 100 (.tmp 2)) <|
    o (.load false 1 (.tmp 10)) <|
    o (.bin .eql (.tmp 9) (.tmp 11)) <|
    .ite (.tmp 12)
      (o (.faddr 98 (.tmp 1)) <|
      o (.load false 1 (.tmp 13)) <|
      o (.faddr 98 (.tmp 2)) <|
      o (.load false 1 (.tmp 15)) <|
      o (.bin .eql (.tmp 14) (.tmp 16)) <|
      .ite (.tmp 17)
        (o (.faddr 99 (.tmp 1)) <|
        o (.load false 1 (.tmp 18)) <|
        o (.len false (.tmp 19)) <|
        o (.faddr 99 (.tmp 2)) <|
        o (.load false 1 (.tmp 21)) <|
        o (.len false (.tmp 22)) <|
        o (.bin .eql (.tmp 20) (.tmp 23)) <|
        .ite (.tmp 24)
          (o (.faddr 0 (.tmp 1)) <|
          o (.load true 97 (.tmp 25)) <|
          o (.faddr 0 (.tmp 2)) <|
          o (.load true 97 (.tmp 27)) <|
          om .pure (.call F_board_Alike [(.tmp 26), (.tmp 28), (.tmp 0)]) <|
          .ite (.tmp 29)
            (o (.faddr 0 (.tmp 1)) <|
            o (.load true 97 (.tmp 30)) <|
            o (.faddr 0 (.tmp 2)) <|
            o (.load true 97 (.tmp 32)) <|
            oc none (.call F_board_Board_Labels [(.tmp 31)]) .pure [(none, .load true 97 (.tmp 32))] <|
            om .pure (.call F_board_Board_Labels [(.tmp 33)]) <|
            o (.bin .eql (.tmp 34) (.tmp 35)) <|
            .ret [(.tmp 36)])
            (.ret [(.const (.bool false))]))
          (.ret [(.const (.bool false))]))
        (.ret [(.const (.bool false))]))
      (.ret [(.const (.bool false))]))
    (.ret [(.const (.bool false))])
def l_law09_VmHides_k6 : L :=
  om .pure (.call F_board_New [(.tmp 1)]) <|
  o (.ext (.tmp 10) 0) <|
  o (.ext (.tmp 10) 1) <|
  o (.new 40) <|
  o (.store 97 (.tmp 13) (.tmp 11)) <|
  om .pure (.call F_board_New [(.tmp 8)]) <|
  o (.ext (.tmp 15) 0) <|
  o (.ext (.tmp 15) 1) <|
  o (.new 40) <|
  o (.store 97 (.tmp 18) (.tmp 16)) <|
  o (.load true 97 (.tmp 13)) <|
  o (.load true 1 (.tmp 4)) <|
  om .pure (.call F_vm_Run [(.tmp 0), (.tmp 20), (.tmp 21), (.tmp 2), (.tmp 3), (.tmp 7)]) <|
  o (.new 46) <|
  o (.store 102 (.tmp 23) (.tmp 22)) <|
  o (.load true 97 (.tmp 18)) <|
  o (.load true 1 (.tmp 5)) <|
  om .pure (.call F_vm_Run [(.tmp 0), (.tmp 25), (.tmp 26), (.tmp 9), (.tmp 3), (.tmp 7)]) <|
  o (.new 46) <|
  o (.store 102 (.tmp 28) (.tmp 27)) <|
  .join 3
    (o (.faddr 99 (.tmp 23)) <|
    o (.load false 1 (.tmp 30)) <|
    o (.len false (.tmp 31)) <|
    o (.faddr 99 (.tmp 28)) <|
    o (.load false 1 (.tmp 33)) <|
    o (.len false (.tmp 34)) <|
    o (.minmax false [(.tmp 32), (.tmp 35)]) <|
    .loop 4 [(.tmp 6), (.tmp 23), (.tmp 28), (.tmp 36), (.const (.int .i64 0))] l_law09_VmHides_k4)
    l_law09_VmHides_k5
def l_law09_VmHides_k7 : L :=
  o (.bslice 21 0 []) <|
  o (.append 1 4 (.tmp 10) (.tmp 2)) <|
  .join 2
    (o (.len false (.tmp 11)) <|
    .loop 3 [(.tmp 0), (.tmp 1), (.tmp 2), (.tmp 3), (.tmp 4), (.tmp 5), (.tmp 6), (.tmp 7), (.tmp 8), (.tmp 9), (.tmp 11), (.tmp 12), (.const (.int .i64 0))] l_law09_VmHides_k2)
    l_law09_VmHides_k6
def l_law09_VmHides_k8 : L :=
  o (.len false (.tmp 1)) <|
  o (.len false (.tmp 3)) <|
  om .pure (.call F_ref08_Check [(.tmp 8), (.tmp 11), (.tmp 12)]) <|
  o (.bin .geq (.tmp 13) (.const (.int .i64 0))) <|
  .ite (.tmp 14)
    (.ret [(.const (.bool true))])
    (o (.call F_law09_few [(.tmp 1)]) <|
    .join 1
      (o (.len false (.tmp 15)) <|
      .loop 2 [(.tmp 0), (.tmp 1), (.tmp 2), (.tmp 3), (.tmp 4), (.tmp 5), (.tmp 6), (.tmp 7), (.tmp 9), (.tmp 10), (.tmp 15), (.tmp 16), (.const (.int .i64 0))] l_law09_VmHides_k1)
      l_law09_VmHides_k7)
def l_law09_VmHides : LFn := ⟨9,
    o (.box 29 (.tmp 3)) <|
    o (.box 29 (.tmp 4)) <|
    om .pure (.call F_law09_awake []) <|
    o (.un .not (.tmp 11)) <|
    .ite (.tmp 12)
      (.ret [(.const (.bool false))])
      (o (.call F_law09_few [(.tmp 1)]) <|
      om .pure (.call F_law09_players [(.tmp 5)]) <|
      om .pure (.call F_law09_codes [(.tmp 0)]) <|
      o (.ext (.tmp 15) 0) <|
      o (.ext (.tmp 15) 1) <|
      o (.len false (.tmp 14)) <|
      o (.bin .quo (.tmp 8) (.const (.int .u8 64))) <|
      o (.conv .i64 (.tmp 19)) <|
      o (.bin .add (.tmp 18) (.tmp 20)) <|
      o (.conv .i64 (.tmp 8)) <|
      o (.bin .rem (.tmp 22) (.tmp 21)) <|
      om .pure (.call F_mask_All [(.tmp 21)]) <|
      .join 0
        (o (.len false (.tmp 13)) <|
        .loop 1 [(.tmp 16), (.tmp 13), (.tmp 2), (.tmp 14), (.tmp 6), (.tmp 7), (.tmp 9), (.tmp 10), (.tmp 17), (.tmp 23), (.tmp 24), (.tmp 25), (.const (.int .i64 0))] l_law09_VmHides_k0)
        l_law09_VmHides_k8)⟩
/-! hoodwink/hoodwinklaw09.awake -/
def l_law09_awake : LFn := ⟨0,
    o (.build 37 [(0, 1, (.const (.int .i32 7))), (1, 1, (.const (.int .u32 1)))]) <|
    o (.build 37 [(0, 1, (.const (.int .i32 1))), (1, 1, (.const (.int .u32 3)))]) <|
    o (.bslice 37 2 [(0, 2, (.tmp 0)), (2, 2, (.tmp 1))]) <|
    om .pure (.call F_board_New [(.tmp 2)]) <|
    o (.ext (.tmp 3) 0) <|
    o (.ext (.tmp 3) 1) <|
    o (.new 40) <|
    o (.store 97 (.tmp 6) (.tmp 4)) <|
    o (.build 51 [(0, 1, (.const (.int .u8 2)))]) <|
    o (.build 51 [(0, 1, (.const (.int .u8 1))), (1, 1, (.const (.int .u8 1))), (4, 1, (.const (.int .i32 1)))]) <|
    o (.build 51 [(0, 1, (.const (.int .u8 6))), (1, 1, (.const (.int .u8 0))), (2, 1, (.const (.int .u8 0))), (3, 1, (.const (.int .u8 1)))]) <|
    o (.build 51 [(0, 1, (.const (.int .u8 3))), (4, 1, (.const (.int .i32 1)))]) <|
    o (.bslice 51 4 [(0, 6, (.tmp 8)), (6, 6, (.tmp 9)), (12, 6, (.tmp 10)), (18, 6, (.tmp 11))]) <|
    o (.load true 97 (.tmp 6)) <|
    o (.build 29 []) <|
    o (.bslice 21 1 [(0, 1, (.const (.int .i32 0)))]) <|
    om .pure (.call F_vm_Run [(.tmp 12), (.tmp 13), (.tmp 14), (.tmp 15), (.const (.int .u32 1)), (.const (.int .u32 3))]) <|
    o (.new 46) <|
    o (.store 102 (.tmp 17) (.tmp 16)) <|
    o (.faddr 0 (.tmp 17)) <|
    o (.load true 97 (.tmp 19)) <|
    om .pure (.call F_board_Board_At [(.tmp 20), (.const (.int .i64 1))]) <|
    o (.ext (.tmp 21) 0) <|
    o (.ext (.tmp 21) 1) <|
    o (.new 37) <|
    o (.store 2 (.tmp 24) (.tmp 22)) <|
    o (.faddr 101 (.tmp 17)) <|
    o (.load false 1 (.tmp 26)) <|
    o (.bin .eql (.tmp 27) (.const (.int .i64 0))) <|
    .ite (.tmp 28)
      (.ite (.tmp 23)
        (o (.faddr 0 (.tmp 24)) <|
        o (.load false 1 (.tmp 29)) <|
        o (.bin .eql (.tmp 30) (.const (.int .i32 8))) <|
        .ite (.tmp 31)
          (o (.faddr 1 (.tmp 24)) <|
          o (.load false 1 (.tmp 32)) <|
          o (.bin .eql (.tmp 33) (.const (.int .u32 1))) <|
          .ite (.tmp 34)
            (o (.faddr 98 (.tmp 17)) <|
            o (.load false 1 (.tmp 35)) <|
            o (.bin .eql (.tmp 36) (.const (.int .u64 2))) <|
            .ite (.tmp 37)
              (o (.faddr 100 (.tmp 17)) <|
              o (.load false 1 (.tmp 38)) <|
              o (.bin .eql (.tmp 39) (.const (.int .i64 4))) <|
              .ret [(.tmp 40)])
              (.ret [(.const (.bool false))]))
            (.ret [(.const (.bool false))]))
          (.ret [(.const (.bool false))]))
        (.ret [(.const (.bool false))]))
      (.ret [(.const (.bool false))])⟩
/-! hoodwink/vm.Compute -/
def l_vm_Compute_k0 : L :=
  .ite (.tmp 4)
    (o (.bin .eql (.tmp 0) (.const (.int .u8 10))) <|
    om .pure (.call F_vm_divided [(.tmp 1), (.tmp 2), (.tmp 5)]) <|
    .ret [(.tmp 6)])
    (o (.bin .eql (.tmp 3) (.const (.int .u8 11))) <|
    .ite (.tmp 5)
      (o (.bin .and (.tmp 1) (.tmp 2)) <|
      .ret [(.tmp 6)])
      (o (.bin .eql (.tmp 3) (.const (.int .u8 12))) <|
      .ite (.tmp 6)
        (o (.bin .or (.tmp 1) (.tmp 2)) <|
        .ret [(.tmp 7)])
        (o (.bin .eql (.tmp 3) (.const (.int .u8 13))) <|
        .ite (.tmp 7)
          (o (.bin .xor (.tmp 1) (.tmp 2)) <|
          .ret [(.tmp 8)])
          (o (.bin .eql (.tmp 3) (.const (.int .u8 14))) <|
          .ite (.tmp 8)
            (o (.conv .u32 (.tmp 2)) <|
            o (.bin .and (.tmp 9) (.const (.int .u32 31))) <|
            o (.bin .shl (.tmp 1) (.tmp 10)) <|
            .ret [(.tmp 11)])
            (o (.bin .eql (.tmp 3) (.const (.int .u8 15))) <|
            .ite (.tmp 9)
              (o (.conv .u32 (.tmp 2)) <|
              o (.bin .and (.tmp 10) (.const (.int .u32 31))) <|
              o (.bin .shr (.tmp 1) (.tmp 11)) <|
              .ret [(.tmp 12)])
              (o (.bin .eql (.tmp 3) (.const (.int .u8 16))) <|
              .ite (.tmp 10)
                (o (.bin .lss (.tmp 1) (.tmp 2)) <|
                om .pure (.call F_vm_one [(.tmp 11)]) <|
                .ret [(.tmp 12)])
                (o (.bin .eql (.tmp 3) (.const (.int .u8 17))) <|
                .ite (.tmp 11)
                  (o (.bin .eql (.tmp 1) (.tmp 2)) <|
                  om .pure (.call F_vm_one [(.tmp 12)]) <|
                  .ret [(.tmp 13)])
                  (.ret [(.const (.int .i32 0))]))))))))
def l_vm_Compute : LFn := ⟨3,
    o (.bin .eql (.tmp 0) (.const (.int .u8 6))) <|
    .ite (.tmp 3)
      (o (.bin .add (.tmp 1) (.tmp 2)) <|
      .ret [(.tmp 4)])
      (o (.bin .eql (.tmp 0) (.const (.int .u8 7))) <|
      .ite (.tmp 4)
        (o (.bin .sub (.tmp 1) (.tmp 2)) <|
        .ret [(.tmp 5)])
        (o (.bin .eql (.tmp 0) (.const (.int .u8 8))) <|
        .ite (.tmp 5)
          (o (.bin .mul (.tmp 1) (.tmp 2)) <|
          .ret [(.tmp 6)])
          (.join 0
            (o (.bin .eql (.tmp 0) (.const (.int .u8 9))) <|
            .ite (.tmp 6)
              (.goto 0 [(.tmp 0), (.tmp 1), (.tmp 2), (.tmp 0), (.tmp 6)])
              (o (.bin .eql (.tmp 0) (.const (.int .u8 10))) <|
              .goto 0 [(.tmp 0), (.tmp 1), (.tmp 2), (.tmp 0), (.tmp 7)]))
            l_vm_Compute_k0)))⟩
/-! hoodwink/hoodwinkref09.Compute -/
def l_ref09_Compute : LFn := ⟨3,
    o (.conv .i64 (.tmp 1)) <|
    o (.conv .i64 (.tmp 2)) <|
    o (.bin .eql (.tmp 0) (.const (.int .u8 6))) <|
    .ite (.tmp 5)
      (o (.bin .add (.tmp 3) (.tmp 4)) <|
      o (.conv .u64 (.tmp 6)) <|
      o (.conv .u32 (.tmp 7)) <|
      o (.conv .i32 (.tmp 8)) <|
      .ret [(.tmp 9)])
      (o (.bin .eql (.tmp 0) (.const (.int .u8 7))) <|
      .ite (.tmp 6)
        (o (.bin .sub (.tmp 3) (.tmp 4)) <|
        o (.conv .u64 (.tmp 7)) <|
        o (.conv .u32 (.tmp 8)) <|
        o (.conv .i32 (.tmp 9)) <|
        .ret [(.tmp 10)])
        (o (.bin .eql (.tmp 0) (.const (.int .u8 8))) <|
        .ite (.tmp 7)
          (o (.bin .mul (.tmp 3) (.tmp 4)) <|
          o (.conv .u64 (.tmp 8)) <|
          o (.conv .u32 (.tmp 9)) <|
          o (.conv .i32 (.tmp 10)) <|
          .ret [(.tmp 11)])
          (o (.bin .eql (.tmp 0) (.const (.int .u8 9))) <|
          .ite (.tmp 8)
            (o (.bin .eql (.tmp 4) (.const (.int .i64 0))) <|
            .ite (.tmp 9)
              (.ret [(.const (.int .i32 0))])
              (o (.bin .quo (.tmp 3) (.tmp 4)) <|
              o (.conv .u64 (.tmp 10)) <|
              o (.conv .u32 (.tmp 11)) <|
              o (.conv .i32 (.tmp 12)) <|
              .ret [(.tmp 13)]))
            (o (.bin .eql (.tmp 0) (.const (.int .u8 10))) <|
            .ite (.tmp 9)
              (o (.bin .eql (.tmp 4) (.const (.int .i64 0))) <|
              .ite (.tmp 10)
                (.ret [(.const (.int .i32 0))])
                (o (.bin .rem (.tmp 3) (.tmp 4)) <|
                o (.conv .i32 (.tmp 11)) <|
                .ret [(.tmp 12)]))
              (o (.bin .eql (.tmp 0) (.const (.int .u8 11))) <|
              .ite (.tmp 10)
                (o (.bin .and (.tmp 1) (.tmp 2)) <|
                .ret [(.tmp 11)])
                (o (.bin .eql (.tmp 0) (.const (.int .u8 12))) <|
                .ite (.tmp 11)
                  (o (.bin .or (.tmp 1) (.tmp 2)) <|
                  .ret [(.tmp 12)])
                  (o (.bin .eql (.tmp 0) (.const (.int .u8 13))) <|
                  .ite (.tmp 12)
                    (o (.bin .or (.tmp 1) (.tmp 2)) <|
                    o (.bin .and (.tmp 1) (.tmp 2)) <|
                    o (.bin .sub (.tmp 13) (.tmp 14)) <|
                    .ret [(.tmp 15)])
                    (o (.bin .eql (.tmp 0) (.const (.int .u8 14))) <|
                    .ite (.tmp 13)
                      (o (.conv .u64 (.tmp 3)) <|
                      o (.conv .u32 (.tmp 2)) <|
                      o (.bin .rem (.tmp 15) (.const (.int .u32 32))) <|
                      o (.bin .shl (.tmp 14) (.tmp 16)) <|
                      o (.conv .u32 (.tmp 17)) <|
                      o (.conv .i32 (.tmp 18)) <|
                      .ret [(.tmp 19)])
                      (o (.bin .eql (.tmp 0) (.const (.int .u8 15))) <|
                      .ite (.tmp 14)
                        (o (.conv .u32 (.tmp 2)) <|
                        o (.bin .rem (.tmp 15) (.const (.int .u32 32))) <|
                        o (.bin .shr (.tmp 3) (.tmp 16)) <|
                        o (.conv .i32 (.tmp 17)) <|
                        .ret [(.tmp 18)])
                        (o (.bin .eql (.tmp 0) (.const (.int .u8 16))) <|
                        .ite (.tmp 15)
                          (o (.bin .lss (.tmp 3) (.tmp 4)) <|
                          om .pure (.call F_ref09_truth [(.tmp 16)]) <|
                          .ret [(.tmp 17)])
                          (o (.bin .eql (.tmp 0) (.const (.int .u8 17))) <|
                          .ite (.tmp 16)
                            (o (.bin .eql (.tmp 3) (.tmp 4)) <|
                            om .pure (.call F_ref09_truth [(.tmp 17)]) <|
                            .ret [(.tmp 18)])
                            (.ret [(.const (.int .i32 0))]))))))))))))⟩
/-! hoodwink/hoodwinklaw09.few -/
def l_law09_few : LFn := ⟨1,
    o (.bslice 37 0 []) <|
    o (.len false (.tmp 0)) <|
    o (.minmax false [(.tmp 2), (.const (.int .i64 48))]) <|
    o (.slice 2 (.tmp 0) none (some (.tmp 3)) none) <|
    o (.append 2 8 (.tmp 1) (.tmp 4)) <|
    .ret [(.tmp 5)]⟩
/-! hoodwink/hoodwinklaw09.codes -/
def l_law09_codes_k0 : L :=
  o (.bin .lss (.tmp 4) (.tmp 3)) <|
  .ite (.tmp 5)
    (o (.iaddr 6 (.tmp 2) (.tmp 4)) <|
    o (.load true 6 (.tmp 6)) <|
    o (.new 51) <|
    o (.store 6 (.tmp 8) (.tmp 7)) <|
    o (.faddr 0 (.tmp 8)) <|
    o (.load false 1 (.tmp 10)) <|
    o (.faddr 1 (.tmp 8)) <|
    o (.load false 1 (.tmp 12)) <|
    o (.faddr 2 (.tmp 8)) <|
    o (.load false 1 (.tmp 14)) <|
    o (.faddr 3 (.tmp 8)) <|
    o (.load false 1 (.tmp 16)) <|
    o (.faddr 4 (.tmp 8)) <|
    o (.load false 1 (.tmp 18)) <|
    o (.faddr 5 (.tmp 8)) <|
    o (.load false 1 (.tmp 20)) <|
    o (.build 79 [(0, 1, (.tmp 11)), (1, 1, (.tmp 13)), (2, 1, (.tmp 15)), (3, 1, (.tmp 17)), (4, 1, (.tmp 19)), (5, 1, (.tmp 21))]) <|
    o (.bslice 79 1 [(0, 6, (.tmp 22))]) <|
    o (.append 6 12 (.tmp 1) (.tmp 23)) <|
    o (.bin .add (.tmp 4) (.const (.int .i64 1))) <|
    .goto 1 [(.tmp 0), (.tmp 24), (.tmp 2), (.tmp 3), (.tmp 25)])
    (.goto 0 [(.tmp 0), (.tmp 1)])
def l_law09_codes_k1 : L :=
  .ret [(.tmp 0), (.tmp 1)]
def l_law09_codes : LFn := ⟨1,
    o (.bslice 51 0 []) <|
    o (.len false (.tmp 0)) <|
    o (.minmax false [(.tmp 2), (.const (.int .i64 96))]) <|
    o (.slice 6 (.tmp 0) none (some (.tmp 3)) none) <|
    o (.append 6 12 (.tmp 1) (.tmp 4)) <|
    .join 0
      (o (.len false (.tmp 5)) <|
      .loop 1 [(.tmp 5), (.const (.slice none 0 0)), (.tmp 5), (.tmp 6), (.const (.int .i64 0))] l_law09_codes_k0)
      l_law09_codes_k1⟩
/-! hoodwink/board.New -/
def l_board_New : LFn := ⟨1,
    o (.new 40) <|
    o (.new 40) <|
    o (.len false (.tmp 0)) <|
    o (.bin .gtr (.tmp 3) (.const (.int .i64 48))) <|
    .ite (.tmp 4)
      (o (.build 40 []) <|
      o (.store 97 (.tmp 1) (.tmp 5)) <|
      o (.load true 97 (.tmp 1)) <|
      .ret [(.tmp 7), (.const (.int .i64 6))])
      (o (.faddr 0 (.tmp 2)) <|
      o (.sliceArr 48 2 (.tmp 5) none none none) <|
      o (.copy 2 (.tmp 6) (.tmp 0)) <|
      o (.faddr 96 (.tmp 2)) <|
      o (.store 1 (.tmp 8) (.tmp 7)) <|
      o (.load true 97 (.tmp 2)) <|
      o (.store 97 (.tmp 1) (.tmp 10)) <|
      o (.load true 97 (.tmp 1)) <|
      .ret [(.tmp 12), (.const (.int .i64 0))])⟩
/-! hoodwink/vm.Run -/
def l_vm_Run_k0 : L :=
  o (.bin .lss (.tmp 6) (.const (.int .i64 8))) <|
  .ite (.tmp 7)
    (o (.nilck (.tmp 5)) <|
    o (.faddr 102 (.tmp 8)) <|
    o (.iaddrA 8 2 (.tmp 9) (.tmp 6)) <|
    o (.faddr 1 (.tmp 10)) <|
    o (.store 1 (.tmp 11) (.tmp 1)) <|
    o (.bin .add (.tmp 6) (.const (.int .i64 1))) <|
    .goto 1 [(.tmp 0), (.tmp 1), (.tmp 2), (.tmp 3), (.tmp 4), (.tmp 5), (.tmp 13)])
    (.goto 0 [(.tmp 0), (.tmp 2), (.tmp 3), (.tmp 4), (.tmp 5)])
def l_vm_Run_k1 : L :=
  o (.nilck (.tmp 4)) <|
  o (.faddr 0 (.tmp 5)) <|
  o (.faddr 100 (.tmp 6)) <|
  o (.load false 1 (.tmp 7)) <|
  o (.bin .eql (.tmp 8) (.const (.int .i64 400))) <|
  .ite (.tmp 9)
    (o (.call F_vm_machine_fail [(.tmp 4), (.const (.int .i64 9))]) <|
    .goto 1 [(.tmp 1), (.tmp 2), (.tmp 3), (.tmp 4)])
    (o (.nilck (.tmp 4)) <|
    o (.faddr 0 (.tmp 10)) <|
    o (.faddr 100 (.tmp 11)) <|
    o (.load false 1 (.tmp 12)) <|
    o (.bin .add (.tmp 13) (.const (.int .i64 1))) <|
    o (.nilck (.tmp 4)) <|
    o (.faddr 0 (.tmp 15)) <|
    o (.faddr 100 (.tmp 16)) <|
    o (.store 1 (.tmp 17) (.tmp 14)) <|
    o (.nilck (.tmp 4)) <|
    o (.faddr 118 (.tmp 19)) <|
    o (.load false 1 (.tmp 20)) <|
    o (.iaddr 6 (.tmp 0) (.tmp 21)) <|
    o (.faddr 0 (.tmp 22)) <|
    o (.load false 1 (.tmp 23)) <|
    o (.bin .eql (.tmp 24) (.const (.int .u8 0))) <|
    .ite (.tmp 25)
      (.goto 1 [(.tmp 1), (.tmp 2), (.tmp 3), (.tmp 4)])
      (o (.nilck (.tmp 4)) <|
      o (.faddr 118 (.tmp 26)) <|
      o (.load false 1 (.tmp 27)) <|
      o (.iaddr 6 (.tmp 0) (.tmp 28)) <|
      o (.load true 6 (.tmp 29)) <|
      o (.call F_vm_machine_follow [(.tmp 4), (.tmp 30)]) <|
      .goto 2 [(.tmp 0), (.tmp 1), (.tmp 2), (.tmp 3), (.tmp 4)]))
def l_vm_Run_k2 : L :=
  .join 3
    (o (.nilck (.tmp 4)) <|
    o (.faddr 0 (.tmp 5)) <|
    o (.faddr 101 (.tmp 6)) <|
    o (.load false 1 (.tmp 7)) <|
    o (.bin .eql (.tmp 8) (.const (.int .i64 0))) <|
    .ite (.tmp 9)
      (o (.nilck (.tmp 4)) <|
      o (.faddr 118 (.tmp 10)) <|
      o (.load false 1 (.tmp 11)) <|
      o (.len false (.tmp 0)) <|
      o (.bin .lss (.tmp 12) (.tmp 13)) <|
      .ite (.tmp 14)
        (.goto 3 [(.tmp 0), (.tmp 1), (.tmp 2), (.tmp 3), (.tmp 4)])
        (.goto 1 [(.tmp 1), (.tmp 2), (.tmp 3), (.tmp 4)]))
      (.goto 1 [(.tmp 1), (.tmp 2), (.tmp 3), (.tmp 4)]))
    l_vm_Run_k1
def l_vm_Run_k3 : L :=
  o (.nilck (.tmp 3)) <|
  o (.faddr 0 (.tmp 4)) <|
  o (.faddr 101 (.tmp 5)) <|
  o (.load false 1 (.tmp 6)) <|
  o (.bin .neq (.tmp 7) (.const (.int .i64 0))) <|
  .ite (.tmp 8)
    (o (.load true 97 (.tmp 0)) <|
    o (.load true 1 (.tmp 1)) <|
    o (.nilck (.tmp 3)) <|
    o (.faddr 0 (.tmp 11)) <|
    o (.faddr 99 (.tmp 12)) <|
    o (.load false 1 (.tmp 13)) <|
    o (.nilck (.tmp 3)) <|
    o (.faddr 0 (.tmp 15)) <|
    o (.faddr 100 (.tmp 16)) <|
    o (.load false 1 (.tmp 17)) <|
    o (.nilck (.tmp 3)) <|
    o (.faddr 0 (.tmp 19)) <|
    o (.faddr 101 (.tmp 20)) <|
    o (.load false 1 (.tmp 21)) <|
    o (.build 46 [(0, 97, (.tmp 9)), (97, 1, (.tmp 10)), (99, 1, (.tmp 14)), (100, 1, (.tmp 18)), (101, 1, (.tmp 22))]) <|
    o (.store 102 (.tmp 2) (.tmp 23)) <|
    o (.load true 102 (.tmp 2)) <|
    .ret [(.tmp 25)])
    (o (.nilck (.tmp 3)) <|
    o (.faddr 0 (.tmp 9)) <|
    o (.load true 102 (.tmp 10)) <|
    o (.store 102 (.tmp 2) (.tmp 11)) <|
    o (.load true 102 (.tmp 2)) <|
    .ret [(.tmp 13)])
def l_vm_Run_k4 : L :=
  .join 1
    (.loop 2 [(.tmp 0), (.tmp 1), (.tmp 2), (.tmp 3), (.tmp 4)] l_vm_Run_k2)
    l_vm_Run_k3
def l_vm_Run : LFn := ⟨6,
    o (.box 40 (.tmp 1)) <|
    o (.box 29 (.tmp 2)) <|
    o (.new 46) <|
    o (.load true 97 (.tmp 6)) <|
    om .pure (.call F_board_Board_Len [(.tmp 9)]) <|
    o (.len false (.tmp 3)) <|
    om .pure (.call F_code_Right [(.tmp 0), (.tmp 10), (.tmp 11)]) <|
    o (.un .not (.tmp 12)) <|
    .ite (.tmp 13)
      (o (.load true 97 (.tmp 6)) <|
      o (.load true 1 (.tmp 7)) <|
      o (.build 46 [(0, 97, (.tmp 14)), (97, 1, (.tmp 15)), (101, 1, (.const (.int .i64 2)))]) <|
      o (.store 102 (.tmp 8) (.tmp 16)) <|
      o (.load true 102 (.tmp 8)) <|
      .ret [(.tmp 18)])
      (o (.build 85 [(119, 1, (.tmp 3)), (120, 1, (.tmp 4)), (121, 1, (.tmp 5)), (122, 1, (.func 13))]) <|
      o (.box 85 (.tmp 14)) <|
      o (.load true 97 (.tmp 6)) <|
      o (.load true 1 (.tmp 7)) <|
      o (.nilck (.tmp 15)) <|
      o (.faddr 0 (.tmp 18)) <|
      o (.faddr 0 (.tmp 19)) <|
      oc none (.store 97 (.tmp 20) (.tmp 16)) .raw [(none, .load true 1 (.tmp 7))] <|
      o (.nilck (.tmp 15)) <|
      o (.faddr 0 (.tmp 22)) <|
      o (.faddr 97 (.tmp 23)) <|
      o (.store 1 (.tmp 24) (.tmp 17)) <|
      .join 0
        (.loop 1 [(.tmp 0), (.tmp 5), (.tmp 6), (.tmp 7), (.tmp 8), (.tmp 15), (.const (.int .i64 0))] l_vm_Run_k0)
        l_vm_Run_k4)⟩
/-! hoodwink/hoodwinkref08.Check -/
def l_ref08_Check_k0 : L :=
  o (.bin .lss (.tmp 5) (.tmp 4)) <|
  .ite (.tmp 6)
    (o (.iaddr 6 (.tmp 3) (.tmp 5)) <|
    o (.load true 6 (.tmp 7)) <|
    o (.new 79) <|
    o (.store 6 (.tmp 9) (.tmp 8)) <|
    o (.load true 6 (.tmp 9)) <|
    o (.len false (.tmp 0)) <|
    om .pure (.call F_ref08_Right [(.tmp 11), (.tmp 12), (.tmp 1), (.tmp 2)]) <|
    o (.un .not (.tmp 13)) <|
    .ite (.tmp 14)
      (.ret [(.tmp 5)])
      (o (.bin .add (.tmp 5) (.const (.int .i64 1))) <|
      .goto 1 [(.tmp 0), (.tmp 1), (.tmp 2), (.tmp 3), (.tmp 4), (.tmp 15)]))
    (.goto 0 [])
def l_ref08_Check_k1 : L :=
  .ret [(.const (.int .i64 (-1)))]
def l_ref08_Check : LFn := ⟨3,
    o (.len false (.tmp 0)) <|
    o (.bin .gtr (.tmp 3) (.const (.int .i64 96))) <|
    .ite (.tmp 4)
      (.ret [(.const (.int .i64 96))])
      (.join 0
        (o (.len false (.tmp 0)) <|
        .loop 1 [(.tmp 0), (.tmp 1), (.tmp 2), (.tmp 0), (.tmp 5), (.const (.int .i64 0))] l_ref08_Check_k0)
        l_ref08_Check_k1)⟩
/-! (hoodwink/mask.Mask).Within -/
def l_mask_Mask_Within : LFn := ⟨2,
    o (.bin .andNot (.tmp 0) (.tmp 1)) <|
    o (.bin .eql (.tmp 2) (.const (.int .u32 0))) <|
    .ret [(.tmp 3)]⟩
/-! hoodwink/hoodwinklaw09.players -/
def l_law09_players : LFn := ⟨1,
    o (.len false (.tmp 0)) <|
    o (.bin .eql (.tmp 1) (.const (.int .i64 0))) <|
    .ite (.tmp 2)
      (o (.bslice 21 1 [(0, 1, (.const (.int .i32 0)))]) <|
      .ret [(.tmp 3)])
      (o (.bslice 21 0 []) <|
      o (.len false (.tmp 0)) <|
      o (.minmax false [(.tmp 4), (.const (.int .i64 6))]) <|
      o (.slice 1 (.tmp 0) none (some (.tmp 5)) none) <|
      o (.append 1 4 (.tmp 3) (.tmp 6)) <|
      .ret [(.tmp 7)])⟩
/-! hoodwink/mask.All -/
def l_mask_All : LFn := ⟨1,
    o (.minmax true [(.tmp 0), (.const (.int .i64 0))]) <|
    o (.minmax false [(.tmp 1), (.const (.int .i64 32))]) <|
    o (.bin .shl (.const (.int .u64 1)) (.tmp 2)) <|
    o (.bin .sub (.tmp 3) (.const (.int .u64 1))) <|
    o (.conv .u32 (.tmp 4)) <|
    .ret [(.tmp 5)]⟩
/-! (hoodwink/board.Board).At -/
def l_board_Board_At : LFn := ⟨2,
    o (.box 40 (.tmp 0)) <|
    o (.new 37) <|
    o (.load true 97 (.tmp 2)) <|
    om .pure (.call F_board_Board_there [(.tmp 4), (.tmp 1)]) <|
    o (.un .not (.tmp 5)) <|
    .ite (.tmp 6)
      (o (.build 37 []) <|
      o (.store 2 (.tmp 3) (.tmp 7)) <|
      o (.load true 2 (.tmp 3)) <|
      .ret [(.tmp 9), (.const (.bool false))])
      (o (.faddr 0 (.tmp 2)) <|
      o (.iaddrA 48 2 (.tmp 7) (.tmp 1)) <|
      o (.load true 2 (.tmp 8)) <|
      o (.store 2 (.tmp 3) (.tmp 9)) <|
      o (.load true 2 (.tmp 3)) <|
      .ret [(.tmp 11), (.const (.bool true))])⟩
/-! (hoodwink/board.Board).Len -/
def l_board_Board_Len : LFn := ⟨1,
    o (.box 40 (.tmp 0)) <|
    o (.faddr 96 (.tmp 1)) <|
    o (.load false 1 (.tmp 2)) <|
    .ret [(.tmp 3)]⟩
/-! hoodwink/vm.Fuel -/
def l_vm_Fuel : LFn := ⟨1,
    o (.box 46 (.tmp 0)) <|
    o (.faddr 100 (.tmp 1)) <|
    o (.load false 1 (.tmp 2)) <|
    o (.bin .sub (.const (.int .i64 400)) (.tmp 3)) <|
    .ret [(.tmp 4)]⟩
/-! (hoodwink/dice.Dice).Skip -/
def l_dice_Dice_Skip : LFn := ⟨2,
    o (.box 29 (.tmp 0)) <|
    o (.new 29) <|
    o (.bin .gtr (.tmp 1) (.const (.int .i64 0))) <|
    .ite (.tmp 4)
      (o (.faddr 0 (.tmp 2)) <|
      o (.load false 1 (.tmp 5)) <|
      o (.conv .u64 (.tmp 1)) <|
      o (.bin .mul (.const (.int .u64 11400714819323198485)) (.tmp 7)) <|
      o (.bin .add (.tmp 6) (.tmp 8)) <|
      o (.faddr 0 (.tmp 2)) <|
      o (.store 1 (.tmp 10) (.tmp 9)) <|
      o (.load true 1 (.tmp 2)) <|
      o (.store 1 (.tmp 3) (.tmp 12)) <|
      o (.load true 1 (.tmp 3)) <|
      .ret [(.tmp 14)])
      (o (.load true 1 (.tmp 2)) <|
      o (.store 1 (.tmp 3) (.tmp 5)) <|
      o (.load true 1 (.tmp 3)) <|
      .ret [(.tmp 7)])⟩
/-! (hoodwink/mask.Mask).Meet -/
def l_mask_Mask_Meet_k0 : L :=
  o (.bin .lss (.tmp 3) (.tmp 2)) <|
  .ite (.tmp 4)
    (o (.iaddr 1 (.tmp 1) (.tmp 3)) <|
    o (.load false 1 (.tmp 5)) <|
    o (.bin .and (.tmp 0) (.tmp 6)) <|
    o (.bin .add (.tmp 3) (.const (.int .i64 1))) <|
    .goto 1 [(.tmp 7), (.tmp 1), (.tmp 2), (.tmp 8)])
    (.goto 0 [(.tmp 0)])
def l_mask_Mask_Meet_k1 : L :=
  .ret [(.tmp 0)]
def l_mask_Mask_Meet : LFn := ⟨2,
    .join 0
      (o (.len false (.tmp 1)) <|
      .loop 1 [(.tmp 0), (.tmp 1), (.tmp 2), (.const (.int .i64 0))] l_mask_Mask_Meet_k0)
      l_mask_Mask_Meet_k1⟩
/-! (hoodwink/board.Board).View -/
def l_board_Board_View_k0 : L :=
  o (.bin .lss (.tmp 4) (.tmp 3)) <|
  .ite (.tmp 5)
    (o (.faddr 0 (.tmp 1)) <|
    o (.iaddrA 48 2 (.tmp 6) (.tmp 4)) <|
    o (.faddr 1 (.tmp 7)) <|
    o (.load false 1 (.tmp 8)) <|
    om .pure (.call F_mask_Mask_Has [(.tmp 9), (.tmp 0)]) <|
    o (.un .not (.tmp 10)) <|
    .ite (.tmp 11)
      (o (.faddr 0 (.tmp 1)) <|
      o (.iaddrA 48 2 (.tmp 12) (.tmp 4)) <|
      o (.faddr 0 (.tmp 13)) <|
      o (.store 1 (.tmp 14) (.const (.int .i32 0))) <|
      o (.bin .add (.tmp 4) (.const (.int .i64 1))) <|
      .goto 1 [(.tmp 0), (.tmp 1), (.tmp 2), (.tmp 3), (.tmp 16)])
      (o (.bin .add (.tmp 4) (.const (.int .i64 1))) <|
      .goto 1 [(.tmp 0), (.tmp 1), (.tmp 2), (.tmp 3), (.tmp 12)]))
    (.goto 0 [(.tmp 1), (.tmp 2)])
def l_board_Board_View_k1 : L :=
  o (.load true 97 (.tmp 0)) <|
  o (.store 97 (.tmp 1) (.tmp 2)) <|
  o (.load true 97 (.tmp 1)) <|
  .ret [(.tmp 4)]
def l_board_Board_View : LFn := ⟨2,
    o (.box 40 (.tmp 0)) <|
    o (.new 40) <|
    .join 0
      (o (.faddr 96 (.tmp 2)) <|
      o (.load false 1 (.tmp 4)) <|
      .loop 1 [(.tmp 1), (.tmp 2), (.tmp 3), (.tmp 5), (.const (.int .i64 0))] l_board_Board_View_k0)
      l_board_Board_View_k1⟩
/-! (hoodwink/mask.Mask).Has -/
def l_mask_Mask_Has : LFn := ⟨2,
    om .pure (.call F_mask_one [(.tmp 1)]) <|
    o (.bin .and (.tmp 0) (.tmp 2)) <|
    o (.bin .neq (.tmp 3) (.const (.int .u32 0))) <|
    .ret [(.tmp 4)]⟩
/-! (hoodwink/board.Board).Labels -/
def l_board_Board_Labels : LFn := ⟨1,
    o (.box 40 (.tmp 0)) <|
    o (.load true 97 (.tmp 1)) <|
    om .pure (.call F_board_Board_sum [(.tmp 2), (.const (.bool false))]) <|
    .ret [(.tmp 3)]⟩
/-! hoodwink/board.Alike -/
def l_board_Alike : LFn := ⟨3,
    o (.box 40 (.tmp 0)) <|
    o (.box 40 (.tmp 1)) <|
    o (.load true 97 (.tmp 3)) <|
    o (.load true 97 (.tmp 4)) <|
    oc none (.callv (.func 28) [(.tmp 5), (.tmp 2)]) .raw [(none, .load true 97 (.tmp 4))] <|
    o (.callv (.func 28) [(.tmp 6), (.tmp 2)]) <|
    o (.eqAgg false 40 (.tmp 7) (.tmp 8)) <|
    .ret [(.tmp 9)]⟩
/-! hoodwink/vm.divided -/
def l_vm_divided : LFn := ⟨3,
    o (.bin .eql (.tmp 1) (.const (.int .i32 0))) <|
    .ite (.tmp 3)
      (.ret [(.const (.int .i32 0))])
      (.ite (.tmp 2)
        (o (.bin .rem (.tmp 0) (.tmp 1)) <|
        .ret [(.tmp 4)])
        (o (.bin .quo (.tmp 0) (.tmp 1)) <|
        .ret [(.tmp 4)]))⟩
/-! hoodwink/vm.one -/
def l_vm_one : LFn := ⟨1,
    .ite (.tmp 0)
      (.ret [(.const (.int .i32 1))])
      (.ret [(.const (.int .i32 0))])⟩
/-! hoodwink/hoodwinkref09.truth -/
def l_ref09_truth : LFn := ⟨1,
    .ite (.tmp 0)
      (.ret [(.const (.int .i32 1))])
      (.ret [(.const (.int .i32 0))])⟩
/-! hoodwink/code.Right -/
def l_code_Right : LFn := ⟨3,
    om .pure (.call F_code_Check [(.tmp 0), (.tmp 1), (.tmp 2)]) <|
    o (.ext (.tmp 3) 0) <|
    o (.ext (.tmp 3) 1) <|
    .ret [(.tmp 5)]⟩
/-! (*hoodwink/vm.machine).fail -/
def l_vm_machine_fail : LFn := ⟨2,
    o (.nilck (.tmp 0)) <|
    o (.faddr 0 (.tmp 2)) <|
    o (.faddr 101 (.tmp 3)) <|
    o (.load false 1 (.tmp 4)) <|
    o (.bin .eql (.tmp 5) (.const (.int .i64 0))) <|
    .ite (.tmp 6)
      (o (.nilck (.tmp 0)) <|
      o (.faddr 0 (.tmp 7)) <|
      o (.faddr 101 (.tmp 8)) <|
      o (.store 1 (.tmp 9) (.tmp 1)) <|
      .ret [])
      (.ret [])⟩
/-! (*hoodwink/vm.machine).follow -/
def l_vm_machine_follow_k0 : L :=
  o (.faddr 1 (.tmp 1)) <|
  o (.load false 1 (.tmp 5)) <|
  o (.faddr 0 (.tmp 3)) <|
  o (.load false 1 (.tmp 7)) <|
  o (.faddr 1 (.tmp 2)) <|
  o (.load false 1 (.tmp 9)) <|
  o (.faddr 1 (.tmp 3)) <|
  o (.load false 1 (.tmp 11)) <|
  o (.faddr 1 (.tmp 4)) <|
  o (.load false 1 (.tmp 13)) <|
  o (.bslice 35 2 [(0, 1, (.tmp 12)), (1, 1, (.tmp 14))]) <|
  o (.nilck (.tmp 0)) <|
  o (.faddr 102 (.tmp 16)) <|
  oc none (.call F_mask_Mask_Meet [(.tmp 10), (.tmp 15)]) .pure [(none, .load false 1 (.tmp 5)), (none, .load false 1 (.tmp 7))] <|
  o (.build 82 [(0, 1, (.tmp 8)), (1, 1, (.tmp 18))]) <|
  o (.iaddrA 8 2 (.tmp 17) (.tmp 6)) <|
  o (.store 2 (.tmp 20) (.tmp 19)) <|
  .ret []
def l_vm_machine_follow_k1 : L :=
  .ite (.tmp 4)
    (o (.load true 6 (.tmp 1)) <|
    o (.call F_vm_machine_reach [(.tmp 0), (.tmp 5)]) <|
    .ret [])
    (o (.faddr 1 (.tmp 1)) <|
    o (.load false 1 (.tmp 5)) <|
    o (.nilck (.tmp 0)) <|
    o (.faddr 122 (.tmp 7)) <|
    o (.load false 1 (.tmp 8)) <|
    o (.faddr 0 (.tmp 1)) <|
    o (.load false 1 (.tmp 10)) <|
    o (.faddr 0 (.tmp 2)) <|
    o (.load false 1 (.tmp 12)) <|
    o (.faddr 0 (.tmp 3)) <|
    o (.load false 1 (.tmp 14)) <|
    o (.faddr 1 (.tmp 2)) <|
    o (.load false 1 (.tmp 16)) <|
    o (.faddr 1 (.tmp 3)) <|
    o (.load false 1 (.tmp 18)) <|
    o (.bslice 35 1 [(0, 1, (.tmp 19))]) <|
    o (.nilck (.tmp 0)) <|
    o (.faddr 102 (.tmp 21)) <|
    oc none (.callv (.tmp 9) [(.tmp 11), (.tmp 13), (.tmp 15)]) .raw [(none, .load false 1 (.tmp 5)), (none, .load false 1 (.tmp 16)), (none, .load false 1 (.tmp 18))] <|
    oc none (.call F_mask_Mask_Meet [(.tmp 17), (.tmp 20)]) .pure [(none, .load false 1 (.tmp 5))] <|
    o (.build 82 [(0, 1, (.tmp 23)), (1, 1, (.tmp 24))]) <|
    o (.iaddrA 8 2 (.tmp 22) (.tmp 6)) <|
    o (.store 2 (.tmp 26) (.tmp 25)) <|
    .ret [])
def l_vm_machine_follow : LFn := ⟨2,
    o (.box 51 (.tmp 1)) <|
    o (.nilck (.tmp 0)) <|
    o (.faddr 118 (.tmp 3)) <|
    o (.load false 1 (.tmp 4)) <|
    o (.bin .add (.tmp 5) (.const (.int .i64 1))) <|
    o (.nilck (.tmp 0)) <|
    o (.faddr 118 (.tmp 7)) <|
    o (.store 1 (.tmp 8) (.tmp 6)) <|
    o (.faddr 1 (.tmp 2)) <|
    o (.load false 1 (.tmp 10)) <|
    o (.nilck (.tmp 0)) <|
    o (.faddr 102 (.tmp 12)) <|
    o (.iaddrA 8 2 (.tmp 13) (.tmp 11)) <|
    o (.load true 2 (.tmp 14)) <|
    o (.faddr 2 (.tmp 2)) <|
    o (.load false 1 (.tmp 16)) <|
    o (.nilck (.tmp 0)) <|
    o (.faddr 102 (.tmp 18)) <|
    o (.iaddrA 8 2 (.tmp 19) (.tmp 17)) <|
    o (.load true 2 (.tmp 20)) <|
    o (.faddr 3 (.tmp 2)) <|
    o (.load false 1 (.tmp 22)) <|
    o (.bin .rem (.tmp 23) (.const (.int .u8 8))) <|
    o (.nilck (.tmp 0)) <|
    o (.faddr 102 (.tmp 25)) <|
    o (.iaddrA 8 2 (.tmp 26) (.tmp 24)) <|
    o (.load true 2 (.tmp 27)) <|
    o (.new 82) <|
    o (.new 82) <|
    o (.new 82) <|
    oc none (.store 2 (.tmp 29) (.tmp 15)) .raw [(none, .load false 1 (.tmp 16)), (none, .load true 2 (.tmp 20)), (none, .load false 1 (.tmp 22)), (none, .load true 2 (.tmp 27))] <|
    oc none (.store 2 (.tmp 30) (.tmp 21)) .raw [(none, .load false 1 (.tmp 22)), (none, .load true 2 (.tmp 27))] <|
    o (.store 2 (.tmp 31) (.tmp 28)) <|
    o (.faddr 0 (.tmp 2)) <|
    o (.load false 1 (.tmp 35)) <|
    o (.bin .eql (.tmp 36) (.const (.int .u8 1))) <|
    .ite (.tmp 37)
      (o (.faddr 1 (.tmp 2)) <|
      o (.load false 1 (.tmp 38)) <|
      o (.faddr 4 (.tmp 2)) <|
      o (.load false 1 (.tmp 40)) <|
      o (.nilck (.tmp 0)) <|
      o (.faddr 121 (.tmp 42)) <|
      o (.load false 1 (.tmp 43)) <|
      o (.build 82 [(0, 1, (.tmp 41)), (1, 1, (.tmp 44))]) <|
      o (.nilck (.tmp 0)) <|
      o (.faddr 102 (.tmp 46)) <|
      o (.iaddrA 8 2 (.tmp 47) (.tmp 39)) <|
      o (.store 2 (.tmp 48) (.tmp 45)) <|
      .ret [])
      (o (.bin .eql (.tmp 36) (.const (.int .u8 25))) <|
      .ite (.tmp 38)
        (o (.faddr 1 (.tmp 2)) <|
        o (.load false 1 (.tmp 39)) <|
        o (.nilck (.tmp 0)) <|
        o (.faddr 120 (.tmp 41)) <|
        o (.load false 1 (.tmp 42)) <|
        o (.conv .i32 (.tmp 43)) <|
        o (.nilck (.tmp 0)) <|
        o (.faddr 121 (.tmp 45)) <|
        o (.load false 1 (.tmp 46)) <|
        o (.build 82 [(0, 1, (.tmp 44)), (1, 1, (.tmp 47))]) <|
        o (.nilck (.tmp 0)) <|
        o (.faddr 102 (.tmp 49)) <|
        o (.iaddrA 8 2 (.tmp 50) (.tmp 40)) <|
        o (.store 2 (.tmp 51) (.tmp 48)) <|
        .ret [])
        (o (.bin .eql (.tmp 36) (.const (.int .u8 2))) <|
        .ite (.tmp 39)
          (o (.faddr 1 (.tmp 2)) <|
          o (.load false 1 (.tmp 40)) <|
          o (.faddr 4 (.tmp 2)) <|
          o (.load false 1 (.tmp 42)) <|
          o (.conv .i64 (.tmp 43)) <|
          o (.call F_vm_machine_load [(.tmp 0), (.tmp 41), (.tmp 44)]) <|
          .ret [])
          (o (.bin .eql (.tmp 36) (.const (.int .u8 3))) <|
          .ite (.tmp 40)
            (o (.faddr 4 (.tmp 2)) <|
            o (.load false 1 (.tmp 41)) <|
            o (.conv .i64 (.tmp 42)) <|
            o (.load true 2 (.tmp 29)) <|
            o (.call F_vm_machine_store [(.tmp 0), (.tmp 43), (.tmp 44)]) <|
            .ret [])
            (o (.bin .eql (.tmp 36) (.const (.int .u8 18))) <|
            .ite (.tmp 41)
              (.join 0
                (o (.faddr 0 (.tmp 29)) <|
                o (.load false 1 (.tmp 42)) <|
                o (.bin .eql (.tmp 43) (.const (.int .i32 0))) <|
                .ite (.tmp 44)
                  (o (.faddr 0 (.tmp 31)) <|
                  o (.load false 1 (.tmp 45)) <|
                  o (.faddr 0 (.tmp 30)) <|
                  o (.store 1 (.tmp 47) (.tmp 46)) <|
                  .goto 0 [(.tmp 0), (.tmp 2), (.tmp 29), (.tmp 30), (.tmp 31)])
                  (.goto 0 [(.tmp 0), (.tmp 2), (.tmp 29), (.tmp 30), (.tmp 31)]))
                l_vm_machine_follow_k0)
              (o (.bin .eql (.tmp 36) (.const (.int .u8 19))) <|
              .ite (.tmp 42)
                (o (.faddr 1 (.tmp 2)) <|
                o (.load false 1 (.tmp 43)) <|
                o (.call F_vm_machine_open [(.tmp 0), (.tmp 44)]) <|
                o (.un .not (.tmp 45)) <|
                .ite (.tmp 46)
                  (o (.call F_vm_machine_fail [(.tmp 0), (.const (.int .i64 8))]) <|
                  .ret [])
                  (o (.faddr 0 (.tmp 29)) <|
                  o (.load false 1 (.tmp 47)) <|
                  o (.bin .eql (.tmp 48) (.const (.int .i32 0))) <|
                  .ite (.tmp 49)
                    (o (.faddr 4 (.tmp 2)) <|
                    o (.load false 1 (.tmp 50)) <|
                    o (.conv .i64 (.tmp 51)) <|
                    o (.nilck (.tmp 0)) <|
                    o (.faddr 118 (.tmp 53)) <|
                    o (.store 1 (.tmp 54) (.tmp 52)) <|
                    .ret [])
                    (.ret [])))
                (o (.bin .eql (.tmp 36) (.const (.int .u8 20))) <|
                .ite (.tmp 43)
                  (o (.faddr 4 (.tmp 2)) <|
                  o (.load false 1 (.tmp 44)) <|
                  o (.conv .i64 (.tmp 45)) <|
                  o (.nilck (.tmp 0)) <|
                  o (.faddr 118 (.tmp 47)) <|
                  o (.store 1 (.tmp 48) (.tmp 46)) <|
                  .ret [])
                  (o (.bin .eql (.tmp 36) (.const (.int .u8 21))) <|
                  .ite (.tmp 44)
                    (o (.faddr 1 (.tmp 2)) <|
                    o (.load false 1 (.tmp 45)) <|
                    o (.nilck (.tmp 0)) <|
                    o (.faddr 119 (.tmp 47)) <|
                    o (.load false 1 (.tmp 48)) <|
                    o (.faddr 4 (.tmp 2)) <|
                    o (.load false 1 (.tmp 50)) <|
                    o (.iaddr 1 (.tmp 49) (.tmp 51)) <|
                    o (.load false 1 (.tmp 52)) <|
                    o (.faddr 4 (.tmp 2)) <|
                    o (.load false 1 (.tmp 54)) <|
                    o (.conv .i64 (.tmp 55)) <|
                    o (.bslice 3 1 [(0, 1, (.tmp 56))]) <|
                    o (.nilck (.tmp 0)) <|
                    o (.faddr 102 (.tmp 58)) <|
                    oc none (.call F_mask_Of [(.tmp 57)]) .pure [(none, .load false 1 (.tmp 45)), (none, .load false 1 (.tmp 48)), (none, .load false 1 (.tmp 50)), (none, .load false 1 (.tmp 52))] <|
                    o (.build 82 [(0, 1, (.tmp 53)), (1, 1, (.tmp 60))]) <|
                    o (.iaddrA 8 2 (.tmp 59) (.tmp 46)) <|
                    o (.store 2 (.tmp 62) (.tmp 61)) <|
                    .ret [])
                    (o (.bin .eql (.tmp 36) (.const (.int .u8 23))) <|
                    .ite (.tmp 45)
                      (o (.nilck (.tmp 0)) <|
                      o (.faddr 0 (.tmp 46)) <|
                      o (.faddr 97 (.tmp 47)) <|
                      o (.load true 1 (.tmp 48)) <|
                      o (.faddr 4 (.tmp 2)) <|
                      o (.load false 1 (.tmp 50)) <|
                      o (.conv .u32 (.tmp 51)) <|
                      om .pure (.call F_dice_Dice_Below [(.tmp 49), (.tmp 52)]) <|
                      o (.ext (.tmp 53) 0) <|
                      o (.ext (.tmp 53) 1) <|
                      o (.nilck (.tmp 0)) <|
                      o (.faddr 0 (.tmp 56)) <|
                      o (.faddr 97 (.tmp 57)) <|
                      o (.store 1 (.tmp 58) (.tmp 55)) <|
                      o (.faddr 1 (.tmp 2)) <|
                      o (.load false 1 (.tmp 60)) <|
                      o (.conv .i32 (.tmp 54)) <|
                      o (.build 82 [(0, 1, (.tmp 62))]) <|
                      o (.nilck (.tmp 0)) <|
                      o (.faddr 102 (.tmp 64)) <|
                      o (.iaddrA 8 2 (.tmp 65) (.tmp 61)) <|
                      o (.store 2 (.tmp 66) (.tmp 63)) <|
                      .ret [])
                      (.join 0
                        (o (.bin .eql (.tmp 36) (.const (.int .u8 4))) <|
                        .ite (.tmp 46)
                          (.goto 0 [(.tmp 0), (.tmp 2), (.tmp 30), (.tmp 31), (.tmp 46)])
                          (o (.bin .eql (.tmp 36) (.const (.int .u8 5))) <|
                          .ite (.tmp 47)
                            (.goto 0 [(.tmp 0), (.tmp 2), (.tmp 30), (.tmp 31), (.tmp 47)])
                            (o (.bin .eql (.tmp 36) (.const (.int .u8 22))) <|
                            .ite (.tmp 48)
                              (.goto 0 [(.tmp 0), (.tmp 2), (.tmp 30), (.tmp 31), (.tmp 48)])
                              (o (.bin .eql (.tmp 36) (.const (.int .u8 24))) <|
                              .goto 0 [(.tmp 0), (.tmp 2), (.tmp 30), (.tmp 31), (.tmp 49)]))))
                        l_vm_machine_follow_k1)))))))))⟩
/-! hoodwink/hoodwinkref08.Right -/
def l_ref08_Right_k0 : L :=
  om .pure (.call F_ref08_has [(.tmp 3), (.const (.int .u8 110))]) <|
  .ite (.tmp 5)
    (.ret [(.const (.bool true))])
    (om .pure (.call F_ref08_has [(.tmp 3), (.const (.int .u8 99))]) <|
    .ite (.tmp 6)
      (o (.bin .geq (.tmp 4) (.const (.int .i64 0))) <|
      .ite (.tmp 7)
        (o (.bin .lss (.tmp 4) (.tmp 1)) <|
        .ret [(.tmp 8)])
        (.ret [(.const (.bool false))]))
      (om .pure (.call F_ref08_has [(.tmp 3), (.const (.int .u8 112))]) <|
      .ite (.tmp 7)
        (o (.bin .geq (.tmp 4) (.const (.int .i64 0))) <|
        .ite (.tmp 8)
          (o (.bin .leq (.tmp 4) (.tmp 0)) <|
          .ret [(.tmp 9)])
          (.ret [(.const (.bool false))]))
        (om .pure (.call F_ref08_has [(.tmp 3), (.const (.int .u8 109))]) <|
        .ite (.tmp 8)
          (o (.bin .geq (.tmp 4) (.const (.int .i64 0))) <|
          .ite (.tmp 9)
            (o (.bin .lss (.tmp 4) (.tmp 2)) <|
            .ret [(.tmp 10)])
            (.ret [(.const (.bool false))]))
          (om .pure (.call F_ref08_has [(.tmp 3), (.const (.int .u8 115))]) <|
          .ite (.tmp 9)
            (o (.bin .gtr (.tmp 4) (.const (.int .i64 0))) <|
            .ret [(.tmp 10)])
            (o (.bin .eql (.tmp 4) (.const (.int .i64 0))) <|
            .ret [(.tmp 10)])))))
def l_ref08_Right_k1 : L :=
  .join 2
    (o (.faddr 3 (.tmp 3)) <|
    o (.load false 1 (.tmp 6)) <|
    o (.bin .gtr (.tmp 7) (.const (.int .u8 0))) <|
    .ite (.tmp 8)
      (om .pure (.call F_ref08_has [(.tmp 4), (.const (.int .u8 67))]) <|
      o (.un .not (.tmp 9)) <|
      .ite (.tmp 10)
        (.ret [(.const (.bool false))])
        (o (.faddr 3 (.tmp 3)) <|
        o (.load false 1 (.tmp 11)) <|
        o (.bin .gtr (.tmp 12) (.const (.int .u8 7))) <|
        .ite (.tmp 13)
          (.ret [(.const (.bool false))])
          (.goto 2 [(.tmp 0), (.tmp 1), (.tmp 2), (.tmp 4), (.tmp 5)])))
      (.goto 2 [(.tmp 0), (.tmp 1), (.tmp 2), (.tmp 4), (.tmp 5)]))
    l_ref08_Right_k0
def l_ref08_Right_k2 : L :=
  o (.faddr 4 (.tmp 3)) <|
  o (.load false 1 (.tmp 5)) <|
  o (.conv .i64 (.tmp 6)) <|
  .join 1
    (om .pure (.call F_ref08_has [(.tmp 4), (.const (.int .u8 114))]) <|
    .ite (.tmp 8)
      (o (.faddr 3 (.tmp 3)) <|
      o (.load false 1 (.tmp 9)) <|
      o (.bin .gtr (.tmp 10) (.const (.int .u8 0))) <|
      .ite (.tmp 11)
        (o (.faddr 3 (.tmp 3)) <|
        o (.load false 1 (.tmp 12)) <|
        o (.bin .lss (.tmp 13) (.const (.int .u8 49))) <|
        .ite (.tmp 14)
          (o (.bin .geq (.tmp 7) (.const (.int .i64 0))) <|
          .ite (.tmp 15)
            (o (.bin .lss (.tmp 7) (.tmp 1)) <|
            .ite (.tmp 16)
              (o (.faddr 3 (.tmp 3)) <|
              o (.load false 1 (.tmp 17)) <|
              o (.conv .i64 (.tmp 18)) <|
              o (.bin .add (.tmp 7) (.tmp 19)) <|
              o (.bin .leq (.tmp 20) (.tmp 1)) <|
              .ret [(.tmp 21)])
              (.ret [(.const (.bool false))]))
            (.ret [(.const (.bool false))]))
          (.ret [(.const (.bool false))]))
        (.ret [(.const (.bool false))]))
      (.goto 1 [(.tmp 0), (.tmp 1), (.tmp 2), (.tmp 3), (.tmp 4), (.tmp 7)]))
    l_ref08_Right_k1
def l_ref08_Right : LFn := ⟨4,
    o (.box 79 (.tmp 0)) <|
    o (.faddr 0 (.tmp 4)) <|
    o (.load false 1 (.tmp 5)) <|
    om .pure (.call F_ref08_Parts [(.tmp 6)]) <|
    o (.ext (.tmp 7) 0) <|
    o (.ext (.tmp 7) 1) <|
    o (.eqS false (.tmp 8) (.const (.string ⟨#[]⟩))) <|
    .ite (.tmp 10)
      (.ret [(.const (.bool false))])
      (.join 0
        (o (.faddr 1 (.tmp 4)) <|
        o (.load false 1 (.tmp 11)) <|
        o (.bin .gtr (.tmp 12) (.const (.int .u8 0))) <|
        .ite (.tmp 13)
          (om .pure (.call F_ref08_has [(.tmp 9), (.const (.int .u8 65))]) <|
          o (.un .not (.tmp 14)) <|
          .ite (.tmp 15)
            (.ret [(.const (.bool false))])
            (o (.faddr 1 (.tmp 4)) <|
            o (.load false 1 (.tmp 16)) <|
            o (.bin .gtr (.tmp 17) (.const (.int .u8 7))) <|
            .ite (.tmp 18)
              (.ret [(.const (.bool false))])
              (o (.faddr 2 (.tmp 4)) <|
              o (.load false 1 (.tmp 19)) <|
              o (.bin .gtr (.tmp 20) (.const (.int .u8 0))) <|
              .ite (.tmp 21)
                (om .pure (.call F_ref08_has [(.tmp 9), (.const (.int .u8 66))]) <|
                o (.un .not (.tmp 22)) <|
                .ite (.tmp 23)
                  (.ret [(.const (.bool false))])
                  (o (.faddr 2 (.tmp 4)) <|
                  o (.load false 1 (.tmp 24)) <|
                  o (.bin .gtr (.tmp 25) (.const (.int .u8 7))) <|
                  .ite (.tmp 26)
                    (.ret [(.const (.bool false))])
                    (o (.faddr 5 (.tmp 4)) <|
                    o (.load false 1 (.tmp 27)) <|
                    o (.bin .gtr (.tmp 28) (.const (.int .u32 0))) <|
                    .ite (.tmp 29)
                      (om .pure (.call F_ref08_has [(.tmp 9), (.const (.int .u8 75))]) <|
                      o (.un .not (.tmp 30)) <|
                      .ite (.tmp 31)
                        (.ret [(.const (.bool false))])
                        (.goto 0 [(.tmp 1), (.tmp 2), (.tmp 3), (.tmp 4), (.tmp 9)]))
                      (.goto 0 [(.tmp 1), (.tmp 2), (.tmp 3), (.tmp 4), (.tmp 9)]))))
                (o (.faddr 5 (.tmp 4)) <|
                o (.load false 1 (.tmp 22)) <|
                o (.bin .gtr (.tmp 23) (.const (.int .u32 0))) <|
                .ite (.tmp 24)
                  (om .pure (.call F_ref08_has [(.tmp 9), (.const (.int .u8 75))]) <|
                  o (.un .not (.tmp 25)) <|
                  .ite (.tmp 26)
                    (.ret [(.const (.bool false))])
                    (.goto 0 [(.tmp 1), (.tmp 2), (.tmp 3), (.tmp 4), (.tmp 9)]))
                  (.goto 0 [(.tmp 1), (.tmp 2), (.tmp 3), (.tmp 4), (.tmp 9)])))))
          (o (.faddr 2 (.tmp 4)) <|
          o (.load false 1 (.tmp 14)) <|
          o (.bin .gtr (.tmp 15) (.const (.int .u8 0))) <|
          .ite (.tmp 16)
            (om .pure (.call F_ref08_has [(.tmp 9), (.const (.int .u8 66))]) <|
            o (.un .not (.tmp 17)) <|
            .ite (.tmp 18)
              (.ret [(.const (.bool false))])
              (o (.faddr 2 (.tmp 4)) <|
              o (.load false 1 (.tmp 19)) <|
              o (.bin .gtr (.tmp 20) (.const (.int .u8 7))) <|
              .ite (.tmp 21)
                (.ret [(.const (.bool false))])
                (o (.faddr 5 (.tmp 4)) <|
                o (.load false 1 (.tmp 22)) <|
                o (.bin .gtr (.tmp 23) (.const (.int .u32 0))) <|
                .ite (.tmp 24)
                  (om .pure (.call F_ref08_has [(.tmp 9), (.const (.int .u8 75))]) <|
                  o (.un .not (.tmp 25)) <|
                  .ite (.tmp 26)
                    (.ret [(.const (.bool false))])
                    (.goto 0 [(.tmp 1), (.tmp 2), (.tmp 3), (.tmp 4), (.tmp 9)]))
                  (.goto 0 [(.tmp 1), (.tmp 2), (.tmp 3), (.tmp 4), (.tmp 9)]))))
            (o (.faddr 5 (.tmp 4)) <|
            o (.load false 1 (.tmp 17)) <|
            o (.bin .gtr (.tmp 18) (.const (.int .u32 0))) <|
            .ite (.tmp 19)
              (om .pure (.call F_ref08_has [(.tmp 9), (.const (.int .u8 75))]) <|
              o (.un .not (.tmp 20)) <|
              .ite (.tmp 21)
                (.ret [(.const (.bool false))])
                (.goto 0 [(.tmp 1), (.tmp 2), (.tmp 3), (.tmp 4), (.tmp 9)]))
              (.goto 0 [(.tmp 1), (.tmp 2), (.tmp 3), (.tmp 4), (.tmp 9)]))))
        l_ref08_Right_k2)⟩
/-! (hoodwink/board.Board).there -/
def l_board_Board_there : LFn := ⟨2,
    o (.box 40 (.tmp 0)) <|
    o (.bin .geq (.tmp 1) (.const (.int .i64 0))) <|
    .ite (.tmp 3)
      (o (.faddr 96 (.tmp 2)) <|
      o (.load false 1 (.tmp 4)) <|
      o (.bin .lss (.tmp 1) (.tmp 5)) <|
      .ret [(.tmp 6)])
      (.ret [(.const (.bool false))])⟩
/-! hoodwink/mask.one -/
def l_mask_one : LFn := ⟨1,
    o (.bin .lss (.tmp 0) (.const (.int .i64 0))) <|
    .ite (.tmp 1)
      (.ret [(.const (.int .u32 0))])
      (o (.bin .geq (.tmp 0) (.const (.int .i64 32))) <|
      .ite (.tmp 2)
        (.ret [(.const (.int .u32 0))])
        (o (.bin .shl (.const (.int .u32 1)) (.tmp 0)) <|
        .ret [(.tmp 3)]))⟩
/-! (hoodwink/board.Board).sum -/
def l_board_Board_sum_k0 : L :=
  o (.bin .lss (.tmp 4) (.tmp 3)) <|
  .ite (.tmp 5)
    (o (.iaddr 2 (.tmp 2) (.tmp 4)) <|
    o (.load true 2 (.tmp 6)) <|
    o (.new 37) <|
    o (.store 2 (.tmp 8) (.tmp 7)) <|
    .ite (.tmp 0)
      (o (.faddr 0 (.tmp 8)) <|
      o (.load false 1 (.tmp 10)) <|
      o (.conv .u32 (.tmp 11)) <|
      o (.call F_ink_Pen_Word [(.tmp 1), (.tmp 12)]) <|
      o (.faddr 1 (.tmp 8)) <|
      o (.load false 1 (.tmp 14)) <|
      o (.call F_ink_Pen_Word [(.tmp 1), (.tmp 15)]) <|
      o (.bin .add (.tmp 4) (.const (.int .i64 1))) <|
      .goto 1 [(.tmp 0), (.tmp 1), (.tmp 2), (.tmp 3), (.tmp 17)])
      (o (.faddr 1 (.tmp 8)) <|
      o (.load false 1 (.tmp 10)) <|
      o (.call F_ink_Pen_Word [(.tmp 1), (.tmp 11)]) <|
      o (.bin .add (.tmp 4) (.const (.int .i64 1))) <|
      .goto 1 [(.tmp 0), (.tmp 1), (.tmp 2), (.tmp 3), (.tmp 13)]))
    (.goto 0 [(.tmp 1)])
def l_board_Board_sum_k1 : L :=
  om .pure (.call F_wax_Make []) <|
  o (.call F_ink_Pen_Bytes [(.tmp 0)]) <|
  o (.bslice 103 1 [(0, 1, (.tmp 2))]) <|
  om .pure (.call F_wax_Table_Sum [(.tmp 1), (.tmp 3)]) <|
  .ret [(.tmp 4)]
def l_board_Board_sum : LFn := ⟨2,
    o (.box 40 (.tmp 0)) <|
    o (.new 105) <|
    .join 0
      (o (.faddr 0 (.tmp 2)) <|
      o (.faddr 96 (.tmp 2)) <|
      o (.load false 1 (.tmp 5)) <|
      o (.sliceArr 48 2 (.tmp 4) none (some (.tmp 6)) none) <|
      o (.len false (.tmp 7)) <|
      .loop 1 [(.tmp 1), (.tmp 3), (.tmp 7), (.tmp 8), (.const (.int .i64 0))] l_board_Board_sum_k0)
      l_board_Board_sum_k1⟩
/-! hoodwink/code.Check -/
def l_code_Check_k0 : L :=
  o (.bin .lss (.tmp 6) (.tmp 5)) <|
  .ite (.tmp 7)
    (o (.iaddr 6 (.tmp 4) (.tmp 6)) <|
    o (.load true 6 (.tmp 8)) <|
    o (.new 51) <|
    o (.store 6 (.tmp 10) (.tmp 9)) <|
    o (.load true 6 (.tmp 10)) <|
    o (.load true 130 (.tmp 3)) <|
    o (.len false (.tmp 0)) <|
    om .pure (.call F_code_right [(.tmp 12), (.tmp 13), (.tmp 14), (.tmp 1), (.tmp 2)]) <|
    o (.un .not (.tmp 15)) <|
    .ite (.tmp 16)
      (.ret [(.tmp 6), (.const (.bool false))])
      (o (.bin .add (.tmp 6) (.const (.int .i64 1))) <|
      .goto 1 [(.tmp 0), (.tmp 1), (.tmp 2), (.tmp 3), (.tmp 4), (.tmp 5), (.tmp 17)]))
    (.goto 0 [])
def l_code_Check_k1 : L :=
  .ret [(.const (.int .i64 0)), (.const (.bool true))]
def l_code_Check : LFn := ⟨3,
    o (.len false (.tmp 0)) <|
    o (.bin .gtr (.tmp 3) (.const (.int .i64 96))) <|
    .ite (.tmp 4)
      (.ret [(.const (.int .i64 96)), (.const (.bool false))])
      (om .pure (.call F_code_uses []) <|
      o (.new 115) <|
      o (.store 130 (.tmp 6) (.tmp 5)) <|
      .join 0
        (o (.len false (.tmp 0)) <|
        .loop 1 [(.tmp 0), (.tmp 1), (.tmp 2), (.tmp 6), (.tmp 0), (.tmp 8), (.const (.int .i64 0))] l_code_Check_k0)
        l_code_Check_k1)⟩
/-! (*hoodwink/vm.machine).load -/
def l_vm_machine_load : LFn := ⟨3,
    o (.nilck (.tmp 0)) <|
    o (.faddr 0 (.tmp 3)) <|
    o (.faddr 0 (.tmp 4)) <|
    o (.load true 97 (.tmp 5)) <|
    om .pure (.call F_board_Board_At [(.tmp 6), (.tmp 2)]) <|
    o (.ext (.tmp 7) 0) <|
    o (.ext (.tmp 7) 1) <|
    o (.new 37) <|
    o (.store 2 (.tmp 10) (.tmp 8)) <|
    o (.load true 2 (.tmp 10)) <|
    o (.nilck (.tmp 0)) <|
    o (.faddr 102 (.tmp 13)) <|
    o (.iaddrA 8 2 (.tmp 14) (.tmp 1)) <|
    o (.store 2 (.tmp 15) (.tmp 12)) <|
    .ret []⟩
/-! (*hoodwink/vm.machine).store -/
def l_vm_machine_store : LFn := ⟨3,
    o (.box 37 (.tmp 2)) <|
    o (.nilck (.tmp 0)) <|
    o (.faddr 0 (.tmp 4)) <|
    o (.faddr 0 (.tmp 5)) <|
    o (.load true 97 (.tmp 6)) <|
    o (.load true 2 (.tmp 3)) <|
    om .pure (.call F_board_Board_Put [(.tmp 7), (.tmp 1), (.tmp 8)]) <|
    o (.ext (.tmp 9) 0) <|
    o (.ext (.tmp 9) 1) <|
    o (.nilck (.tmp 0)) <|
    o (.faddr 0 (.tmp 12)) <|
    o (.faddr 0 (.tmp 13)) <|
    o (.store 97 (.tmp 14) (.tmp 10)) <|
    o (.nilck (.tmp 0)) <|
    o (.faddr 0 (.tmp 16)) <|
    o (.faddr 98 (.tmp 17)) <|
    o (.load false 1 (.tmp 18)) <|
    o (.bin .shl (.const (.int .u64 1)) (.tmp 1)) <|
    o (.bin .or (.tmp 19) (.tmp 20)) <|
    o (.nilck (.tmp 0)) <|
    o (.faddr 0 (.tmp 22)) <|
    o (.faddr 98 (.tmp 23)) <|
    o (.store 1 (.tmp 24) (.tmp 21)) <|
    .ret []⟩
/-! (*hoodwink/vm.machine).open -/
def l_vm_machine_open : LFn := ⟨2,
    o (.nilck (.tmp 0)) <|
    o (.faddr 121 (.tmp 2)) <|
    o (.load false 1 (.tmp 3)) <|
    o (.nilck (.tmp 0)) <|
    o (.faddr 102 (.tmp 5)) <|
    o (.iaddrA 8 2 (.tmp 6) (.tmp 1)) <|
    o (.faddr 1 (.tmp 7)) <|
    o (.load false 1 (.tmp 8)) <|
    om .pure (.call F_mask_Mask_Within [(.tmp 4), (.tmp 9)]) <|
    .ret [(.tmp 10)]⟩
/-! hoodwink/mask.Of -/
def l_mask_Of : LFn := ⟨1,
    om .pure (.call F_mask_Mask_With [(.const (.int .u32 0)), (.tmp 0)]) <|
    .ret [(.tmp 1)]⟩
/-! (hoodwink/dice.Dice).Below -/
def l_dice_Dice_Below : LFn := ⟨2,
    o (.box 29 (.tmp 0)) <|
    o (.new 29) <|
    o (.load true 1 (.tmp 2)) <|
    om .pure (.call F_dice_Dice_Next [(.tmp 4)]) <|
    o (.ext (.tmp 5) 0) <|
    o (.ext (.tmp 5) 1) <|
    o (.store 1 (.tmp 2) (.tmp 7)) <|
    o (.conv .u64 (.tmp 6)) <|
    o (.conv .u64 (.tmp 1)) <|
    o (.bin .mul (.tmp 9) (.tmp 10)) <|
    o (.bin .shr (.tmp 11) (.const (.int .u64 32))) <|
    o (.conv .u32 (.tmp 12)) <|
    o (.load true 1 (.tmp 2)) <|
    o (.store 1 (.tmp 3) (.tmp 14)) <|
    o (.load true 1 (.tmp 3)) <|
    .ret [(.tmp 13), (.tmp 16)]⟩
/-! (*hoodwink/vm.machine).reach -/
def l_vm_machine_reach : LFn := ⟨2,
    o (.box 51 (.tmp 1)) <|
    o (.faddr 0 (.tmp 2)) <|
    o (.load false 1 (.tmp 3)) <|
    o (.bin .eql (.tmp 4) (.const (.int .u8 4))) <|
    .ite (.tmp 5)
      (o (.load true 6 (.tmp 2)) <|
      o (.call F_vm_machine_index [(.tmp 0), (.tmp 6)]) <|
      o (.ext (.tmp 7) 0) <|
      o (.ext (.tmp 7) 1) <|
      .ite (.tmp 9)
        (o (.faddr 1 (.tmp 2)) <|
        o (.load false 1 (.tmp 10)) <|
        o (.call F_vm_machine_load [(.tmp 0), (.tmp 11), (.tmp 8)]) <|
        .ret [])
        (.ret []))
      (o (.bin .eql (.tmp 4) (.const (.int .u8 5))) <|
      .ite (.tmp 6)
        (o (.load true 6 (.tmp 2)) <|
        o (.call F_vm_machine_index [(.tmp 0), (.tmp 7)]) <|
        o (.ext (.tmp 8) 0) <|
        o (.ext (.tmp 8) 1) <|
        .ite (.tmp 10)
          (o (.faddr 1 (.tmp 2)) <|
          o (.load false 1 (.tmp 11)) <|
          o (.nilck (.tmp 0)) <|
          o (.faddr 102 (.tmp 13)) <|
          o (.iaddrA 8 2 (.tmp 14) (.tmp 12)) <|
          o (.load true 2 (.tmp 15)) <|
          o (.call F_vm_machine_store [(.tmp 0), (.tmp 9), (.tmp 16)]) <|
          .ret [])
          (.ret []))
        (o (.bin .eql (.tmp 4) (.const (.int .u8 22))) <|
        .ite (.tmp 7)
          (o (.load true 6 (.tmp 2)) <|
          o (.call F_vm_machine_reveal [(.tmp 0), (.tmp 8)]) <|
          .ret [])
          (o (.bin .eql (.tmp 4) (.const (.int .u8 24))) <|
          .ite (.tmp 8)
            (o (.faddr 4 (.tmp 2)) <|
            o (.load false 1 (.tmp 9)) <|
            o (.conv .i64 (.tmp 10)) <|
            o (.faddr 3 (.tmp 2)) <|
            o (.load false 1 (.tmp 12)) <|
            o (.conv .i64 (.tmp 13)) <|
            o (.call F_vm_machine_shuffle [(.tmp 0), (.tmp 11), (.tmp 14)]) <|
            .ret [])
            (.ret []))))⟩
/-! hoodwink/hoodwinkref08.Parts -/
def l_ref08_Parts_k0 : L :=
  o (.len true (.tmp 0)) <|
  o (.bin .lss (.tmp 1) (.tmp 2)) <|
  .ite (.tmp 3)
    (o (.sidx (.tmp 0) (.tmp 1)) <|
    o (.bin .eql (.tmp 4) (.const (.int .u8 32))) <|
    .ite (.tmp 5)
      (o (.sslice (.tmp 0) none (some (.tmp 1))) <|
      o (.bin .add (.tmp 1) (.const (.int .i64 1))) <|
      o (.sslice (.tmp 0) (some (.tmp 7)) none) <|
      .ret [(.tmp 6), (.tmp 8)])
      (o (.bin .add (.tmp 1) (.const (.int .i64 1))) <|
      .goto 1 [(.tmp 0), (.tmp 6)]))
    (.goto 0 [(.tmp 0)])
def l_ref08_Parts_k1 : L :=
  .ret [(.tmp 0), (.const (.string ⟨#[]⟩))]
def l_ref08_Parts : LFn := ⟨1,
    om .pure (.call F_ref08_Table []) <|
    o (.conv .i64 (.tmp 0)) <|
    o (.len false (.tmp 1)) <|
    o (.bin .geq (.tmp 2) (.tmp 3)) <|
    .ite (.tmp 4)
      (.ret [(.const (.string ⟨#[]⟩)), (.const (.string ⟨#[]⟩))])
      (o (.iaddr 1 (.tmp 1) (.tmp 0)) <|
      o (.load false 1 (.tmp 5)) <|
      .join 0
        (.loop 1 [(.tmp 6), (.const (.int .i64 0))] l_ref08_Parts_k0)
        l_ref08_Parts_k1)⟩
/-! hoodwink/hoodwinkref08.has -/
def l_ref08_has_k0 : L :=
  o (.len true (.tmp 0)) <|
  o (.bin .lss (.tmp 2) (.tmp 3)) <|
  .ite (.tmp 4)
    (o (.sidx (.tmp 0) (.tmp 2)) <|
    o (.bin .eql (.tmp 5) (.tmp 1)) <|
    .ite (.tmp 6)
      (.ret [(.const (.bool true))])
      (o (.bin .add (.tmp 2) (.const (.int .i64 1))) <|
      .goto 1 [(.tmp 0), (.tmp 1), (.tmp 7)]))
    (.goto 0 [])
def l_ref08_has_k1 : L :=
  .ret [(.const (.bool false))]
def l_ref08_has : LFn := ⟨2,
    .join 0
      (.loop 1 [(.tmp 0), (.tmp 1), (.const (.int .i64 0))] l_ref08_has_k0)
      l_ref08_has_k1⟩
/-! (*hoodwink/ink.Pen).Word -/
def l_ink_Pen_Word : LFn := ⟨2,
    o (.conv .u16 (.tmp 1)) <|
    o (.call F_ink_Pen_Half [(.tmp 0), (.tmp 2)]) <|
    o (.bin .shr (.tmp 1) (.const (.int .u64 16))) <|
    o (.conv .u16 (.tmp 4)) <|
    o (.call F_ink_Pen_Half [(.tmp 3), (.tmp 5)]) <|
    .ret [(.tmp 6)]⟩
/-! hoodwink/wax.Make -/
def l_wax_Make_k0 : L :=
  o (.bin .lss (.tmp 2) (.const (.int .i64 256))) <|
  .ite (.tmp 3)
    (o (.conv .u8 (.tmp 2)) <|
    om .pure (.call F_wax_Step [(.const (.int .u32 0)), (.tmp 4)]) <|
    o (.iaddrA 256 1 (.tmp 1) (.tmp 2)) <|
    o (.store 1 (.tmp 6) (.tmp 5)) <|
    o (.bin .add (.tmp 2) (.const (.int .i64 1))) <|
    .goto 1 [(.tmp 0), (.tmp 1), (.tmp 8)])
    (.goto 0 [(.tmp 0), (.tmp 1)])
def l_wax_Make_k1 : L :=
  o (.load true 256 (.tmp 1)) <|
  o (.store 256 (.tmp 0) (.tmp 2)) <|
  o (.load true 256 (.tmp 0)) <|
  .ret [(.tmp 4)]
def l_wax_Make : LFn := ⟨0,
    o (.new 109) <|
    o (.new 109) <|
    .join 0
      (.loop 1 [(.tmp 0), (.tmp 1), (.const (.int .i64 0))] l_wax_Make_k0)
      l_wax_Make_k1⟩
/-! (hoodwink/wax.Table).Sum -/
def l_wax_Table_Sum_k0 : L :=
  o (.bin .lss (.tmp 7) (.tmp 6)) <|
  .ite (.tmp 8)
    (o (.iaddr 1 (.tmp 5) (.tmp 7)) <|
    o (.load false 1 (.tmp 9)) <|
    o (.bin .shr (.tmp 1) (.const (.int .u64 8))) <|
    o (.conv .u8 (.tmp 1)) <|
    o (.bin .xor (.tmp 12) (.tmp 10)) <|
    o (.iaddrA 256 1 (.tmp 0) (.tmp 13)) <|
    o (.load false 1 (.tmp 14)) <|
    o (.bin .xor (.tmp 11) (.tmp 15)) <|
    o (.bin .add (.tmp 7) (.const (.int .i64 1))) <|
    .goto 3 [(.tmp 0), (.tmp 16), (.tmp 2), (.tmp 3), (.tmp 4), (.tmp 5), (.tmp 6), (.tmp 17)])
    (.goto 2 [(.tmp 0), (.tmp 1), (.tmp 2), (.tmp 3), (.tmp 4)])
def l_wax_Table_Sum_k1 : L :=
  o (.bin .add (.tmp 4) (.const (.int .i64 1))) <|
  .goto 1 [(.tmp 0), (.tmp 1), (.tmp 2), (.tmp 3), (.tmp 5)]
def l_wax_Table_Sum_k2 : L :=
  o (.bin .lss (.tmp 4) (.tmp 3)) <|
  .ite (.tmp 5)
    (.join 2
      (o (.iaddr 1 (.tmp 2) (.tmp 4)) <|
      o (.load false 1 (.tmp 6)) <|
      o (.len false (.tmp 7)) <|
      .loop 3 [(.tmp 0), (.tmp 1), (.tmp 2), (.tmp 3), (.tmp 4), (.tmp 7), (.tmp 8), (.const (.int .i64 0))] l_wax_Table_Sum_k0)
      l_wax_Table_Sum_k1)
    (.goto 0 [(.tmp 1)])
def l_wax_Table_Sum_k3 : L :=
  o (.un .xor (.tmp 0)) <|
  .ret [(.tmp 1)]
def l_wax_Table_Sum : LFn := ⟨2,
    o (.box 109 (.tmp 0)) <|
    .join 0
      (o (.len false (.tmp 1)) <|
      .loop 1 [(.tmp 2), (.const (.int .u32 4294967295)), (.tmp 1), (.tmp 3), (.const (.int .i64 0))] l_wax_Table_Sum_k2)
      l_wax_Table_Sum_k3⟩
/-! (*hoodwink/ink.Pen).Bytes -/
def l_ink_Pen_Bytes : LFn := ⟨1,
    o (.eqNil false .ptr (.tmp 0)) <|
    .ite (.tmp 1)
      (.ret [(.const (.slice none 0 0))])
      (o (.nilck (.tmp 0)) <|
      o (.faddr 0 (.tmp 2)) <|
      o (.load false 1 (.tmp 3)) <|
      om .pure (.call F_bytes_Clone [(.tmp 4)]) <|
      .ret [(.tmp 5)])⟩
/-! hoodwink/code.uses -/
def l_code_uses_k0 : L :=
  o (.bin .leq (.tmp 2) (.const (.int .i64 17))) <|
  .ite (.tmp 3)
    (o (.build 114 [(0, 1, (.const (.bool true))), (1, 1, (.const (.bool true))), (2, 1, (.const (.bool true)))]) <|
    o (.iaddrA 26 5 (.tmp 1) (.tmp 2)) <|
    o (.store 5 (.tmp 5) (.tmp 4)) <|
    o (.bin .add (.tmp 2) (.const (.int .i64 1))) <|
    .goto 1 [(.tmp 0), (.tmp 1), (.tmp 7)])
    (.goto 0 [(.tmp 0), (.tmp 1)])
def l_code_uses_k1 : L :=
  o (.load true 130 (.tmp 1)) <|
  o (.store 130 (.tmp 0) (.tmp 2)) <|
  o (.load true 130 (.tmp 0)) <|
  .ret [(.tmp 4)]
def l_code_uses : LFn := ⟨0,
    o (.new 115) <|
    o (.build 114 [(0, 1, (.const (.bool true))), (3, 1, (.const (.int .u8 1)))]) <|
    o (.build 114 [(0, 1, (.const (.bool true))), (3, 1, (.const (.int .u8 2)))]) <|
    o (.build 114 [(0, 1, (.const (.bool true))), (3, 1, (.const (.int .u8 2)))]) <|
    o (.build 114 [(0, 1, (.const (.bool true))), (1, 1, (.const (.bool true))), (3, 1, (.const (.int .u8 2)))]) <|
    o (.build 114 [(0, 1, (.const (.bool true))), (1, 1, (.const (.bool true))), (3, 1, (.const (.int .u8 2)))]) <|
    o (.build 114 [(0, 1, (.const (.bool true))), (1, 1, (.const (.bool true))), (2, 1, (.const (.bool true)))]) <|
    o (.build 114 [(0, 1, (.const (.bool true))), (3, 1, (.const (.int .u8 3)))]) <|
    o (.build 114 [(3, 1, (.const (.int .u8 3)))]) <|
    o (.build 114 [(0, 1, (.const (.bool true))), (3, 1, (.const (.int .u8 4)))]) <|
    o (.build 114 [(1, 1, (.const (.bool true))), (3, 1, (.const (.int .u8 2))), (4, 1, (.const (.bool true)))]) <|
    o (.build 114 [(0, 1, (.const (.bool true))), (3, 1, (.const (.int .u8 5)))]) <|
    o (.build 114 [(3, 1, (.const (.int .u8 6)))]) <|
    o (.build 114 [(0, 1, (.const (.bool true)))]) <|
    o (.build 115 [(5, 5, (.tmp 1)), (10, 5, (.tmp 2)), (15, 5, (.tmp 3)), (20, 5, (.tmp 4)), (25, 5, (.tmp 5)), (90, 5, (.tmp 6)), (95, 5, (.tmp 7)), (100, 5, (.tmp 8)), (105, 5, (.tmp 9)), (110, 5, (.tmp 10)), (115, 5, (.tmp 11)), (120, 5, (.tmp 12)), (125, 5, (.tmp 13))]) <|
    o (.new 115) <|
    o (.store 130 (.tmp 15) (.tmp 14)) <|
    .join 0
      (.loop 1 [(.tmp 0), (.tmp 15), (.const (.int .i64 6))] l_code_uses_k0)
      l_code_uses_k1⟩
/-! hoodwink/code.right -/
def l_code_right_k0 : L :=
  o (.faddr 1 (.tmp 1)) <|
  o (.load false 1 (.tmp 4)) <|
  o (.faddr 2 (.tmp 1)) <|
  o (.load false 1 (.tmp 6)) <|
  o (.bin .or (.tmp 5) (.tmp 7)) <|
  om .pure (.call F_code_register [(.const (.bool false)), (.tmp 8)]) <|
  .ite (.tmp 9)
    (.ite (.tmp 3)
      (o (.bin .geq (.tmp 2) (.const (.int .i64 0))) <|
      .ite (.tmp 10)
        (o (.faddr 3 (.tmp 1)) <|
        o (.load false 1 (.tmp 11)) <|
        o (.conv .i64 (.tmp 12)) <|
        o (.bin .add (.tmp 2) (.tmp 13)) <|
        o (.bin .leq (.tmp 14) (.tmp 0)) <|
        .ite (.tmp 15)
          (o (.faddr 5 (.tmp 1)) <|
          o (.load false 1 (.tmp 16)) <|
          o (.bin .eql (.tmp 17) (.const (.int .u32 0))) <|
          .ret [(.tmp 18)])
          (.ret [(.const (.bool false))]))
        (.ret [(.const (.bool false))]))
      (.ret [(.const (.bool false))]))
    (.ret [(.const (.bool false))])
def l_code_right_k1 : L :=
  .ite (.tmp 2)
    (o (.faddr 0 (.tmp 1)) <|
    o (.load false 1 (.tmp 3)) <|
    o (.faddr 1 (.tmp 0)) <|
    o (.load false 1 (.tmp 5)) <|
    om .pure (.call F_code_register [(.tmp 4), (.tmp 6)]) <|
    .ite (.tmp 7)
      (o (.faddr 1 (.tmp 1)) <|
      o (.load false 1 (.tmp 8)) <|
      o (.faddr 2 (.tmp 0)) <|
      o (.load false 1 (.tmp 10)) <|
      om .pure (.call F_code_register [(.tmp 9), (.tmp 11)]) <|
      .ite (.tmp 12)
        (o (.faddr 2 (.tmp 1)) <|
        o (.load false 1 (.tmp 13)) <|
        o (.faddr 3 (.tmp 0)) <|
        o (.load false 1 (.tmp 15)) <|
        om .pure (.call F_code_register [(.tmp 14), (.tmp 16)]) <|
        .ite (.tmp 17)
          (o (.faddr 4 (.tmp 1)) <|
          o (.load false 1 (.tmp 18)) <|
          .ite (.tmp 19)
            (.ret [(.const (.bool true))])
            (o (.faddr 5 (.tmp 0)) <|
            o (.load false 1 (.tmp 20)) <|
            o (.bin .eql (.tmp 21) (.const (.int .u32 0))) <|
            .ret [(.tmp 22)]))
          (.ret [(.const (.bool false))]))
        (.ret [(.const (.bool false))]))
      (.ret [(.const (.bool false))]))
    (.ret [(.const (.bool false))])
def l_code_right : LFn := ⟨5,
    o (.box 51 (.tmp 0)) <|
    o (.box 115 (.tmp 1)) <|
    o (.faddr 0 (.tmp 5)) <|
    o (.load false 1 (.tmp 7)) <|
    o (.bin .gtr (.tmp 8) (.const (.int .u8 25))) <|
    .ite (.tmp 9)
      (.ret [(.const (.bool false))])
      (o (.faddr 0 (.tmp 5)) <|
      o (.load false 1 (.tmp 10)) <|
      o (.iaddrA 26 5 (.tmp 6) (.tmp 11)) <|
      o (.load true 5 (.tmp 12)) <|
      o (.new 114) <|
      o (.store 5 (.tmp 14) (.tmp 13)) <|
      o (.faddr 4 (.tmp 5)) <|
      o (.load false 1 (.tmp 16)) <|
      o (.conv .i64 (.tmp 17)) <|
      o (.bin .eql (.tmp 18) (.const (.int .i64 0))) <|
      .join 0
        (o (.faddr 3 (.tmp 14)) <|
        o (.load false 1 (.tmp 20)) <|
        o (.bin .eql (.tmp 21) (.const (.int .u8 1))) <|
        .ite (.tmp 22)
          (.goto 0 [(.tmp 5), (.tmp 14), (.const (.bool true))])
          (o (.bin .eql (.tmp 21) (.const (.int .u8 2))) <|
          .ite (.tmp 23)
            (o (.bin .geq (.tmp 18) (.const (.int .i64 0))) <|
            .ite (.tmp 24)
              (o (.bin .lss (.tmp 18) (.tmp 3)) <|
              .goto 0 [(.tmp 5), (.tmp 14), (.tmp 25)])
              (.goto 0 [(.tmp 5), (.tmp 14), (.const (.bool false))]))
            (o (.bin .eql (.tmp 21) (.const (.int .u8 3))) <|
            .ite (.tmp 24)
              (o (.bin .geq (.tmp 18) (.const (.int .i64 0))) <|
              .ite (.tmp 25)
                (o (.bin .leq (.tmp 18) (.tmp 2)) <|
                .goto 0 [(.tmp 5), (.tmp 14), (.tmp 26)])
                (.goto 0 [(.tmp 5), (.tmp 14), (.const (.bool false))]))
              (o (.bin .eql (.tmp 21) (.const (.int .u8 4))) <|
              .ite (.tmp 25)
                (o (.bin .geq (.tmp 18) (.const (.int .i64 0))) <|
                .ite (.tmp 26)
                  (o (.bin .lss (.tmp 18) (.tmp 4)) <|
                  .goto 0 [(.tmp 5), (.tmp 14), (.tmp 27)])
                  (.goto 0 [(.tmp 5), (.tmp 14), (.const (.bool false))]))
                (o (.bin .eql (.tmp 21) (.const (.int .u8 5))) <|
                .ite (.tmp 26)
                  (o (.bin .geq (.tmp 18) (.const (.int .i64 1))) <|
                  .goto 0 [(.tmp 5), (.tmp 14), (.tmp 27)])
                  (o (.bin .eql (.tmp 21) (.const (.int .u8 6))) <|
                  .ite (.tmp 27)
                    (.join 1
                      (o (.faddr 3 (.tmp 5)) <|
                      o (.load false 1 (.tmp 28)) <|
                      o (.bin .geq (.tmp 29) (.const (.int .u8 1))) <|
                      .ite (.tmp 30)
                        (o (.faddr 3 (.tmp 5)) <|
                        o (.load false 1 (.tmp 31)) <|
                        o (.bin .leq (.tmp 32) (.const (.int .u8 48))) <|
                        .goto 1 [(.tmp 3), (.tmp 5), (.tmp 18), (.tmp 33)])
                        (.goto 1 [(.tmp 3), (.tmp 5), (.tmp 18), (.const (.bool false))]))
                      l_code_right_k0)
                    (.goto 0 [(.tmp 5), (.tmp 14), (.tmp 19)])))))))
        l_code_right_k1)⟩
/-! (hoodwink/board.Board).Put -/
def l_board_Board_Put : LFn := ⟨3,
    o (.box 40 (.tmp 0)) <|
    o (.box 37 (.tmp 2)) <|
    o (.new 40) <|
    o (.load true 97 (.tmp 3)) <|
    om .pure (.call F_board_Board_there [(.tmp 6), (.tmp 1)]) <|
    o (.un .not (.tmp 7)) <|
    .ite (.tmp 8)
      (o (.load true 97 (.tmp 3)) <|
      o (.store 97 (.tmp 5) (.tmp 9)) <|
      o (.load true 97 (.tmp 5)) <|
      .ret [(.tmp 11), (.const (.int .i64 7))])
      (o (.load true 2 (.tmp 4)) <|
      o (.faddr 0 (.tmp 3)) <|
      o (.iaddrA 48 2 (.tmp 10) (.tmp 1)) <|
      o (.store 2 (.tmp 11) (.tmp 9)) <|
      o (.load true 97 (.tmp 3)) <|
      o (.store 97 (.tmp 5) (.tmp 13)) <|
      o (.load true 97 (.tmp 5)) <|
      .ret [(.tmp 15), (.const (.int .i64 0))])⟩
/-! (hoodwink/mask.Mask).With -/
def l_mask_Mask_With_k0 : L :=
  o (.bin .lss (.tmp 3) (.tmp 2)) <|
  .ite (.tmp 4)
    (o (.iaddr 1 (.tmp 1) (.tmp 3)) <|
    o (.load false 1 (.tmp 5)) <|
    om .pure (.call F_mask_one [(.tmp 6)]) <|
    o (.bin .or (.tmp 0) (.tmp 7)) <|
    o (.bin .add (.tmp 3) (.const (.int .i64 1))) <|
    .goto 1 [(.tmp 8), (.tmp 1), (.tmp 2), (.tmp 9)])
    (.goto 0 [(.tmp 0)])
def l_mask_Mask_With_k1 : L :=
  .ret [(.tmp 0)]
def l_mask_Mask_With : LFn := ⟨2,
    .join 0
      (o (.len false (.tmp 1)) <|
      .loop 1 [(.tmp 0), (.tmp 1), (.tmp 2), (.const (.int .i64 0))] l_mask_Mask_With_k0)
      l_mask_Mask_With_k1⟩
/-! (hoodwink/dice.Dice).Next -/
def l_dice_Dice_Next : LFn := ⟨1,
    o (.box 29 (.tmp 0)) <|
    o (.new 29) <|
    o (.faddr 0 (.tmp 1)) <|
    o (.load false 1 (.tmp 3)) <|
    o (.bin .add (.tmp 4) (.const (.int .u64 11400714819323198485))) <|
    o (.faddr 0 (.tmp 1)) <|
    o (.store 1 (.tmp 6) (.tmp 5)) <|
    o (.faddr 0 (.tmp 1)) <|
    o (.load false 1 (.tmp 8)) <|
    o (.load true 1 (.tmp 1)) <|
    oc none (.call F_dice_mixed [(.tmp 9)]) .pure [(none, .load true 1 (.tmp 1))] <|
    o (.bin .shr (.tmp 11) (.const (.int .u64 32))) <|
    o (.conv .u32 (.tmp 12)) <|
    o (.store 1 (.tmp 2) (.tmp 10)) <|
    o (.load true 1 (.tmp 2)) <|
    .ret [(.tmp 13), (.tmp 15)]⟩
/-! (*hoodwink/vm.machine).index -/
def l_vm_machine_index : LFn := ⟨2,
    o (.box 51 (.tmp 1)) <|
    o (.faddr 4 (.tmp 2)) <|
    o (.load false 1 (.tmp 3)) <|
    o (.conv .i64 (.tmp 4)) <|
    o (.faddr 2 (.tmp 2)) <|
    o (.load false 1 (.tmp 6)) <|
    o (.nilck (.tmp 0)) <|
    o (.faddr 102 (.tmp 8)) <|
    o (.iaddrA 8 2 (.tmp 9) (.tmp 7)) <|
    o (.faddr 0 (.tmp 10)) <|
    o (.load false 1 (.tmp 11)) <|
    o (.conv .i64 (.tmp 12)) <|
    o (.bin .add (.tmp 5) (.tmp 13)) <|
    o (.faddr 2 (.tmp 2)) <|
    o (.load false 1 (.tmp 15)) <|
    o (.call F_vm_machine_open [(.tmp 0), (.tmp 16)]) <|
    o (.un .not (.tmp 17)) <|
    .ite (.tmp 18)
      (o (.call F_vm_machine_fail [(.tmp 0), (.const (.int .i64 8))]) <|
      .ret [(.const (.int .i64 0)), (.const (.bool false))])
      (o (.bin .lss (.tmp 14) (.const (.int .i64 0))) <|
      .ite (.tmp 19)
        (o (.call F_vm_machine_fail [(.tmp 0), (.const (.int .i64 7))]) <|
        .ret [(.const (.int .i64 0)), (.const (.bool false))])
        (o (.nilck (.tmp 0)) <|
        o (.faddr 0 (.tmp 20)) <|
        o (.faddr 0 (.tmp 21)) <|
        o (.load true 97 (.tmp 22)) <|
        om .pure (.call F_board_Board_Len [(.tmp 23)]) <|
        o (.bin .geq (.tmp 14) (.tmp 24)) <|
        .ite (.tmp 25)
          (o (.call F_vm_machine_fail [(.tmp 0), (.const (.int .i64 7))]) <|
          .ret [(.const (.int .i64 0)), (.const (.bool false))])
          (.ret [(.tmp 14), (.const (.bool true))])))⟩
/-! (*hoodwink/vm.machine).reveal -/
def l_vm_machine_reveal : LFn := ⟨2,
    o (.box 51 (.tmp 1)) <|
    o (.load true 6 (.tmp 2)) <|
    o (.call F_vm_machine_index [(.tmp 0), (.tmp 3)]) <|
    o (.ext (.tmp 4) 0) <|
    o (.ext (.tmp 4) 1) <|
    o (.un .not (.tmp 6)) <|
    .ite (.tmp 7)
      (.ret [])
      (o (.nilck (.tmp 0)) <|
      o (.faddr 0 (.tmp 8)) <|
      o (.faddr 0 (.tmp 9)) <|
      o (.load true 97 (.tmp 10)) <|
      om .pure (.call F_board_Board_At [(.tmp 11), (.tmp 5)]) <|
      o (.ext (.tmp 12) 0) <|
      o (.ext (.tmp 12) 1) <|
      o (.new 37) <|
      o (.store 2 (.tmp 15) (.tmp 13)) <|
      o (.faddr 5 (.tmp 2)) <|
      o (.load false 1 (.tmp 17)) <|
      o (.nilck (.tmp 0)) <|
      o (.faddr 121 (.tmp 19)) <|
      o (.load false 1 (.tmp 20)) <|
      o (.bslice 35 1 [(0, 1, (.tmp 21))]) <|
      o (.faddr 1 (.tmp 15)) <|
      o (.load false 1 (.tmp 23)) <|
      oc none (.call F_mask_Mask_Meet [(.tmp 18), (.tmp 22)]) .pure [(none, .load false 1 (.tmp 23))] <|
      om .pure (.call F_mask_Mask_Less [(.tmp 25), (.tmp 24)]) <|
      o (.nilck (.tmp 0)) <|
      o (.faddr 0 (.tmp 27)) <|
      o (.faddr 0 (.tmp 28)) <|
      o (.load true 97 (.tmp 29)) <|
      om .pure (.call F_board_Board_Show [(.tmp 30), (.tmp 5), (.tmp 26)]) <|
      o (.ext (.tmp 31) 0) <|
      o (.ext (.tmp 31) 1) <|
      o (.ext (.tmp 31) 2) <|
      o (.nilck (.tmp 0)) <|
      o (.faddr 0 (.tmp 35)) <|
      o (.faddr 0 (.tmp 36)) <|
      o (.store 97 (.tmp 37) (.tmp 32)) <|
      o (.nilck (.tmp 0)) <|
      o (.faddr 0 (.tmp 39)) <|
      o (.faddr 98 (.tmp 40)) <|
      o (.load false 1 (.tmp 41)) <|
      o (.bin .shl (.const (.int .u64 1)) (.tmp 5)) <|
      o (.bin .or (.tmp 42) (.tmp 43)) <|
      o (.nilck (.tmp 0)) <|
      o (.faddr 0 (.tmp 45)) <|
      o (.faddr 98 (.tmp 46)) <|
      o (.store 1 (.tmp 47) (.tmp 44)) <|
      o (.bin .neq (.tmp 26) (.const (.int .u32 0))) <|
      .ite (.tmp 49)
        (o (.nilck (.tmp 0)) <|
        o (.faddr 0 (.tmp 50)) <|
        o (.faddr 99 (.tmp 51)) <|
        o (.load false 1 (.tmp 52)) <|
        o (.faddr 0 (.tmp 15)) <|
        o (.load false 1 (.tmp 54)) <|
        o (.build 69 [(0, 1, (.tmp 5)), (1, 1, (.tmp 26)), (2, 1, (.tmp 55))]) <|
        o (.bslice 69 1 [(0, 3, (.tmp 56))]) <|
        o (.append 3 16 (.tmp 53) (.tmp 57)) <|
        o (.nilck (.tmp 0)) <|
        o (.faddr 0 (.tmp 59)) <|
        o (.faddr 99 (.tmp 60)) <|
        o (.store 1 (.tmp 61) (.tmp 58)) <|
        .ret [])
        (.ret []))⟩
/-! (*hoodwink/vm.machine).shuffle -/
def l_vm_machine_shuffle_k0 : L :=
  o (.bin .add (.tmp 1) (.tmp 2)) <|
  o (.bin .lss (.tmp 4) (.tmp 5)) <|
  .ite (.tmp 6)
    (o (.nilck (.tmp 0)) <|
    o (.faddr 0 (.tmp 7)) <|
    o (.faddr 0 (.tmp 8)) <|
    o (.load true 97 (.tmp 9)) <|
    om .pure (.call F_board_Board_At [(.tmp 10), (.tmp 4)]) <|
    o (.ext (.tmp 11) 0) <|
    o (.ext (.tmp 11) 1) <|
    o (.new 37) <|
    o (.store 2 (.tmp 14) (.tmp 12)) <|
    o (.faddr 0 (.tmp 14)) <|
    o (.load false 1 (.tmp 16)) <|
    o (.bslice 21 1 [(0, 1, (.tmp 17))]) <|
    o (.append 1 4 (.tmp 3) (.tmp 18)) <|
    o (.bin .add (.tmp 4) (.const (.int .i64 1))) <|
    .goto 1 [(.tmp 0), (.tmp 1), (.tmp 2), (.tmp 19), (.tmp 20)])
    (.goto 0 [(.tmp 0), (.tmp 1), (.tmp 3)])
def l_vm_machine_shuffle_k1 : L :=
  o (.bin .lss (.tmp 4) (.tmp 3)) <|
  .ite (.tmp 5)
    (o (.iaddr 1 (.tmp 2) (.tmp 4)) <|
    o (.load false 1 (.tmp 6)) <|
    o (.bin .add (.tmp 1) (.tmp 4)) <|
    o (.build 37 [(0, 1, (.tmp 7))]) <|
    o (.call F_vm_machine_store [(.tmp 0), (.tmp 8), (.tmp 9)]) <|
    o (.bin .add (.tmp 4) (.const (.int .i64 1))) <|
    .goto 1 [(.tmp 0), (.tmp 1), (.tmp 2), (.tmp 3), (.tmp 11)])
    (.ret [])
def l_vm_machine_shuffle_k2 : L :=
  o (.nilck (.tmp 0)) <|
  o (.faddr 0 (.tmp 3)) <|
  o (.faddr 97 (.tmp 4)) <|
  o (.load true 1 (.tmp 5)) <|
  om .pure (.call F_dice_Dice_Shuffle [(.tmp 6), (.tmp 2)]) <|
  o (.ext (.tmp 7) 0) <|
  o (.ext (.tmp 7) 1) <|
  o (.nilck (.tmp 0)) <|
  o (.faddr 0 (.tmp 10)) <|
  o (.faddr 97 (.tmp 11)) <|
  o (.store 1 (.tmp 12) (.tmp 9)) <|
  o (.len false (.tmp 8)) <|
  .loop 1 [(.tmp 0), (.tmp 1), (.tmp 8), (.tmp 14), (.const (.int .i64 0))] l_vm_machine_shuffle_k1
def l_vm_machine_shuffle : LFn := ⟨3,
    .join 0
      (.loop 1 [(.tmp 0), (.tmp 1), (.tmp 2), (.const (.slice none 0 0)), (.tmp 1)] l_vm_machine_shuffle_k0)
      l_vm_machine_shuffle_k2⟩
/-! hoodwink/hoodwinkref08.Table -/
def l_ref08_Table : LFn := ⟨0,
    o (.bslice 9 26 [(0, 1, (.const (.string ⟨#[115, 116, 111, 112, 32]⟩))), (1, 1, (.const (.string ⟨#[115, 101, 116, 32, 65, 110]⟩))), (2, 1, (.const (.string ⟨#[108, 111, 97, 100, 32, 65, 99]⟩))), (3, 1, (.const (.string ⟨#[115, 116, 111, 114, 101, 32, 65, 99]⟩))), (4, 1, (.const (.string ⟨#[108, 111, 97, 100, 97, 116, 32, 65, 66, 99]⟩))), (5, 1, (.const (.string ⟨#[115, 116, 111, 114, 101, 97, 116, 32, 65, 66, 99]⟩))), (6, 1, (.const (.string ⟨#[97, 100, 100, 32, 65, 66, 67]⟩))), (7, 1, (.const (.string ⟨#[115, 117, 98, 32, 65, 66, 67]⟩))), (8, 1, (.const (.string ⟨#[109, 117, 108, 32, 65, 66, 67]⟩))), (9, 1, (.const (.string ⟨#[100, 105, 118, 32, 65, 66, 67]⟩))), (10, 1, (.const (.string ⟨#[109, 111, 100, 32, 65, 66, 67]⟩))), (11, 1, (.const (.string ⟨#[97, 110, 100, 32, 65, 66, 67]⟩))), (12, 1, (.const (.string ⟨#[111, 114, 32, 65, 66, 67]⟩))), (13, 1, (.const (.string ⟨#[120, 111, 114, 32, 65, 66, 67]⟩))), (14, 1, (.const (.string ⟨#[115, 104, 108, 32, 65, 66, 67]⟩))), (15, 1, (.const (.string ⟨#[115, 104, 114, 32, 65, 66, 67]⟩))), (16, 1, (.const (.string ⟨#[108, 101, 115, 115, 32, 65, 66, 67]⟩))), (17, 1, (.const (.string ⟨#[101, 113, 117, 97, 108, 32, 65, 66, 67]⟩))), (18, 1, (.const (.string ⟨#[115, 101, 108, 101, 99, 116, 32, 65, 66, 67]⟩))), (19, 1, (.const (.string ⟨#[98, 114, 97, 110, 99, 104, 32, 65, 112]⟩))), (20, 1, (.const (.string ⟨#[106, 117, 109, 112, 32, 112]⟩))), (21, 1, (.const (.string ⟨#[109, 111, 118, 101, 32, 65, 109]⟩))), (22, 1, (.const (.string ⟨#[114, 101, 118, 101, 97, 108, 32, 66, 99, 75]⟩))), (23, 1, (.const (.string ⟨#[114, 111, 108, 108, 32, 65, 115]⟩))), (24, 1, (.const (.string ⟨#[115, 104, 117, 102, 102, 108, 101, 32, 114]⟩))), (25, 1, (.const (.string ⟨#[99, 108, 111, 99, 107, 32, 65]⟩)))]) <|
    .ret [(.tmp 0)]⟩
/-! (*hoodwink/ink.Pen).Half -/
def l_ink_Pen_Half : LFn := ⟨2,
    o (.bin .and (.tmp 1) (.const (.int .u16 255))) <|
    o (.conv .u8 (.tmp 2)) <|
    o (.bin .shr (.tmp 1) (.const (.int .u64 8))) <|
    o (.conv .u8 (.tmp 4)) <|
    o (.bslice 5 2 [(0, 1, (.tmp 3)), (1, 1, (.tmp 5))]) <|
    o (.call F_ink_Pen_add [(.tmp 0), (.tmp 6)]) <|
    .ret [(.tmp 7)]⟩
/-! hoodwink/wax.Step -/
def l_wax_Step_k0 : L :=
  o (.bin .lss (.tmp 1) (.const (.int .i64 8))) <|
  .ite (.tmp 2)
    (o (.bin .and (.tmp 0) (.const (.int .u32 1))) <|
    o (.bin .shr (.tmp 0) (.const (.int .u64 1))) <|
    o (.bin .mul (.tmp 3) (.const (.int .u32 2197175160))) <|
    o (.bin .xor (.tmp 4) (.tmp 5)) <|
    o (.bin .add (.tmp 1) (.const (.int .i64 1))) <|
    .goto 1 [(.tmp 6), (.tmp 7)])
    (.goto 0 [(.tmp 0)])
def l_wax_Step_k1 : L :=
  .ret [(.tmp 0)]
def l_wax_Step : LFn := ⟨2,
    o (.conv .u32 (.tmp 1)) <|
    o (.bin .xor (.tmp 0) (.tmp 2)) <|
    .join 0
      (.loop 1 [(.tmp 3), (.const (.int .i64 0))] l_wax_Step_k0)
      l_wax_Step_k1⟩
/-! bytes.Clone -/
def l_bytes_Clone : LFn := ⟨1,
    o (.eqNil false .slc (.tmp 0)) <|
    .ite (.tmp 1)
      (.ret [(.const (.slice none 0 0))])
      (o (.bslice 5 0 []) <|
      o (.append 1 1 (.tmp 2) (.tmp 0)) <|
      .ret [(.tmp 3)])⟩
/-! hoodwink/code.register -/
def l_code_register : LFn := ⟨2,
    o (.bin .eql (.tmp 1) (.const (.int .u8 0))) <|
    .ite (.tmp 2)
      (.ret [(.const (.bool true))])
      (.ite (.tmp 0)
        (o (.bin .lss (.tmp 1) (.const (.int .u8 8))) <|
        .ret [(.tmp 3)])
        (.ret [(.const (.bool false))]))⟩
/-! hoodwink/dice.mixed -/
def l_dice_mixed : LFn := ⟨1,
    o (.bin .shr (.tmp 0) (.const (.int .u64 30))) <|
    o (.bin .xor (.tmp 0) (.tmp 1)) <|
    o (.bin .mul (.tmp 2) (.const (.int .u64 13787848793156543929))) <|
    o (.bin .shr (.tmp 3) (.const (.int .u64 27))) <|
    o (.bin .xor (.tmp 3) (.tmp 4)) <|
    o (.bin .mul (.tmp 5) (.const (.int .u64 10723151780598845931))) <|
    o (.bin .shr (.tmp 6) (.const (.int .u64 31))) <|
    o (.bin .xor (.tmp 6) (.tmp 7)) <|
    .ret [(.tmp 8)]⟩
/-! (hoodwink/mask.Mask).Less -/
def l_mask_Mask_Less : LFn := ⟨2,
    o (.bin .andNot (.tmp 0) (.tmp 1)) <|
    .ret [(.tmp 2)]⟩
/-! (hoodwink/board.Board).Show -/
def l_board_Board_Show : LFn := ⟨3,
    o (.box 40 (.tmp 0)) <|
    o (.new 40) <|
    o (.load true 97 (.tmp 3)) <|
    om .pure (.call F_board_Board_there [(.tmp 5), (.tmp 1)]) <|
    o (.un .not (.tmp 6)) <|
    .ite (.tmp 7)
      (o (.load true 97 (.tmp 3)) <|
      o (.store 97 (.tmp 4) (.tmp 8)) <|
      o (.load true 97 (.tmp 4)) <|
      .ret [(.tmp 10), (.const (.bool false)), (.const (.int .i64 7))])
      (o (.faddr 0 (.tmp 3)) <|
      o (.iaddrA 48 2 (.tmp 8) (.tmp 1)) <|
      o (.faddr 1 (.tmp 9)) <|
      o (.load false 1 (.tmp 10)) <|
      om .pure (.call F_mask_Mask_Within [(.tmp 2), (.tmp 11)]) <|
      o (.un .not (.tmp 12)) <|
      o (.faddr 0 (.tmp 3)) <|
      o (.iaddrA 48 2 (.tmp 14) (.tmp 1)) <|
      o (.faddr 1 (.tmp 15)) <|
      o (.load false 1 (.tmp 16)) <|
      o (.bslice 35 1 [(0, 1, (.tmp 2))]) <|
      om .pure (.call F_mask_Mask_Join [(.tmp 17), (.tmp 18)]) <|
      o (.faddr 0 (.tmp 3)) <|
      o (.iaddrA 48 2 (.tmp 20) (.tmp 1)) <|
      o (.faddr 1 (.tmp 21)) <|
      o (.store 1 (.tmp 22) (.tmp 19)) <|
      o (.load true 97 (.tmp 3)) <|
      o (.store 97 (.tmp 4) (.tmp 24)) <|
      o (.load true 97 (.tmp 4)) <|
      .ret [(.tmp 26), (.tmp 13), (.const (.int .i64 0))])⟩
/-! (hoodwink/dice.Dice).Shuffle -/
def l_dice_Dice_Shuffle_k0 : L :=
  o (.bin .gtr (.tmp 3) (.const (.int .i64 0))) <|
  .ite (.tmp 4)
    (o (.load true 1 (.tmp 0)) <|
    o (.bin .add (.tmp 3) (.const (.int .i64 1))) <|
    o (.conv .u32 (.tmp 6)) <|
    om .pure (.call F_dice_Dice_Below [(.tmp 5), (.tmp 7)]) <|
    o (.ext (.tmp 8) 0) <|
    o (.ext (.tmp 8) 1) <|
    o (.store 1 (.tmp 0) (.tmp 10)) <|
    o (.iaddr 1 (.tmp 2) (.tmp 9)) <|
    o (.load false 1 (.tmp 12)) <|
    o (.iaddr 1 (.tmp 2) (.tmp 3)) <|
    o (.load false 1 (.tmp 14)) <|
    o (.iaddr 1 (.tmp 2) (.tmp 3)) <|
    o (.store 1 (.tmp 16) (.tmp 13)) <|
    o (.iaddr 1 (.tmp 2) (.tmp 9)) <|
    o (.store 1 (.tmp 18) (.tmp 15)) <|
    o (.bin .sub (.tmp 3) (.const (.int .i64 1))) <|
    .goto 1 [(.tmp 0), (.tmp 1), (.tmp 2), (.tmp 20)])
    (.goto 0 [(.tmp 0), (.tmp 1), (.tmp 2)])
def l_dice_Dice_Shuffle_k1 : L :=
  o (.load true 1 (.tmp 0)) <|
  o (.store 1 (.tmp 1) (.tmp 3)) <|
  o (.load true 1 (.tmp 1)) <|
  .ret [(.tmp 2), (.tmp 5)]
def l_dice_Dice_Shuffle : LFn := ⟨2,
    o (.box 29 (.tmp 0)) <|
    o (.new 29) <|
    o (.call F_slices_Clone_Lint32_int32 [(.tmp 1)]) <|
    .join 0
      (o (.len false (.tmp 4)) <|
      o (.bin .sub (.tmp 5) (.const (.int .i64 1))) <|
      .loop 1 [(.tmp 2), (.tmp 3), (.tmp 4), (.tmp 6)] l_dice_Dice_Shuffle_k0)
      l_dice_Dice_Shuffle_k1⟩
/-! (*hoodwink/ink.Pen).add -/
def l_ink_Pen_add : LFn := ⟨2,
    o (.eqNil true .ptr (.tmp 0)) <|
    .ite (.tmp 2)
      (o (.nilck (.tmp 0)) <|
      o (.faddr 0 (.tmp 3)) <|
      o (.load false 1 (.tmp 4)) <|
      o (.append 1 1 (.tmp 5) (.tmp 1)) <|
      o (.nilck (.tmp 0)) <|
      o (.faddr 0 (.tmp 7)) <|
      o (.store 1 (.tmp 8) (.tmp 6)) <|
      .ret [(.tmp 0)])
      (.ret [(.tmp 0)])⟩
/-! (hoodwink/mask.Mask).Join -/
def l_mask_Mask_Join_k0 : L :=
  o (.bin .lss (.tmp 3) (.tmp 2)) <|
  .ite (.tmp 4)
    (o (.iaddr 1 (.tmp 1) (.tmp 3)) <|
    o (.load false 1 (.tmp 5)) <|
    o (.bin .or (.tmp 0) (.tmp 6)) <|
    o (.bin .add (.tmp 3) (.const (.int .i64 1))) <|
    .goto 1 [(.tmp 7), (.tmp 1), (.tmp 2), (.tmp 8)])
    (.goto 0 [(.tmp 0)])
def l_mask_Mask_Join_k1 : L :=
  .ret [(.tmp 0)]
def l_mask_Mask_Join : LFn := ⟨2,
    .join 0
      (o (.len false (.tmp 1)) <|
      .loop 1 [(.tmp 0), (.tmp 1), (.tmp 2), (.const (.int .i64 0))] l_mask_Mask_Join_k0)
      l_mask_Mask_Join_k1⟩
/-! slices.Clone[[]int32,int32] -/
def l_slices_Clone_Lint32_int32 : LFn := ⟨1,
    o (.eqNil false .slc (.tmp 0)) <|
    .ite (.tmp 1)
      (.ret [(.const (.slice none 0 0))])
      (o (.bslice 21 0 []) <|
      o (.append 1 4 (.tmp 2) (.tmp 0)) <|
      .ret [(.tmp 3)])⟩
def mdT : FuncId → FuncId → Md := mdOf 33030027576029449551864 [(9, 15), (10, 15), (11, 15), (71, 74)]
def zcT : TypeId → Option (List Value)
  | 3 => some [(.int .i64 0)]
  | 5 => some [(.int .u8 0)]
  | 9 => some [(.string ⟨#[]⟩)]
  | 21 => some [(.int .i32 0)]
  | 29 => some [(.int .u64 0)]
  | 35 => some [(.int .u32 0)]
  | 37 => some [(.int .i32 0), (.int .u32 0)]
  | 40 => some ((reps 48 [(.int .i32 0), (.int .u32 0)]) ++ [(.int .i64 0)])
  | 46 => some ((reps 48 [(.int .i32 0), (.int .u32 0)]) ++ [(.int .i64 0), (.int .u64 0), (.int .u64 0), (.slice none 0 0), (.int .i64 0), (.int .i64 0)])
  | 51 => some [(.int .u8 0), (.int .u8 0), (.int .u8 0), (.int .u8 0), (.int .i32 0), (.int .u32 0)]
  | 69 => some [(.int .i64 0), (.int .u32 0), (.int .i32 0)]
  | 79 => some [(.int .u8 0), (.int .u8 0), (.int .u8 0), (.int .u8 0), (.int .i32 0), (.int .u32 0)]
  | 82 => some [(.int .i32 0), (.int .u32 0)]
  | 85 => some ((reps 48 [(.int .i32 0), (.int .u32 0)]) ++ ([(.int .i64 0), (.int .u64 0), (.int .u64 0), (.slice none 0 0), (.int .i64 0), (.int .i64 0)] ++ ((reps 8 [(.int .i32 0), (.int .u32 0)]) ++ [(.int .i64 0), (.slice none 0 0), (.int .u32 0), (.int .u32 0), .nilFunc])))
  | 103 => some [(.slice none 0 0)]
  | 105 => some [(.slice none 0 0)]
  | 109 => some (reps 256 [(.int .u32 0)])
  | 114 => some [(.bool false), (.bool false), (.bool false), (.int .u8 0), (.bool false)]
  | 115 => some [(.bool false), (.bool false), (.bool false), (.int .u8 0), (.bool false), (.bool false), (.bool false), (.bool false), (.int .u8 0), (.bool false), (.bool false), (.bool false), (.bool false), (.int .u8 0), (.bool false), (.bool false), (.bool false), (.bool false), (.int .u8 0), (.bool false), (.bool false), (.bool false), (.bool false), (.int .u8 0), (.bool false), (.bool false), (.bool false), (.bool false), (.int .u8 0), (.bool false), (.bool false), (.bool false), (.bool false), (.int .u8 0), (.bool false), (.bool false), (.bool false), (.bool false), (.int .u8 0), (.bool false), (.bool false), (.bool false), (.bool false), (.int .u8 0), (.bool false), (.bool false), (.bool false), (.bool false), (.int .u8 0), (.bool false), (.bool false), (.bool false), (.bool false), (.int .u8 0), (.bool false), (.bool false), (.bool false), (.bool false), (.int .u8 0), (.bool false), (.bool false), (.bool false), (.bool false), (.int .u8 0), (.bool false), (.bool false), (.bool false), (.bool false), (.int .u8 0), (.bool false), (.bool false), (.bool false), (.bool false), (.int .u8 0), (.bool false), (.bool false), (.bool false), (.bool false), (.int .u8 0), (.bool false), (.bool false), (.bool false), (.bool false), (.int .u8 0), (.bool false), (.bool false), (.bool false), (.bool false), (.int .u8 0), (.bool false), (.bool false), (.bool false), (.bool false), (.int .u8 0), (.bool false), (.bool false), (.bool false), (.bool false), (.int .u8 0), (.bool false), (.bool false), (.bool false), (.bool false), (.int .u8 0), (.bool false), (.bool false), (.bool false), (.bool false), (.int .u8 0), (.bool false), (.bool false), (.bool false), (.bool false), (.int .u8 0), (.bool false), (.bool false), (.bool false), (.bool false), (.int .u8 0), (.bool false), (.bool false), (.bool false), (.bool false), (.int .u8 0), (.bool false), (.bool false), (.bool false), (.bool false), (.int .u8 0), (.bool false)]
  | _ => none
def zvT : TypeId → Option Value
  | _ => none
def coT : TypeId → Option Nat
  | 29 => some 1
  | 37 => some 2
  | 40 => some 97
  | _ => none

def fnL : List (FuncId × LFn) := [(3, l_law09_VmComputes), (4, l_law09_VmNone), (5, l_law09_VmTaint), (6, l_law09_VmKeeps), (7, l_law09_VmFuel), (8, l_law09_VmRolls), (9, l_law09_VmViews), (10, l_law09_VmLabels), (11, l_law09_VmHides), (12, l_law09_awake), (13, l_vm_Compute), (14, l_ref09_Compute), (15, l_law09_few), (16, l_law09_codes), (17, l_board_New), (18, l_vm_Run), (19, l_ref08_Check), (20, l_mask_Mask_Within), (21, l_law09_players), (22, l_mask_All), (23, l_board_Board_At), (24, l_board_Board_Len), (25, l_vm_Fuel), (26, l_dice_Dice_Skip), (27, l_mask_Mask_Meet), (28, l_board_Board_View), (29, l_mask_Mask_Has), (30, l_board_Board_Labels), (31, l_board_Alike), (32, l_vm_divided), (33, l_vm_one), (34, l_ref09_truth), (35, l_code_Right), (36, l_vm_machine_fail), (37, l_vm_machine_follow), (38, l_ref08_Right), (39, l_board_Board_there), (40, l_mask_one), (41, l_board_Board_sum), (42, l_code_Check), (43, l_vm_machine_load), (44, l_vm_machine_store), (45, l_vm_machine_open), (46, l_mask_Of), (47, l_dice_Dice_Below), (48, l_vm_machine_reach), (49, l_ref08_Parts), (50, l_ref08_has), (51, l_ink_Pen_Word), (52, l_wax_Make), (53, l_wax_Table_Sum), (54, l_ink_Pen_Bytes), (55, l_code_uses), (56, l_code_right), (57, l_board_Board_Put), (58, l_mask_Mask_With), (59, l_dice_Dice_Next), (60, l_vm_machine_index), (61, l_vm_machine_reveal), (62, l_vm_machine_shuffle), (63, l_ref08_Table), (64, l_ink_Pen_Half), (65, l_wax_Step), (66, l_bytes_Clone), (67, l_code_register), (68, l_dice_mixed), (69, l_mask_Mask_Less), (70, l_board_Board_Show), (71, l_dice_Dice_Shuffle), (72, l_ink_Pen_add), (73, l_mask_Mask_Join), (74, l_slices_Clone_Lint32_int32)]
def fnT (f : FuncId) : Option LFn := lkF fnL f
noncomputable def BI : IBook := { zc := zcT, zv := zvT, co := coT, fn := fnT, md := mdT 0, given := fun _ => none }
theorem fn_law09_VmComputes : BI.fn F_law09_VmComputes = some l_law09_VmComputes := by kernel_rfl
theorem fn_law09_VmNone : BI.fn F_law09_VmNone = some l_law09_VmNone := by kernel_rfl
theorem fn_law09_VmTaint : BI.fn F_law09_VmTaint = some l_law09_VmTaint := by kernel_rfl
theorem fn_law09_VmKeeps : BI.fn F_law09_VmKeeps = some l_law09_VmKeeps := by kernel_rfl
theorem fn_law09_VmFuel : BI.fn F_law09_VmFuel = some l_law09_VmFuel := by kernel_rfl
theorem fn_law09_VmRolls : BI.fn F_law09_VmRolls = some l_law09_VmRolls := by kernel_rfl
theorem fn_law09_VmViews : BI.fn F_law09_VmViews = some l_law09_VmViews := by kernel_rfl
theorem fn_law09_VmLabels : BI.fn F_law09_VmLabels = some l_law09_VmLabels := by kernel_rfl
theorem fn_law09_VmHides : BI.fn F_law09_VmHides = some l_law09_VmHides := by kernel_rfl
theorem fn_law09_awake : BI.fn F_law09_awake = some l_law09_awake := by kernel_rfl
theorem fn_vm_Compute : BI.fn F_vm_Compute = some l_vm_Compute := by kernel_rfl
theorem fn_ref09_Compute : BI.fn F_ref09_Compute = some l_ref09_Compute := by kernel_rfl
theorem fn_law09_few : BI.fn F_law09_few = some l_law09_few := by kernel_rfl
theorem fn_law09_codes : BI.fn F_law09_codes = some l_law09_codes := by kernel_rfl
theorem fn_board_New : BI.fn F_board_New = some l_board_New := by kernel_rfl
theorem fn_vm_Run : BI.fn F_vm_Run = some l_vm_Run := by kernel_rfl
theorem fn_ref08_Check : BI.fn F_ref08_Check = some l_ref08_Check := by kernel_rfl
theorem fn_mask_Mask_Within : BI.fn F_mask_Mask_Within = some l_mask_Mask_Within := by kernel_rfl
theorem fn_law09_players : BI.fn F_law09_players = some l_law09_players := by kernel_rfl
theorem fn_mask_All : BI.fn F_mask_All = some l_mask_All := by kernel_rfl
theorem fn_board_Board_At : BI.fn F_board_Board_At = some l_board_Board_At := by kernel_rfl
theorem fn_board_Board_Len : BI.fn F_board_Board_Len = some l_board_Board_Len := by kernel_rfl
theorem fn_vm_Fuel : BI.fn F_vm_Fuel = some l_vm_Fuel := by kernel_rfl
theorem fn_dice_Dice_Skip : BI.fn F_dice_Dice_Skip = some l_dice_Dice_Skip := by kernel_rfl
theorem fn_mask_Mask_Meet : BI.fn F_mask_Mask_Meet = some l_mask_Mask_Meet := by kernel_rfl
theorem fn_board_Board_View : BI.fn F_board_Board_View = some l_board_Board_View := by kernel_rfl
theorem fn_mask_Mask_Has : BI.fn F_mask_Mask_Has = some l_mask_Mask_Has := by kernel_rfl
theorem fn_board_Board_Labels : BI.fn F_board_Board_Labels = some l_board_Board_Labels := by kernel_rfl
theorem fn_board_Alike : BI.fn F_board_Alike = some l_board_Alike := by kernel_rfl
theorem fn_vm_divided : BI.fn F_vm_divided = some l_vm_divided := by kernel_rfl
theorem fn_vm_one : BI.fn F_vm_one = some l_vm_one := by kernel_rfl
theorem fn_ref09_truth : BI.fn F_ref09_truth = some l_ref09_truth := by kernel_rfl
theorem fn_code_Right : BI.fn F_code_Right = some l_code_Right := by kernel_rfl
theorem fn_vm_machine_fail : BI.fn F_vm_machine_fail = some l_vm_machine_fail := by kernel_rfl
theorem fn_vm_machine_follow : BI.fn F_vm_machine_follow = some l_vm_machine_follow := by kernel_rfl
theorem fn_ref08_Right : BI.fn F_ref08_Right = some l_ref08_Right := by kernel_rfl
theorem fn_board_Board_there : BI.fn F_board_Board_there = some l_board_Board_there := by kernel_rfl
theorem fn_mask_one : BI.fn F_mask_one = some l_mask_one := by kernel_rfl
theorem fn_board_Board_sum : BI.fn F_board_Board_sum = some l_board_Board_sum := by kernel_rfl
theorem fn_code_Check : BI.fn F_code_Check = some l_code_Check := by kernel_rfl
theorem fn_vm_machine_load : BI.fn F_vm_machine_load = some l_vm_machine_load := by kernel_rfl
theorem fn_vm_machine_store : BI.fn F_vm_machine_store = some l_vm_machine_store := by kernel_rfl
theorem fn_vm_machine_open : BI.fn F_vm_machine_open = some l_vm_machine_open := by kernel_rfl
theorem fn_mask_Of : BI.fn F_mask_Of = some l_mask_Of := by kernel_rfl
theorem fn_dice_Dice_Below : BI.fn F_dice_Dice_Below = some l_dice_Dice_Below := by kernel_rfl
theorem fn_vm_machine_reach : BI.fn F_vm_machine_reach = some l_vm_machine_reach := by kernel_rfl
theorem fn_ref08_Parts : BI.fn F_ref08_Parts = some l_ref08_Parts := by kernel_rfl
theorem fn_ref08_has : BI.fn F_ref08_has = some l_ref08_has := by kernel_rfl
theorem fn_ink_Pen_Word : BI.fn F_ink_Pen_Word = some l_ink_Pen_Word := by kernel_rfl
theorem fn_wax_Make : BI.fn F_wax_Make = some l_wax_Make := by kernel_rfl
theorem fn_wax_Table_Sum : BI.fn F_wax_Table_Sum = some l_wax_Table_Sum := by kernel_rfl
theorem fn_ink_Pen_Bytes : BI.fn F_ink_Pen_Bytes = some l_ink_Pen_Bytes := by kernel_rfl
theorem fn_code_uses : BI.fn F_code_uses = some l_code_uses := by kernel_rfl
theorem fn_code_right : BI.fn F_code_right = some l_code_right := by kernel_rfl
theorem fn_board_Board_Put : BI.fn F_board_Board_Put = some l_board_Board_Put := by kernel_rfl
theorem fn_mask_Mask_With : BI.fn F_mask_Mask_With = some l_mask_Mask_With := by kernel_rfl
theorem fn_dice_Dice_Next : BI.fn F_dice_Dice_Next = some l_dice_Dice_Next := by kernel_rfl
theorem fn_vm_machine_index : BI.fn F_vm_machine_index = some l_vm_machine_index := by kernel_rfl
theorem fn_vm_machine_reveal : BI.fn F_vm_machine_reveal = some l_vm_machine_reveal := by kernel_rfl
theorem fn_vm_machine_shuffle : BI.fn F_vm_machine_shuffle = some l_vm_machine_shuffle := by kernel_rfl
theorem fn_ref08_Table : BI.fn F_ref08_Table = some l_ref08_Table := by kernel_rfl
theorem fn_ink_Pen_Half : BI.fn F_ink_Pen_Half = some l_ink_Pen_Half := by kernel_rfl
theorem fn_wax_Step : BI.fn F_wax_Step = some l_wax_Step := by kernel_rfl
theorem fn_bytes_Clone : BI.fn F_bytes_Clone = some l_bytes_Clone := by kernel_rfl
theorem fn_code_register : BI.fn F_code_register = some l_code_register := by kernel_rfl
theorem fn_dice_mixed : BI.fn F_dice_mixed = some l_dice_mixed := by kernel_rfl
theorem fn_mask_Mask_Less : BI.fn F_mask_Mask_Less = some l_mask_Mask_Less := by kernel_rfl
theorem fn_board_Board_Show : BI.fn F_board_Board_Show = some l_board_Board_Show := by kernel_rfl
theorem fn_dice_Dice_Shuffle : BI.fn F_dice_Dice_Shuffle = some l_dice_Dice_Shuffle := by kernel_rfl
theorem fn_ink_Pen_add : BI.fn F_ink_Pen_add = some l_ink_Pen_add := by kernel_rfl
theorem fn_mask_Mask_Join : BI.fn F_mask_Mask_Join = some l_mask_Mask_Join := by kernel_rfl
theorem fn_slices_Clone_Lint32_int32 : BI.fn F_slices_Clone_Lint32_int32 = some l_slices_Clone_Lint32_int32 := by kernel_rfl
end Go.Proofs.Ythihgfkpdbgogaa.G
