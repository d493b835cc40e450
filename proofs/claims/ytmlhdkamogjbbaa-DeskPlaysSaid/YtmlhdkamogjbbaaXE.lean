/- Joined: Q0 to Q1. -/
import Derived.Test.YtmlhdkamogjbbaaXD
import Derived.KernelRfl
set_option linter.unusedVariables false
set_option linter.unusedSimpArgs false
set_option maxRecDepth 20000
set_option maxHeartbeats 2000000
namespace Go.Proofs.Ytmlhdkamogjbbaa.G
open Go
def o (p : SOp) (k : L) : L := .op ⟨none, p, .raw, []⟩ k
def om (md : Md) (p : SOp) (k : L) : L := .op ⟨none, p, md, []⟩ k
def oc (g : Option (Operand × Bool)) (p : SOp) (md : Md) (chk : List (Option (Operand × Bool) × SOp)) (k : L) : L := .op ⟨g, p, md, chk⟩ k
def thenI (r : Option (IV × JH)) (k : IV → JH → Option (Out IV × JH)) : Option (Out IV × JH) := match r with | some (v, J) => k v J | none => none
def onJoin (l : Nat) (r : Option (Out IV × JH)) (k : List IV → JH → Option (Out IV × JH)) : Option (Out IV × JH) := match r with
 | some (.goto j vs, J) => if j = l then k vs J else some (.goto j vs, J)
 | r => r
def onIf (v : IV) (a b : Option (Out IV × JH)) : Option (Out IV × JH) := match v with | .sc (.bool t) => if t = true then a else b | _ => none
def lkF : List (FuncId × LFn) → FuncId → Option LFn
 | [], _ => none
 | (k, l) :: r, f => if f = k then some l else lkF r f
def allF (q : FuncId → LFn → Prop) : List (FuncId × LFn) → Prop
 | [] => True
 | p :: r => q p.1 p.2 ∧ allF q r
theorem lkF_all {q : FuncId → LFn → Prop} : ∀ {L : List (FuncId × LFn)} {f : FuncId} {l : LFn}, allF q L → lkF L f = some l → q f l
 | [], f, l, _, h => by simp [lkF] at h
 | (k, m) :: r, f, l, ha, h => by
  simp only [lkF] at h
  split at h
  ·rename_i he
   subst he
   simp only [Option.some.injEq] at h
   subst h
   exact ha.1
  ·exact lkF_all ha.2 h
section
variable {B : IBook} {ρ : List IV} {J : JH} {p : SOp} {k : L} {md : Md}
theorem step_plain {C : ICall} : stepI' B C ρ ⟨none, p, md, []⟩ J = iexec B C md ρ p J := by
 unfold stepI'
 simp only [wantsI, List.all_nil, if_true]
 cases iexec B C md ρ p J with
 | none => rfl
 | some q => rfl
theorem dn_o : dn B (o p k) ρ J = thenI (iexec B (ic B) .raw ρ p J) fun v J' => dn B k (ρ ++ [v]) J' := by
 simp only [o, dn, step_plain]; rfl
theorem dn_om : dn B (om md p k) ρ J = thenI (iexec B (ic B) md ρ p J) fun v J' => dn B k (ρ ++ [v]) J' := by
 simp only [om, dn, step_plain]; rfl
theorem dn_oc {g : Option (Operand × Bool)} {chk} : dn B (oc g p md chk k) ρ J = thenI (stepI' B (ic B) ρ ⟨g, p, md, chk⟩ J) fun v J' => dn B k (ρ ++ [v]) J' := by
 simp only [oc, dn]; rfl
theorem dn_ite {c : Operand} {a b : L} : dn B (.ite c a b) ρ J = onIf (evI ρ c) (dn B a ρ J) (dn B b ρ J) := by
 simp only [dn]; rfl
theorem dn_join {l : Nat} {a b : L} : dn B (.join l a b) ρ J = onJoin l (dn B a ρ J) fun vs J => dn B b vs J := by
 simp only [dn, onJoin]
 cases dn B a ρ J with
 | none => rfl
 | some q => obtain ⟨o, J'⟩ := q; cases o <;> rfl
theorem dn_loop {l : Nat} {init : List Operand} {b : L} : dn B (.loop l init b) ρ J = iter (dn B b) l (init.map (evI ρ)) J := by
 simp only [dn]
theorem dn_goto {l : Nat} {vs : List Operand} : dn B (.goto l vs) ρ J = some (.goto l (vs.map (evI ρ)), J) := by simp only [dn]
theorem dn_ret {vs : List Operand} : dn B (.ret vs) ρ J = some (.ret (vs.map (evI ρ)), J) := by simp only [dn]
theorem ilift_some {v : IV} {J : JH} : ilift (some v) J = some (v, J) := rfl
theorem evI_0 {x : IV} {r : List IV} : evI (x :: r) (.tmp 0) = x := rfl
theorem evI_succ {x : IV} {r : List IV} {n : Nat} : evI (x :: r) (.tmp (n + 1)) = evI r (.tmp n) := by simp [evI]
theorem scal2_sc {f : Value → Value → Option Value} {a b : Value} : scal2 f (.sc a) (.sc b) = (f a b).map .sc := rfl
end
end Go.Proofs.Ytmlhdkamogjbbaa.G
namespace Go.Proofs.Ytmlhdkamogjbbaa.G
open Go
abbrev F_law14_DeskPlays : FuncId := 7
abbrev F_law14_awake : FuncId := 9
abbrev F_law14_few : FuncId := 10
abbrev F_rules_Game_Right : FuncId := 11
abbrev F_desk_New : FuncId := 12
abbrev F_desk_Desk_Put : FuncId := 13
abbrev F_desk_Desk_Take : FuncId := 14
abbrev F_desk_Desk_Tick : FuncId := 16
abbrev F_desk_Desk_Held : FuncId := 17
abbrev F_desk_Desk_Drop : FuncId := 18
abbrev F_law14_own : FuncId := 19
abbrev F_slices_Equal_Luint32_uint32 : FuncId := 20
abbrev F_ref14_Take : FuncId := 21
abbrev F_ref14_Drop : FuncId := 22
abbrev F_ref14_Put : FuncId := 23
abbrev F_ref14_Held : FuncId := 24
abbrev F_mask_Mask_Within : FuncId := 25
abbrev F_rules_Game_All : FuncId := 26
abbrev F_code_Right : FuncId := 27
abbrev F_maps_Clone_map_desk_slot_uint32_desk_slot_uint32 : FuncId := 28
abbrev F_slices_Sort_Luint32_uint32 : FuncId := 29
abbrev F_ref10_Right : FuncId := 30
abbrev F_ref14_at : FuncId := 31
abbrev F_mask_All : FuncId := 32
abbrev F_code_Check : FuncId := 33
abbrev F_slices_pdqsortOrdered_uint32 : FuncId := 35
abbrev F_math_bits_Len : FuncId := 36
abbrev F_ref10_All : FuncId := 37
abbrev F_ref08_Check : FuncId := 38
abbrev F_code_uses : FuncId := 39
abbrev F_code_right : FuncId := 40
abbrev F_slices_insertionSortOrdered_uint32 : FuncId := 41
abbrev F_slices_heapSortOrdered_uint32 : FuncId := 42
abbrev F_slices_breakPatternsOrdered_uint32 : FuncId := 43
abbrev F_slices_choosePivotOrdered_uint32 : FuncId := 44
abbrev F_slices_reverseRangeOrdered_uint32 : FuncId := 45
abbrev F_slices_partialInsertionSortOrdered_uint32 : FuncId := 46
abbrev F_cmp_Less_uint32 : FuncId := 47
abbrev F_slices_partitionEqualOrdered_uint32 : FuncId := 48
abbrev F_slices_partitionOrdered_uint32 : FuncId := 49
abbrev F_math_bits_Len64 : FuncId := 51
abbrev F_ref08_Right : FuncId := 52
abbrev F_code_register : FuncId := 53
abbrev F_slices_siftDownOrdered_uint32 : FuncId := 54
abbrev F_slices_nextPowerOfTwo : FuncId := 55
abbrev F_slices_xorshift_Next : FuncId := 56
abbrev F_slices_medianAdjacentOrdered_uint32 : FuncId := 57
abbrev F_slices_medianOrdered_uint32 : FuncId := 58
abbrev F_cmp_isNaN_uint32 : FuncId := 59
abbrev F_ref08_Parts : FuncId := 60
abbrev F_ref08_has : FuncId := 61
abbrev F_slices_order2Ordered_uint32 : FuncId := 62
abbrev F_ref08_Table : FuncId := 63
def l_law14_DeskPlays_k0 : L :=
 o (.faddr 1 (.tmp 2)) <|
 o (.load false 1 (.tmp 7)) <|
 o (.faddr 4 (.tmp 2)) <|
 o (.load false 1 (.tmp 9)) <|
 o (.faddr 1 (.tmp 2)) <|
 o (.load false 1 (.tmp 11)) <|
 o (.faddr 4 (.tmp 2)) <|
 o (.load false 1 (.tmp 13)) <|
 oc none (.call F_desk_Desk_Put [.tmp 0, .tmp 8, .tmp 3, .tmp 10]) .raw [(none, .load false 1 (.tmp 11)), (none, .load false 1 (.tmp 13))] <|
 o (.call F_ref14_Put [.tmp 1, .tmp 12, .tmp 3, .tmp 14]) <|
 o (.bin .neq (.tmp 15) (.tmp 16)) <|
 .ite (.tmp 17)
 (.ret [(.const (.bool false))])
 (.goto 2 [.tmp 0, .tmp 1, .tmp 2, .tmp 4, .tmp 5, .tmp 6])
def l_law14_DeskPlays_k1 : L :=
 .ite (.tmp 7)
 (o (.call F_desk_Desk_Take [.tmp 0]) <|
 o (.call F_ref14_Take [.tmp 1]) <|
 om .pure (.call F_slices_Equal_Luint32_uint32 [.tmp 8, .tmp 9]) <|
 o (.un .not (.tmp 10)) <|
 .ite (.tmp 11)
 (.ret [(.const (.bool false))])
 (.goto 2 [.tmp 0, .tmp 1, .tmp 2, .tmp 3, .tmp 4, .tmp 5]))
 (o (.bin .eql (.tmp 6) (.const (.int .u8 6))) <|
 .ite (.tmp 8)
 (o (.faddr 1 (.tmp 2)) <|
 o (.load false 1 (.tmp 9)) <|
 o (.faddr 1 (.tmp 2)) <|
 o (.load false 1 (.tmp 11)) <|
 oc none (.call F_desk_Desk_Drop [.tmp 0, .tmp 10]) .raw [(none, .load false 1 (.tmp 11))] <|
 o (.call F_ref14_Drop [.tmp 1, .tmp 12]) <|
 o (.bin .neq (.tmp 13) (.tmp 14)) <|
 .ite (.tmp 15)
 (.ret [(.const (.bool false))])
 (.goto 2 [.tmp 0, .tmp 1, .tmp 2, .tmp 3, .tmp 4, .tmp 5]))
 (o (.faddr 2 (.tmp 2)) <|
 o (.load false 1 (.tmp 9)) <|
 .join 4
 (o (.faddr 3 (.tmp 2)) <|
 o (.load false 1 (.tmp 11)) <|
 .ite (.tmp 12)
 (o (.nilck (.tmp 1)) <|
 o (.faddr 7 (.tmp 13)) <|
 o (.load false 1 (.tmp 14)) <|
 o (.faddr 2 (.tmp 2)) <|
 o (.load false 1 (.tmp 16)) <|
 o (.bin .rem (.tmp 17) (.const (.int .u32 12))) <|
 o (.bin .add (.tmp 15) (.tmp 18)) <|
 o (.bin .sub (.tmp 19) (.const (.int .u32 2))) <|
 .goto 4 [.tmp 0, .tmp 1, .tmp 2, .tmp 20, .tmp 3, .tmp 4, .tmp 5])
 (.goto 4 [.tmp 0, .tmp 1, .tmp 2, .tmp 10, .tmp 3, .tmp 4, .tmp 5]))
 l_law14_DeskPlays_k0))
def l_law14_DeskPlays_k2 : L :=
 o (.nilck (.tmp 1)) <|
 o (.faddr 7 (.tmp 6)) <|
 o (.load false 1 (.tmp 7)) <|
 oc none (.call F_desk_Desk_Tick [.tmp 0]) .raw [(none, .load false 1 (.tmp 7))] <|
 o (.bin .neq (.tmp 9) (.tmp 8)) <|
 .ite (.tmp 10)
 (.ret [(.const (.bool false))])
 (o (.faddr 1 (.tmp 2)) <|
 o (.load false 1 (.tmp 11)) <|
 o (.faddr 1 (.tmp 2)) <|
 o (.load false 1 (.tmp 13)) <|
 oc none (.call F_desk_Desk_Held [.tmp 0, .tmp 12]) .raw [(none, .load false 1 (.tmp 13))] <|
 o (.call F_ref14_Held [.tmp 1, .tmp 14]) <|
 om .pure (.call F_slices_Equal_Luint32_uint32 [.tmp 15, .tmp 16]) <|
 o (.un .not (.tmp 17)) <|
 .ite (.tmp 18)
 (.ret [(.const (.bool false))])
 (o (.call F_desk_Desk_Held [.tmp 0, (.const (.int .i64 0))]) <|
 o (.call F_ref14_Held [.tmp 1, (.const (.int .i64 0))]) <|
 om .pure (.call F_slices_Equal_Luint32_uint32 [.tmp 19, .tmp 20]) <|
 o (.un .not (.tmp 21)) <|
 .ite (.tmp 22)
 (.ret [(.const (.bool false))])
 (o (.bin .add (.tmp 5) (.const (.int .i64 1))) <|
 .goto 1 [.tmp 0, .tmp 1, .tmp 3, .tmp 4, .tmp 23])))
def l_law14_DeskPlays_k3 : L :=
 o (.bin .lss (.tmp 4) (.tmp 3)) <|
 .ite (.tmp 5)
 (o (.iaddr 5 (.tmp 2) (.tmp 4)) <|
 o (.load true 5 (.tmp 6)) <|
 o (.new 55) <|
 o (.store 5 (.tmp 8) (.tmp 7)) <|
 o (.bin .geq (.tmp 4) (.const (.int .i64 60))) <|
 .ite (.tmp 10)
 (.goto 0 [])
 (.join 2
 (o (.faddr 0 (.tmp 8)) <|
 o (.load false 1 (.tmp 11)) <|
 o (.bin .rem (.tmp 12) (.const (.int .u8 7))) <|
 .join 3
 (o (.bin .eql (.tmp 13) (.const (.int .u8 4))) <|
 .ite (.tmp 14)
 (.goto 3 [.tmp 0, .tmp 1, .tmp 8, .tmp 2, .tmp 3, .tmp 4, .tmp 13, .tmp 14])
 (o (.bin .eql (.tmp 13) (.const (.int .u8 5))) <|
 .goto 3 [.tmp 0, .tmp 1, .tmp 8, .tmp 2, .tmp 3, .tmp 4, .tmp 13, .tmp 15]))
 l_law14_DeskPlays_k1)
 l_law14_DeskPlays_k2))
 (.goto 0 [])
def l_law14_DeskPlays_k4 : L :=
 .ret [(.const (.bool true))]
def l_law14_DeskPlays : LFn := ⟨2,
 o (.box 26 (.tmp 0)) <|
 om .pure (.call F_law14_awake []) <|
 o (.un .not (.tmp 3)) <|
 .ite (.tmp 4)
 (.ret [(.const (.bool false))])
 (o (.load true 6 (.tmp 2)) <|
 om .pure (.call F_law14_few [.tmp 5]) <|
 o (.store 6 (.tmp 2) (.tmp 6)) <|
 o (.load true 6 (.tmp 2)) <|
 o (.load true 6 (.tmp 2)) <|
 oc none (.call F_desk_New [.tmp 8]) .raw [(none, .load true 6 (.tmp 2))] <|
 om .pure (.call F_law14_own [.tmp 9]) <|
 o (.build 53 [(0, 6, (.tmp 11))]) <|
 o (.box 53 (.tmp 12)) <|
 .join 0
 (o (.len false (.tmp 1)) <|
 .loop 1 [(.tmp 10), (.tmp 13), (.tmp 1), (.tmp 14), (.const (.int .i64 0))] l_law14_DeskPlays_k3)
 l_law14_DeskPlays_k4)⟩
def l_law14_awake : LFn := ⟨0,
 o (.build 26 [(0, 1, (.const (.int .i64 1))), (1, 1, (.const (.int .i64 1))), (2, 1, (.const (.int .u32 3)))]) <|
 o (.call F_desk_New [.tmp 0]) <|
 o (.call F_desk_Desk_Put [.tmp 1, (.const (.int .i64 0)), (.const (.int .u32 1)), (.const (.int .u32 2))]) <|
 o (.bin .neq (.tmp 2) (.const (.int .i64 0))) <|
 .ite (.tmp 3)
 (.ret [(.const (.bool false))])
 (o (.call F_desk_Desk_Take [.tmp 1]) <|
 o (.len false (.tmp 4)) <|
 o (.bin .eql (.tmp 5) (.const (.int .i64 1))) <|
 .ite (.tmp 6)
 (o (.iaddr 1 (.tmp 4) (.const (.int .i64 0))) <|
 o (.load false 1 (.tmp 7)) <|
 o (.bin .eql (.tmp 8) (.const (.int .u32 2))) <|
 .ite (.tmp 9)
 (o (.call F_desk_Desk_Put [.tmp 1, (.const (.int .i64 0)), (.const (.int .u32 1)), (.const (.int .u32 2))]) <|
 o (.bin .eql (.tmp 10) (.const (.int .i64 11))) <|
 .ite (.tmp 11)
 (o (.call F_desk_Desk_Tick [.tmp 1]) <|
 o (.bin .eql (.tmp 12) (.const (.int .u32 1))) <|
 .ret [(.tmp 13)])
 (.ret [(.const (.bool false))]))
 (.ret [(.const (.bool false))]))
 (.ret [(.const (.bool false))]))⟩
def l_law14_few : LFn := ⟨1,
 o (.box 26 (.tmp 0)) <|
 o (.new 26) <|
 o (.bslice 64 0 []) <|
 o (.faddr 4 (.tmp 1)) <|
 o (.load false 1 (.tmp 4)) <|
 o (.faddr 4 (.tmp 1)) <|
 o (.load false 1 (.tmp 6)) <|
 o (.len false (.tmp 7)) <|
 o (.minmax false [(.tmp 8), (.const (.int .i64 55))]) <|
 o (.slice 2 (.tmp 5) none (some (.tmp 9)) none) <|
 o (.append 2 8 (.tmp 3) (.tmp 10)) <|
 o (.faddr 4 (.tmp 1)) <|
 o (.store 1 (.tmp 12) (.tmp 11)) <|
 o (.bslice 79 0 []) <|
 o (.faddr 5 (.tmp 1)) <|
 o (.load false 1 (.tmp 15)) <|
 o (.faddr 5 (.tmp 1)) <|
 o (.load false 1 (.tmp 17)) <|
 o (.len false (.tmp 18)) <|
 o (.minmax false [(.tmp 19), (.const (.int .i64 100))]) <|
 o (.slice 6 (.tmp 16) none (some (.tmp 20)) none) <|
 o (.append 6 12 (.tmp 14) (.tmp 21)) <|
 o (.faddr 5 (.tmp 1)) <|
 o (.store 1 (.tmp 23) (.tmp 22)) <|
 o (.load true 6 (.tmp 1)) <|
 o (.store 6 (.tmp 2) (.tmp 25)) <|
 o (.load true 6 (.tmp 2)) <|
 .ret [(.tmp 27)]⟩
def l_rules_Game_Right_k0 : L :=
 o (.bin .lss (.tmp 3) (.tmp 2)) <|
 .ite (.tmp 4)
 (o (.iaddr 2 (.tmp 1) (.tmp 3)) <|
 o (.load true 2 (.tmp 5)) <|
 o (.new 64) <|
 o (.store 2 (.tmp 7) (.tmp 6)) <|
 o (.faddr 1 (.tmp 7)) <|
 o (.load false 1 (.tmp 9)) <|
 o (.load true 6 (.tmp 0)) <|
 oc none (.call F_rules_Game_All [.tmp 11]) .pure [(none, .load false 1 (.tmp 9))] <|
 om .pure (.call F_mask_Mask_Within [.tmp 10, .tmp 12]) <|
 o (.un .not (.tmp 13)) <|
 .ite (.tmp 14)
 (.ret [(.const (.bool false))])
 (o (.bin .add (.tmp 3) (.const (.int .i64 1))) <|
 .goto 2 [.tmp 0, .tmp 1, .tmp 2, .tmp 15]))
 (.goto 1 [.tmp 0])
def l_rules_Game_Right_k1 : L :=
 o (.faddr 5 (.tmp 0)) <|
 o (.load false 1 (.tmp 1)) <|
 o (.faddr 4 (.tmp 0)) <|
 o (.load false 1 (.tmp 3)) <|
 o (.len false (.tmp 4)) <|
 o (.faddr 1 (.tmp 0)) <|
 o (.load false 1 (.tmp 6)) <|
 om .pure (.call F_code_Right [.tmp 2, .tmp 5, .tmp 7]) <|
 .ret [(.tmp 8)]
def l_rules_Game_Right_k2 : L :=
 .join 1
 (o (.faddr 4 (.tmp 0)) <|
 o (.load false 1 (.tmp 1)) <|
 o (.len false (.tmp 2)) <|
 .loop 2 [(.tmp 0), (.tmp 2), (.tmp 3), (.const (.int .i64 0))] l_rules_Game_Right_k0)
 l_rules_Game_Right_k1
def l_rules_Game_Right : LFn := ⟨1,
 o (.box 26 (.tmp 0)) <|
 .join 0
 (o (.faddr 0 (.tmp 1)) <|
 o (.load false 1 (.tmp 2)) <|
 o (.bin .lss (.tmp 3) (.const (.int .i64 1))) <|
 .ite (.tmp 4)
 (.ret [(.const (.bool false))])
 (o (.faddr 0 (.tmp 1)) <|
 o (.load false 1 (.tmp 5)) <|
 o (.bin .gtr (.tmp 6) (.const (.int .i64 32))) <|
 .ite (.tmp 7)
 (.ret [(.const (.bool false))])
 (o (.faddr 1 (.tmp 1)) <|
 o (.load false 1 (.tmp 8)) <|
 o (.bin .lss (.tmp 9) (.const (.int .i64 1))) <|
 .ite (.tmp 10)
 (.ret [(.const (.bool false))])
 (o (.faddr 1 (.tmp 1)) <|
 o (.load false 1 (.tmp 11)) <|
 o (.faddr 0 (.tmp 1)) <|
 o (.load false 1 (.tmp 13)) <|
 o (.minmax false [(.const (.int .i64 6)), (.tmp 14)]) <|
 o (.bin .gtr (.tmp 12) (.tmp 15)) <|
 .ite (.tmp 16)
 (.ret [(.const (.bool false))])
 (o (.faddr 3 (.tmp 1)) <|
 o (.load false 1 (.tmp 17)) <|
 o (.faddr 2 (.tmp 1)) <|
 o (.load false 1 (.tmp 19)) <|
 o (.bin .geq (.tmp 18) (.tmp 20)) <|
 .ite (.tmp 21)
 (.ret [(.const (.bool false))])
 (o (.faddr 4 (.tmp 1)) <|
 o (.load false 1 (.tmp 22)) <|
 o (.len false (.tmp 23)) <|
 o (.bin .gtr (.tmp 24) (.const (.int .i64 48))) <|
 .ite (.tmp 25)
 (.ret [(.const (.bool false))])
 (.goto 0 [.tmp 1])))))))
 l_rules_Game_Right_k2⟩
def l_desk_New : LFn := ⟨1,
 o (.box 26 (.tmp 0)) <|
 o (.faddr 2 (.tmp 1)) <|
 o (.load false 1 (.tmp 2)) <|
 o (.faddr 3 (.tmp 1)) <|
 o (.load false 1 (.tmp 4)) <|
 o (.newmap) <|
 o (.build 70 [(1, 1, (.tmp 3)), (2, 1, (.tmp 5)), (4, 1, (.tmp 6))]) <|
 o (.box 70 (.tmp 7)) <|
 o (.load true 6 (.tmp 1)) <|
 om .pure (.call F_rules_Game_Right [.tmp 9]) <|
 .ite (.tmp 10)
 (o (.faddr 1 (.tmp 1)) <|
 o (.load false 1 (.tmp 11)) <|
 o (.nilck (.tmp 8)) <|
 o (.faddr 0 (.tmp 13)) <|
 o (.store 1 (.tmp 14) (.tmp 12)) <|
 .ret [(.tmp 8)])
 (.ret [(.tmp 8)])⟩
def l_desk_Desk_Put_k0 : L :=
 o (.nilck (.tmp 0)) <|
 o (.faddr 4 (.tmp 4)) <|
 o (.load false 1 (.tmp 5)) <|
 o (.build 73 [(0, 1, (.tmp 1)), (1, 1, (.tmp 2))]) <|
 o (.lookup 22 (.ints [.i64, .u32]) true (.tmp 6) (.tmp 7)) <|
 o (.ext (.tmp 8) 0) <|
 o (.ext (.tmp 8) 1) <|
 .ite (.tmp 10)
 (.ret [(.const (.int .i64 12))])
 (o (.nilck (.tmp 0)) <|
 o (.faddr 4 (.tmp 11)) <|
 o (.load false 1 (.tmp 12)) <|
 o (.build 73 [(0, 1, (.tmp 1)), (1, 1, (.tmp 2))]) <|
 o (.mapset (.ints [.i64, .u32]) (.tmp 13) (.tmp 14) (.tmp 3)) <|
 .ret [(.const (.int .i64 0))])
def l_desk_Desk_Put : LFn := ⟨4,
 .join 0
 (o (.eqNil false .ptr (.tmp 0)) <|
 .ite (.tmp 4)
 (.ret [(.const (.int .i64 3))])
 (o (.bin .lss (.tmp 1) (.const (.int .i64 0))) <|
 .ite (.tmp 5)
 (.ret [(.const (.int .i64 3))])
 (o (.nilck (.tmp 0)) <|
 o (.faddr 0 (.tmp 6)) <|
 o (.load false 1 (.tmp 7)) <|
 o (.bin .geq (.tmp 1) (.tmp 8)) <|
 .ite (.tmp 9)
 (.ret [(.const (.int .i64 3))])
 (o (.nilck (.tmp 0)) <|
 o (.faddr 1 (.tmp 10)) <|
 o (.load false 1 (.tmp 11)) <|
 o (.bin .geq (.tmp 3) (.tmp 12)) <|
 .ite (.tmp 13)
 (.ret [(.const (.int .i64 1))])
 (o (.nilck (.tmp 0)) <|
 o (.faddr 3 (.tmp 14)) <|
 o (.load false 1 (.tmp 15)) <|
 o (.bin .leq (.tmp 2) (.tmp 16)) <|
 .ite (.tmp 17)
 (.ret [(.const (.int .i64 11))])
 (o (.nilck (.tmp 0)) <|
 o (.faddr 3 (.tmp 18)) <|
 o (.load false 1 (.tmp 19)) <|
 o (.bin .sub (.tmp 2) (.tmp 20)) <|
 o (.bin .gtr (.tmp 21) (.const (.int .u32 8))) <|
 .ite (.tmp 22)
 (.ret [(.const (.int .i64 14))])
 (.goto 0 [.tmp 0, .tmp 1, .tmp 2, .tmp 3])))))))
 l_desk_Desk_Put_k0⟩
def l_desk_Desk_Take_k0 : L :=
 o (.bslice 22 1 [(0, 1, (.tmp 3))]) <|
 o (.append 1 4 (.tmp 1) (.tmp 6)) <|
 o (.nilck (.tmp 0)) <|
 o (.faddr 4 (.tmp 8)) <|
 o (.load false 1 (.tmp 9)) <|
 o (.nilck (.tmp 0)) <|
 o (.faddr 3 (.tmp 11)) <|
 o (.load false 1 (.tmp 12)) <|
 o (.build 73 [(0, 1, (.tmp 2)), (1, 1, (.tmp 13))]) <|
 o (.del (.ints [.i64, .u32]) (.tmp 10) (.tmp 14)) <|
 o (.bin .add (.tmp 5) (.const (.int .i64 1))) <|
 .goto 1 [.tmp 0, .tmp 7, .tmp 4, .tmp 16]
def l_desk_Desk_Take_k1 : L :=
 o (.bin .lss (.tmp 3) (.tmp 2)) <|
 .ite (.tmp 4)
 (o (.nilck (.tmp 0)) <|
 o (.faddr 4 (.tmp 5)) <|
 o (.load false 1 (.tmp 6)) <|
 o (.nilck (.tmp 0)) <|
 o (.faddr 3 (.tmp 8)) <|
 o (.load false 1 (.tmp 9)) <|
 o (.build 73 [(0, 1, (.tmp 3)), (1, 1, (.tmp 10))]) <|
 o (.lookup 22 (.ints [.i64, .u32]) true (.tmp 7) (.tmp 11)) <|
 o (.ext (.tmp 12) 0) <|
 o (.ext (.tmp 12) 1) <|
 .join 2
 (o (.un .not (.tmp 14)) <|
 .ite (.tmp 15)
 (o (.nilck (.tmp 0)) <|
 o (.faddr 2 (.tmp 16)) <|
 o (.load false 1 (.tmp 17)) <|
 .goto 2 [.tmp 0, .tmp 1, .tmp 3, .tmp 18, .tmp 2, .tmp 3])
 (.goto 2 [.tmp 0, .tmp 1, .tmp 3, .tmp 13, .tmp 2, .tmp 3]))
 l_desk_Desk_Take_k0)
 (.goto 0 [.tmp 1])
def l_desk_Desk_Take_k2 : L :=
 .ret [(.tmp 0)]
def l_desk_Desk_Take : LFn := ⟨1,
 o (.eqNil false .ptr (.tmp 0)) <|
 .ite (.tmp 1)
 (.ret [(.const (.slice none 0 0))])
 (o (.nilck (.tmp 0)) <|
 o (.faddr 3 (.tmp 2)) <|
 o (.load false 1 (.tmp 3)) <|
 o (.bin .add (.tmp 4) (.const (.int .u32 1))) <|
 o (.nilck (.tmp 0)) <|
 o (.faddr 3 (.tmp 6)) <|
 o (.store 1 (.tmp 7) (.tmp 5)) <|
 .join 0
 (o (.nilck (.tmp 0)) <|
 o (.faddr 0 (.tmp 9)) <|
 o (.load false 1 (.tmp 10)) <|
 .loop 1 [(.tmp 0), (.const (.slice none 0 0)), (.tmp 11), (.const (.int .i64 0))] l_desk_Desk_Take_k1)
 l_desk_Desk_Take_k2)⟩
def l_desk_Desk_Tick : LFn := ⟨1,
 o (.eqNil false .ptr (.tmp 0)) <|
 .ite (.tmp 1)
 (.ret [(.const (.int .u32 0))])
 (o (.nilck (.tmp 0)) <|
 o (.faddr 3 (.tmp 2)) <|
 o (.load false 1 (.tmp 3)) <|
 .ret [(.tmp 4)])⟩
def l_desk_Desk_Drop_k0 : L :=
 o (.bin .lss (.tmp 5) (.tmp 4)) <|
 .ite (.tmp 6)
 (o (.iaddr 1 (.tmp 3) (.tmp 5)) <|
 o (.load false 1 (.tmp 7)) <|
 o (.nilck (.tmp 0)) <|
 o (.faddr 4 (.tmp 9)) <|
 o (.load false 1 (.tmp 10)) <|
 o (.build 73 [(0, 1, (.tmp 1)), (1, 1, (.tmp 8))]) <|
 o (.del (.ints [.i64, .u32]) (.tmp 11) (.tmp 12)) <|
 o (.bin .add (.tmp 5) (.const (.int .i64 1))) <|
 .goto 1 [.tmp 0, .tmp 1, .tmp 2, .tmp 3, .tmp 4, .tmp 14])
 (.goto 0 [.tmp 2])
def l_desk_Desk_Drop_k1 : L :=
 o (.len false (.tmp 0)) <|
 .ret [(.tmp 1)]
def l_desk_Desk_Drop : LFn := ⟨2,
 o (.call F_desk_Desk_Held [.tmp 0, .tmp 1]) <|
 .join 0
 (o (.len false (.tmp 2)) <|
 .loop 1 [(.tmp 0), (.tmp 1), (.tmp 2), (.tmp 2), (.tmp 3), (.const (.int .i64 0))] l_desk_Desk_Drop_k0)
 l_desk_Desk_Drop_k1⟩
def l_law14_own_k0 : L :=
 o (.bin .lss (.tmp 5) (.tmp 4)) <|
 .ite (.tmp 6)
 (o (.iaddr 2 (.tmp 3) (.tmp 5)) <|
 o (.load true 2 (.tmp 7)) <|
 o (.new 64) <|
 o (.store 2 (.tmp 9) (.tmp 8)) <|
 o (.faddr 4 (.tmp 2)) <|
 o (.load false 1 (.tmp 11)) <|
 o (.faddr 0 (.tmp 9)) <|
 o (.load false 1 (.tmp 13)) <|
 o (.faddr 1 (.tmp 9)) <|
 o (.load false 1 (.tmp 15)) <|
 o (.build 77 [(0, 1, (.tmp 14)), (1, 1, (.tmp 16))]) <|
 o (.bslice 77 1 [(0, 2, (.tmp 17))]) <|
 o (.append 2 8 (.tmp 12) (.tmp 18)) <|
 o (.faddr 4 (.tmp 2)) <|
 o (.store 1 (.tmp 20) (.tmp 19)) <|
 o (.bin .add (.tmp 5) (.const (.int .i64 1))) <|
 .goto 1 [.tmp 0, .tmp 1, .tmp 2, .tmp 3, .tmp 4, .tmp 22])
 (.goto 0 [.tmp 0, .tmp 1, .tmp 2])
def l_law14_own_k1 : L :=
 o (.bin .lss (.tmp 4) (.tmp 3)) <|
 .ite (.tmp 5)
 (o (.iaddr 6 (.tmp 2) (.tmp 4)) <|
 o (.load true 6 (.tmp 6)) <|
 o (.new 79) <|
 o (.store 6 (.tmp 8) (.tmp 7)) <|
 o (.faddr 5 (.tmp 1)) <|
 o (.load false 1 (.tmp 10)) <|
 o (.faddr 0 (.tmp 8)) <|
 o (.load false 1 (.tmp 12)) <|
 o (.faddr 1 (.tmp 8)) <|
 o (.load false 1 (.tmp 14)) <|
 o (.faddr 2 (.tmp 8)) <|
 o (.load false 1 (.tmp 16)) <|
 o (.faddr 3 (.tmp 8)) <|
 o (.load false 1 (.tmp 18)) <|
 o (.faddr 4 (.tmp 8)) <|
 o (.load false 1 (.tmp 20)) <|
 o (.faddr 5 (.tmp 8)) <|
 o (.load false 1 (.tmp 22)) <|
 o (.build 81 [(0, 1, (.tmp 13)), (1, 1, (.tmp 15)), (2, 1, (.tmp 17)), (3, 1, (.tmp 19)), (4, 1, (.tmp 21)), (5, 1, (.tmp 23))]) <|
 o (.bslice 81 1 [(0, 6, (.tmp 24))]) <|
 o (.append 6 12 (.tmp 11) (.tmp 25)) <|
 o (.faddr 5 (.tmp 1)) <|
 o (.store 1 (.tmp 27) (.tmp 26)) <|
 o (.bin .add (.tmp 4) (.const (.int .i64 1))) <|
 .goto 2 [.tmp 0, .tmp 1, .tmp 2, .tmp 3, .tmp 29])
 (.goto 1 [.tmp 0, .tmp 1])
def l_law14_own_k2 : L :=
 o (.load true 6 (.tmp 1)) <|
 o (.store 6 (.tmp 0) (.tmp 2)) <|
 o (.load true 6 (.tmp 0)) <|
 .ret [(.tmp 4)]
def l_law14_own_k3 : L :=
 .join 1
 (o (.faddr 5 (.tmp 0)) <|
 o (.load false 1 (.tmp 3)) <|
 o (.len false (.tmp 4)) <|
 .loop 2 [(.tmp 1), (.tmp 2), (.tmp 4), (.tmp 5), (.const (.int .i64 0))] l_law14_own_k1)
 l_law14_own_k2
def l_law14_own : LFn := ⟨1,
 o (.box 26 (.tmp 0)) <|
 o (.new 49) <|
 o (.faddr 0 (.tmp 1)) <|
 o (.load false 1 (.tmp 3)) <|
 o (.faddr 1 (.tmp 1)) <|
 o (.load false 1 (.tmp 5)) <|
 o (.faddr 2 (.tmp 1)) <|
 o (.load false 1 (.tmp 7)) <|
 o (.faddr 3 (.tmp 1)) <|
 o (.load false 1 (.tmp 9)) <|
 o (.build 49 [(0, 1, (.tmp 4)), (1, 1, (.tmp 6)), (2, 1, (.tmp 8)), (3, 1, (.tmp 10))]) <|
 o (.new 49) <|
 o (.store 6 (.tmp 12) (.tmp 11)) <|
 .join 0
 (o (.faddr 4 (.tmp 1)) <|
 o (.load false 1 (.tmp 14)) <|
 o (.len false (.tmp 15)) <|
 .loop 1 [(.tmp 1), (.tmp 2), (.tmp 12), (.tmp 15), (.tmp 16), (.const (.int .i64 0))] l_law14_own_k0)
 l_law14_own_k3⟩
def l_slices_Equal_Luint32_uint32_k0 : L :=
 o (.bin .lss (.tmp 3) (.tmp 2)) <|
 .ite (.tmp 4)
 (o (.iaddr 1 (.tmp 0) (.tmp 3)) <|
 o (.load false 1 (.tmp 5)) <|
 o (.iaddr 1 (.tmp 1) (.tmp 3)) <|
 o (.load false 1 (.tmp 7)) <|
 o (.bin .neq (.tmp 6) (.tmp 8)) <|
 .ite (.tmp 9)
 (.ret [(.const (.bool false))])
 (o (.bin .add (.tmp 3) (.const (.int .i64 1))) <|
 .goto 1 [.tmp 0, .tmp 1, .tmp 2, .tmp 10]))
 (.goto 0 [])
def l_slices_Equal_Luint32_uint32_k1 : L :=
 .ret [(.const (.bool true))]
def l_slices_Equal_Luint32_uint32 : LFn := ⟨2,
 o (.len false (.tmp 0)) <|
 o (.len false (.tmp 1)) <|
 o (.bin .neq (.tmp 2) (.tmp 3)) <|
 .ite (.tmp 4)
 (.ret [(.const (.bool false))])
 (.join 0
 (o (.len false (.tmp 0)) <|
 .loop 1 [(.tmp 0), (.tmp 1), (.tmp 5), (.const (.int .i64 0))] l_slices_Equal_Luint32_uint32_k0)
 l_slices_Equal_Luint32_uint32_k1)⟩
def l_ref14_Take_k0 : L :=
 o (.bslice 22 1 [(0, 1, (.tmp 3))]) <|
 o (.append 1 4 (.tmp 1) (.tmp 4)) <|
 o (.bin .add (.tmp 2) (.const (.int .i64 1))) <|
 .goto 1 [.tmp 0, .tmp 5, .tmp 6]
def l_ref14_Take_k1 : L :=
 o (.nilck (.tmp 0)) <|
 o (.faddr 0 (.tmp 3)) <|
 o (.faddr 1 (.tmp 4)) <|
 o (.load false 1 (.tmp 5)) <|
 o (.bin .lss (.tmp 2) (.tmp 6)) <|
 .ite (.tmp 7)
 (o (.nilck (.tmp 0)) <|
 o (.faddr 0 (.tmp 8)) <|
 o (.faddr 3 (.tmp 9)) <|
 o (.load false 1 (.tmp 10)) <|
 .join 2
 (o (.nilck (.tmp 0)) <|
 o (.faddr 7 (.tmp 12)) <|
 o (.load false 1 (.tmp 13)) <|
 o (.call F_ref14_at [.tmp 0, .tmp 2, .tmp 14]) <|
 o (.bin .geq (.tmp 15) (.const (.int .i64 0))) <|
 .ite (.tmp 16)
 (o (.nilck (.tmp 0)) <|
 o (.faddr 6 (.tmp 17)) <|
 o (.load false 1 (.tmp 18)) <|
 o (.iaddr 3 (.tmp 19) (.tmp 15)) <|
 o (.faddr 2 (.tmp 20)) <|
 o (.load false 1 (.tmp 21)) <|
 .goto 2 [.tmp 0, .tmp 1, .tmp 2, .tmp 22])
 (.goto 2 [.tmp 0, .tmp 1, .tmp 2, .tmp 11]))
 l_ref14_Take_k0)
 (.goto 0 [.tmp 0, .tmp 1])
def l_ref14_Take_k2 : L :=
 o (.bin .lss (.tmp 5) (.tmp 4)) <|
 .ite (.tmp 6)
 (o (.iaddr 3 (.tmp 3) (.tmp 5)) <|
 o (.load true 3 (.tmp 7)) <|
 o (.new 85) <|
 o (.store 3 (.tmp 9) (.tmp 8)) <|
 o (.faddr 1 (.tmp 9)) <|
 o (.load false 1 (.tmp 11)) <|
 o (.nilck (.tmp 0)) <|
 o (.faddr 7 (.tmp 13)) <|
 o (.load false 1 (.tmp 14)) <|
 o (.bin .gtr (.tmp 12) (.tmp 15)) <|
 .ite (.tmp 16)
 (o (.load true 3 (.tmp 9)) <|
 o (.bslice 85 1 [(0, 3, (.tmp 17))]) <|
 o (.append 3 16 (.tmp 2) (.tmp 18)) <|
 o (.bin .add (.tmp 5) (.const (.int .i64 1))) <|
 .goto 2 [.tmp 0, .tmp 1, .tmp 19, .tmp 3, .tmp 4, .tmp 20])
 (o (.bin .add (.tmp 5) (.const (.int .i64 1))) <|
 .goto 2 [.tmp 0, .tmp 1, .tmp 2, .tmp 3, .tmp 4, .tmp 17]))
 (.goto 1 [.tmp 0, .tmp 1, .tmp 2])
def l_ref14_Take_k3 : L :=
 o (.nilck (.tmp 0)) <|
 o (.faddr 6 (.tmp 3)) <|
 o (.store 1 (.tmp 4) (.tmp 2)) <|
 .ret [(.tmp 1)]
def l_ref14_Take_k4 : L :=
 .join 1
 (o (.nilck (.tmp 0)) <|
 o (.faddr 6 (.tmp 2)) <|
 o (.load false 1 (.tmp 3)) <|
 o (.len false (.tmp 4)) <|
 .loop 2 [(.tmp 0), (.tmp 1), (.const (.slice none 0 0)), (.tmp 4), (.tmp 5), (.const (.int .i64 0))] l_ref14_Take_k2)
 l_ref14_Take_k3
def l_ref14_Take : LFn := ⟨1,
 o (.nilck (.tmp 0)) <|
 o (.faddr 7 (.tmp 1)) <|
 o (.load false 1 (.tmp 2)) <|
 o (.bin .add (.tmp 3) (.const (.int .u32 1))) <|
 o (.nilck (.tmp 0)) <|
 o (.faddr 7 (.tmp 5)) <|
 o (.store 1 (.tmp 6) (.tmp 4)) <|
 o (.nilck (.tmp 0)) <|
 o (.faddr 0 (.tmp 8)) <|
 o (.load true 6 (.tmp 9)) <|
 om .pure (.call F_ref10_Right [.tmp 10]) <|
 o (.un .not (.tmp 11)) <|
 .ite (.tmp 12)
 (.ret [(.const (.slice none 0 0))])
 (.join 0
 (.loop 1 [(.tmp 0), (.const (.slice none 0 0)), (.const (.int .i64 0))] l_ref14_Take_k1)
 l_ref14_Take_k4)⟩
def l_ref14_Drop_k0 : L :=
 o (.bin .lss (.tmp 5) (.tmp 4)) <|
 .ite (.tmp 6)
 (o (.iaddr 3 (.tmp 3) (.tmp 5)) <|
 o (.load true 3 (.tmp 7)) <|
 o (.new 85) <|
 o (.store 3 (.tmp 9) (.tmp 8)) <|
 o (.faddr 0 (.tmp 9)) <|
 o (.load false 1 (.tmp 11)) <|
 o (.bin .neq (.tmp 12) (.tmp 1)) <|
 .ite (.tmp 13)
 (o (.load true 3 (.tmp 9)) <|
 o (.bslice 85 1 [(0, 3, (.tmp 14))]) <|
 o (.append 3 16 (.tmp 2) (.tmp 15)) <|
 o (.bin .add (.tmp 5) (.const (.int .i64 1))) <|
 .goto 1 [.tmp 0, .tmp 1, .tmp 16, .tmp 3, .tmp 4, .tmp 17])
 (o (.bin .add (.tmp 5) (.const (.int .i64 1))) <|
 .goto 1 [.tmp 0, .tmp 1, .tmp 2, .tmp 3, .tmp 4, .tmp 14]))
 (.goto 0 [.tmp 0, .tmp 2])
def l_ref14_Drop_k1 : L :=
 o (.nilck (.tmp 0)) <|
 o (.faddr 6 (.tmp 2)) <|
 o (.load false 1 (.tmp 3)) <|
 o (.len false (.tmp 4)) <|
 o (.len false (.tmp 1)) <|
 o (.bin .sub (.tmp 5) (.tmp 6)) <|
 o (.nilck (.tmp 0)) <|
 o (.faddr 6 (.tmp 8)) <|
 o (.store 1 (.tmp 9) (.tmp 1)) <|
 .ret [(.tmp 7)]
def l_ref14_Drop : LFn := ⟨2,
 .join 0
 (o (.nilck (.tmp 0)) <|
 o (.faddr 6 (.tmp 2)) <|
 o (.load false 1 (.tmp 3)) <|
 o (.len false (.tmp 4)) <|
 .loop 1 [(.tmp 0), (.tmp 1), (.const (.slice none 0 0)), (.tmp 4), (.tmp 5), (.const (.int .i64 0))] l_ref14_Drop_k0)
 l_ref14_Drop_k1⟩
def l_ref14_Put_k0 : L :=
 o (.nilck (.tmp 0)) <|
 o (.faddr 6 (.tmp 4)) <|
 o (.load false 1 (.tmp 5)) <|
 o (.build 85 [(0, 1, (.tmp 1)), (1, 1, (.tmp 2)), (2, 1, (.tmp 3))]) <|
 o (.bslice 85 1 [(0, 3, (.tmp 7))]) <|
 o (.append 3 16 (.tmp 6) (.tmp 8)) <|
 o (.nilck (.tmp 0)) <|
 o (.faddr 6 (.tmp 10)) <|
 o (.store 1 (.tmp 11) (.tmp 9)) <|
 .ret [(.const (.int .i64 0))]
def l_ref14_Put : LFn := ⟨4,
 .join 0
 (o (.bin .lss (.tmp 1) (.const (.int .i64 0))) <|
 .ite (.tmp 4)
 (.ret [(.const (.int .i64 3))])
 (o (.nilck (.tmp 0)) <|
 o (.faddr 0 (.tmp 5)) <|
 o (.load true 6 (.tmp 6)) <|
 om .pure (.call F_ref10_Right [.tmp 7]) <|
 o (.un .not (.tmp 8)) <|
 .ite (.tmp 9)
 (.ret [(.const (.int .i64 3))])
 (o (.nilck (.tmp 0)) <|
 o (.faddr 0 (.tmp 10)) <|
 o (.faddr 1 (.tmp 11)) <|
 o (.load false 1 (.tmp 12)) <|
 o (.bin .geq (.tmp 1) (.tmp 13)) <|
 .ite (.tmp 14)
 (.ret [(.const (.int .i64 3))])
 (o (.nilck (.tmp 0)) <|
 o (.faddr 0 (.tmp 15)) <|
 o (.faddr 2 (.tmp 16)) <|
 o (.load false 1 (.tmp 17)) <|
 o (.bin .geq (.tmp 3) (.tmp 18)) <|
 .ite (.tmp 19)
 (.ret [(.const (.int .i64 1))])
 (o (.nilck (.tmp 0)) <|
 o (.faddr 7 (.tmp 20)) <|
 o (.load false 1 (.tmp 21)) <|
 o (.bin .leq (.tmp 2) (.tmp 22)) <|
 .ite (.tmp 23)
 (.ret [(.const (.int .i64 11))])
 (o (.conv .u64 (.tmp 2)) <|
 o (.nilck (.tmp 0)) <|
 o (.faddr 7 (.tmp 25)) <|
 o (.load false 1 (.tmp 26)) <|
 o (.conv .u64 (.tmp 27)) <|
 o (.bin .add (.tmp 28) (.const (.int .u64 8))) <|
 o (.bin .gtr (.tmp 24) (.tmp 29)) <|
 .ite (.tmp 30)
 (.ret [(.const (.int .i64 14))])
 (o (.call F_ref14_at [.tmp 0, .tmp 1, .tmp 2]) <|
 o (.bin .geq (.tmp 31) (.const (.int .i64 0))) <|
 .ite (.tmp 32)
 (.ret [(.const (.int .i64 12))])
 (.goto 0 [.tmp 0, .tmp 1, .tmp 2, .tmp 3]))))))))
 l_ref14_Put_k0⟩
def l_ref14_Held_k0 : L :=
 o (.nilck (.tmp 0)) <|
 o (.faddr 7 (.tmp 4)) <|
 o (.load false 1 (.tmp 5)) <|
 o (.conv .u64 (.tmp 6)) <|
 o (.bin .add (.tmp 7) (.const (.int .u64 8))) <|
 o (.bin .leq (.tmp 3) (.tmp 8)) <|
 .ite (.tmp 9)
 (o (.bin .lss (.tmp 3) (.const (.int .u64 4294967296))) <|
 .ite (.tmp 10)
 (o (.conv .u32 (.tmp 3)) <|
 o (.call F_ref14_at [.tmp 0, .tmp 1, .tmp 11]) <|
 o (.bin .geq (.tmp 12) (.const (.int .i64 0))) <|
 .ite (.tmp 13)
 (o (.conv .u32 (.tmp 3)) <|
 o (.bslice 22 1 [(0, 1, (.tmp 14))]) <|
 o (.append 1 4 (.tmp 2) (.tmp 15)) <|
 o (.bin .add (.tmp 3) (.const (.int .u64 1))) <|
 .goto 1 [.tmp 0, .tmp 1, .tmp 16, .tmp 17])
 (o (.bin .add (.tmp 3) (.const (.int .u64 1))) <|
 .goto 1 [.tmp 0, .tmp 1, .tmp 2, .tmp 14]))
 (o (.bin .add (.tmp 3) (.const (.int .u64 1))) <|
 .goto 1 [.tmp 0, .tmp 1, .tmp 2, .tmp 11]))
 (.goto 0 [.tmp 2])
def l_ref14_Held_k1 : L :=
 .ret [(.tmp 0)]
def l_ref14_Held : LFn := ⟨2,
 .join 0
 (o (.nilck (.tmp 0)) <|
 o (.faddr 7 (.tmp 2)) <|
 o (.load false 1 (.tmp 3)) <|
 o (.conv .u64 (.tmp 4)) <|
 o (.bin .add (.tmp 5) (.const (.int .u64 1))) <|
 .loop 1 [(.tmp 0), (.tmp 1), (.const (.slice none 0 0)), (.tmp 6)] l_ref14_Held_k0)
 l_ref14_Held_k1⟩
def l_mask_Mask_Within : LFn := ⟨2,
 o (.bin .andNot (.tmp 0) (.tmp 1)) <|
 o (.bin .eql (.tmp 2) (.const (.int .u32 0))) <|
 .ret [(.tmp 3)]⟩
def l_rules_Game_All : LFn := ⟨1,
 o (.box 26 (.tmp 0)) <|
 o (.faddr 0 (.tmp 1)) <|
 o (.load false 1 (.tmp 2)) <|
 om .pure (.call F_mask_All [.tmp 3]) <|
 .ret [(.tmp 4)]⟩
def l_code_Right : LFn := ⟨3,
 om .pure (.call F_code_Check [.tmp 0, .tmp 1, .tmp 2]) <|
 o (.ext (.tmp 3) 0) <|
 o (.ext (.tmp 3) 1) <|
 .ret [(.tmp 5)]⟩
def l_slices_Sort_Luint32_uint32 : LFn := ⟨1,
 o (.len false (.tmp 0)) <|
 o (.conv .u64 (.tmp 1)) <|
 om .pure (.call F_math_bits_Len [.tmp 2]) <|
 o (.call F_slices_pdqsortOrdered_uint32 [.tmp 0, (.const (.int .i64 0)), .tmp 1, .tmp 3]) <|
 .ret []⟩
def l_ref10_Right_k0 : L :=
 o (.bin .lss (.tmp 3) (.tmp 2)) <|
 .ite (.tmp 4)
 (o (.iaddr 2 (.tmp 1) (.tmp 3)) <|
 o (.load true 2 (.tmp 5)) <|
 o (.new 77) <|
 o (.store 2 (.tmp 7) (.tmp 6)) <|
 o (.faddr 1 (.tmp 7)) <|
 o (.load false 1 (.tmp 9)) <|
 o (.faddr 0 (.tmp 0)) <|
 o (.load false 1 (.tmp 11)) <|
 oc none (.call F_ref10_All [.tmp 12]) .pure [(none, .load false 1 (.tmp 9))] <|
 o (.bin .andNot (.tmp 10) (.tmp 13)) <|
 o (.bin .gtr (.tmp 14) (.const (.int .u32 0))) <|
 .ite (.tmp 15)
 (.ret [(.const (.bool false))])
 (o (.bin .add (.tmp 3) (.const (.int .i64 1))) <|
 .goto 2 [.tmp 0, .tmp 1, .tmp 2, .tmp 16]))
 (.goto 1 [.tmp 0])
def l_ref10_Right_k1 : L :=
 o (.faddr 5 (.tmp 0)) <|
 o (.load false 1 (.tmp 1)) <|
 o (.faddr 4 (.tmp 0)) <|
 o (.load false 1 (.tmp 3)) <|
 o (.len false (.tmp 4)) <|
 o (.faddr 1 (.tmp 0)) <|
 o (.load false 1 (.tmp 6)) <|
 om .pure (.call F_ref08_Check [.tmp 2, .tmp 5, .tmp 7]) <|
 o (.bin .lss (.tmp 8) (.const (.int .i64 0))) <|
 .ret [(.tmp 9)]
def l_ref10_Right_k2 : L :=
 .join 1
 (o (.faddr 4 (.tmp 0)) <|
 o (.load false 1 (.tmp 1)) <|
 o (.len false (.tmp 2)) <|
 .loop 2 [(.tmp 0), (.tmp 2), (.tmp 3), (.const (.int .i64 0))] l_ref10_Right_k0)
 l_ref10_Right_k1
def l_ref10_Right : LFn := ⟨1,
 o (.box 49 (.tmp 0)) <|
 .join 0
 (o (.faddr 0 (.tmp 1)) <|
 o (.load false 1 (.tmp 2)) <|
 o (.bin .lss (.tmp 3) (.const (.int .i64 1))) <|
 .ite (.tmp 4)
 (.ret [(.const (.bool false))])
 (o (.faddr 0 (.tmp 1)) <|
 o (.load false 1 (.tmp 5)) <|
 o (.bin .gtr (.tmp 6) (.const (.int .i64 32))) <|
 .ite (.tmp 7)
 (.ret [(.const (.bool false))])
 (o (.faddr 1 (.tmp 1)) <|
 o (.load false 1 (.tmp 8)) <|
 o (.bin .lss (.tmp 9) (.const (.int .i64 1))) <|
 .ite (.tmp 10)
 (.ret [(.const (.bool false))])
 (o (.faddr 1 (.tmp 1)) <|
 o (.load false 1 (.tmp 11)) <|
 o (.bin .gtr (.tmp 12) (.const (.int .i64 6))) <|
 .ite (.tmp 13)
 (.ret [(.const (.bool false))])
 (o (.faddr 1 (.tmp 1)) <|
 o (.load false 1 (.tmp 14)) <|
 o (.faddr 0 (.tmp 1)) <|
 o (.load false 1 (.tmp 16)) <|
 o (.bin .gtr (.tmp 15) (.tmp 17)) <|
 .ite (.tmp 18)
 (.ret [(.const (.bool false))])
 (o (.faddr 2 (.tmp 1)) <|
 o (.load false 1 (.tmp 19)) <|
 o (.faddr 3 (.tmp 1)) <|
 o (.load false 1 (.tmp 21)) <|
 o (.bin .leq (.tmp 20) (.tmp 22)) <|
 .ite (.tmp 23)
 (.ret [(.const (.bool false))])
 (o (.faddr 4 (.tmp 1)) <|
 o (.load false 1 (.tmp 24)) <|
 o (.len false (.tmp 25)) <|
 o (.bin .gtr (.tmp 26) (.const (.int .i64 48))) <|
 .ite (.tmp 27)
 (.ret [(.const (.bool false))])
 (.goto 0 [.tmp 1]))))))))
 l_ref10_Right_k2⟩
def l_ref14_at_k0 : L :=
 o (.bin .lss (.tmp 4) (.tmp 3)) <|
 .ite (.tmp 5)
 (o (.iaddr 3 (.tmp 2) (.tmp 4)) <|
 o (.load true 3 (.tmp 6)) <|
 o (.new 85) <|
 o (.store 3 (.tmp 8) (.tmp 7)) <|
 o (.faddr 0 (.tmp 8)) <|
 o (.load false 1 (.tmp 10)) <|
 o (.bin .eql (.tmp 11) (.tmp 0)) <|
 .ite (.tmp 12)
 (o (.faddr 1 (.tmp 8)) <|
 o (.load false 1 (.tmp 13)) <|
 o (.bin .eql (.tmp 14) (.tmp 1)) <|
 .ite (.tmp 15)
 (.ret [(.tmp 4)])
 (o (.bin .add (.tmp 4) (.const (.int .i64 1))) <|
 .goto 1 [.tmp 0, .tmp 1, .tmp 2, .tmp 3, .tmp 16]))
 (o (.bin .add (.tmp 4) (.const (.int .i64 1))) <|
 .goto 1 [.tmp 0, .tmp 1, .tmp 2, .tmp 3, .tmp 13]))
 (.goto 0 [])
def l_ref14_at_k1 : L :=
 .ret [(.const (.int .i64 (-1)))]
def l_ref14_at : LFn := ⟨3,
 .join 0
 (o (.nilck (.tmp 0)) <|
 o (.faddr 6 (.tmp 3)) <|
 o (.load false 1 (.tmp 4)) <|
 o (.len false (.tmp 5)) <|
 .loop 1 [(.tmp 1), (.tmp 2), (.tmp 5), (.tmp 6), (.const (.int .i64 0))] l_ref14_at_k0)
 l_ref14_at_k1⟩
def l_mask_All : LFn := ⟨1,
 o (.minmax true [(.tmp 0), (.const (.int .i64 0))]) <|
 o (.minmax false [(.tmp 1), (.const (.int .i64 32))]) <|
 o (.bin .shl (.const (.int .u64 1)) (.tmp 2)) <|
 o (.bin .sub (.tmp 3) (.const (.int .u64 1))) <|
 o (.conv .u32 (.tmp 4)) <|
 .ret [(.tmp 5)]⟩
def l_code_Check_k0 : L :=
 o (.bin .lss (.tmp 6) (.tmp 5)) <|
 .ite (.tmp 7)
 (o (.iaddr 6 (.tmp 4) (.tmp 6)) <|
 o (.load true 6 (.tmp 8)) <|
 o (.new 79) <|
 o (.store 6 (.tmp 10) (.tmp 9)) <|
 o (.load true 6 (.tmp 10)) <|
 o (.load true 130 (.tmp 3)) <|
 o (.len false (.tmp 0)) <|
 om .pure (.call F_code_right [.tmp 12, .tmp 13, .tmp 14, .tmp 1, .tmp 2]) <|
 o (.un .not (.tmp 15)) <|
 .ite (.tmp 16)
 (.ret [(.tmp 6), (.const (.bool false))])
 (o (.bin .add (.tmp 6) (.const (.int .i64 1))) <|
 .goto 1 [.tmp 0, .tmp 1, .tmp 2, .tmp 3, .tmp 4, .tmp 5, .tmp 17]))
 (.goto 0 [])
def l_code_Check_k1 : L :=
 .ret [(.const (.int .i64 0)), (.const (.bool true))]
def l_code_Check : LFn := ⟨3,
 o (.len false (.tmp 0)) <|
 o (.bin .gtr (.tmp 3) (.const (.int .i64 96))) <|
 .ite (.tmp 4)
 (.ret [(.const (.int .i64 96)), (.const (.bool false))])
 (om .pure (.call F_code_uses []) <|
 o (.new 98) <|
 o (.store 130 (.tmp 6) (.tmp 5)) <|
 .join 0
 (o (.len false (.tmp 0)) <|
 .loop 1 [(.tmp 0), (.tmp 1), (.tmp 2), (.tmp 6), (.tmp 0), (.tmp 8), (.const (.int .i64 0))] l_code_Check_k0)
 l_code_Check_k1)⟩
def l_slices_pdqsortOrdered_uint32_k0 : L :=
 o (.call F_slices_partitionOrdered_uint32 [.tmp 0, .tmp 1, .tmp 2, .tmp 5]) <|
 o (.ext (.tmp 6) 0) <|
 o (.ext (.tmp 6) 1) <|
 o (.bin .sub (.tmp 7) (.tmp 1)) <|
 o (.bin .sub (.tmp 2) (.tmp 7)) <|
 o (.bin .quo (.tmp 4) (.const (.int .i64 8))) <|
 o (.bin .lss (.tmp 9) (.tmp 10)) <|
 .ite (.tmp 12)
 (o (.bin .geq (.tmp 9) (.tmp 11)) <|
 o (.call F_slices_pdqsortOrdered_uint32 [.tmp 0, .tmp 1, .tmp 7, .tmp 3]) <|
 o (.bin .add (.tmp 7) (.const (.int .i64 1))) <|
 .goto 0 [.tmp 0, .tmp 15, .tmp 2, .tmp 3, .tmp 13, .tmp 8])
 (o (.bin .geq (.tmp 10) (.tmp 11)) <|
 o (.bin .add (.tmp 7) (.const (.int .i64 1))) <|
 o (.call F_slices_pdqsortOrdered_uint32 [.tmp 0, .tmp 14, .tmp 2, .tmp 3]) <|
 .goto 0 [.tmp 0, .tmp 1, .tmp 7, .tmp 3, .tmp 13, .tmp 8])
def l_slices_pdqsortOrdered_uint32_k1 : L :=
 .join 4
 (o (.bin .gtr (.tmp 1) (.const (.int .i64 0))) <|
 .ite (.tmp 8)
 (o (.bin .sub (.tmp 1) (.const (.int .i64 1))) <|
 o (.iaddr 1 (.tmp 0) (.tmp 9)) <|
 o (.load false 1 (.tmp 10)) <|
 o (.iaddr 1 (.tmp 0) (.tmp 7)) <|
 o (.load false 1 (.tmp 12)) <|
 om .pure (.call F_cmp_Less_uint32 [.tmp 11, .tmp 13]) <|
 o (.un .not (.tmp 14)) <|
 .ite (.tmp 15)
 (o (.call F_slices_partitionEqualOrdered_uint32 [.tmp 0, .tmp 1, .tmp 2, .tmp 7]) <|
 .goto 0 [.tmp 0, .tmp 16, .tmp 2, .tmp 3, .tmp 4, .tmp 5])
 (.goto 4 [.tmp 0, .tmp 1, .tmp 2, .tmp 3, .tmp 6, .tmp 7]))
 (.goto 4 [.tmp 0, .tmp 1, .tmp 2, .tmp 3, .tmp 6, .tmp 7]))
 l_slices_pdqsortOrdered_uint32_k0
def l_slices_pdqsortOrdered_uint32_k2 : L :=
 .join 3
 (.ite (.tmp 4)
 (.ite (.tmp 5)
 (o (.bin .eql (.tmp 8) (.const (.int .i64 1))) <|
 .ite (.tmp 9)
 (o (.call F_slices_partialInsertionSortOrdered_uint32 [.tmp 0, .tmp 1, .tmp 2]) <|
 .ite (.tmp 10)
 (.ret [])
 (.goto 3 [.tmp 0, .tmp 1, .tmp 2, .tmp 3, .tmp 4, .tmp 5, .tmp 6, .tmp 7]))
 (.goto 3 [.tmp 0, .tmp 1, .tmp 2, .tmp 3, .tmp 4, .tmp 5, .tmp 6, .tmp 7]))
 (.goto 3 [.tmp 0, .tmp 1, .tmp 2, .tmp 3, .tmp 4, .tmp 5, .tmp 6, .tmp 7]))
 (.goto 3 [.tmp 0, .tmp 1, .tmp 2, .tmp 3, .tmp 4, .tmp 5, .tmp 6, .tmp 7]))
 l_slices_pdqsortOrdered_uint32_k1
def l_slices_pdqsortOrdered_uint32_k3 : L :=
 o (.call F_slices_choosePivotOrdered_uint32 [.tmp 0, .tmp 1, .tmp 2]) <|
 o (.ext (.tmp 7) 0) <|
 o (.ext (.tmp 7) 1) <|
 .join 2
 (o (.bin .eql (.tmp 9) (.const (.int .i64 2))) <|
 .ite (.tmp 10)
 (o (.call F_slices_reverseRangeOrdered_uint32 [.tmp 0, .tmp 1, .tmp 2]) <|
 o (.bin .sub (.tmp 2) (.const (.int .i64 1))) <|
 o (.bin .sub (.tmp 8) (.tmp 1)) <|
 o (.bin .sub (.tmp 12) (.tmp 13)) <|
 .goto 2 [.tmp 0, .tmp 1, .tmp 2, .tmp 3, .tmp 4, .tmp 5, .tmp 6, .tmp 14, (.const (.int .i64 1))])
 (.goto 2 [.tmp 0, .tmp 1, .tmp 2, .tmp 3, .tmp 4, .tmp 5, .tmp 6, .tmp 8, .tmp 9]))
 l_slices_pdqsortOrdered_uint32_k2
def l_slices_pdqsortOrdered_uint32_k4 : L :=
 o (.bin .sub (.tmp 2) (.tmp 1)) <|
 o (.bin .leq (.tmp 6) (.const (.int .i64 12))) <|
 .ite (.tmp 7)
 (o (.call F_slices_insertionSortOrdered_uint32 [.tmp 0, .tmp 1, .tmp 2]) <|
 .ret [])
 (o (.bin .eql (.tmp 3) (.const (.int .i64 0))) <|
 .ite (.tmp 8)
 (o (.call F_slices_heapSortOrdered_uint32 [.tmp 0, .tmp 1, .tmp 2]) <|
 .ret [])
 (.join 1
 (o (.un .not (.tmp 4)) <|
 .ite (.tmp 9)
 (o (.call F_slices_breakPatternsOrdered_uint32 [.tmp 0, .tmp 1, .tmp 2]) <|
 o (.bin .sub (.tmp 3) (.const (.int .i64 1))) <|
 .goto 1 [.tmp 0, .tmp 1, .tmp 2, .tmp 11, .tmp 4, .tmp 5, .tmp 6])
 (.goto 1 [.tmp 0, .tmp 1, .tmp 2, .tmp 3, .tmp 4, .tmp 5, .tmp 6]))
 l_slices_pdqsortOrdered_uint32_k3))
def l_slices_pdqsortOrdered_uint32 : LFn := ⟨4,
 .loop 0 [(.tmp 0), (.tmp 1), (.tmp 2), (.tmp 3), (.const (.bool true)), (.const (.bool true))] l_slices_pdqsortOrdered_uint32_k4⟩
def l_math_bits_Len : LFn := ⟨1,
 om .pure (.call F_math_bits_Len64 [.tmp 0]) <|
 .ret [(.tmp 1)]⟩
def l_ref10_All_k0 : L :=
 o (.bin .mul (.const (.int .u32 2)) (.tmp 1)) <|
 o (.bin .add (.tmp 3) (.const (.int .u32 1))) <|
 o (.bin .add (.tmp 2) (.const (.int .i64 1))) <|
 .goto 1 [.tmp 0, .tmp 4, .tmp 5]
def l_ref10_All_k1 : L :=
 .join 2
 (o (.bin .lss (.tmp 2) (.tmp 0)) <|
 .ite (.tmp 3)
 (o (.bin .lss (.tmp 2) (.const (.int .i64 32))) <|
 .ite (.tmp 4)
 (.goto 2 [.tmp 0, .tmp 1, .tmp 2])
 (.goto 0 [.tmp 1]))
 (.goto 0 [.tmp 1]))
 l_ref10_All_k0
def l_ref10_All_k2 : L :=
 .ret [(.tmp 0)]
def l_ref10_All : LFn := ⟨1,
 .join 0
 (.loop 1 [(.tmp 0), (.const (.int .u32 0)), (.const (.int .i64 0))] l_ref10_All_k1)
 l_ref10_All_k2⟩
def l_ref08_Check_k0 : L :=
 o (.bin .lss (.tmp 5) (.tmp 4)) <|
 .ite (.tmp 6)
 (o (.iaddr 6 (.tmp 3) (.tmp 5)) <|
 o (.load true 6 (.tmp 7)) <|
 o (.new 81) <|
 o (.store 6 (.tmp 9) (.tmp 8)) <|
 o (.load true 6 (.tmp 9)) <|
 o (.len false (.tmp 0)) <|
 om .pure (.call F_ref08_Right [.tmp 11, .tmp 12, .tmp 1, .tmp 2]) <|
 o (.un .not (.tmp 13)) <|
 .ite (.tmp 14)
 (.ret [(.tmp 5)])
 (o (.bin .add (.tmp 5) (.const (.int .i64 1))) <|
 .goto 1 [.tmp 0, .tmp 1, .tmp 2, .tmp 3, .tmp 4, .tmp 15]))
 (.goto 0 [])
def l_ref08_Check_k1 : L :=
 .ret [(.const (.int .i64 (-1)))]
def l_ref08_Check : LFn := ⟨3,
 o (.len false (.tmp 0)) <|
 o (.bin .gtr (.tmp 3) (.const (.int .i64 96))) <|
 .ite (.tmp 4)
 (.ret [(.const (.int .i64 96))])
 (.join 0
 (o (.len false (.tmp 0)) <|
 .loop 1 [(.tmp 0), (.tmp 1), (.tmp 2), (.tmp 0), (.tmp 5), (.const (.int .i64 0))] l_ref08_Check_k0)
 l_ref08_Check_k1)⟩
def l_code_uses_k0 : L :=
 o (.bin .leq (.tmp 2) (.const (.int .i64 17))) <|
 .ite (.tmp 3)
 (o (.build 97 [(0, 1, (.const (.bool true))), (1, 1, (.const (.bool true))), (2, 1, (.const (.bool true)))]) <|
 o (.iaddrA 26 5 (.tmp 1) (.tmp 2)) <|
 o (.store 5 (.tmp 5) (.tmp 4)) <|
 o (.bin .add (.tmp 2) (.const (.int .i64 1))) <|
 .goto 1 [.tmp 0, .tmp 1, .tmp 7])
 (.goto 0 [.tmp 0, .tmp 1])
def l_code_uses_k1 : L :=
 o (.load true 130 (.tmp 1)) <|
 o (.store 130 (.tmp 0) (.tmp 2)) <|
 o (.load true 130 (.tmp 0)) <|
 .ret [(.tmp 4)]
def l_code_uses : LFn := ⟨0,
 o (.new 98) <|
 o (.build 97 [(0, 1, (.const (.bool true))), (3, 1, (.const (.int .u8 1)))]) <|
 o (.build 97 [(0, 1, (.const (.bool true))), (3, 1, (.const (.int .u8 2)))]) <|
 o (.build 97 [(0, 1, (.const (.bool true))), (3, 1, (.const (.int .u8 2)))]) <|
 o (.build 97 [(0, 1, (.const (.bool true))), (1, 1, (.const (.bool true))), (3, 1, (.const (.int .u8 2)))]) <|
 o (.build 97 [(0, 1, (.const (.bool true))), (1, 1, (.const (.bool true))), (3, 1, (.const (.int .u8 2)))]) <|
 o (.build 97 [(0, 1, (.const (.bool true))), (1, 1, (.const (.bool true))), (2, 1, (.const (.bool true)))]) <|
 o (.build 97 [(0, 1, (.const (.bool true))), (3, 1, (.const (.int .u8 3)))]) <|
 o (.build 97 [(3, 1, (.const (.int .u8 3)))]) <|
 o (.build 97 [(0, 1, (.const (.bool true))), (3, 1, (.const (.int .u8 4)))]) <|
 o (.build 97 [(1, 1, (.const (.bool true))), (3, 1, (.const (.int .u8 2))), (4, 1, (.const (.bool true)))]) <|
 o (.build 97 [(0, 1, (.const (.bool true))), (3, 1, (.const (.int .u8 5)))]) <|
 o (.build 97 [(3, 1, (.const (.int .u8 6)))]) <|
 o (.build 97 [(0, 1, (.const (.bool true)))]) <|
 o (.build 98 [(5, 5, (.tmp 1)), (10, 5, (.tmp 2)), (15, 5, (.tmp 3)), (20, 5, (.tmp 4)), (25, 5, (.tmp 5)), (90, 5, (.tmp 6)), (95, 5, (.tmp 7)), (100, 5, (.tmp 8)), (105, 5, (.tmp 9)), (110, 5, (.tmp 10)), (115, 5, (.tmp 11)), (120, 5, (.tmp 12)), (125, 5, (.tmp 13))]) <|
 o (.new 98) <|
 o (.store 130 (.tmp 15) (.tmp 14)) <|
 .join 0
 (.loop 1 [(.tmp 0), (.tmp 15), (.const (.int .i64 6))] l_code_uses_k0)
 l_code_uses_k1⟩
def l_code_right_k0 : L :=
 o (.faddr 1 (.tmp 1)) <|
 o (.load false 1 (.tmp 4)) <|
 o (.faddr 2 (.tmp 1)) <|
 o (.load false 1 (.tmp 6)) <|
 o (.bin .or (.tmp 5) (.tmp 7)) <|
 om .pure (.call F_code_register [(.const (.bool false)), .tmp 8]) <|
 .ite (.tmp 9)
 (.ite (.tmp 3)
 (o (.bin .geq (.tmp 2) (.const (.int .i64 0))) <|
 .ite (.tmp 10)
 (o (.faddr 3 (.tmp 1)) <|
 o (.load false 1 (.tmp 11)) <|
 o (.conv .i64 (.tmp 12)) <|
 o (.bin .add (.tmp 2) (.tmp 13)) <|
 o (.bin .leq (.tmp 14) (.tmp 0)) <|
 .ite (.tmp 15)
 (o (.faddr 5 (.tmp 1)) <|
 o (.load false 1 (.tmp 16)) <|
 o (.bin .eql (.tmp 17) (.const (.int .u32 0))) <|
 .ret [(.tmp 18)])
 (.ret [(.const (.bool false))]))
 (.ret [(.const (.bool false))]))
 (.ret [(.const (.bool false))]))
 (.ret [(.const (.bool false))])
def l_code_right_k1 : L :=
 .ite (.tmp 2)
 (o (.faddr 0 (.tmp 1)) <|
 o (.load false 1 (.tmp 3)) <|
 o (.faddr 1 (.tmp 0)) <|
 o (.load false 1 (.tmp 5)) <|
 om .pure (.call F_code_register [.tmp 4, .tmp 6]) <|
 .ite (.tmp 7)
 (o (.faddr 1 (.tmp 1)) <|
 o (.load false 1 (.tmp 8)) <|
 o (.faddr 2 (.tmp 0)) <|
 o (.load false 1 (.tmp 10)) <|
 om .pure (.call F_code_register [.tmp 9, .tmp 11]) <|
 .ite (.tmp 12)
 (o (.faddr 2 (.tmp 1)) <|
 o (.load false 1 (.tmp 13)) <|
 o (.faddr 3 (.tmp 0)) <|
 o (.load false 1 (.tmp 15)) <|
 om .pure (.call F_code_register [.tmp 14, .tmp 16]) <|
 .ite (.tmp 17)
 (o (.faddr 4 (.tmp 1)) <|
 o (.load false 1 (.tmp 18)) <|
 .ite (.tmp 19)
 (.ret [(.const (.bool true))])
 (o (.faddr 5 (.tmp 0)) <|
 o (.load false 1 (.tmp 20)) <|
 o (.bin .eql (.tmp 21) (.const (.int .u32 0))) <|
 .ret [(.tmp 22)]))
 (.ret [(.const (.bool false))]))
 (.ret [(.const (.bool false))]))
 (.ret [(.const (.bool false))]))
 (.ret [(.const (.bool false))])
def l_code_right : LFn := ⟨5,
 o (.box 79 (.tmp 0)) <|
 o (.box 98 (.tmp 1)) <|
 o (.faddr 0 (.tmp 5)) <|
 o (.load false 1 (.tmp 7)) <|
 o (.bin .gtr (.tmp 8) (.const (.int .u8 25))) <|
 .ite (.tmp 9)
 (.ret [(.const (.bool false))])
 (o (.faddr 0 (.tmp 5)) <|
 o (.load false 1 (.tmp 10)) <|
 o (.iaddrA 26 5 (.tmp 6) (.tmp 11)) <|
 o (.load true 5 (.tmp 12)) <|
 o (.new 97) <|
 o (.store 5 (.tmp 14) (.tmp 13)) <|
 o (.faddr 4 (.tmp 5)) <|
 o (.load false 1 (.tmp 16)) <|
 o (.conv .i64 (.tmp 17)) <|
 o (.bin .eql (.tmp 18) (.const (.int .i64 0))) <|
 .join 0
 (o (.faddr 3 (.tmp 14)) <|
 o (.load false 1 (.tmp 20)) <|
 o (.bin .eql (.tmp 21) (.const (.int .u8 1))) <|
 .ite (.tmp 22)
 (.goto 0 [.tmp 5, .tmp 14, (.const (.bool true))])
 (o (.bin .eql (.tmp 21) (.const (.int .u8 2))) <|
 .ite (.tmp 23)
 (o (.bin .geq (.tmp 18) (.const (.int .i64 0))) <|
 .ite (.tmp 24)
 (o (.bin .lss (.tmp 18) (.tmp 3)) <|
 .goto 0 [.tmp 5, .tmp 14, .tmp 25])
 (.goto 0 [.tmp 5, .tmp 14, (.const (.bool false))]))
 (o (.bin .eql (.tmp 21) (.const (.int .u8 3))) <|
 .ite (.tmp 24)
 (o (.bin .geq (.tmp 18) (.const (.int .i64 0))) <|
 .ite (.tmp 25)
 (o (.bin .leq (.tmp 18) (.tmp 2)) <|
 .goto 0 [.tmp 5, .tmp 14, .tmp 26])
 (.goto 0 [.tmp 5, .tmp 14, (.const (.bool false))]))
 (o (.bin .eql (.tmp 21) (.const (.int .u8 4))) <|
 .ite (.tmp 25)
 (o (.bin .geq (.tmp 18) (.const (.int .i64 0))) <|
 .ite (.tmp 26)
 (o (.bin .lss (.tmp 18) (.tmp 4)) <|
 .goto 0 [.tmp 5, .tmp 14, .tmp 27])
 (.goto 0 [.tmp 5, .tmp 14, (.const (.bool false))]))
 (o (.bin .eql (.tmp 21) (.const (.int .u8 5))) <|
 .ite (.tmp 26)
 (o (.bin .geq (.tmp 18) (.const (.int .i64 1))) <|
 .goto 0 [.tmp 5, .tmp 14, .tmp 27])
 (o (.bin .eql (.tmp 21) (.const (.int .u8 6))) <|
 .ite (.tmp 27)
 (.join 1
 (o (.faddr 3 (.tmp 5)) <|
 o (.load false 1 (.tmp 28)) <|
 o (.bin .geq (.tmp 29) (.const (.int .u8 1))) <|
 .ite (.tmp 30)
 (o (.faddr 3 (.tmp 5)) <|
 o (.load false 1 (.tmp 31)) <|
 o (.bin .leq (.tmp 32) (.const (.int .u8 48))) <|
 .goto 1 [.tmp 3, .tmp 5, .tmp 18, .tmp 33])
 (.goto 1 [.tmp 3, .tmp 5, .tmp 18, (.const (.bool false))]))
 l_code_right_k0)
 (.goto 0 [.tmp 5, .tmp 14, .tmp 19])))))))
 l_code_right_k1)⟩
def l_slices_insertionSortOrdered_uint32_k0 : L :=
 o (.bin .sub (.tmp 4) (.const (.int .i64 1))) <|
 o (.bin .sub (.tmp 4) (.const (.int .i64 1))) <|
 o (.iaddr 1 (.tmp 0) (.tmp 6)) <|
 o (.load false 1 (.tmp 7)) <|
 o (.iaddr 1 (.tmp 0) (.tmp 4)) <|
 o (.load false 1 (.tmp 9)) <|
 o (.iaddr 1 (.tmp 0) (.tmp 4)) <|
 o (.store 1 (.tmp 11) (.tmp 8)) <|
 o (.iaddr 1 (.tmp 0) (.tmp 5)) <|
 o (.store 1 (.tmp 13) (.tmp 10)) <|
 o (.bin .sub (.tmp 4) (.const (.int .i64 1))) <|
 .goto 2 [.tmp 0, .tmp 1, .tmp 2, .tmp 3, .tmp 15]
def l_slices_insertionSortOrdered_uint32_k1 : L :=
 .join 3
 (o (.bin .gtr (.tmp 4) (.tmp 1)) <|
 .ite (.tmp 5)
 (o (.iaddr 1 (.tmp 0) (.tmp 4)) <|
 o (.load false 1 (.tmp 6)) <|
 o (.bin .sub (.tmp 4) (.const (.int .i64 1))) <|
 o (.iaddr 1 (.tmp 0) (.tmp 8)) <|
 o (.load false 1 (.tmp 9)) <|
 om .pure (.call F_cmp_Less_uint32 [.tmp 7, .tmp 10]) <|
 .ite (.tmp 11)
 (.goto 3 [.tmp 0, .tmp 1, .tmp 2, .tmp 3, .tmp 4])
 (.goto 1 [.tmp 0, .tmp 1, .tmp 2, .tmp 3]))
 (.goto 1 [.tmp 0, .tmp 1, .tmp 2, .tmp 3]))
 l_slices_insertionSortOrdered_uint32_k0
def l_slices_insertionSortOrdered_uint32_k2 : L :=
 o (.bin .add (.tmp 3) (.const (.int .i64 1))) <|
 .goto 0 [.tmp 0, .tmp 1, .tmp 2, .tmp 4]
def l_slices_insertionSortOrdered_uint32_k3 : L :=
 o (.bin .lss (.tmp 3) (.tmp 2)) <|
 .ite (.tmp 4)
 (.join 1
 (.loop 2 [(.tmp 0), (.tmp 1), (.tmp 2), (.tmp 3), (.tmp 3)] l_slices_insertionSortOrdered_uint32_k1)
 l_slices_insertionSortOrdered_uint32_k2)
 (.ret [])
def l_slices_insertionSortOrdered_uint32 : LFn := ⟨3,
 o (.bin .add (.tmp 1) (.const (.int .i64 1))) <|
 .loop 0 [(.tmp 0), (.tmp 1), (.tmp 2), (.tmp 3)] l_slices_insertionSortOrdered_uint32_k3⟩
def l_slices_heapSortOrdered_uint32_k0 : L :=
 o (.bin .geq (.tmp 4) (.const (.int .i64 0))) <|
 .ite (.tmp 5)
 (o (.call F_slices_siftDownOrdered_uint32 [.tmp 0, .tmp 4, .tmp 3, .tmp 1]) <|
 o (.bin .sub (.tmp 4) (.const (.int .i64 1))) <|
 .goto 1 [.tmp 0, .tmp 1, .tmp 2, .tmp 3, .tmp 7])
 (.goto 0 [.tmp 0, .tmp 1, .tmp 2, .tmp 3])
def l_slices_heapSortOrdered_uint32_k1 : L :=
 o (.bin .geq (.tmp 3) (.const (.int .i64 0))) <|
 .ite (.tmp 4)
 (o (.bin .add (.tmp 1) (.tmp 3)) <|
 o (.bin .add (.tmp 1) (.tmp 3)) <|
 o (.iaddr 1 (.tmp 0) (.tmp 6)) <|
 o (.load false 1 (.tmp 7)) <|
 o (.iaddr 1 (.tmp 0) (.tmp 1)) <|
 o (.load false 1 (.tmp 9)) <|
 o (.iaddr 1 (.tmp 0) (.tmp 1)) <|
 o (.store 1 (.tmp 11) (.tmp 8)) <|
 o (.iaddr 1 (.tmp 0) (.tmp 5)) <|
 o (.store 1 (.tmp 13) (.tmp 10)) <|
 o (.call F_slices_siftDownOrdered_uint32 [.tmp 0, .tmp 2, .tmp 3, .tmp 1]) <|
 o (.bin .sub (.tmp 3) (.const (.int .i64 1))) <|
 .goto 1 [.tmp 0, .tmp 1, .tmp 2, .tmp 16])
 (.ret [])
def l_slices_heapSortOrdered_uint32_k2 : L :=
 o (.bin .sub (.tmp 3) (.const (.int .i64 1))) <|
 .loop 1 [(.tmp 0), (.tmp 1), (.tmp 2), (.tmp 4)] l_slices_heapSortOrdered_uint32_k1
def l_slices_heapSortOrdered_uint32 : LFn := ⟨3,
 o (.bin .sub (.tmp 2) (.tmp 1)) <|
 .join 0
 (o (.bin .sub (.tmp 3) (.const (.int .i64 1))) <|
 o (.bin .quo (.tmp 4) (.const (.int .i64 2))) <|
 .loop 1 [(.tmp 0), (.tmp 1), (.const (.int .i64 0)), (.tmp 3), (.tmp 5)] l_slices_heapSortOrdered_uint32_k0)
 l_slices_heapSortOrdered_uint32_k2⟩
def l_slices_breakPatternsOrdered_uint32_k0 : L :=
 o (.bin .add (.tmp 1) (.tmp 6)) <|
 o (.bin .add (.tmp 1) (.tmp 6)) <|
 o (.iaddr 1 (.tmp 0) (.tmp 8)) <|
 o (.load false 1 (.tmp 9)) <|
 o (.iaddr 1 (.tmp 0) (.tmp 5)) <|
 o (.load false 1 (.tmp 11)) <|
 o (.iaddr 1 (.tmp 0) (.tmp 5)) <|
 o (.store 1 (.tmp 13) (.tmp 10)) <|
 o (.iaddr 1 (.tmp 0) (.tmp 7)) <|
 o (.store 1 (.tmp 15) (.tmp 12)) <|
 o (.bin .add (.tmp 5) (.const (.int .i64 1))) <|
 .goto 0 [.tmp 0, .tmp 1, .tmp 2, .tmp 3, .tmp 4, .tmp 17]
def l_slices_breakPatternsOrdered_uint32_k1 : L :=
 o (.bin .quo (.tmp 2) (.const (.int .i64 4))) <|
 o (.bin .mul (.tmp 6) (.const (.int .i64 2))) <|
 o (.bin .add (.tmp 1) (.tmp 7)) <|
 o (.bin .add (.tmp 8) (.const (.int .i64 1))) <|
 o (.bin .leq (.tmp 5) (.tmp 9)) <|
 .ite (.tmp 10)
 (o (.call F_slices_xorshift_Next [.tmp 3]) <|
 o (.bin .sub (.tmp 4) (.const (.int .u64 1))) <|
 o (.bin .and (.tmp 11) (.tmp 12)) <|
 o (.conv .i64 (.tmp 13)) <|
 .join 1
 (o (.bin .geq (.tmp 14) (.tmp 2)) <|
 .ite (.tmp 15)
 (o (.bin .sub (.tmp 14) (.tmp 2)) <|
 .goto 1 [.tmp 0, .tmp 1, .tmp 2, .tmp 3, .tmp 4, .tmp 5, .tmp 16])
 (.goto 1 [.tmp 0, .tmp 1, .tmp 2, .tmp 3, .tmp 4, .tmp 5, .tmp 14]))
 l_slices_breakPatternsOrdered_uint32_k0)
 (.ret [])
def l_slices_breakPatternsOrdered_uint32 : LFn := ⟨3,
 o (.bin .sub (.tmp 2) (.tmp 1)) <|
 o (.bin .geq (.tmp 3) (.const (.int .i64 8))) <|
 .ite (.tmp 4)
 (o (.conv .u64 (.tmp 3)) <|
 o (.new 113) <|
 o (.store 1 (.tmp 6) (.tmp 5)) <|
 om .pure (.call F_slices_nextPowerOfTwo [.tmp 3]) <|
 o (.bin .quo (.tmp 3) (.const (.int .i64 4))) <|
 o (.bin .mul (.tmp 9) (.const (.int .i64 2))) <|
 o (.bin .add (.tmp 1) (.tmp 10)) <|
 o (.bin .sub (.tmp 11) (.const (.int .i64 1))) <|
 .loop 0 [(.tmp 0), (.tmp 1), (.tmp 3), (.tmp 6), (.tmp 8), (.tmp 12)] l_slices_breakPatternsOrdered_uint32_k1)
 (.ret [])⟩
def l_slices_choosePivotOrdered_uint32_k0 : L :=
 o (.call F_slices_medianOrdered_uint32 [.tmp 0, .tmp 2, .tmp 3, .tmp 4, .tmp 1]) <|
 .goto 0 [.tmp 1, .tmp 5]
def l_slices_choosePivotOrdered_uint32_k1 : L :=
 o (.load false 1 (.tmp 0)) <|
 o (.bin .eql (.tmp 2) (.const (.int .i64 0))) <|
 .ite (.tmp 3)
 (.ret [(.tmp 1), (.const (.int .i64 1))])
 (o (.bin .eql (.tmp 2) (.const (.int .i64 12))) <|
 .ite (.tmp 4)
 (.ret [(.tmp 1), (.const (.int .i64 2))])
 (.ret [(.tmp 1), (.const (.int .i64 0))]))
def l_slices_choosePivotOrdered_uint32 : LFn := ⟨3,
 o (.bin .sub (.tmp 2) (.tmp 1)) <|
 o (.new 3) <|
 o (.bin .quo (.tmp 3) (.const (.int .i64 4))) <|
 o (.bin .mul (.tmp 5) (.const (.int .i64 1))) <|
 o (.bin .add (.tmp 1) (.tmp 6)) <|
 o (.bin .quo (.tmp 3) (.const (.int .i64 4))) <|
 o (.bin .mul (.tmp 8) (.const (.int .i64 2))) <|
 o (.bin .add (.tmp 1) (.tmp 9)) <|
 o (.bin .quo (.tmp 3) (.const (.int .i64 4))) <|
 o (.bin .mul (.tmp 11) (.const (.int .i64 3))) <|
 o (.bin .add (.tmp 1) (.tmp 12)) <|
 .join 0
 (o (.bin .geq (.tmp 3) (.const (.int .i64 8))) <|
 .ite (.tmp 14)
 (.join 1
 (o (.bin .geq (.tmp 3) (.const (.int .i64 50))) <|
 .ite (.tmp 15)
 (o (.call F_slices_medianAdjacentOrdered_uint32 [.tmp 0, .tmp 7, .tmp 4]) <|
 o (.call F_slices_medianAdjacentOrdered_uint32 [.tmp 0, .tmp 10, .tmp 4]) <|
 o (.call F_slices_medianAdjacentOrdered_uint32 [.tmp 0, .tmp 13, .tmp 4]) <|
 .goto 1 [.tmp 0, .tmp 4, .tmp 16, .tmp 17, .tmp 18])
 (.goto 1 [.tmp 0, .tmp 4, .tmp 7, .tmp 10, .tmp 13]))
 l_slices_choosePivotOrdered_uint32_k0)
 (.goto 0 [.tmp 4, .tmp 10]))
 l_slices_choosePivotOrdered_uint32_k1⟩
def l_slices_reverseRangeOrdered_uint32_k0 : L :=
 o (.bin .lss (.tmp 1) (.tmp 2)) <|
 .ite (.tmp 3)
 (o (.iaddr 1 (.tmp 0) (.tmp 2)) <|
 o (.load false 1 (.tmp 4)) <|
 o (.iaddr 1 (.tmp 0) (.tmp 1)) <|
 o (.load false 1 (.tmp 6)) <|
 o (.iaddr 1 (.tmp 0) (.tmp 1)) <|
 o (.store 1 (.tmp 8) (.tmp 5)) <|
 o (.iaddr 1 (.tmp 0) (.tmp 2)) <|
 o (.store 1 (.tmp 10) (.tmp 7)) <|
 o (.bin .add (.tmp 1) (.const (.int .i64 1))) <|
 o (.bin .sub (.tmp 2) (.const (.int .i64 1))) <|
 .goto 0 [.tmp 0, .tmp 12, .tmp 13])
 (.ret [])
def l_slices_reverseRangeOrdered_uint32 : LFn := ⟨3,
 o (.bin .sub (.tmp 2) (.const (.int .i64 1))) <|
 .loop 0 [(.tmp 0), (.tmp 1), (.tmp 3)] l_slices_reverseRangeOrdered_uint32_k0⟩
def l_slices_partialInsertionSortOrdered_uint32_k0 : L :=
 o (.bin .add (.tmp 3) (.const (.int .i64 1))) <|
 .goto 4 [.tmp 0, .tmp 1, .tmp 2, .tmp 5, .tmp 4]
def l_slices_partialInsertionSortOrdered_uint32_k1 : L :=
 .join 5
 (o (.bin .lss (.tmp 3) (.tmp 2)) <|
 .ite (.tmp 5)
 (o (.iaddr 1 (.tmp 0) (.tmp 3)) <|
 o (.load false 1 (.tmp 6)) <|
 o (.bin .sub (.tmp 3) (.const (.int .i64 1))) <|
 o (.iaddr 1 (.tmp 0) (.tmp 8)) <|
 o (.load false 1 (.tmp 9)) <|
 om .pure (.call F_cmp_Less_uint32 [.tmp 7, .tmp 10]) <|
 o (.un .not (.tmp 11)) <|
 .ite (.tmp 12)
 (.goto 5 [.tmp 0, .tmp 1, .tmp 2, .tmp 3, .tmp 4])
 (.goto 3 [.tmp 0, .tmp 1, .tmp 2, .tmp 3, .tmp 4]))
 (.goto 3 [.tmp 0, .tmp 1, .tmp 2, .tmp 3, .tmp 4]))
 l_slices_partialInsertionSortOrdered_uint32_k0
def l_slices_partialInsertionSortOrdered_uint32_k2 : L :=
 o (.bin .geq (.tmp 5) (.const (.int .i64 1))) <|
 .ite (.tmp 6)
 (o (.iaddr 1 (.tmp 0) (.tmp 5)) <|
 o (.load false 1 (.tmp 7)) <|
 o (.bin .sub (.tmp 5) (.const (.int .i64 1))) <|
 o (.iaddr 1 (.tmp 0) (.tmp 9)) <|
 o (.load false 1 (.tmp 10)) <|
 om .pure (.call F_cmp_Less_uint32 [.tmp 8, .tmp 11]) <|
 o (.un .not (.tmp 12)) <|
 .ite (.tmp 13)
 (.goto 4 [.tmp 0, .tmp 1, .tmp 2, .tmp 3, .tmp 4])
 (o (.bin .sub (.tmp 5) (.const (.int .i64 1))) <|
 o (.bin .sub (.tmp 5) (.const (.int .i64 1))) <|
 o (.iaddr 1 (.tmp 0) (.tmp 15)) <|
 o (.load false 1 (.tmp 16)) <|
 o (.iaddr 1 (.tmp 0) (.tmp 5)) <|
 o (.load false 1 (.tmp 18)) <|
 o (.iaddr 1 (.tmp 0) (.tmp 5)) <|
 o (.store 1 (.tmp 20) (.tmp 17)) <|
 o (.iaddr 1 (.tmp 0) (.tmp 14)) <|
 o (.store 1 (.tmp 22) (.tmp 19)) <|
 o (.bin .sub (.tmp 5) (.const (.int .i64 1))) <|
 .goto 5 [.tmp 0, .tmp 1, .tmp 2, .tmp 3, .tmp 4, .tmp 24]))
 (.goto 4 [.tmp 0, .tmp 1, .tmp 2, .tmp 3, .tmp 4])
def l_slices_partialInsertionSortOrdered_uint32_k3 : L :=
 o (.bin .lss (.tmp 5) (.tmp 2)) <|
 .ite (.tmp 6)
 (o (.iaddr 1 (.tmp 0) (.tmp 5)) <|
 o (.load false 1 (.tmp 7)) <|
 o (.bin .sub (.tmp 5) (.const (.int .i64 1))) <|
 o (.iaddr 1 (.tmp 0) (.tmp 9)) <|
 o (.load false 1 (.tmp 10)) <|
 om .pure (.call F_cmp_Less_uint32 [.tmp 8, .tmp 11]) <|
 o (.un .not (.tmp 12)) <|
 .ite (.tmp 13)
 (.goto 2 [.tmp 0, .tmp 1, .tmp 2, .tmp 3, .tmp 4])
 (o (.bin .sub (.tmp 5) (.const (.int .i64 1))) <|
 o (.bin .sub (.tmp 5) (.const (.int .i64 1))) <|
 o (.iaddr 1 (.tmp 0) (.tmp 15)) <|
 o (.load false 1 (.tmp 16)) <|
 o (.iaddr 1 (.tmp 0) (.tmp 5)) <|
 o (.load false 1 (.tmp 18)) <|
 o (.iaddr 1 (.tmp 0) (.tmp 5)) <|
 o (.store 1 (.tmp 20) (.tmp 17)) <|
 o (.iaddr 1 (.tmp 0) (.tmp 14)) <|
 o (.store 1 (.tmp 22) (.tmp 19)) <|
 o (.bin .add (.tmp 5) (.const (.int .i64 1))) <|
 .goto 5 [.tmp 0, .tmp 1, .tmp 2, .tmp 3, .tmp 4, .tmp 24]))
 (.goto 2 [.tmp 0, .tmp 1, .tmp 2, .tmp 3, .tmp 4])
def l_slices_partialInsertionSortOrdered_uint32_k4 : L :=
 o (.bin .sub (.tmp 2) (.tmp 3)) <|
 o (.bin .geq (.tmp 5) (.const (.int .i64 2))) <|
 .ite (.tmp 6)
 (o (.bin .add (.tmp 3) (.const (.int .i64 1))) <|
 .loop 5 [(.tmp 0), (.tmp 1), (.tmp 2), (.tmp 3), (.tmp 4), (.tmp 7)] l_slices_partialInsertionSortOrdered_uint32_k3)
 (.goto 2 [.tmp 0, .tmp 1, .tmp 2, .tmp 3, .tmp 4])
def l_slices_partialInsertionSortOrdered_uint32_k5 : L :=
 o (.bin .eql (.tmp 3) (.tmp 2)) <|
 .ite (.tmp 5)
 (.ret [(.const (.bool true))])
 (o (.bin .sub (.tmp 2) (.tmp 1)) <|
 o (.bin .lss (.tmp 6) (.const (.int .i64 50))) <|
 .ite (.tmp 7)
 (.ret [(.const (.bool false))])
 (o (.bin .sub (.tmp 3) (.const (.int .i64 1))) <|
 o (.bin .sub (.tmp 3) (.const (.int .i64 1))) <|
 o (.iaddr 1 (.tmp 0) (.tmp 9)) <|
 o (.load false 1 (.tmp 10)) <|
 o (.iaddr 1 (.tmp 0) (.tmp 3)) <|
 o (.load false 1 (.tmp 12)) <|
 o (.iaddr 1 (.tmp 0) (.tmp 3)) <|
 o (.store 1 (.tmp 14) (.tmp 11)) <|
 o (.iaddr 1 (.tmp 0) (.tmp 8)) <|
 o (.store 1 (.tmp 16) (.tmp 13)) <|
 .join 4
 (o (.bin .sub (.tmp 3) (.tmp 1)) <|
 o (.bin .geq (.tmp 18) (.const (.int .i64 2))) <|
 .ite (.tmp 19)
 (o (.bin .sub (.tmp 3) (.const (.int .i64 1))) <|
 .loop 5 [(.tmp 0), (.tmp 1), (.tmp 2), (.tmp 3), (.tmp 4), (.tmp 20)] l_slices_partialInsertionSortOrdered_uint32_k2)
 (.goto 4 [.tmp 0, .tmp 1, .tmp 2, .tmp 3, .tmp 4]))
 l_slices_partialInsertionSortOrdered_uint32_k4))
def l_slices_partialInsertionSortOrdered_uint32_k6 : L :=
 o (.bin .add (.tmp 4) (.const (.int .i64 1))) <|
 .goto 1 [.tmp 0, .tmp 1, .tmp 2, .tmp 3, .tmp 5]
def l_slices_partialInsertionSortOrdered_uint32_k7 : L :=
 o (.bin .lss (.tmp 4) (.const (.int .i64 5))) <|
 .ite (.tmp 5)
 (.join 2
 (.join 3
 (.loop 4 [(.tmp 0), (.tmp 1), (.tmp 2), (.tmp 3), (.tmp 4)] l_slices_partialInsertionSortOrdered_uint32_k1)
 l_slices_partialInsertionSortOrdered_uint32_k5)
 l_slices_partialInsertionSortOrdered_uint32_k6)
 (.goto 0 [])
def l_slices_partialInsertionSortOrdered_uint32_k8 : L :=
 .ret [(.const (.bool false))]
def l_slices_partialInsertionSortOrdered_uint32 : LFn := ⟨3,
 o (.bin .add (.tmp 1) (.const (.int .i64 1))) <|
 .join 0
 (.loop 1 [(.tmp 0), (.tmp 1), (.tmp 2), (.tmp 3), (.const (.int .i64 0))] l_slices_partialInsertionSortOrdered_uint32_k7)
 l_slices_partialInsertionSortOrdered_uint32_k8⟩
def l_cmp_Less_uint32 : LFn := ⟨2,
 om .pure (.call F_cmp_isNaN_uint32 [.tmp 0]) <|
 .ite (.tmp 2)
 (om .pure (.call F_cmp_isNaN_uint32 [.tmp 1]) <|
 o (.un .not (.tmp 3)) <|
 .ite (.tmp 4)
 (.ret [(.const (.bool true))])
 (o (.bin .lss (.tmp 0) (.tmp 1)) <|
 .ret [(.tmp 5)]))
 (o (.bin .lss (.tmp 0) (.tmp 1)) <|
 .ret [(.tmp 3)])⟩
def l_slices_partitionEqualOrdered_uint32_k0 : L :=
 o (.bin .add (.tmp 2) (.const (.int .i64 1))) <|
 .goto 3 [.tmp 0, .tmp 1, .tmp 4, .tmp 3]
def l_slices_partitionEqualOrdered_uint32_k1 : L :=
 .join 4
 (o (.bin .leq (.tmp 2) (.tmp 3)) <|
 .ite (.tmp 4)
 (o (.iaddr 1 (.tmp 0) (.tmp 1)) <|
 o (.load false 1 (.tmp 5)) <|
 o (.iaddr 1 (.tmp 0) (.tmp 2)) <|
 o (.load false 1 (.tmp 7)) <|
 om .pure (.call F_cmp_Less_uint32 [.tmp 6, .tmp 8]) <|
 o (.un .not (.tmp 9)) <|
 .ite (.tmp 10)
 (.goto 4 [.tmp 0, .tmp 1, .tmp 2, .tmp 3])
 (.goto 2 [.tmp 0, .tmp 1, .tmp 2, .tmp 3]))
 (.goto 2 [.tmp 0, .tmp 1, .tmp 2, .tmp 3]))
 l_slices_partitionEqualOrdered_uint32_k0
def l_slices_partitionEqualOrdered_uint32_k2 : L :=
 o (.bin .sub (.tmp 3) (.const (.int .i64 1))) <|
 .goto 4 [.tmp 0, .tmp 1, .tmp 2, .tmp 4]
def l_slices_partitionEqualOrdered_uint32_k3 : L :=
 .join 5
 (o (.bin .leq (.tmp 2) (.tmp 3)) <|
 .ite (.tmp 4)
 (o (.iaddr 1 (.tmp 0) (.tmp 1)) <|
 o (.load false 1 (.tmp 5)) <|
 o (.iaddr 1 (.tmp 0) (.tmp 3)) <|
 o (.load false 1 (.tmp 7)) <|
 om .pure (.call F_cmp_Less_uint32 [.tmp 6, .tmp 8]) <|
 .ite (.tmp 9)
 (.goto 5 [.tmp 0, .tmp 1, .tmp 2, .tmp 3])
 (.goto 3 [.tmp 0, .tmp 1, .tmp 2, .tmp 3]))
 (.goto 3 [.tmp 0, .tmp 1, .tmp 2, .tmp 3]))
 l_slices_partitionEqualOrdered_uint32_k2
def l_slices_partitionEqualOrdered_uint32_k4 : L :=
 o (.bin .gtr (.tmp 2) (.tmp 3)) <|
 .ite (.tmp 4)
 (.goto 0 [.tmp 2])
 (o (.iaddr 1 (.tmp 0) (.tmp 3)) <|
 o (.load false 1 (.tmp 5)) <|
 o (.iaddr 1 (.tmp 0) (.tmp 2)) <|
 o (.load false 1 (.tmp 7)) <|
 o (.iaddr 1 (.tmp 0) (.tmp 2)) <|
 o (.store 1 (.tmp 9) (.tmp 6)) <|
 o (.iaddr 1 (.tmp 0) (.tmp 3)) <|
 o (.store 1 (.tmp 11) (.tmp 8)) <|
 o (.bin .add (.tmp 2) (.const (.int .i64 1))) <|
 o (.bin .sub (.tmp 3) (.const (.int .i64 1))) <|
 .goto 1 [.tmp 0, .tmp 1, .tmp 13, .tmp 14])
def l_slices_partitionEqualOrdered_uint32_k5 : L :=
 .join 3
 (.loop 4 [(.tmp 0), (.tmp 1), (.tmp 2), (.tmp 3)] l_slices_partitionEqualOrdered_uint32_k3)
 l_slices_partitionEqualOrdered_uint32_k4
def l_slices_partitionEqualOrdered_uint32_k6 : L :=
 .join 2
 (.loop 3 [(.tmp 0), (.tmp 1), (.tmp 2), (.tmp 3)] l_slices_partitionEqualOrdered_uint32_k1)
 l_slices_partitionEqualOrdered_uint32_k5
def l_slices_partitionEqualOrdered_uint32_k7 : L :=
 .ret [(.tmp 0)]
def l_slices_partitionEqualOrdered_uint32 : LFn := ⟨4,
 o (.iaddr 1 (.tmp 0) (.tmp 3)) <|
 o (.load false 1 (.tmp 4)) <|
 o (.iaddr 1 (.tmp 0) (.tmp 1)) <|
 o (.load false 1 (.tmp 6)) <|
 o (.iaddr 1 (.tmp 0) (.tmp 1)) <|
 o (.store 1 (.tmp 8) (.tmp 5)) <|
 o (.iaddr 1 (.tmp 0) (.tmp 3)) <|
 o (.store 1 (.tmp 10) (.tmp 7)) <|
 o (.bin .add (.tmp 1) (.const (.int .i64 1))) <|
 o (.bin .sub (.tmp 2) (.const (.int .i64 1))) <|
 .join 0
 (.loop 1 [(.tmp 0), (.tmp 1), (.tmp 12), (.tmp 13)] l_slices_partitionEqualOrdered_uint32_k6)
 l_slices_partitionEqualOrdered_uint32_k7⟩
def l_slices_partitionOrdered_uint32_k0 : L :=
 o (.bin .add (.tmp 2) (.const (.int .i64 1))) <|
 .goto 1 [.tmp 0, .tmp 1, .tmp 4, .tmp 3]
def l_slices_partitionOrdered_uint32_k1 : L :=
 .join 2
 (o (.bin .leq (.tmp 2) (.tmp 3)) <|
 .ite (.tmp 4)
 (o (.iaddr 1 (.tmp 0) (.tmp 2)) <|
 o (.load false 1 (.tmp 5)) <|
 o (.iaddr 1 (.tmp 0) (.tmp 1)) <|
 o (.load false 1 (.tmp 7)) <|
 om .pure (.call F_cmp_Less_uint32 [.tmp 6, .tmp 8]) <|
 .ite (.tmp 9)
 (.goto 2 [.tmp 0, .tmp 1, .tmp 2, .tmp 3])
 (.goto 0 [.tmp 0, .tmp 1, .tmp 2, .tmp 3]))
 (.goto 0 [.tmp 0, .tmp 1, .tmp 2, .tmp 3]))
 l_slices_partitionOrdered_uint32_k0
def l_slices_partitionOrdered_uint32_k2 : L :=
 o (.bin .sub (.tmp 3) (.const (.int .i64 1))) <|
 .goto 2 [.tmp 0, .tmp 1, .tmp 2, .tmp 4]
def l_slices_partitionOrdered_uint32_k3 : L :=
 .join 3
 (o (.bin .leq (.tmp 2) (.tmp 3)) <|
 .ite (.tmp 4)
 (o (.iaddr 1 (.tmp 0) (.tmp 3)) <|
 o (.load false 1 (.tmp 5)) <|
 o (.iaddr 1 (.tmp 0) (.tmp 1)) <|
 o (.load false 1 (.tmp 7)) <|
 om .pure (.call F_cmp_Less_uint32 [.tmp 6, .tmp 8]) <|
 o (.un .not (.tmp 9)) <|
 .ite (.tmp 10)
 (.goto 3 [.tmp 0, .tmp 1, .tmp 2, .tmp 3])
 (.goto 1 [.tmp 0, .tmp 1, .tmp 2, .tmp 3]))
 (.goto 1 [.tmp 0, .tmp 1, .tmp 2, .tmp 3]))
 l_slices_partitionOrdered_uint32_k2
def l_slices_partitionOrdered_uint32_k4 : L :=
 o (.bin .add (.tmp 2) (.const (.int .i64 1))) <|
 .goto 5 [.tmp 0, .tmp 1, .tmp 4, .tmp 3]
def l_slices_partitionOrdered_uint32_k5 : L :=
 .join 6
 (o (.bin .leq (.tmp 2) (.tmp 3)) <|
 .ite (.tmp 4)
 (o (.iaddr 1 (.tmp 0) (.tmp 2)) <|
 o (.load false 1 (.tmp 5)) <|
 o (.iaddr 1 (.tmp 0) (.tmp 1)) <|
 o (.load false 1 (.tmp 7)) <|
 om .pure (.call F_cmp_Less_uint32 [.tmp 6, .tmp 8]) <|
 .ite (.tmp 9)
 (.goto 6 [.tmp 0, .tmp 1, .tmp 2, .tmp 3])
 (.goto 4 [.tmp 0, .tmp 1, .tmp 2, .tmp 3]))
 (.goto 4 [.tmp 0, .tmp 1, .tmp 2, .tmp 3]))
 l_slices_partitionOrdered_uint32_k4
def l_slices_partitionOrdered_uint32_k6 : L :=
 o (.bin .sub (.tmp 3) (.const (.int .i64 1))) <|
 .goto 6 [.tmp 0, .tmp 1, .tmp 2, .tmp 4]
def l_slices_partitionOrdered_uint32_k7 : L :=
 .join 7
 (o (.bin .leq (.tmp 2) (.tmp 3)) <|
 .ite (.tmp 4)
 (o (.iaddr 1 (.tmp 0) (.tmp 3)) <|
 o (.load false 1 (.tmp 5)) <|
 o (.iaddr 1 (.tmp 0) (.tmp 1)) <|
 o (.load false 1 (.tmp 7)) <|
 om .pure (.call F_cmp_Less_uint32 [.tmp 6, .tmp 8]) <|
 o (.un .not (.tmp 9)) <|
 .ite (.tmp 10)
 (.goto 7 [.tmp 0, .tmp 1, .tmp 2, .tmp 3])
 (.goto 5 [.tmp 0, .tmp 1, .tmp 2, .tmp 3]))
 (.goto 5 [.tmp 0, .tmp 1, .tmp 2, .tmp 3]))
 l_slices_partitionOrdered_uint32_k6
def l_slices_partitionOrdered_uint32_k8 : L :=
 o (.bin .gtr (.tmp 2) (.tmp 3)) <|
 .ite (.tmp 4)
 (.goto 2 [.tmp 0, .tmp 1, .tmp 3])
 (o (.iaddr 1 (.tmp 0) (.tmp 3)) <|
 o (.load false 1 (.tmp 5)) <|
 o (.iaddr 1 (.tmp 0) (.tmp 2)) <|
 o (.load false 1 (.tmp 7)) <|
 o (.iaddr 1 (.tmp 0) (.tmp 2)) <|
 o (.store 1 (.tmp 9) (.tmp 6)) <|
 o (.iaddr 1 (.tmp 0) (.tmp 3)) <|
 o (.store 1 (.tmp 11) (.tmp 8)) <|
 o (.bin .add (.tmp 2) (.const (.int .i64 1))) <|
 o (.bin .sub (.tmp 3) (.const (.int .i64 1))) <|
 .goto 3 [.tmp 0, .tmp 1, .tmp 13, .tmp 14])
def l_slices_partitionOrdered_uint32_k9 : L :=
 .join 5
 (.loop 6 [(.tmp 0), (.tmp 1), (.tmp 2), (.tmp 3)] l_slices_partitionOrdered_uint32_k7)
 l_slices_partitionOrdered_uint32_k8
def l_slices_partitionOrdered_uint32_k10 : L :=
 .join 4
 (.loop 5 [(.tmp 0), (.tmp 1), (.tmp 2), (.tmp 3)] l_slices_partitionOrdered_uint32_k5)
 l_slices_partitionOrdered_uint32_k9
def l_slices_partitionOrdered_uint32_k11 : L :=
 o (.iaddr 1 (.tmp 0) (.tmp 1)) <|
 o (.load false 1 (.tmp 3)) <|
 o (.iaddr 1 (.tmp 0) (.tmp 2)) <|
 o (.load false 1 (.tmp 5)) <|
 o (.iaddr 1 (.tmp 0) (.tmp 2)) <|
 o (.store 1 (.tmp 7) (.tmp 4)) <|
 o (.iaddr 1 (.tmp 0) (.tmp 1)) <|
 o (.store 1 (.tmp 9) (.tmp 6)) <|
 .ret [(.tmp 2), (.const (.bool false))]
def l_slices_partitionOrdered_uint32_k12 : L :=
 o (.bin .gtr (.tmp 2) (.tmp 3)) <|
 .ite (.tmp 4)
 (o (.iaddr 1 (.tmp 0) (.tmp 1)) <|
 o (.load false 1 (.tmp 5)) <|
 o (.iaddr 1 (.tmp 0) (.tmp 3)) <|
 o (.load false 1 (.tmp 7)) <|
 o (.iaddr 1 (.tmp 0) (.tmp 3)) <|
 o (.store 1 (.tmp 9) (.tmp 6)) <|
 o (.iaddr 1 (.tmp 0) (.tmp 1)) <|
 o (.store 1 (.tmp 11) (.tmp 8)) <|
 .ret [(.tmp 3), (.const (.bool true))])
 (o (.iaddr 1 (.tmp 0) (.tmp 3)) <|
 o (.load false 1 (.tmp 5)) <|
 o (.iaddr 1 (.tmp 0) (.tmp 2)) <|
 o (.load false 1 (.tmp 7)) <|
 o (.iaddr 1 (.tmp 0) (.tmp 2)) <|
 o (.store 1 (.tmp 9) (.tmp 6)) <|
 o (.iaddr 1 (.tmp 0) (.tmp 3)) <|
 o (.store 1 (.tmp 11) (.tmp 8)) <|
 o (.bin .add (.tmp 2) (.const (.int .i64 1))) <|
 o (.bin .sub (.tmp 3) (.const (.int .i64 1))) <|
 .join 2
 (.loop 3 [(.tmp 0), (.tmp 1), (.tmp 13), (.tmp 14)] l_slices_partitionOrdered_uint32_k10)
 l_slices_partitionOrdered_uint32_k11)
def l_slices_partitionOrdered_uint32_k13 : L :=
 .join 1
 (.loop 2 [(.tmp 0), (.tmp 1), (.tmp 2), (.tmp 3)] l_slices_partitionOrdered_uint32_k3)
 l_slices_partitionOrdered_uint32_k12
def l_slices_partitionOrdered_uint32 : LFn := ⟨4,
 o (.iaddr 1 (.tmp 0) (.tmp 3)) <|
 o (.load false 1 (.tmp 4)) <|
 o (.iaddr 1 (.tmp 0) (.tmp 1)) <|
 o (.load false 1 (.tmp 6)) <|
 o (.iaddr 1 (.tmp 0) (.tmp 1)) <|
 o (.store 1 (.tmp 8) (.tmp 5)) <|
 o (.iaddr 1 (.tmp 0) (.tmp 3)) <|
 o (.store 1 (.tmp 10) (.tmp 7)) <|
 o (.bin .add (.tmp 1) (.const (.int .i64 1))) <|
 o (.bin .sub (.tmp 2) (.const (.int .i64 1))) <|
 .join 0
 (.loop 1 [(.tmp 0), (.tmp 1), (.tmp 12), (.tmp 13)] l_slices_partitionOrdered_uint32_k1)
 l_slices_partitionOrdered_uint32_k13⟩
def l_math_bits_Len64_k0 : L :=
 o (.conv .u8 (.tmp 0)) <|
 o (.sidx (.const (.string ⟨#[0, 1, 2, 2, 3, 3, 3, 3, 4, 4, 4, 4, 4, 4, 4, 4, 5, 5, 5, 5, 5, 5, 5, 5, 5, 5, 5, 5, 5, 5, 5, 5, 6, 6, 6, 6, 6, 6, 6, 6, 6, 6, 6, 6, 6, 6, 6, 6, 6, 6, 6, 6, 6, 6, 6, 6, 6, 6, 6, 6, 6, 6, 6, 6, 7, 7, 7, 7, 7, 7, 7, 7, 7, 7, 7, 7, 7, 7, 7, 7, 7, 7, 7, 7, 7, 7, 7, 7, 7, 7, 7, 7, 7, 7, 7, 7, 7, 7, 7, 7, 7, 7, 7, 7, 7, 7, 7, 7, 7, 7, 7, 7, 7, 7, 7, 7, 7, 7, 7, 7, 7, 7, 7, 7, 7, 7, 7, 7, 8, 8, 8, 8, 8, 8, 8, 8, 8, 8, 8, 8, 8, 8, 8, 8, 8, 8, 8, 8, 8, 8, 8, 8, 8, 8, 8, 8, 8, 8, 8, 8, 8, 8, 8, 8, 8, 8, 8, 8, 8, 8, 8, 8, 8, 8, 8, 8, 8, 8, 8, 8, 8, 8, 8, 8, 8, 8, 8, 8, 8, 8, 8, 8, 8, 8, 8, 8, 8, 8, 8, 8, 8, 8, 8, 8, 8, 8, 8, 8, 8, 8, 8, 8, 8, 8, 8, 8, 8, 8, 8, 8, 8, 8, 8, 8, 8, 8, 8, 8, 8, 8, 8, 8, 8, 8, 8, 8, 8, 8, 8, 8, 8, 8, 8, 8, 8, 8, 8, 8, 8, 8, 8, 8, 8, 8, 8, 8]⟩)) (.tmp 2)) <|
 o (.conv .i64 (.tmp 3)) <|
 o (.bin .add (.tmp 1) (.tmp 4)) <|
 .ret [(.tmp 5)]
def l_math_bits_Len64_k1 : L :=
 .join 2
 (o (.bin .geq (.tmp 0) (.const (.int .u64 256))) <|
 .ite (.tmp 2)
 (o (.bin .shr (.tmp 0) (.const (.int .u64 8))) <|
 o (.bin .add (.tmp 1) (.const (.int .i64 8))) <|
 .goto 2 [.tmp 3, .tmp 4])
 (.goto 2 [.tmp 0, .tmp 1]))
 l_math_bits_Len64_k0
def l_math_bits_Len64_k2 : L :=
 .join 1
 (o (.bin .geq (.tmp 0) (.const (.int .u64 65536))) <|
 .ite (.tmp 2)
 (o (.bin .shr (.tmp 0) (.const (.int .u64 16))) <|
 o (.bin .add (.tmp 1) (.const (.int .i64 16))) <|
 .goto 1 [.tmp 3, .tmp 4])
 (.goto 1 [.tmp 0, .tmp 1]))
 l_math_bits_Len64_k1
def l_math_bits_Len64 : LFn := ⟨1,
 .join 0
 (o (.bin .geq (.tmp 0) (.const (.int .u64 4294967296))) <|
 .ite (.tmp 1)
 (o (.bin .shr (.tmp 0) (.const (.int .u64 32))) <|
 .goto 0 [.tmp 2, (.const (.int .i64 32))])
 (.goto 0 [.tmp 0, (.const (.int .i64 0))]))
 l_math_bits_Len64_k2⟩
def l_ref08_Right_k0 : L :=
 om .pure (.call F_ref08_has [.tmp 3, (.const (.int .u8 110))]) <|
 .ite (.tmp 5)
 (.ret [(.const (.bool true))])
 (om .pure (.call F_ref08_has [.tmp 3, (.const (.int .u8 99))]) <|
 .ite (.tmp 6)
 (o (.bin .geq (.tmp 4) (.const (.int .i64 0))) <|
 .ite (.tmp 7)
 (o (.bin .lss (.tmp 4) (.tmp 1)) <|
 .ret [(.tmp 8)])
 (.ret [(.const (.bool false))]))
 (om .pure (.call F_ref08_has [.tmp 3, (.const (.int .u8 112))]) <|
 .ite (.tmp 7)
 (o (.bin .geq (.tmp 4) (.const (.int .i64 0))) <|
 .ite (.tmp 8)
 (o (.bin .leq (.tmp 4) (.tmp 0)) <|
 .ret [(.tmp 9)])
 (.ret [(.const (.bool false))]))
 (om .pure (.call F_ref08_has [.tmp 3, (.const (.int .u8 109))]) <|
 .ite (.tmp 8)
 (o (.bin .geq (.tmp 4) (.const (.int .i64 0))) <|
 .ite (.tmp 9)
 (o (.bin .lss (.tmp 4) (.tmp 2)) <|
 .ret [(.tmp 10)])
 (.ret [(.const (.bool false))]))
 (om .pure (.call F_ref08_has [.tmp 3, (.const (.int .u8 115))]) <|
 .ite (.tmp 9)
 (o (.bin .gtr (.tmp 4) (.const (.int .i64 0))) <|
 .ret [(.tmp 10)])
 (o (.bin .eql (.tmp 4) (.const (.int .i64 0))) <|
 .ret [(.tmp 10)])))))
def l_ref08_Right_k1 : L :=
 .join 2
 (o (.faddr 3 (.tmp 3)) <|
 o (.load false 1 (.tmp 6)) <|
 o (.bin .gtr (.tmp 7) (.const (.int .u8 0))) <|
 .ite (.tmp 8)
 (om .pure (.call F_ref08_has [.tmp 4, (.const (.int .u8 67))]) <|
 o (.un .not (.tmp 9)) <|
 .ite (.tmp 10)
 (.ret [(.const (.bool false))])
 (o (.faddr 3 (.tmp 3)) <|
 o (.load false 1 (.tmp 11)) <|
 o (.bin .gtr (.tmp 12) (.const (.int .u8 7))) <|
 .ite (.tmp 13)
 (.ret [(.const (.bool false))])
 (.goto 2 [.tmp 0, .tmp 1, .tmp 2, .tmp 4, .tmp 5])))
 (.goto 2 [.tmp 0, .tmp 1, .tmp 2, .tmp 4, .tmp 5]))
 l_ref08_Right_k0
def l_ref08_Right_k2 : L :=
 o (.faddr 4 (.tmp 3)) <|
 o (.load false 1 (.tmp 5)) <|
 o (.conv .i64 (.tmp 6)) <|
 .join 1
 (om .pure (.call F_ref08_has [.tmp 4, (.const (.int .u8 114))]) <|
 .ite (.tmp 8)
 (o (.faddr 3 (.tmp 3)) <|
 o (.load false 1 (.tmp 9)) <|
 o (.bin .gtr (.tmp 10) (.const (.int .u8 0))) <|
 .ite (.tmp 11)
 (o (.faddr 3 (.tmp 3)) <|
 o (.load false 1 (.tmp 12)) <|
 o (.bin .lss (.tmp 13) (.const (.int .u8 49))) <|
 .ite (.tmp 14)
 (o (.bin .geq (.tmp 7) (.const (.int .i64 0))) <|
 .ite (.tmp 15)
 (o (.bin .lss (.tmp 7) (.tmp 1)) <|
 .ite (.tmp 16)
 (o (.faddr 3 (.tmp 3)) <|
 o (.load false 1 (.tmp 17)) <|
 o (.conv .i64 (.tmp 18)) <|
 o (.bin .add (.tmp 7) (.tmp 19)) <|
 o (.bin .leq (.tmp 20) (.tmp 1)) <|
 .ret [(.tmp 21)])
 (.ret [(.const (.bool false))]))
 (.ret [(.const (.bool false))]))
 (.ret [(.const (.bool false))]))
 (.ret [(.const (.bool false))]))
 (.goto 1 [.tmp 0, .tmp 1, .tmp 2, .tmp 3, .tmp 4, .tmp 7]))
 l_ref08_Right_k1
def l_ref08_Right : LFn := ⟨4,
 o (.box 81 (.tmp 0)) <|
 o (.faddr 0 (.tmp 4)) <|
 o (.load false 1 (.tmp 5)) <|
 om .pure (.call F_ref08_Parts [.tmp 6]) <|
 o (.ext (.tmp 7) 0) <|
 o (.ext (.tmp 7) 1) <|
 o (.eqS false (.tmp 8) (.const (.string ⟨#[]⟩))) <|
 .ite (.tmp 10)
 (.ret [(.const (.bool false))])
 (.join 0
 (o (.faddr 1 (.tmp 4)) <|
 o (.load false 1 (.tmp 11)) <|
 o (.bin .gtr (.tmp 12) (.const (.int .u8 0))) <|
 .ite (.tmp 13)
 (om .pure (.call F_ref08_has [.tmp 9, (.const (.int .u8 65))]) <|
 o (.un .not (.tmp 14)) <|
 .ite (.tmp 15)
 (.ret [(.const (.bool false))])
 (o (.faddr 1 (.tmp 4)) <|
 o (.load false 1 (.tmp 16)) <|
 o (.bin .gtr (.tmp 17) (.const (.int .u8 7))) <|
 .ite (.tmp 18)
 (.ret [(.const (.bool false))])
 (o (.faddr 2 (.tmp 4)) <|
 o (.load false 1 (.tmp 19)) <|
 o (.bin .gtr (.tmp 20) (.const (.int .u8 0))) <|
 .ite (.tmp 21)
 (om .pure (.call F_ref08_has [.tmp 9, (.const (.int .u8 66))]) <|
 o (.un .not (.tmp 22)) <|
 .ite (.tmp 23)
 (.ret [(.const (.bool false))])
 (o (.faddr 2 (.tmp 4)) <|
 o (.load false 1 (.tmp 24)) <|
 o (.bin .gtr (.tmp 25) (.const (.int .u8 7))) <|
 .ite (.tmp 26)
 (.ret [(.const (.bool false))])
 (o (.faddr 5 (.tmp 4)) <|
 o (.load false 1 (.tmp 27)) <|
 o (.bin .gtr (.tmp 28) (.const (.int .u32 0))) <|
 .ite (.tmp 29)
 (om .pure (.call F_ref08_has [.tmp 9, (.const (.int .u8 75))]) <|
 o (.un .not (.tmp 30)) <|
 .ite (.tmp 31)
 (.ret [(.const (.bool false))])
 (.goto 0 [.tmp 1, .tmp 2, .tmp 3, .tmp 4, .tmp 9]))
 (.goto 0 [.tmp 1, .tmp 2, .tmp 3, .tmp 4, .tmp 9]))))
 (o (.faddr 5 (.tmp 4)) <|
 o (.load false 1 (.tmp 22)) <|
 o (.bin .gtr (.tmp 23) (.const (.int .u32 0))) <|
 .ite (.tmp 24)
 (om .pure (.call F_ref08_has [.tmp 9, (.const (.int .u8 75))]) <|
 o (.un .not (.tmp 25)) <|
 .ite (.tmp 26)
 (.ret [(.const (.bool false))])
 (.goto 0 [.tmp 1, .tmp 2, .tmp 3, .tmp 4, .tmp 9]))
 (.goto 0 [.tmp 1, .tmp 2, .tmp 3, .tmp 4, .tmp 9])))))
 (o (.faddr 2 (.tmp 4)) <|
 o (.load false 1 (.tmp 14)) <|
 o (.bin .gtr (.tmp 15) (.const (.int .u8 0))) <|
 .ite (.tmp 16)
 (om .pure (.call F_ref08_has [.tmp 9, (.const (.int .u8 66))]) <|
 o (.un .not (.tmp 17)) <|
 .ite (.tmp 18)
 (.ret [(.const (.bool false))])
 (o (.faddr 2 (.tmp 4)) <|
 o (.load false 1 (.tmp 19)) <|
 o (.bin .gtr (.tmp 20) (.const (.int .u8 7))) <|
 .ite (.tmp 21)
 (.ret [(.const (.bool false))])
 (o (.faddr 5 (.tmp 4)) <|
 o (.load false 1 (.tmp 22)) <|
 o (.bin .gtr (.tmp 23) (.const (.int .u32 0))) <|
 .ite (.tmp 24)
 (om .pure (.call F_ref08_has [.tmp 9, (.const (.int .u8 75))]) <|
 o (.un .not (.tmp 25)) <|
 .ite (.tmp 26)
 (.ret [(.const (.bool false))])
 (.goto 0 [.tmp 1, .tmp 2, .tmp 3, .tmp 4, .tmp 9]))
 (.goto 0 [.tmp 1, .tmp 2, .tmp 3, .tmp 4, .tmp 9]))))
 (o (.faddr 5 (.tmp 4)) <|
 o (.load false 1 (.tmp 17)) <|
 o (.bin .gtr (.tmp 18) (.const (.int .u32 0))) <|
 .ite (.tmp 19)
 (om .pure (.call F_ref08_has [.tmp 9, (.const (.int .u8 75))]) <|
 o (.un .not (.tmp 20)) <|
 .ite (.tmp 21)
 (.ret [(.const (.bool false))])
 (.goto 0 [.tmp 1, .tmp 2, .tmp 3, .tmp 4, .tmp 9]))
 (.goto 0 [.tmp 1, .tmp 2, .tmp 3, .tmp 4, .tmp 9]))))
 l_ref08_Right_k2)⟩
def l_code_register : LFn := ⟨2,
 o (.bin .eql (.tmp 1) (.const (.int .u8 0))) <|
 .ite (.tmp 2)
 (.ret [(.const (.bool true))])
 (.ite (.tmp 0)
 (o (.bin .lss (.tmp 1) (.const (.int .u8 8))) <|
 .ret [(.tmp 3)])
 (.ret [(.const (.bool false))]))⟩
def l_slices_siftDownOrdered_uint32_k0 : L :=
 o (.bin .add (.tmp 2) (.tmp 3)) <|
 o (.iaddr 1 (.tmp 0) (.tmp 5)) <|
 o (.load false 1 (.tmp 6)) <|
 o (.bin .add (.tmp 2) (.tmp 4)) <|
 o (.iaddr 1 (.tmp 0) (.tmp 8)) <|
 o (.load false 1 (.tmp 9)) <|
 om .pure (.call F_cmp_Less_uint32 [.tmp 7, .tmp 10]) <|
 o (.un .not (.tmp 11)) <|
 .ite (.tmp 12)
 (.ret [])
 (o (.bin .add (.tmp 2) (.tmp 3)) <|
 o (.bin .add (.tmp 2) (.tmp 4)) <|
 o (.bin .add (.tmp 2) (.tmp 4)) <|
 o (.iaddr 1 (.tmp 0) (.tmp 15)) <|
 o (.load false 1 (.tmp 16)) <|
 o (.bin .add (.tmp 2) (.tmp 3)) <|
 o (.iaddr 1 (.tmp 0) (.tmp 18)) <|
 o (.load false 1 (.tmp 19)) <|
 o (.iaddr 1 (.tmp 0) (.tmp 13)) <|
 o (.store 1 (.tmp 21) (.tmp 17)) <|
 o (.iaddr 1 (.tmp 0) (.tmp 14)) <|
 o (.store 1 (.tmp 23) (.tmp 20)) <|
 .goto 0 [.tmp 0, .tmp 1, .tmp 2, .tmp 4])
def l_slices_siftDownOrdered_uint32_k1 : L :=
 o (.bin .mul (.const (.int .i64 2)) (.tmp 3)) <|
 o (.bin .add (.tmp 4) (.const (.int .i64 1))) <|
 o (.bin .geq (.tmp 5) (.tmp 1)) <|
 .ite (.tmp 6)
 (.ret [])
 (.join 1
 (o (.bin .add (.tmp 5) (.const (.int .i64 1))) <|
 o (.bin .lss (.tmp 7) (.tmp 1)) <|
 .ite (.tmp 8)
 (o (.bin .add (.tmp 2) (.tmp 5)) <|
 o (.iaddr 1 (.tmp 0) (.tmp 9)) <|
 o (.load false 1 (.tmp 10)) <|
 o (.bin .add (.tmp 2) (.tmp 5)) <|
 o (.bin .add (.tmp 12) (.const (.int .i64 1))) <|
 o (.iaddr 1 (.tmp 0) (.tmp 13)) <|
 o (.load false 1 (.tmp 14)) <|
 om .pure (.call F_cmp_Less_uint32 [.tmp 11, .tmp 15]) <|
 .ite (.tmp 16)
 (o (.bin .add (.tmp 5) (.const (.int .i64 1))) <|
 .goto 1 [.tmp 0, .tmp 1, .tmp 2, .tmp 3, .tmp 17])
 (.goto 1 [.tmp 0, .tmp 1, .tmp 2, .tmp 3, .tmp 5]))
 (.goto 1 [.tmp 0, .tmp 1, .tmp 2, .tmp 3, .tmp 5]))
 l_slices_siftDownOrdered_uint32_k0)
def l_slices_siftDownOrdered_uint32 : LFn := ⟨4,
 .loop 0 [(.tmp 0), (.tmp 2), (.tmp 3), (.tmp 1)] l_slices_siftDownOrdered_uint32_k1⟩
def l_slices_nextPowerOfTwo : LFn := ⟨1,
 o (.conv .u64 (.tmp 0)) <|
 om .pure (.call F_math_bits_Len [.tmp 1]) <|
 o (.bin .shl (.const (.int .u64 1)) (.tmp 2)) <|
 .ret [(.tmp 3)]⟩
def l_slices_xorshift_Next : LFn := ⟨1,
 o (.nilck (.tmp 0)) <|
 o (.load false 1 (.tmp 1)) <|
 o (.nilck (.tmp 0)) <|
 o (.load false 1 (.tmp 3)) <|
 o (.bin .shl (.tmp 4) (.const (.int .u64 13))) <|
 o (.bin .xor (.tmp 2) (.tmp 5)) <|
 o (.nilck (.tmp 0)) <|
 o (.store 1 (.tmp 7) (.tmp 6)) <|
 o (.nilck (.tmp 0)) <|
 o (.load false 1 (.tmp 9)) <|
 o (.nilck (.tmp 0)) <|
 o (.load false 1 (.tmp 11)) <|
 o (.bin .shr (.tmp 12) (.const (.int .u64 7))) <|
 o (.bin .xor (.tmp 10) (.tmp 13)) <|
 o (.nilck (.tmp 0)) <|
 o (.store 1 (.tmp 15) (.tmp 14)) <|
 o (.nilck (.tmp 0)) <|
 o (.load false 1 (.tmp 17)) <|
 o (.nilck (.tmp 0)) <|
 o (.load false 1 (.tmp 19)) <|
 o (.bin .shl (.tmp 20) (.const (.int .u64 17))) <|
 o (.bin .xor (.tmp 18) (.tmp 21)) <|
 o (.nilck (.tmp 0)) <|
 o (.store 1 (.tmp 23) (.tmp 22)) <|
 o (.nilck (.tmp 0)) <|
 o (.load false 1 (.tmp 25)) <|
 .ret [(.tmp 26)]⟩
def l_slices_medianAdjacentOrdered_uint32 : LFn := ⟨3,
 o (.bin .sub (.tmp 1) (.const (.int .i64 1))) <|
 o (.bin .add (.tmp 1) (.const (.int .i64 1))) <|
 o (.call F_slices_medianOrdered_uint32 [.tmp 0, .tmp 3, .tmp 1, .tmp 4, .tmp 2]) <|
 .ret [(.tmp 5)]⟩
def l_slices_medianOrdered_uint32 : LFn := ⟨5,
 o (.call F_slices_order2Ordered_uint32 [.tmp 0, .tmp 1, .tmp 2, .tmp 4]) <|
 o (.ext (.tmp 5) 0) <|
 o (.ext (.tmp 5) 1) <|
 o (.call F_slices_order2Ordered_uint32 [.tmp 0, .tmp 7, .tmp 3, .tmp 4]) <|
 o (.ext (.tmp 8) 0) <|
 o (.ext (.tmp 8) 1) <|
 o (.call F_slices_order2Ordered_uint32 [.tmp 0, .tmp 6, .tmp 9, .tmp 4]) <|
 o (.ext (.tmp 11) 0) <|
 o (.ext (.tmp 11) 1) <|
 .ret [(.tmp 13)]⟩
def l_cmp_isNaN_uint32 : LFn := ⟨1,
 o (.bin .neq (.tmp 0) (.tmp 0)) <|
 .ret [(.tmp 1)]⟩
def l_ref08_Parts_k0 : L :=
 o (.len true (.tmp 0)) <|
 o (.bin .lss (.tmp 1) (.tmp 2)) <|
 .ite (.tmp 3)
 (o (.sidx (.tmp 0) (.tmp 1)) <|
 o (.bin .eql (.tmp 4) (.const (.int .u8 32))) <|
 .ite (.tmp 5)
 (o (.sslice (.tmp 0) none (some (.tmp 1))) <|
 o (.bin .add (.tmp 1) (.const (.int .i64 1))) <|
 o (.sslice (.tmp 0) (some (.tmp 7)) none) <|
 .ret [(.tmp 6), (.tmp 8)])
 (o (.bin .add (.tmp 1) (.const (.int .i64 1))) <|
 .goto 1 [.tmp 0, .tmp 6]))
 (.goto 0 [.tmp 0])
def l_ref08_Parts_k1 : L :=
 .ret [(.tmp 0), (.const (.string ⟨#[]⟩))]
def l_ref08_Parts : LFn := ⟨1,
 om .pure (.call F_ref08_Table []) <|
 o (.conv .i64 (.tmp 0)) <|
 o (.len false (.tmp 1)) <|
 o (.bin .geq (.tmp 2) (.tmp 3)) <|
 .ite (.tmp 4)
 (.ret [(.const (.string ⟨#[]⟩)), (.const (.string ⟨#[]⟩))])
 (o (.iaddr 1 (.tmp 1) (.tmp 0)) <|
 o (.load false 1 (.tmp 5)) <|
 .join 0
 (.loop 1 [(.tmp 6), (.const (.int .i64 0))] l_ref08_Parts_k0)
 l_ref08_Parts_k1)⟩
def l_ref08_has_k0 : L :=
 o (.len true (.tmp 0)) <|
 o (.bin .lss (.tmp 2) (.tmp 3)) <|
 .ite (.tmp 4)
 (o (.sidx (.tmp 0) (.tmp 2)) <|
 o (.bin .eql (.tmp 5) (.tmp 1)) <|
 .ite (.tmp 6)
 (.ret [(.const (.bool true))])
 (o (.bin .add (.tmp 2) (.const (.int .i64 1))) <|
 .goto 1 [.tmp 0, .tmp 1, .tmp 7]))
 (.goto 0 [])
def l_ref08_has_k1 : L :=
 .ret [(.const (.bool false))]
def l_ref08_has : LFn := ⟨2,
 .join 0
 (.loop 1 [(.tmp 0), (.tmp 1), (.const (.int .i64 0))] l_ref08_has_k0)
 l_ref08_has_k1⟩
def l_slices_order2Ordered_uint32 : LFn := ⟨4,
 o (.iaddr 1 (.tmp 0) (.tmp 2)) <|
 o (.load false 1 (.tmp 4)) <|
 o (.iaddr 1 (.tmp 0) (.tmp 1)) <|
 o (.load false 1 (.tmp 6)) <|
 om .pure (.call F_cmp_Less_uint32 [.tmp 5, .tmp 7]) <|
 .ite (.tmp 8)
 (o (.nilck (.tmp 3)) <|
 o (.load false 1 (.tmp 9)) <|
 o (.bin .add (.tmp 10) (.const (.int .i64 1))) <|
 o (.nilck (.tmp 3)) <|
 o (.store 1 (.tmp 12) (.tmp 11)) <|
 .ret [(.tmp 2), (.tmp 1)])
 (.ret [(.tmp 1), (.tmp 2)])⟩
def l_ref08_Table : LFn := ⟨0,
 o (.bslice 9 26 [(0, 1, (.const (.string ⟨#[115, 116, 111, 112, 32]⟩))), (1, 1, (.const (.string ⟨#[115, 101, 116, 32, 65, 110]⟩))), (2, 1, (.const (.string ⟨#[108, 111, 97, 100, 32, 65, 99]⟩))), (3, 1, (.const (.string ⟨#[115, 116, 111, 114, 101, 32, 65, 99]⟩))), (4, 1, (.const (.string ⟨#[108, 111, 97, 100, 97, 116, 32, 65, 66, 99]⟩))), (5, 1, (.const (.string ⟨#[115, 116, 111, 114, 101, 97, 116, 32, 65, 66, 99]⟩))), (6, 1, (.const (.string ⟨#[97, 100, 100, 32, 65, 66, 67]⟩))), (7, 1, (.const (.string ⟨#[115, 117, 98, 32, 65, 66, 67]⟩))), (8, 1, (.const (.string ⟨#[109, 117, 108, 32, 65, 66, 67]⟩))), (9, 1, (.const (.string ⟨#[100, 105, 118, 32, 65, 66, 67]⟩))), (10, 1, (.const (.string ⟨#[109, 111, 100, 32, 65, 66, 67]⟩))), (11, 1, (.const (.string ⟨#[97, 110, 100, 32, 65, 66, 67]⟩))), (12, 1, (.const (.string ⟨#[111, 114, 32, 65, 66, 67]⟩))), (13, 1, (.const (.string ⟨#[120, 111, 114, 32, 65, 66, 67]⟩))), (14, 1, (.const (.string ⟨#[115, 104, 108, 32, 65, 66, 67]⟩))), (15, 1, (.const (.string ⟨#[115, 104, 114, 32, 65, 66, 67]⟩))), (16, 1, (.const (.string ⟨#[108, 101, 115, 115, 32, 65, 66, 67]⟩))), (17, 1, (.const (.string ⟨#[101, 113, 117, 97, 108, 32, 65, 66, 67]⟩))), (18, 1, (.const (.string ⟨#[115, 101, 108, 101, 99, 116, 32, 65, 66, 67]⟩))), (19, 1, (.const (.string ⟨#[98, 114, 97, 110, 99, 104, 32, 65, 112]⟩))), (20, 1, (.const (.string ⟨#[106, 117, 109, 112, 32, 112]⟩))), (21, 1, (.const (.string ⟨#[109, 111, 118, 101, 32, 65, 109]⟩))), (22, 1, (.const (.string ⟨#[114, 101, 118, 101, 97, 108, 32, 66, 99, 75]⟩))), (23, 1, (.const (.string ⟨#[114, 111, 108, 108, 32, 65, 115]⟩))), (24, 1, (.const (.string ⟨#[115, 104, 117, 102, 102, 108, 101, 32, 114]⟩))), (25, 1, (.const (.string ⟨#[99, 108, 111, 99, 107, 32, 65]⟩)))]) <|
 .ret [(.tmp 0)]⟩
def mdT : FuncId → FuncId → Md := mdOf 13329528977482059768 [(29, 35), (35, 41), (35, 42), (35, 43), (35, 44), (35, 45), (35, 46), (35, 48), (35, 49), (35, 35), (42, 54)]
def zcT : TypeId → Option (List Value)
 | 3 => some [(.int .i64 0)]
 | 9 => some [(.string ⟨#[]⟩)]
 | 22 => some [(.int .u32 0)]
 | 26 => some [(.int .i64 0), (.int .i64 0), (.int .u32 0), (.int .u32 0), (.slice none 0 0), (.slice none 0 0)]
 | 49 => some [(.int .i64 0), (.int .i64 0), (.int .u32 0), (.int .u32 0), (.slice none 0 0), (.slice none 0 0)]
 | 53 => some [(.int .i64 0), (.int .i64 0), (.int .u32 0), (.int .u32 0), (.slice none 0 0), (.slice none 0 0), (.slice none 0 0), (.int .u32 0)]
 | 55 => some [(.int .u8 0), (.int .i64 0), (.int .u32 0), (.bool false), (.int .u32 0)]
 | 64 => some [(.int .i32 0), (.int .u32 0)]
 | 70 => some [(.int .i64 0), (.int .u32 0), (.int .u32 0), (.int .u32 0), (.map none)]
 | 73 => some [(.int .i64 0), (.int .u32 0)]
 | 77 => some [(.int .i32 0), (.int .u32 0)]
 | 79 => some [(.int .u8 0), (.int .u8 0), (.int .u8 0), (.int .u8 0), (.int .i32 0), (.int .u32 0)]
 | 81 => some [(.int .u8 0), (.int .u8 0), (.int .u8 0), (.int .u8 0), (.int .i32 0), (.int .u32 0)]
 | 85 => some [(.int .i64 0), (.int .u32 0), (.int .u32 0)]
 | 97 => some [(.bool false), (.bool false), (.bool false), (.int .u8 0), (.bool false)]
 | 98 => some [(.bool false), (.bool false), (.bool false), (.int .u8 0), (.bool false), (.bool false), (.bool false), (.bool false), (.int .u8 0), (.bool false), (.bool false), (.bool false), (.bool false), (.int .u8 0), (.bool false), (.bool false), (.bool false), (.bool false), (.int .u8 0), (.bool false), (.bool false), (.bool false), (.bool false), (.int .u8 0), (.bool false), (.bool false), (.bool false), (.bool false), (.int .u8 0), (.bool false), (.bool false), (.bool false), (.bool false), (.int .u8 0), (.bool false), (.bool false), (.bool false), (.bool false), (.int .u8 0), (.bool false), (.bool false), (.bool false), (.bool false), (.int .u8 0), (.bool false), (.bool false), (.bool false), (.bool false), (.int .u8 0), (.bool false), (.bool false), (.bool false), (.bool false), (.int .u8 0), (.bool false), (.bool false), (.bool false), (.bool false), (.int .u8 0), (.bool false), (.bool false), (.bool false), (.bool false), (.int .u8 0), (.bool false), (.bool false), (.bool false), (.bool false), (.int .u8 0), (.bool false), (.bool false), (.bool false), (.bool false), (.int .u8 0), (.bool false), (.bool false), (.bool false), (.bool false), (.int .u8 0), (.bool false), (.bool false), (.bool false), (.bool false), (.int .u8 0), (.bool false), (.bool false), (.bool false), (.bool false), (.int .u8 0), (.bool false), (.bool false), (.bool false), (.bool false), (.int .u8 0), (.bool false), (.bool false), (.bool false), (.bool false), (.int .u8 0), (.bool false), (.bool false), (.bool false), (.bool false), (.int .u8 0), (.bool false), (.bool false), (.bool false), (.bool false), (.int .u8 0), (.bool false), (.bool false), (.bool false), (.bool false), (.int .u8 0), (.bool false), (.bool false), (.bool false), (.bool false), (.int .u8 0), (.bool false), (.bool false), (.bool false), (.bool false), (.int .u8 0), (.bool false), (.bool false), (.bool false), (.bool false), (.int .u8 0), (.bool false)]
 | 113 => some [(.int .u64 0)]
 | _ => none
def zvT : TypeId → Option Value
 | 22 => some (.int .u32 0)
 | _ => none
def coT : TypeId → Option Nat
 | _ => none
def fnL : List (FuncId × LFn) := [(7, l_law14_DeskPlays), (9, l_law14_awake), (10, l_law14_few), (11, l_rules_Game_Right), (12, l_desk_New), (13, l_desk_Desk_Put), (14, l_desk_Desk_Take), (16, l_desk_Desk_Tick), (18, l_desk_Desk_Drop), (19, l_law14_own), (20, l_slices_Equal_Luint32_uint32), (21, l_ref14_Take), (22, l_ref14_Drop), (23, l_ref14_Put), (24, l_ref14_Held), (25, l_mask_Mask_Within), (26, l_rules_Game_All), (27, l_code_Right), (29, l_slices_Sort_Luint32_uint32), (30, l_ref10_Right), (31, l_ref14_at), (32, l_mask_All), (33, l_code_Check), (35, l_slices_pdqsortOrdered_uint32), (36, l_math_bits_Len), (37, l_ref10_All), (38, l_ref08_Check), (39, l_code_uses), (40, l_code_right), (41, l_slices_insertionSortOrdered_uint32), (42, l_slices_heapSortOrdered_uint32), (43, l_slices_breakPatternsOrdered_uint32), (44, l_slices_choosePivotOrdered_uint32), (45, l_slices_reverseRangeOrdered_uint32), (46, l_slices_partialInsertionSortOrdered_uint32), (47, l_cmp_Less_uint32), (48, l_slices_partitionEqualOrdered_uint32), (49, l_slices_partitionOrdered_uint32), (51, l_math_bits_Len64), (52, l_ref08_Right), (53, l_code_register), (54, l_slices_siftDownOrdered_uint32), (55, l_slices_nextPowerOfTwo), (56, l_slices_xorshift_Next), (57, l_slices_medianAdjacentOrdered_uint32), (58, l_slices_medianOrdered_uint32), (59, l_cmp_isNaN_uint32), (60, l_ref08_Parts), (61, l_ref08_has), (62, l_slices_order2Ordered_uint32), (63, l_ref08_Table)]
def fnT (f : FuncId) : Option LFn := lkF fnL f
def givIL : List (FuncId × (List IV → MI IV)) := [(F_maps_Clone_map_desk_slot_uint32_desk_slot_uint32, iclone), (F_desk_Desk_Held, iheld)]
noncomputable def BI : IBook := { zc := zcT, zv := zvT, co := coT, fn := fnT, md := mdT 0, given := gvL givIL }
theorem gv_none {f : FuncId} {l : LFn} (h : BI.fn f = some l) : BI.given f = none := lkF_all (q := fun f _ => gvL givIL f = none) (L := fnL) (by unfold fnL; repeat (first | exact trivial | refine ⟨rfl, ?_⟩)) h
theorem fn_law14_DeskPlays : BI.fn F_law14_DeskPlays = some l_law14_DeskPlays := by kernel_rfl
theorem fn_law14_awake : BI.fn F_law14_awake = some l_law14_awake := by kernel_rfl
theorem fn_law14_few : BI.fn F_law14_few = some l_law14_few := by kernel_rfl
theorem fn_rules_Game_Right : BI.fn F_rules_Game_Right = some l_rules_Game_Right := by kernel_rfl
theorem fn_desk_New : BI.fn F_desk_New = some l_desk_New := by kernel_rfl
theorem fn_desk_Desk_Put : BI.fn F_desk_Desk_Put = some l_desk_Desk_Put := by kernel_rfl
theorem fn_desk_Desk_Take : BI.fn F_desk_Desk_Take = some l_desk_Desk_Take := by kernel_rfl
theorem fn_desk_Desk_Tick : BI.fn F_desk_Desk_Tick = some l_desk_Desk_Tick := by kernel_rfl
theorem fn_desk_Desk_Drop : BI.fn F_desk_Desk_Drop = some l_desk_Desk_Drop := by kernel_rfl
theorem fn_law14_own : BI.fn F_law14_own = some l_law14_own := by kernel_rfl
theorem fn_slices_Equal_Luint32_uint32 : BI.fn F_slices_Equal_Luint32_uint32 = some l_slices_Equal_Luint32_uint32 := by kernel_rfl
theorem fn_ref14_Take : BI.fn F_ref14_Take = some l_ref14_Take := by kernel_rfl
theorem fn_ref14_Drop : BI.fn F_ref14_Drop = some l_ref14_Drop := by kernel_rfl
theorem fn_ref14_Put : BI.fn F_ref14_Put = some l_ref14_Put := by kernel_rfl
theorem fn_ref14_Held : BI.fn F_ref14_Held = some l_ref14_Held := by kernel_rfl
theorem fn_mask_Mask_Within : BI.fn F_mask_Mask_Within = some l_mask_Mask_Within := by kernel_rfl
theorem fn_rules_Game_All : BI.fn F_rules_Game_All = some l_rules_Game_All := by kernel_rfl
theorem fn_code_Right : BI.fn F_code_Right = some l_code_Right := by kernel_rfl
theorem fn_slices_Sort_Luint32_uint32 : BI.fn F_slices_Sort_Luint32_uint32 = some l_slices_Sort_Luint32_uint32 := by kernel_rfl
theorem fn_ref10_Right : BI.fn F_ref10_Right = some l_ref10_Right := by kernel_rfl
theorem fn_ref14_at : BI.fn F_ref14_at = some l_ref14_at := by kernel_rfl
theorem fn_mask_All : BI.fn F_mask_All = some l_mask_All := by kernel_rfl
theorem fn_code_Check : BI.fn F_code_Check = some l_code_Check := by kernel_rfl
theorem fn_slices_pdqsortOrdered_uint32 : BI.fn F_slices_pdqsortOrdered_uint32 = some l_slices_pdqsortOrdered_uint32 := by kernel_rfl
theorem fn_math_bits_Len : BI.fn F_math_bits_Len = some l_math_bits_Len := by kernel_rfl
theorem fn_ref10_All : BI.fn F_ref10_All = some l_ref10_All := by kernel_rfl
theorem fn_ref08_Check : BI.fn F_ref08_Check = some l_ref08_Check := by kernel_rfl
theorem fn_code_uses : BI.fn F_code_uses = some l_code_uses := by kernel_rfl
theorem fn_code_right : BI.fn F_code_right = some l_code_right := by kernel_rfl
theorem fn_slices_insertionSortOrdered_uint32 : BI.fn F_slices_insertionSortOrdered_uint32 = some l_slices_insertionSortOrdered_uint32 := by kernel_rfl
theorem fn_slices_heapSortOrdered_uint32 : BI.fn F_slices_heapSortOrdered_uint32 = some l_slices_heapSortOrdered_uint32 := by kernel_rfl
theorem fn_slices_breakPatternsOrdered_uint32 : BI.fn F_slices_breakPatternsOrdered_uint32 = some l_slices_breakPatternsOrdered_uint32 := by kernel_rfl
theorem fn_slices_choosePivotOrdered_uint32 : BI.fn F_slices_choosePivotOrdered_uint32 = some l_slices_choosePivotOrdered_uint32 := by kernel_rfl
theorem fn_slices_reverseRangeOrdered_uint32 : BI.fn F_slices_reverseRangeOrdered_uint32 = some l_slices_reverseRangeOrdered_uint32 := by kernel_rfl
theorem fn_slices_partialInsertionSortOrdered_uint32 : BI.fn F_slices_partialInsertionSortOrdered_uint32 = some l_slices_partialInsertionSortOrdered_uint32 := by kernel_rfl
theorem fn_cmp_Less_uint32 : BI.fn F_cmp_Less_uint32 = some l_cmp_Less_uint32 := by kernel_rfl
theorem fn_slices_partitionEqualOrdered_uint32 : BI.fn F_slices_partitionEqualOrdered_uint32 = some l_slices_partitionEqualOrdered_uint32 := by kernel_rfl
theorem fn_slices_partitionOrdered_uint32 : BI.fn F_slices_partitionOrdered_uint32 = some l_slices_partitionOrdered_uint32 := by kernel_rfl
theorem fn_math_bits_Len64 : BI.fn F_math_bits_Len64 = some l_math_bits_Len64 := by kernel_rfl
theorem fn_ref08_Right : BI.fn F_ref08_Right = some l_ref08_Right := by kernel_rfl
theorem fn_code_register : BI.fn F_code_register = some l_code_register := by kernel_rfl
theorem fn_slices_siftDownOrdered_uint32 : BI.fn F_slices_siftDownOrdered_uint32 = some l_slices_siftDownOrdered_uint32 := by kernel_rfl
theorem fn_slices_nextPowerOfTwo : BI.fn F_slices_nextPowerOfTwo = some l_slices_nextPowerOfTwo := by kernel_rfl
theorem fn_slices_xorshift_Next : BI.fn F_slices_xorshift_Next = some l_slices_xorshift_Next := by kernel_rfl
theorem fn_slices_medianAdjacentOrdered_uint32 : BI.fn F_slices_medianAdjacentOrdered_uint32 = some l_slices_medianAdjacentOrdered_uint32 := by kernel_rfl
theorem fn_slices_medianOrdered_uint32 : BI.fn F_slices_medianOrdered_uint32 = some l_slices_medianOrdered_uint32 := by kernel_rfl
theorem fn_cmp_isNaN_uint32 : BI.fn F_cmp_isNaN_uint32 = some l_cmp_isNaN_uint32 := by kernel_rfl
theorem fn_ref08_Parts : BI.fn F_ref08_Parts = some l_ref08_Parts := by kernel_rfl
theorem fn_ref08_has : BI.fn F_ref08_has = some l_ref08_has := by kernel_rfl
theorem fn_slices_order2Ordered_uint32 : BI.fn F_slices_order2Ordered_uint32 = some l_slices_order2Ordered_uint32 := by kernel_rfl
theorem fn_ref08_Table : BI.fn F_ref08_Table = some l_ref08_Table := by kernel_rfl
end Go.Proofs.Ytmlhdkamogjbbaa.G
