/- Joined: Q0 to Q1. -/
import Derived.Test.YtmgfkifjgajclaaXD
import Derived.KernelRfl
set_option linter.unusedVariables false
set_option linter.unusedSimpArgs false
set_option maxRecDepth 20000
set_option maxHeartbeats 2000000
namespace Go.Proofs.Ytmgfkifjgajclaa.G
open Go
def o (p : SOp) (k : L) : L := .op ⟨none, p, .raw, []⟩ k
def om (md : Md) (p : SOp) (k : L) : L := .op ⟨none, p, md, []⟩ k
def oc (g : Option (Operand × Bool)) (p : SOp) (md : Md) (chk : List (Option (Operand × Bool) × SOp)) (k : L) : L := .op ⟨g, p, md, chk⟩ k
def thenI (r : Option (IV × JH)) (k : IV → JH → Option (Out IV × JH)) : Option (Out IV × JH) := match r with | some (v, J) => k v J | none => none
def onJoin (l : Nat) (r : Option (Out IV × JH)) (k : List IV → JH → Option (Out IV × JH)) : Option (Out IV × JH) := match r with
 | some (.goto j vs, J) => if j = l then k vs J else some (.goto j vs, J)
 | r => r
def onIf (v : IV) (a b : Option (Out IV × JH)) : Option (Out IV × JH) := match v with | .sc (.bool t) => if t = true then a else b | _ => none
def lkF : List (FuncId × LFn) → FuncId → Option LFn
 | [], _ => none
 | (k, l) :: r, f => if f = k then some l else lkF r f
def allF (q : FuncId → LFn → Prop) : List (FuncId × LFn) → Prop
 | [] => True
 | p :: r => q p.1 p.2 ∧ allF q r
theorem lkF_all {q : FuncId → LFn → Prop} : ∀ {L : List (FuncId × LFn)} {f : FuncId} {l : LFn}, allF q L → lkF L f = some l → q f l
 | [], f, l, _, h => by simp [lkF] at h
 | (k, m) :: r, f, l, ha, h => by
  simp only [lkF] at h
  split at h
  ·rename_i he
   subst he
   simp only [Option.some.injEq] at h
   subst h
   exact ha.1
  ·exact lkF_all ha.2 h
section
variable {B : IBook} {ρ : List IV} {J : JH} {p : SOp} {k : L} {md : Md}
theorem step_plain {C : ICall} : stepI' B C ρ ⟨none, p, md, []⟩ J = iexec B C md ρ p J := by
 unfold stepI'
 simp only [wantsI, List.all_nil, if_true]
 cases iexec B C md ρ p J with
 | none => rfl
 | some q => rfl
theorem dn_o : dn B (o p k) ρ J = thenI (iexec B (ic B) .raw ρ p J) fun v J' => dn B k (ρ ++ [v]) J' := by
 simp only [o, dn, step_plain]; rfl
theorem dn_om : dn B (om md p k) ρ J = thenI (iexec B (ic B) md ρ p J) fun v J' => dn B k (ρ ++ [v]) J' := by
 simp only [om, dn, step_plain]; rfl
theorem dn_oc {g : Option (Operand × Bool)} {chk} : dn B (oc g p md chk k) ρ J = thenI (stepI' B (ic B) ρ ⟨g, p, md, chk⟩ J) fun v J' => dn B k (ρ ++ [v]) J' := by
 simp only [oc, dn]; rfl
theorem dn_ite {c : Operand} {a b : L} : dn B (.ite c a b) ρ J = onIf (evI ρ c) (dn B a ρ J) (dn B b ρ J) := by
 simp only [dn]; rfl
theorem dn_join {l : Nat} {a b : L} : dn B (.join l a b) ρ J = onJoin l (dn B a ρ J) fun vs J => dn B b vs J := by
 simp only [dn, onJoin]
 cases dn B a ρ J with
 | none => rfl
 | some q => obtain ⟨o, J'⟩ := q; cases o <;> rfl
theorem dn_loop {l : Nat} {init : List Operand} {b : L} : dn B (.loop l init b) ρ J = iter (dn B b) l (init.map (evI ρ)) J := by
 simp only [dn]
theorem dn_goto {l : Nat} {vs : List Operand} : dn B (.goto l vs) ρ J = some (.goto l (vs.map (evI ρ)), J) := by simp only [dn]
theorem dn_ret {vs : List Operand} : dn B (.ret vs) ρ J = some (.ret (vs.map (evI ρ)), J) := by simp only [dn]
theorem ilift_some {v : IV} {J : JH} : ilift (some v) J = some (v, J) := rfl
theorem evI_0 {x : IV} {r : List IV} : evI (x :: r) (.tmp 0) = x := rfl
theorem evI_succ {x : IV} {r : List IV} {n : Nat} : evI (x :: r) (.tmp (n + 1)) = evI r (.tmp n) := by simp [evI]
theorem scal2_sc {f : Value → Value → Option Value} {a b : Value} : scal2 f (.sc a) (.sc b) = (f a b).map .sc := rfl
end
end Go.Proofs.Ytmgfkifjgajclaa.G
namespace Go.Proofs.Ytmgfkifjgajclaa.G
open Go
abbrev F_law18_WireOwns : FuncId := 3
abbrev F_law18_awake : FuncId := 4
abbrev F_ref01_Cut : FuncId := 5
abbrev F_ref01_Join : FuncId := 6
abbrev F_wire_Wire_Put : FuncId := 7
abbrev F_wire_Wire_Take : FuncId := 8
abbrev F_ref01_Same : FuncId := 9
abbrev F_wire_Wire_Waiting : FuncId := 10
abbrev F_wire_Spoil : FuncId := 11
abbrev F_wire_Fault_times : FuncId := 12
abbrev F_bytes_Clone : FuncId := 13
abbrev F_slices_DeleteFunc_Lwire_waiting_wire_waiting : FuncId := 14
abbrev F_wire_Wire_Take_1 : FuncId := 15
abbrev F_slices_IndexFunc_Lwire_waiting_wire_waiting : FuncId := 16
def l_law18_WireOwns_k0 : L :=
 o (.bin .lss (.tmp 4) (.tmp 3)) <|
 .ite (.tmp 5)
 (o (.iaddr 1 (.tmp 1) (.tmp 4)) <|
 o (.load false 1 (.tmp 6)) <|
 o (.bin .add (.tmp 7) (.const (.int .u8 1))) <|
 o (.iaddr 1 (.tmp 1) (.tmp 4)) <|
 o (.store 1 (.tmp 9) (.tmp 8)) <|
 o (.bin .add (.tmp 4) (.const (.int .i64 1))) <|
 .goto 1 [.tmp 0, .tmp 1, .tmp 2, .tmp 3, .tmp 11])
 (.goto 0 [.tmp 0, .tmp 2])
def l_law18_WireOwns_k1 : L :=
 o (.bin .lss (.tmp 3) (.tmp 2)) <|
 .ite (.tmp 4)
 (o (.iaddr 1 (.tmp 1) (.const (.int .i64 0))) <|
 o (.load false 1 (.tmp 5)) <|
 o (.iaddr 1 (.tmp 6) (.tmp 3)) <|
 o (.load false 1 (.tmp 7)) <|
 o (.bin .add (.tmp 8) (.const (.int .u8 1))) <|
 o (.iaddr 1 (.tmp 6) (.tmp 3)) <|
 o (.store 1 (.tmp 10) (.tmp 9)) <|
 o (.bin .add (.tmp 3) (.const (.int .i64 1))) <|
 .goto 3 [.tmp 0, .tmp 1, .tmp 2, .tmp 12])
 (.goto 2 [.tmp 0, .tmp 1])
def l_law18_WireOwns_k2 : L :=
 o (.bslice 22 1 [(0, 1, (.tmp 0))]) <|
 o (.call F_wire_Wire_Put [(.const (.pointer none)), .tmp 2, (.const (.slice none 0 0))]) <|
 o (.iaddr 1 (.tmp 1) (.const (.int .i64 1))) <|
 o (.load false 1 (.tmp 4)) <|
 om .pure (.call F_ref01_Same [.tmp 5, .tmp 0]) <|
 .ite (.tmp 6)
 (o (.call F_wire_Wire_Take [(.const (.pointer none))]) <|
 o (.len false (.tmp 7)) <|
 o (.call F_wire_Wire_Waiting [(.const (.pointer none))]) <|
 o (.bin .add (.tmp 8) (.tmp 9)) <|
 o (.bin .eql (.tmp 10) (.const (.int .i64 0))) <|
 .ret [(.tmp 11)])
 (.ret [(.const (.bool false))])
def l_law18_WireOwns_k3 : L :=
 .join 2
 (o (.iaddr 1 (.tmp 1) (.const (.int .i64 0))) <|
 o (.load false 1 (.tmp 2)) <|
 o (.len false (.tmp 3)) <|
 .loop 3 [(.tmp 0), (.tmp 1), (.tmp 4), (.const (.int .i64 0))] l_law18_WireOwns_k1)
 l_law18_WireOwns_k2
def l_law18_WireOwns_k4 : L :=
 o (.call F_wire_Wire_Take [.tmp 1]) <|
 .join 1
 (o (.len false (.tmp 2)) <|
 o (.bin .neq (.tmp 3) (.const (.int .i64 3))) <|
 .ite (.tmp 4)
 (.ret [(.const (.bool false))])
 (o (.iaddr 1 (.tmp 2) (.const (.int .i64 0))) <|
 o (.load false 1 (.tmp 5)) <|
 om .pure (.call F_ref01_Same [.tmp 6, .tmp 0]) <|
 o (.un .not (.tmp 7)) <|
 .ite (.tmp 8)
 (.ret [(.const (.bool false))])
 (o (.iaddr 1 (.tmp 2) (.const (.int .i64 2))) <|
 o (.load false 1 (.tmp 9)) <|
 om .pure (.call F_ref01_Same [.tmp 10, .tmp 0]) <|
 o (.un .not (.tmp 11)) <|
 .ite (.tmp 12)
 (.ret [(.const (.bool false))])
 (.goto 1 [.tmp 0, .tmp 2]))))
 l_law18_WireOwns_k3
def l_law18_WireOwns : LFn := ⟨1,
 om .pure (.call F_law18_awake []) <|
 o (.un .not (.tmp 1)) <|
 .ite (.tmp 2)
 (.ret [(.const (.bool false))])
 (om .pure (.call F_ref01_Cut [.tmp 0, (.const (.int .i64 20))]) <|
 o (.bslice 22 1 [(0, 1, (.tmp 3))]) <|
 o (.call F_ref01_Join [.tmp 4]) <|
 o (.new 28) <|
 o (.bslice 22 2 [(0, 1, (.tmp 5)), (1, 1, (.tmp 5))]) <|
 o (.build 34 [(0, 1, (.const (.int .u8 2)))]) <|
 o (.bslice 34 1 [(0, 3, (.tmp 8))]) <|
 o (.call F_wire_Wire_Put [.tmp 6, .tmp 7, .tmp 9]) <|
 .join 0
 (o (.len false (.tmp 5)) <|
 .loop 1 [(.tmp 3), (.tmp 5), (.tmp 6), (.tmp 11), (.const (.int .i64 0))] l_law18_WireOwns_k0)
 l_law18_WireOwns_k4)⟩
def l_law18_awake : LFn := ⟨0,
 o (.new 28) <|
 o (.bslice 5 1 [(0, 1, (.const (.int .u8 1)))]) <|
 o (.bslice 5 1 [(0, 1, (.const (.int .u8 2)))]) <|
 o (.bslice 22 2 [(0, 1, (.tmp 1)), (1, 1, (.tmp 2))]) <|
 o (.build 34 [(0, 1, (.const (.int .u8 3)))]) <|
 o (.bslice 34 1 [(0, 3, (.tmp 4))]) <|
 o (.call F_wire_Wire_Put [.tmp 0, .tmp 3, .tmp 5]) <|
 o (.call F_wire_Wire_Take [.tmp 0]) <|
 o (.call F_wire_Wire_Take [.tmp 0]) <|
 o (.len false (.tmp 7)) <|
 o (.bin .eql (.tmp 9) (.const (.int .i64 1))) <|
 .ite (.tmp 10)
 (o (.iaddr 1 (.tmp 7) (.const (.int .i64 0))) <|
 o (.load false 1 (.tmp 11)) <|
 o (.iaddr 1 (.tmp 12) (.const (.int .i64 0))) <|
 o (.load false 1 (.tmp 13)) <|
 o (.bin .eql (.tmp 14) (.const (.int .u8 2))) <|
 .ite (.tmp 15)
 (o (.len false (.tmp 8)) <|
 o (.bin .eql (.tmp 16) (.const (.int .i64 1))) <|
 .ite (.tmp 17)
 (o (.iaddr 1 (.tmp 8) (.const (.int .i64 0))) <|
 o (.load false 1 (.tmp 18)) <|
 o (.iaddr 1 (.tmp 19) (.const (.int .i64 0))) <|
 o (.load false 1 (.tmp 20)) <|
 o (.bin .eql (.tmp 21) (.const (.int .u8 1))) <|
 .ite (.tmp 22)
 (o (.call F_wire_Wire_Waiting [.tmp 0]) <|
 o (.bin .eql (.tmp 23) (.const (.int .i64 0))) <|
 .ret [(.tmp 24)])
 (.ret [(.const (.bool false))]))
 (.ret [(.const (.bool false))]))
 (.ret [(.const (.bool false))]))
 (.ret [(.const (.bool false))])⟩
def l_ref01_Cut_k0 : L :=
 o (.bin .lss (.tmp 4) (.tmp 3)) <|
 .ite (.tmp 5)
 (o (.iaddr 1 (.tmp 2) (.tmp 4)) <|
 o (.load false 1 (.tmp 6)) <|
 o (.bin .lss (.tmp 4) (.tmp 0)) <|
 .ite (.tmp 8)
 (o (.bslice 5 1 [(0, 1, (.tmp 7))]) <|
 o (.append 1 1 (.tmp 1) (.tmp 9)) <|
 o (.bin .add (.tmp 4) (.const (.int .i64 1))) <|
 .goto 1 [.tmp 0, .tmp 10, .tmp 2, .tmp 3, .tmp 11])
 (o (.bin .add (.tmp 4) (.const (.int .i64 1))) <|
 .goto 1 [.tmp 0, .tmp 1, .tmp 2, .tmp 3, .tmp 9]))
 (.goto 0 [.tmp 1])
def l_ref01_Cut_k1 : L :=
 .ret [(.tmp 0)]
def l_ref01_Cut : LFn := ⟨2,
 .join 0
 (o (.len false (.tmp 0)) <|
 .loop 1 [(.tmp 1), (.const (.slice none 0 0)), (.tmp 0), (.tmp 2), (.const (.int .i64 0))] l_ref01_Cut_k0)
 l_ref01_Cut_k1⟩
def l_ref01_Join_k0 : L :=
 o (.bin .lss (.tmp 3) (.tmp 2)) <|
 .ite (.tmp 4)
 (o (.iaddr 1 (.tmp 1) (.tmp 3)) <|
 o (.load false 1 (.tmp 5)) <|
 o (.append 1 1 (.tmp 0) (.tmp 6)) <|
 o (.bin .add (.tmp 3) (.const (.int .i64 1))) <|
 .goto 1 [.tmp 7, .tmp 1, .tmp 2, .tmp 8])
 (.goto 0 [.tmp 0])
def l_ref01_Join_k1 : L :=
 .ret [(.tmp 0)]
def l_ref01_Join : LFn := ⟨1,
 .join 0
 (o (.len false (.tmp 0)) <|
 .loop 1 [(.const (.slice none 0 0)), (.tmp 0), (.tmp 1), (.const (.int .i64 0))] l_ref01_Join_k0)
 l_ref01_Join_k1⟩
def l_wire_Wire_Put_k0 : L :=
 o (.bin .lss (.tmp 8) (.tmp 7)) <|
 .ite (.tmp 9)
 (o (.iaddr 1 (.tmp 6) (.tmp 8)) <|
 o (.load false 1 (.tmp 10)) <|
 o (.nilck (.tmp 0)) <|
 o (.faddr 0 (.tmp 12)) <|
 o (.load false 1 (.tmp 13)) <|
 oc none (.call F_bytes_Clone [.tmp 2]) .raw [(none, .load false 1 (.tmp 13))] <|
 o (.build 46 [(0, 1, (.tmp 15)), (1, 1, (.tmp 11))]) <|
 o (.bslice 46 1 [(0, 2, (.tmp 16))]) <|
 o (.append 2 32 (.tmp 14) (.tmp 17)) <|
 o (.nilck (.tmp 0)) <|
 o (.faddr 0 (.tmp 19)) <|
 o (.store 1 (.tmp 20) (.tmp 18)) <|
 o (.bin .add (.tmp 8) (.const (.int .i64 1))) <|
 .goto 4 [.tmp 0, .tmp 1, .tmp 2, .tmp 3, .tmp 4, .tmp 5, .tmp 6, .tmp 7, .tmp 22])
 (.goto 1 [.tmp 0, .tmp 1, .tmp 3, .tmp 4, .tmp 5])
def l_wire_Wire_Put_k1 : L :=
 o (.load true 3 (.tmp 3)) <|
 om .pure (.call F_wire_Fault_times [.tmp 7]) <|
 o (.len false (.tmp 8)) <|
 .loop 4 [(.tmp 0), (.tmp 1), (.tmp 2), (.tmp 4), (.tmp 5), (.tmp 6), (.tmp 8), (.tmp 9), (.const (.int .i64 0))] l_wire_Wire_Put_k0
def l_wire_Wire_Put_k2 : L :=
 .join 3
 (o (.faddr 0 (.tmp 3)) <|
 o (.load false 1 (.tmp 7)) <|
 o (.bin .eql (.tmp 8) (.const (.int .u8 4))) <|
 .ite (.tmp 9)
 (o (.load true 3 (.tmp 3)) <|
 om .pure (.call F_wire_Spoil [.tmp 2, .tmp 10]) <|
 .goto 3 [.tmp 0, .tmp 1, .tmp 11, .tmp 3, .tmp 4, .tmp 5, .tmp 6])
 (.goto 3 [.tmp 0, .tmp 1, .tmp 2, .tmp 3, .tmp 4, .tmp 5, .tmp 6]))
 l_wire_Wire_Put_k1
def l_wire_Wire_Put_k3 : L :=
 o (.bin .add (.tmp 4) (.const (.int .i64 1))) <|
 .goto 0 [.tmp 0, .tmp 1, .tmp 2, .tmp 3, .tmp 5]
def l_wire_Wire_Put_k4 : L :=
 o (.bin .lss (.tmp 4) (.tmp 3)) <|
 .ite (.tmp 5)
 (.join 1
 (o (.iaddr 1 (.tmp 2) (.tmp 4)) <|
 o (.load false 1 (.tmp 6)) <|
 o (.new 34) <|
 .join 2
 (o (.len false (.tmp 1)) <|
 o (.bin .lss (.tmp 4) (.tmp 9)) <|
 .ite (.tmp 10)
 (o (.iaddr 3 (.tmp 1) (.tmp 4)) <|
 o (.load true 3 (.tmp 11)) <|
 o (.store 3 (.tmp 8) (.tmp 12)) <|
 .goto 2 [.tmp 0, .tmp 1, .tmp 7, .tmp 8, .tmp 2, .tmp 3, .tmp 4])
 (.goto 2 [.tmp 0, .tmp 1, .tmp 7, .tmp 8, .tmp 2, .tmp 3, .tmp 4]))
 l_wire_Wire_Put_k2)
 l_wire_Wire_Put_k3)
 (.ret [])
def l_wire_Wire_Put : LFn := ⟨3,
 o (.eqNil false .ptr (.tmp 0)) <|
 .ite (.tmp 3)
 (.ret [])
 (o (.len false (.tmp 1)) <|
 .loop 0 [(.tmp 0), (.tmp 2), (.tmp 1), (.tmp 4), (.const (.int .i64 0))] l_wire_Wire_Put_k4)⟩
def l_wire_Wire_Take_k0 : L :=
 o (.nilck (.tmp 0)) <|
 o (.faddr 0 (.tmp 5)) <|
 o (.load false 1 (.tmp 6)) <|
 o (.iaddr 2 (.tmp 7) (.tmp 2)) <|
 o (.faddr 1 (.tmp 8)) <|
 o (.load false 1 (.tmp 9)) <|
 o (.bin .sub (.tmp 10) (.const (.int .i64 1))) <|
 o (.iaddr 2 (.tmp 7) (.tmp 2)) <|
 o (.faddr 1 (.tmp 12)) <|
 o (.store 1 (.tmp 13) (.tmp 11)) <|
 o (.bin .add (.tmp 4) (.const (.int .i64 1))) <|
 .goto 1 [.tmp 0, .tmp 1, .tmp 3, .tmp 15]
def l_wire_Wire_Take_k1 : L :=
 o (.bin .lss (.tmp 3) (.tmp 2)) <|
 .ite (.tmp 4)
 (.join 2
 (o (.nilck (.tmp 0)) <|
 o (.faddr 0 (.tmp 5)) <|
 o (.load false 1 (.tmp 6)) <|
 o (.iaddr 2 (.tmp 7) (.tmp 3)) <|
 o (.faddr 1 (.tmp 8)) <|
 o (.load false 1 (.tmp 9)) <|
 o (.bin .eql (.tmp 10) (.const (.int .i64 0))) <|
 .ite (.tmp 11)
 (o (.nilck (.tmp 0)) <|
 o (.faddr 0 (.tmp 12)) <|
 o (.load false 1 (.tmp 13)) <|
 o (.iaddr 2 (.tmp 14) (.tmp 3)) <|
 o (.faddr 0 (.tmp 15)) <|
 o (.load false 1 (.tmp 16)) <|
 o (.bslice 22 1 [(0, 1, (.tmp 17))]) <|
 o (.append 1 24 (.tmp 1) (.tmp 18)) <|
 .goto 2 [.tmp 0, .tmp 19, .tmp 3, .tmp 2, .tmp 3])
 (.goto 2 [.tmp 0, .tmp 1, .tmp 3, .tmp 2, .tmp 3]))
 l_wire_Wire_Take_k0)
 (.goto 0 [.tmp 0, .tmp 1])
def l_wire_Wire_Take_k2 : L :=
 o (.nilck (.tmp 0)) <|
 o (.faddr 0 (.tmp 2)) <|
 o (.load false 1 (.tmp 3)) <|
 o (.call F_slices_DeleteFunc_Lwire_waiting_wire_waiting [.tmp 4, (.func 15)]) <|
 o (.nilck (.tmp 0)) <|
 o (.faddr 0 (.tmp 6)) <|
 o (.store 1 (.tmp 7) (.tmp 5)) <|
 .ret [(.tmp 1)]
def l_wire_Wire_Take : LFn := ⟨1,
 o (.eqNil false .ptr (.tmp 0)) <|
 .ite (.tmp 1)
 (.ret [(.const (.slice none 0 0))])
 (.join 0
 (o (.nilck (.tmp 0)) <|
 o (.faddr 0 (.tmp 2)) <|
 o (.load false 1 (.tmp 3)) <|
 o (.len false (.tmp 4)) <|
 .loop 1 [(.tmp 0), (.const (.slice none 0 0)), (.tmp 5), (.const (.int .i64 0))] l_wire_Wire_Take_k1)
 l_wire_Wire_Take_k2)⟩
def l_ref01_Same_k0 : L :=
 o (.bin .lss (.tmp 3) (.tmp 2)) <|
 .ite (.tmp 4)
 (o (.iaddr 1 (.tmp 0) (.tmp 3)) <|
 o (.load false 1 (.tmp 5)) <|
 o (.iaddr 1 (.tmp 1) (.tmp 3)) <|
 o (.load false 1 (.tmp 7)) <|
 o (.bin .neq (.tmp 6) (.tmp 8)) <|
 .ite (.tmp 9)
 (.ret [(.const (.bool false))])
 (o (.bin .add (.tmp 3) (.const (.int .i64 1))) <|
 .goto 1 [.tmp 0, .tmp 1, .tmp 2, .tmp 10]))
 (.goto 0 [])
def l_ref01_Same_k1 : L :=
 .ret [(.const (.bool true))]
def l_ref01_Same : LFn := ⟨2,
 o (.len false (.tmp 0)) <|
 o (.len false (.tmp 1)) <|
 o (.bin .neq (.tmp 2) (.tmp 3)) <|
 .ite (.tmp 4)
 (.ret [(.const (.bool false))])
 (.join 0
 (o (.len false (.tmp 0)) <|
 .loop 1 [(.tmp 0), (.tmp 1), (.tmp 5), (.const (.int .i64 0))] l_ref01_Same_k0)
 l_ref01_Same_k1)⟩
def l_wire_Wire_Waiting : LFn := ⟨1,
 o (.eqNil false .ptr (.tmp 0)) <|
 .ite (.tmp 1)
 (.ret [(.const (.int .i64 0))])
 (o (.nilck (.tmp 0)) <|
 o (.faddr 0 (.tmp 2)) <|
 o (.load false 1 (.tmp 3)) <|
 o (.len false (.tmp 4)) <|
 .ret [(.tmp 5)])⟩
def l_wire_Spoil_k0 : L :=
 o (.bin .lss (.tmp 3) (.const (.int .i64 32))) <|
 .ite (.tmp 4)
 (o (.bin .eql (.tmp 2) (.const (.int .i64 0))) <|
 .ite (.tmp 5)
 (.goto 0 [.tmp 1])
 (o (.faddr 1 (.tmp 0)) <|
 o (.load false 1 (.tmp 6)) <|
 o (.conv .i64 (.tmp 7)) <|
 o (.bin .rem (.tmp 8) (.tmp 2)) <|
 o (.bin .add (.tmp 9) (.tmp 3)) <|
 o (.bin .geq (.tmp 10) (.tmp 2)) <|
 .ite (.tmp 11)
 (.goto 0 [.tmp 1])
 (o (.bin .quo (.tmp 10) (.const (.int .i64 8))) <|
 o (.iaddr 1 (.tmp 1) (.tmp 12)) <|
 o (.load false 1 (.tmp 13)) <|
 o (.faddr 2 (.tmp 0)) <|
 o (.load false 1 (.tmp 15)) <|
 o (.bin .shr (.tmp 16) (.tmp 3)) <|
 o (.bin .and (.tmp 17) (.const (.int .u32 1))) <|
 o (.conv .u8 (.tmp 18)) <|
 o (.bin .rem (.tmp 10) (.const (.int .i64 8))) <|
 o (.bin .shl (.tmp 19) (.tmp 20)) <|
 o (.bin .xor (.tmp 14) (.tmp 21)) <|
 o (.iaddr 1 (.tmp 1) (.tmp 12)) <|
 o (.store 1 (.tmp 23) (.tmp 22)) <|
 o (.bin .add (.tmp 3) (.const (.int .i64 1))) <|
 .goto 1 [.tmp 0, .tmp 1, .tmp 2, .tmp 25])))
 (.goto 0 [.tmp 1])
def l_wire_Spoil_k1 : L :=
 .ret [(.tmp 0)]
def l_wire_Spoil : LFn := ⟨2,
 o (.box 34 (.tmp 1)) <|
 o (.call F_bytes_Clone [.tmp 0]) <|
 o (.len false (.tmp 0)) <|
 o (.bin .mul (.const (.int .i64 8)) (.tmp 4)) <|
 .join 0
 (.loop 1 [(.tmp 2), (.tmp 3), (.tmp 5), (.const (.int .i64 0))] l_wire_Spoil_k0)
 l_wire_Spoil_k1⟩
def l_wire_Fault_times : LFn := ⟨1,
 o (.box 34 (.tmp 0)) <|
 o (.faddr 0 (.tmp 1)) <|
 o (.load false 1 (.tmp 2)) <|
 o (.bin .eql (.tmp 3) (.const (.int .u8 1))) <|
 .ite (.tmp 4)
 (.ret [(.const (.slice none 0 0))])
 (o (.bin .eql (.tmp 3) (.const (.int .u8 2))) <|
 .ite (.tmp 5)
 (o (.bslice 3 2 [(0, 1, (.const (.int .i64 0))), (1, 1, (.const (.int .i64 0)))]) <|
 .ret [(.tmp 6)])
 (o (.bin .eql (.tmp 3) (.const (.int .u8 3))) <|
 .ite (.tmp 6)
 (o (.bslice 3 1 [(0, 1, (.const (.int .i64 1)))]) <|
 .ret [(.tmp 7)])
 (o (.bin .eql (.tmp 3) (.const (.int .u8 5))) <|
 .ite (.tmp 7)
 (o (.bslice 3 1 [(0, 1, (.const (.int .i64 2)))]) <|
 .ret [(.tmp 8)])
 (o (.bslice 3 1 [(0, 1, (.const (.int .i64 0)))]) <|
 .ret [(.tmp 8)]))))⟩
def l_bytes_Clone : LFn := ⟨1,
 o (.eqNil false .slc (.tmp 0)) <|
 .ite (.tmp 1)
 (.ret [(.const (.slice none 0 0))])
 (o (.bslice 5 0 []) <|
 o (.append 1 1 (.tmp 2) (.tmp 0)) <|
 .ret [(.tmp 3)])⟩
def l_slices_DeleteFunc_Lwire_waiting_wire_waiting_k0 : L :=
 o (.len false (.tmp 0)) <|
 o (.bin .lss (.tmp 3) (.tmp 4)) <|
 .ite (.tmp 5)
 (o (.iaddr 2 (.tmp 0) (.tmp 3)) <|
 o (.load true 2 (.tmp 6)) <|
 o (.new 46) <|
 o (.store 2 (.tmp 8) (.tmp 7)) <|
 o (.load true 2 (.tmp 8)) <|
 o (.callv (.tmp 1) [(.tmp 10)]) <|
 o (.un .not (.tmp 11)) <|
 .ite (.tmp 12)
 (o (.load true 2 (.tmp 8)) <|
 o (.iaddr 2 (.tmp 0) (.tmp 2)) <|
 o (.store 2 (.tmp 14) (.tmp 13)) <|
 o (.bin .add (.tmp 2) (.const (.int .i64 1))) <|
 o (.bin .add (.tmp 3) (.const (.int .i64 1))) <|
 .goto 1 [.tmp 0, .tmp 1, .tmp 16, .tmp 17])
 (o (.bin .add (.tmp 3) (.const (.int .i64 1))) <|
 .goto 1 [.tmp 0, .tmp 1, .tmp 2, .tmp 13]))
 (.goto 0 [.tmp 0, .tmp 2])
def l_slices_DeleteFunc_Lwire_waiting_wire_waiting_k1 : L :=
 o (.slice 2 (.tmp 0) (some (.tmp 1)) none none) <|
 o (.clearS 46 (.tmp 2)) <|
 o (.slice 2 (.tmp 0) none (some (.tmp 1)) none) <|
 .ret [(.tmp 4)]
def l_slices_DeleteFunc_Lwire_waiting_wire_waiting : LFn := ⟨2,
 o (.call F_slices_IndexFunc_Lwire_waiting_wire_waiting [.tmp 0, .tmp 1]) <|
 o (.bin .eql (.tmp 2) (.const (.int .i64 (-1)))) <|
 .ite (.tmp 3)
 (.ret [(.tmp 0)])
 (.join 0
 (o (.bin .add (.tmp 2) (.const (.int .i64 1))) <|
 .loop 1 [(.tmp 0), (.tmp 1), (.tmp 2), (.tmp 4)] l_slices_DeleteFunc_Lwire_waiting_wire_waiting_k0)
 l_slices_DeleteFunc_Lwire_waiting_wire_waiting_k1)⟩
def l_wire_Wire_Take_1 : LFn := ⟨1,
 o (.box 46 (.tmp 0)) <|
 o (.faddr 1 (.tmp 1)) <|
 o (.load false 1 (.tmp 2)) <|
 o (.bin .lss (.tmp 3) (.const (.int .i64 0))) <|
 .ret [(.tmp 4)]⟩
def l_slices_IndexFunc_Lwire_waiting_wire_waiting_k0 : L :=
 o (.bin .lss (.tmp 3) (.tmp 2)) <|
 .ite (.tmp 4)
 (o (.iaddr 2 (.tmp 0) (.tmp 3)) <|
 o (.load true 2 (.tmp 5)) <|
 o (.callv (.tmp 1) [(.tmp 6)]) <|
 .ite (.tmp 7)
 (.ret [(.tmp 3)])
 (o (.bin .add (.tmp 3) (.const (.int .i64 1))) <|
 .goto 1 [.tmp 0, .tmp 1, .tmp 2, .tmp 8]))
 (.goto 0 [])
def l_slices_IndexFunc_Lwire_waiting_wire_waiting_k1 : L :=
 .ret [(.const (.int .i64 (-1)))]
def l_slices_IndexFunc_Lwire_waiting_wire_waiting : LFn := ⟨2,
 .join 0
 (o (.len false (.tmp 0)) <|
 .loop 1 [(.tmp 0), (.tmp 1), (.tmp 2), (.const (.int .i64 0))] l_slices_IndexFunc_Lwire_waiting_wire_waiting_k0)
 l_slices_IndexFunc_Lwire_waiting_wire_waiting_k1⟩
def mdT : FuncId → FuncId → Md := mdOf 47736 [(3, 6), (7, 13), (11, 13)]
def zcT : TypeId → Option (List Value)
 | 3 => some [(.int .i64 0)]
 | 5 => some [(.int .u8 0)]
 | 22 => some [(.slice none 0 0)]
 | 28 => some [(.slice none 0 0)]
 | 34 => some [(.int .u8 0), (.int .u16 0), (.int .u32 0)]
 | 46 => some [(.slice none 0 0), (.int .i64 0)]
 | _ => none
def zvT : TypeId → Option Value
 | _ => none
def coT : TypeId → Option Nat
 | _ => none
def fnL : List (FuncId × LFn) := [(3, l_law18_WireOwns), (4, l_law18_awake), (5, l_ref01_Cut), (6, l_ref01_Join), (7, l_wire_Wire_Put), (8, l_wire_Wire_Take), (9, l_ref01_Same), (10, l_wire_Wire_Waiting), (11, l_wire_Spoil), (12, l_wire_Fault_times), (13, l_bytes_Clone), (14, l_slices_DeleteFunc_Lwire_waiting_wire_waiting), (15, l_wire_Wire_Take_1), (16, l_slices_IndexFunc_Lwire_waiting_wire_waiting)]
def fnT (f : FuncId) : Option LFn := lkF fnL f
def givIL : List (FuncId × (List IV → MI IV)) := []
noncomputable def BI : IBook := { zc := zcT, zv := zvT, co := coT, fn := fnT, md := mdT 0, given := gvL givIL }
theorem gv_none {f : FuncId} {l : LFn} (h : BI.fn f = some l) : BI.given f = none := rfl
theorem fn_law18_WireOwns : BI.fn F_law18_WireOwns = some l_law18_WireOwns := by kernel_rfl
theorem fn_law18_awake : BI.fn F_law18_awake = some l_law18_awake := by kernel_rfl
theorem fn_ref01_Cut : BI.fn F_ref01_Cut = some l_ref01_Cut := by kernel_rfl
theorem fn_ref01_Join : BI.fn F_ref01_Join = some l_ref01_Join := by kernel_rfl
theorem fn_wire_Wire_Put : BI.fn F_wire_Wire_Put = some l_wire_Wire_Put := by kernel_rfl
theorem fn_wire_Wire_Take : BI.fn F_wire_Wire_Take = some l_wire_Wire_Take := by kernel_rfl
theorem fn_ref01_Same : BI.fn F_ref01_Same = some l_ref01_Same := by kernel_rfl
theorem fn_wire_Wire_Waiting : BI.fn F_wire_Wire_Waiting = some l_wire_Wire_Waiting := by kernel_rfl
theorem fn_wire_Spoil : BI.fn F_wire_Spoil = some l_wire_Spoil := by kernel_rfl
theorem fn_wire_Fault_times : BI.fn F_wire_Fault_times = some l_wire_Fault_times := by kernel_rfl
theorem fn_bytes_Clone : BI.fn F_bytes_Clone = some l_bytes_Clone := by kernel_rfl
theorem fn_slices_DeleteFunc_Lwire_waiting_wire_waiting : BI.fn F_slices_DeleteFunc_Lwire_waiting_wire_waiting = some l_slices_DeleteFunc_Lwire_waiting_wire_waiting := by kernel_rfl
theorem fn_wire_Wire_Take_1 : BI.fn F_wire_Wire_Take_1 = some l_wire_Wire_Take_1 := by kernel_rfl
theorem fn_slices_IndexFunc_Lwire_waiting_wire_waiting : BI.fn F_slices_IndexFunc_Lwire_waiting_wire_waiting = some l_slices_IndexFunc_Lwire_waiting_wire_waiting := by kernel_rfl
end Go.Proofs.Ytmgfkifjgajclaa.G
