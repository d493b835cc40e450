/- Joined: Q0 to Q1. -/
import Derived.Test.YtdclinhgekbejaaXD
import Derived.KernelRfl
set_option linter.unusedVariables false
set_option linter.unusedSimpArgs false
set_option maxRecDepth 20000
set_option maxHeartbeats 2000000
namespace Go.Proofs.Ytdclinhgekbejaa.G
open Go
def o (p : SOp) (k : L) : L := .op ⟨none, p, .raw, []⟩ k
def om (md : Md) (p : SOp) (k : L) : L := .op ⟨none, p, md, []⟩ k
def oc (g : Option (Operand × Bool)) (p : SOp) (md : Md) (chk : List (Option (Operand × Bool) × SOp)) (k : L) : L := .op ⟨g, p, md, chk⟩ k
def thenI (r : Option (IV × JH)) (k : IV → JH → Option (Out IV × JH)) : Option (Out IV × JH) := match r with | some (v, J) => k v J | none => none
def onJoin (l : Nat) (r : Option (Out IV × JH)) (k : List IV → JH → Option (Out IV × JH)) : Option (Out IV × JH) := match r with
 | some (.goto j vs, J) => if j = l then k vs J else some (.goto j vs, J)
 | r => r
def onIf (v : IV) (a b : Option (Out IV × JH)) : Option (Out IV × JH) := match v with | .sc (.bool t) => if t = true then a else b | _ => none
def lkF : List (FuncId × LFn) → FuncId → Option LFn
 | [], _ => none
 | (k, l) :: r, f => if f = k then some l else lkF r f
def allF (q : FuncId → LFn → Prop) : List (FuncId × LFn) → Prop
 | [] => True
 | p :: r => q p.1 p.2 ∧ allF q r
theorem lkF_all {q : FuncId → LFn → Prop} : ∀ {L : List (FuncId × LFn)} {f : FuncId} {l : LFn}, allF q L → lkF L f = some l → q f l
 | [], f, l, _, h => by simp [lkF] at h
 | (k, m) :: r, f, l, ha, h => by
  simp only [lkF] at h
  split at h
  ·rename_i he
   subst he
   simp only [Option.some.injEq] at h
   subst h
   exact ha.1
  ·exact lkF_all ha.2 h
section
variable {B : IBook} {ρ : List IV} {J : JH} {p : SOp} {k : L} {md : Md}
theorem step_plain {C : ICall} : stepI' B C ρ ⟨none, p, md, []⟩ J = iexec B C md ρ p J := by
 unfold stepI'
 simp only [wantsI, List.all_nil, if_true]
 cases iexec B C md ρ p J with
 | none => rfl
 | some q => rfl
theorem dn_o : dn B (o p k) ρ J = thenI (iexec B (ic B) .raw ρ p J) fun v J' => dn B k (ρ ++ [v]) J' := by
 simp only [o, dn, step_plain]; rfl
theorem dn_om : dn B (om md p k) ρ J = thenI (iexec B (ic B) md ρ p J) fun v J' => dn B k (ρ ++ [v]) J' := by
 simp only [om, dn, step_plain]; rfl
theorem dn_oc {g : Option (Operand × Bool)} {chk} : dn B (oc g p md chk k) ρ J = thenI (stepI' B (ic B) ρ ⟨g, p, md, chk⟩ J) fun v J' => dn B k (ρ ++ [v]) J' := by
 simp only [oc, dn]; rfl
theorem dn_ite {c : Operand} {a b : L} : dn B (.ite c a b) ρ J = onIf (evI ρ c) (dn B a ρ J) (dn B b ρ J) := by
 simp only [dn]; rfl
theorem dn_join {l : Nat} {a b : L} : dn B (.join l a b) ρ J = onJoin l (dn B a ρ J) fun vs J => dn B b vs J := by
 simp only [dn, onJoin]
 cases dn B a ρ J with
 | none => rfl
 | some q => obtain ⟨o, J'⟩ := q; cases o <;> rfl
theorem dn_loop {l : Nat} {init : List Operand} {b : L} : dn B (.loop l init b) ρ J = iter (dn B b) l (init.map (evI ρ)) J := by
 simp only [dn]
theorem dn_goto {l : Nat} {vs : List Operand} : dn B (.goto l vs) ρ J = some (.goto l (vs.map (evI ρ)), J) := by simp only [dn]
theorem dn_ret {vs : List Operand} : dn B (.ret vs) ρ J = some (.ret (vs.map (evI ρ)), J) := by simp only [dn]
theorem thenI_some {v : IV} {J : JH} {k : IV → JH → Option (Out IV × JH)} : thenI (some (v, J)) k = k v J := rfl
theorem ilift_some {v : IV} {J : JH} : ilift (some v) J = some (v, J) := rfl
theorem onIf_bool {t : Bool} {a b : Option (Out IV × JH)} : onIf (.sc (.bool t)) a b = if t = true then a else b := rfl
theorem onJoin_goto {l : Nat} {vs : List IV} {J : JH} {k : List IV → JH → Option (Out IV × JH)} : onJoin l (some (.goto l vs, J)) k = k vs J := by simp [onJoin]
theorem onJoin_ret {l : Nat} {vs : List IV} {J : JH} {k : List IV → JH → Option (Out IV × JH)} : onJoin l (some (.ret vs, J)) k = some (.ret vs, J) := rfl
theorem onJoin_ite {l : Nat} {c : Prop} [Decidable c] {a b : Option (Out IV × JH)} {k : List IV → JH → Option (Out IV × JH)} : onJoin l (if c then a else b) k = if c then onJoin l a k else onJoin l b k := by split <;> rfl
theorem thenI_ite {c : Prop} [Decidable c] {a b : Option (IV × JH)} {k : IV → JH → Option (Out IV × JH)} : thenI (if c then a else b) k = if c then thenI a k else thenI b k := by split <;> rfl
theorem evI_0 {x : IV} {r : List IV} : evI (x :: r) (.tmp 0) = x := rfl
theorem evI_succ {x : IV} {r : List IV} {n : Nat} : evI (x :: r) (.tmp (n + 1)) = evI r (.tmp n) := by simp [evI]
theorem scal2_sc {f : Value → Value → Option Value} {a b : Value} : scal2 f (.sc a) (.sc b) = (f a b).map .sc := rfl
end
end Go.Proofs.Ytdclinhgekbejaa.G
namespace Go.Proofs.Ytdclinhgekbejaa.G
open Go
abbrev F_law03_DiceShuffles : FuncId := 8
abbrev F_law03_awake : FuncId := 9
abbrev F_dice_Dice_Next : FuncId := 10
abbrev F_ref03_Next : FuncId := 11
abbrev F_dice_Dice_Below : FuncId := 12
abbrev F_ref03_Below : FuncId := 13
abbrev F_dice_Dice_Shuffle : FuncId := 16
abbrev F_slices_Clone_Lint32_int32 : FuncId := 17
abbrev F_ref03_Shuffle : FuncId := 18
abbrev F_slices_Equal_Lint32_int32 : FuncId := 19
abbrev F_slices_Sort_Lint32_int32 : FuncId := 20
abbrev F_dice_mixed : FuncId := 21
abbrev F_slices_pdqsortOrdered_int32 : FuncId := 22
abbrev F_math_bits_Len : FuncId := 23
abbrev F_slices_insertionSortOrdered_int32 : FuncId := 24
abbrev F_slices_heapSortOrdered_int32 : FuncId := 25
abbrev F_slices_breakPatternsOrdered_int32 : FuncId := 26
abbrev F_slices_choosePivotOrdered_int32 : FuncId := 27
abbrev F_slices_reverseRangeOrdered_int32 : FuncId := 28
abbrev F_slices_partialInsertionSortOrdered_int32 : FuncId := 29
abbrev F_cmp_Less_int32 : FuncId := 30
abbrev F_slices_partitionEqualOrdered_int32 : FuncId := 31
abbrev F_slices_partitionOrdered_int32 : FuncId := 32
abbrev F_math_bits_Len64 : FuncId := 34
abbrev F_slices_siftDownOrdered_int32 : FuncId := 35
abbrev F_slices_nextPowerOfTwo : FuncId := 36
abbrev F_slices_xorshift_Next : FuncId := 37
abbrev F_slices_medianAdjacentOrdered_int32 : FuncId := 38
abbrev F_slices_medianOrdered_int32 : FuncId := 39
abbrev F_cmp_isNaN_int32 : FuncId := 40
abbrev F_slices_order2Ordered_int32 : FuncId := 41
def l_law03_DiceShuffles_k0 : L :=
 o (.bin .lss (.tmp 6) (.tmp 5)) <|
 .ite (.tmp 7)
 (o (.iaddr 1 (.tmp 2) (.tmp 6)) <|
 o (.load false 1 (.tmp 8)) <|
 o (.bin .add (.tmp 9) (.const (.int .i32 1))) <|
 o (.iaddr 1 (.tmp 2) (.tmp 6)) <|
 o (.store 1 (.tmp 11) (.tmp 10)) <|
 o (.bin .add (.tmp 6) (.const (.int .i64 1))) <|
 .goto 2 [.tmp 0, .tmp 1, .tmp 2, .tmp 3, .tmp 4, .tmp 5, .tmp 13])
 (.goto 1 [.tmp 0, .tmp 1, .tmp 3, .tmp 4])
def l_law03_DiceShuffles_k1 : L :=
 o (.call F_slices_Sort_Lint32_int32 [.tmp 2]) <|
 o (.call F_slices_Sort_Lint32_int32 [.tmp 3]) <|
 om .pure (.call F_slices_Equal_Lint32_int32 [.tmp 2, .tmp 3]) <|
 .ite (.tmp 6)
 (om .pure (.call F_slices_Equal_Lint32_int32 [.tmp 0, .tmp 1]) <|
 .ret [(.tmp 7)])
 (.ret [(.const (.bool false))])
def l_law03_DiceShuffles_k2 : L :=
 o (.call F_slices_Clone_Lint32_int32 [.tmp 2]) <|
 o (.call F_slices_Clone_Lint32_int32 [.tmp 1]) <|
 .join 1
 (o (.len false (.tmp 2)) <|
 .loop 2 [(.tmp 0), (.tmp 1), (.tmp 2), (.tmp 3), (.tmp 4), (.tmp 5), (.const (.int .i64 0))] l_law03_DiceShuffles_k0)
 l_law03_DiceShuffles_k1
def l_law03_DiceShuffles : LFn := ⟨2,
 om .pure (.call F_law03_awake []) <|
 o (.un .not (.tmp 2)) <|
 .ite (.tmp 3)
 (.ret [(.const (.bool false))])
 (o (.bslice 21 0 []) <|
 o (.len false (.tmp 1)) <|
 o (.minmax false [(.tmp 5), (.const (.int .i64 100))]) <|
 o (.slice 1 (.tmp 1) none (some (.tmp 6)) none) <|
 o (.append 1 4 (.tmp 4) (.tmp 7)) <|
 o (.call F_slices_Clone_Lint32_int32 [.tmp 8]) <|
 o (.build 26 [(0, 1, (.tmp 0))]) <|
 o (.call F_dice_Dice_Shuffle [.tmp 10, .tmp 8]) <|
 o (.ext (.tmp 11) 0) <|
 o (.ext (.tmp 11) 1) <|
 o (.new 26) <|
 o (.store 1 (.tmp 14) (.tmp 13)) <|
 om .pure (.call F_ref03_Shuffle [.tmp 0, .tmp 9]) <|
 o (.ext (.tmp 16) 0) <|
 o (.ext (.tmp 16) 1) <|
 .join 0
 (om .pure (.call F_slices_Equal_Lint32_int32 [.tmp 12, .tmp 17]) <|
 o (.un .not (.tmp 19)) <|
 .ite (.tmp 20)
 (.ret [(.const (.bool false))])
 (o (.faddr 0 (.tmp 14)) <|
 o (.load false 1 (.tmp 21)) <|
 o (.bin .neq (.tmp 22) (.tmp 18)) <|
 .ite (.tmp 23)
 (.ret [(.const (.bool false))])
 (om .pure (.call F_slices_Equal_Lint32_int32 [.tmp 8, .tmp 9]) <|
 o (.un .not (.tmp 24)) <|
 .ite (.tmp 25)
 (.ret [(.const (.bool false))])
 (.goto 0 [.tmp 8, .tmp 9, .tmp 12]))))
 l_law03_DiceShuffles_k2)⟩
def l_law03_awake : LFn := ⟨0,
 o (.build 26 []) <|
 om .pure (.call F_dice_Dice_Next [.tmp 0]) <|
 o (.ext (.tmp 1) 0) <|
 o (.ext (.tmp 1) 1) <|
 o (.new 26) <|
 o (.store 1 (.tmp 4) (.tmp 3)) <|
 o (.bin .eql (.tmp 2) (.const (.int .u32 3793791033))) <|
 .ite (.tmp 6)
 (o (.faddr 0 (.tmp 4)) <|
 o (.load false 1 (.tmp 7)) <|
 o (.bin .neq (.tmp 8) (.const (.int .u64 0))) <|
 .ret [(.tmp 9)])
 (.ret [(.const (.bool false))])⟩
def l_dice_Dice_Next : LFn := ⟨1,
 o (.box 26 (.tmp 0)) <|
 o (.new 26) <|
 o (.faddr 0 (.tmp 1)) <|
 o (.load false 1 (.tmp 3)) <|
 o (.bin .add (.tmp 4) (.const (.int .u64 11400714819323198485))) <|
 o (.faddr 0 (.tmp 1)) <|
 o (.store 1 (.tmp 6) (.tmp 5)) <|
 o (.faddr 0 (.tmp 1)) <|
 o (.load false 1 (.tmp 8)) <|
 o (.load true 1 (.tmp 1)) <|
 oc none (.call F_dice_mixed [.tmp 9]) .pure [(none, .load true 1 (.tmp 1))] <|
 o (.bin .shr (.tmp 11) (.const (.int .u64 32))) <|
 o (.conv .u32 (.tmp 12)) <|
 o (.store 1 (.tmp 2) (.tmp 10)) <|
 o (.load true 1 (.tmp 2)) <|
 .ret [(.tmp 13), (.tmp 15)]⟩
def l_ref03_Next : LFn := ⟨1,
 o (.bin .add (.tmp 0) (.const (.int .u64 11400714819323198485))) <|
 o (.bin .quo (.tmp 1) (.const (.int .u64 1073741824))) <|
 o (.bin .xor (.tmp 1) (.tmp 2)) <|
 o (.bin .mul (.tmp 3) (.const (.int .u64 13787848793156543929))) <|
 o (.bin .quo (.tmp 4) (.const (.int .u64 134217728))) <|
 o (.bin .xor (.tmp 4) (.tmp 5)) <|
 o (.bin .mul (.tmp 6) (.const (.int .u64 10723151780598845931))) <|
 o (.bin .quo (.tmp 7) (.const (.int .u64 2147483648))) <|
 o (.bin .xor (.tmp 7) (.tmp 8)) <|
 o (.bin .quo (.tmp 9) (.const (.int .u64 4294967296))) <|
 o (.conv .u32 (.tmp 10)) <|
 .ret [(.tmp 11), (.tmp 1)]⟩
def l_dice_Dice_Below : LFn := ⟨2,
 o (.box 26 (.tmp 0)) <|
 o (.new 26) <|
 o (.load true 1 (.tmp 2)) <|
 om .pure (.call F_dice_Dice_Next [.tmp 4]) <|
 o (.ext (.tmp 5) 0) <|
 o (.ext (.tmp 5) 1) <|
 o (.store 1 (.tmp 2) (.tmp 7)) <|
 o (.conv .u64 (.tmp 6)) <|
 o (.conv .u64 (.tmp 1)) <|
 o (.bin .mul (.tmp 9) (.tmp 10)) <|
 o (.bin .shr (.tmp 11) (.const (.int .u64 32))) <|
 o (.conv .u32 (.tmp 12)) <|
 o (.load true 1 (.tmp 2)) <|
 o (.store 1 (.tmp 3) (.tmp 14)) <|
 o (.load true 1 (.tmp 3)) <|
 .ret [(.tmp 13), (.tmp 16)]⟩
def l_ref03_Below : LFn := ⟨2,
 om .pure (.call F_ref03_Next [.tmp 0]) <|
 o (.ext (.tmp 2) 0) <|
 o (.ext (.tmp 2) 1) <|
 o (.conv .u64 (.tmp 3)) <|
 o (.conv .u64 (.tmp 1)) <|
 o (.bin .mul (.tmp 5) (.tmp 6)) <|
 o (.bin .quo (.tmp 7) (.const (.int .u64 4294967296))) <|
 o (.conv .u32 (.tmp 8)) <|
 .ret [(.tmp 9), (.tmp 4)]⟩
def l_dice_Dice_Shuffle_k0 : L :=
 o (.bin .gtr (.tmp 3) (.const (.int .i64 0))) <|
 .ite (.tmp 4)
 (o (.load true 1 (.tmp 0)) <|
 o (.bin .add (.tmp 3) (.const (.int .i64 1))) <|
 o (.conv .u32 (.tmp 6)) <|
 om .pure (.call F_dice_Dice_Below [.tmp 5, .tmp 7]) <|
 o (.ext (.tmp 8) 0) <|
 o (.ext (.tmp 8) 1) <|
 o (.store 1 (.tmp 0) (.tmp 10)) <|
 o (.iaddr 1 (.tmp 2) (.tmp 9)) <|
 o (.load false 1 (.tmp 12)) <|
 o (.iaddr 1 (.tmp 2) (.tmp 3)) <|
 o (.load false 1 (.tmp 14)) <|
 o (.iaddr 1 (.tmp 2) (.tmp 3)) <|
 o (.store 1 (.tmp 16) (.tmp 13)) <|
 o (.iaddr 1 (.tmp 2) (.tmp 9)) <|
 o (.store 1 (.tmp 18) (.tmp 15)) <|
 o (.bin .sub (.tmp 3) (.const (.int .i64 1))) <|
 .goto 1 [.tmp 0, .tmp 1, .tmp 2, .tmp 20])
 (.goto 0 [.tmp 0, .tmp 1, .tmp 2])
def l_dice_Dice_Shuffle_k1 : L :=
 o (.load true 1 (.tmp 0)) <|
 o (.store 1 (.tmp 1) (.tmp 3)) <|
 o (.load true 1 (.tmp 1)) <|
 .ret [(.tmp 2), (.tmp 5)]
def l_dice_Dice_Shuffle : LFn := ⟨2,
 o (.box 26 (.tmp 0)) <|
 o (.new 26) <|
 o (.call F_slices_Clone_Lint32_int32 [.tmp 1]) <|
 .join 0
 (o (.len false (.tmp 4)) <|
 o (.bin .sub (.tmp 5) (.const (.int .i64 1))) <|
 .loop 1 [(.tmp 2), (.tmp 3), (.tmp 4), (.tmp 6)] l_dice_Dice_Shuffle_k0)
 l_dice_Dice_Shuffle_k1⟩
def l_slices_Clone_Lint32_int32 : LFn := ⟨1,
 o (.eqNil false .slc (.tmp 0)) <|
 .ite (.tmp 1)
 (.ret [(.const (.slice none 0 0))])
 (o (.bslice 21 0 []) <|
 o (.append 1 4 (.tmp 2) (.tmp 0)) <|
 .ret [(.tmp 3)])⟩
def l_ref03_Shuffle_k0 : L :=
 o (.bin .gtr (.tmp 2) (.const (.int .i64 1))) <|
 .ite (.tmp 3)
 (o (.conv .u32 (.tmp 2)) <|
 om .pure (.call F_ref03_Below [.tmp 0, .tmp 4]) <|
 o (.ext (.tmp 5) 0) <|
 o (.ext (.tmp 5) 1) <|
 o (.bin .sub (.tmp 2) (.const (.int .i64 1))) <|
 o (.iaddr 1 (.tmp 1) (.tmp 6)) <|
 o (.load false 1 (.tmp 9)) <|
 o (.bin .sub (.tmp 2) (.const (.int .i64 1))) <|
 o (.iaddr 1 (.tmp 1) (.tmp 11)) <|
 o (.load false 1 (.tmp 12)) <|
 o (.iaddr 1 (.tmp 1) (.tmp 8)) <|
 o (.store 1 (.tmp 14) (.tmp 10)) <|
 o (.iaddr 1 (.tmp 1) (.tmp 6)) <|
 o (.store 1 (.tmp 16) (.tmp 13)) <|
 o (.bin .sub (.tmp 2) (.const (.int .i64 1))) <|
 .goto 1 [.tmp 7, .tmp 1, .tmp 18])
 (.goto 0 [.tmp 0, .tmp 1])
def l_ref03_Shuffle_k1 : L :=
 .ret [(.tmp 1), (.tmp 0)]
def l_ref03_Shuffle : LFn := ⟨2,
 o (.bslice 21 0 []) <|
 o (.append 1 4 (.tmp 2) (.tmp 1)) <|
 .join 0
 (o (.len false (.tmp 3)) <|
 .loop 1 [(.tmp 0), (.tmp 3), (.tmp 4)] l_ref03_Shuffle_k0)
 l_ref03_Shuffle_k1⟩
def l_slices_Equal_Lint32_int32_k0 : L :=
 o (.bin .lss (.tmp 3) (.tmp 2)) <|
 .ite (.tmp 4)
 (o (.iaddr 1 (.tmp 0) (.tmp 3)) <|
 o (.load false 1 (.tmp 5)) <|
 o (.iaddr 1 (.tmp 1) (.tmp 3)) <|
 o (.load false 1 (.tmp 7)) <|
 o (.bin .neq (.tmp 6) (.tmp 8)) <|
 .ite (.tmp 9)
 (.ret [(.const (.bool false))])
 (o (.bin .add (.tmp 3) (.const (.int .i64 1))) <|
 .goto 1 [.tmp 0, .tmp 1, .tmp 2, .tmp 10]))
 (.goto 0 [])
def l_slices_Equal_Lint32_int32_k1 : L :=
 .ret [(.const (.bool true))]
def l_slices_Equal_Lint32_int32 : LFn := ⟨2,
 o (.len false (.tmp 0)) <|
 o (.len false (.tmp 1)) <|
 o (.bin .neq (.tmp 2) (.tmp 3)) <|
 .ite (.tmp 4)
 (.ret [(.const (.bool false))])
 (.join 0
 (o (.len false (.tmp 0)) <|
 .loop 1 [(.tmp 0), (.tmp 1), (.tmp 5), (.const (.int .i64 0))] l_slices_Equal_Lint32_int32_k0)
 l_slices_Equal_Lint32_int32_k1)⟩
def l_slices_Sort_Lint32_int32 : LFn := ⟨1,
 o (.len false (.tmp 0)) <|
 o (.conv .u64 (.tmp 1)) <|
 om .pure (.call F_math_bits_Len [.tmp 2]) <|
 o (.call F_slices_pdqsortOrdered_int32 [.tmp 0, (.const (.int .i64 0)), .tmp 1, .tmp 3]) <|
 .ret []⟩
def l_dice_mixed : LFn := ⟨1,
 o (.bin .shr (.tmp 0) (.const (.int .u64 30))) <|
 o (.bin .xor (.tmp 0) (.tmp 1)) <|
 o (.bin .mul (.tmp 2) (.const (.int .u64 13787848793156543929))) <|
 o (.bin .shr (.tmp 3) (.const (.int .u64 27))) <|
 o (.bin .xor (.tmp 3) (.tmp 4)) <|
 o (.bin .mul (.tmp 5) (.const (.int .u64 10723151780598845931))) <|
 o (.bin .shr (.tmp 6) (.const (.int .u64 31))) <|
 o (.bin .xor (.tmp 6) (.tmp 7)) <|
 .ret [(.tmp 8)]⟩
def l_slices_pdqsortOrdered_int32_k0 : L :=
 o (.call F_slices_partitionOrdered_int32 [.tmp 0, .tmp 1, .tmp 2, .tmp 5]) <|
 o (.ext (.tmp 6) 0) <|
 o (.ext (.tmp 6) 1) <|
 o (.bin .sub (.tmp 7) (.tmp 1)) <|
 o (.bin .sub (.tmp 2) (.tmp 7)) <|
 o (.bin .quo (.tmp 4) (.const (.int .i64 8))) <|
 o (.bin .lss (.tmp 9) (.tmp 10)) <|
 .ite (.tmp 12)
 (o (.bin .geq (.tmp 9) (.tmp 11)) <|
 o (.call F_slices_pdqsortOrdered_int32 [.tmp 0, .tmp 1, .tmp 7, .tmp 3]) <|
 o (.bin .add (.tmp 7) (.const (.int .i64 1))) <|
 .goto 0 [.tmp 0, .tmp 15, .tmp 2, .tmp 3, .tmp 13, .tmp 8])
 (o (.bin .geq (.tmp 10) (.tmp 11)) <|
 o (.bin .add (.tmp 7) (.const (.int .i64 1))) <|
 o (.call F_slices_pdqsortOrdered_int32 [.tmp 0, .tmp 14, .tmp 2, .tmp 3]) <|
 .goto 0 [.tmp 0, .tmp 1, .tmp 7, .tmp 3, .tmp 13, .tmp 8])
def l_slices_pdqsortOrdered_int32_k1 : L :=
 .join 4
 (o (.bin .gtr (.tmp 1) (.const (.int .i64 0))) <|
 .ite (.tmp 8)
 (o (.bin .sub (.tmp 1) (.const (.int .i64 1))) <|
 o (.iaddr 1 (.tmp 0) (.tmp 9)) <|
 o (.load false 1 (.tmp 10)) <|
 o (.iaddr 1 (.tmp 0) (.tmp 7)) <|
 o (.load false 1 (.tmp 12)) <|
 om .pure (.call F_cmp_Less_int32 [.tmp 11, .tmp 13]) <|
 o (.un .not (.tmp 14)) <|
 .ite (.tmp 15)
 (o (.call F_slices_partitionEqualOrdered_int32 [.tmp 0, .tmp 1, .tmp 2, .tmp 7]) <|
 .goto 0 [.tmp 0, .tmp 16, .tmp 2, .tmp 3, .tmp 4, .tmp 5])
 (.goto 4 [.tmp 0, .tmp 1, .tmp 2, .tmp 3, .tmp 6, .tmp 7]))
 (.goto 4 [.tmp 0, .tmp 1, .tmp 2, .tmp 3, .tmp 6, .tmp 7]))
 l_slices_pdqsortOrdered_int32_k0
def l_slices_pdqsortOrdered_int32_k2 : L :=
 .join 3
 (.ite (.tmp 4)
 (.ite (.tmp 5)
 (o (.bin .eql (.tmp 8) (.const (.int .i64 1))) <|
 .ite (.tmp 9)
 (o (.call F_slices_partialInsertionSortOrdered_int32 [.tmp 0, .tmp 1, .tmp 2]) <|
 .ite (.tmp 10)
 (.ret [])
 (.goto 3 [.tmp 0, .tmp 1, .tmp 2, .tmp 3, .tmp 4, .tmp 5, .tmp 6, .tmp 7]))
 (.goto 3 [.tmp 0, .tmp 1, .tmp 2, .tmp 3, .tmp 4, .tmp 5, .tmp 6, .tmp 7]))
 (.goto 3 [.tmp 0, .tmp 1, .tmp 2, .tmp 3, .tmp 4, .tmp 5, .tmp 6, .tmp 7]))
 (.goto 3 [.tmp 0, .tmp 1, .tmp 2, .tmp 3, .tmp 4, .tmp 5, .tmp 6, .tmp 7]))
 l_slices_pdqsortOrdered_int32_k1
def l_slices_pdqsortOrdered_int32_k3 : L :=
 o (.call F_slices_choosePivotOrdered_int32 [.tmp 0, .tmp 1, .tmp 2]) <|
 o (.ext (.tmp 7) 0) <|
 o (.ext (.tmp 7) 1) <|
 .join 2
 (o (.bin .eql (.tmp 9) (.const (.int .i64 2))) <|
 .ite (.tmp 10)
 (o (.call F_slices_reverseRangeOrdered_int32 [.tmp 0, .tmp 1, .tmp 2]) <|
 o (.bin .sub (.tmp 2) (.const (.int .i64 1))) <|
 o (.bin .sub (.tmp 8) (.tmp 1)) <|
 o (.bin .sub (.tmp 12) (.tmp 13)) <|
 .goto 2 [.tmp 0, .tmp 1, .tmp 2, .tmp 3, .tmp 4, .tmp 5, .tmp 6, .tmp 14, (.const (.int .i64 1))])
 (.goto 2 [.tmp 0, .tmp 1, .tmp 2, .tmp 3, .tmp 4, .tmp 5, .tmp 6, .tmp 8, .tmp 9]))
 l_slices_pdqsortOrdered_int32_k2
def l_slices_pdqsortOrdered_int32_k4 : L :=
 o (.bin .sub (.tmp 2) (.tmp 1)) <|
 o (.bin .leq (.tmp 6) (.const (.int .i64 12))) <|
 .ite (.tmp 7)
 (o (.call F_slices_insertionSortOrdered_int32 [.tmp 0, .tmp 1, .tmp 2]) <|
 .ret [])
 (o (.bin .eql (.tmp 3) (.const (.int .i64 0))) <|
 .ite (.tmp 8)
 (o (.call F_slices_heapSortOrdered_int32 [.tmp 0, .tmp 1, .tmp 2]) <|
 .ret [])
 (.join 1
 (o (.un .not (.tmp 4)) <|
 .ite (.tmp 9)
 (o (.call F_slices_breakPatternsOrdered_int32 [.tmp 0, .tmp 1, .tmp 2]) <|
 o (.bin .sub (.tmp 3) (.const (.int .i64 1))) <|
 .goto 1 [.tmp 0, .tmp 1, .tmp 2, .tmp 11, .tmp 4, .tmp 5, .tmp 6])
 (.goto 1 [.tmp 0, .tmp 1, .tmp 2, .tmp 3, .tmp 4, .tmp 5, .tmp 6]))
 l_slices_pdqsortOrdered_int32_k3))
def l_slices_pdqsortOrdered_int32 : LFn := ⟨4,
 .loop 0 [(.tmp 0), (.tmp 1), (.tmp 2), (.tmp 3), (.const (.bool true)), (.const (.bool true))] l_slices_pdqsortOrdered_int32_k4⟩
def l_math_bits_Len : LFn := ⟨1,
 om .pure (.call F_math_bits_Len64 [.tmp 0]) <|
 .ret [(.tmp 1)]⟩
def l_slices_insertionSortOrdered_int32_k0 : L :=
 o (.bin .sub (.tmp 4) (.const (.int .i64 1))) <|
 o (.bin .sub (.tmp 4) (.const (.int .i64 1))) <|
 o (.iaddr 1 (.tmp 0) (.tmp 6)) <|
 o (.load false 1 (.tmp 7)) <|
 o (.iaddr 1 (.tmp 0) (.tmp 4)) <|
 o (.load false 1 (.tmp 9)) <|
 o (.iaddr 1 (.tmp 0) (.tmp 4)) <|
 o (.store 1 (.tmp 11) (.tmp 8)) <|
 o (.iaddr 1 (.tmp 0) (.tmp 5)) <|
 o (.store 1 (.tmp 13) (.tmp 10)) <|
 o (.bin .sub (.tmp 4) (.const (.int .i64 1))) <|
 .goto 2 [.tmp 0, .tmp 1, .tmp 2, .tmp 3, .tmp 15]
def l_slices_insertionSortOrdered_int32_k1 : L :=
 .join 3
 (o (.bin .gtr (.tmp 4) (.tmp 1)) <|
 .ite (.tmp 5)
 (o (.iaddr 1 (.tmp 0) (.tmp 4)) <|
 o (.load false 1 (.tmp 6)) <|
 o (.bin .sub (.tmp 4) (.const (.int .i64 1))) <|
 o (.iaddr 1 (.tmp 0) (.tmp 8)) <|
 o (.load false 1 (.tmp 9)) <|
 om .pure (.call F_cmp_Less_int32 [.tmp 7, .tmp 10]) <|
 .ite (.tmp 11)
 (.goto 3 [.tmp 0, .tmp 1, .tmp 2, .tmp 3, .tmp 4])
 (.goto 1 [.tmp 0, .tmp 1, .tmp 2, .tmp 3]))
 (.goto 1 [.tmp 0, .tmp 1, .tmp 2, .tmp 3]))
 l_slices_insertionSortOrdered_int32_k0
def l_slices_insertionSortOrdered_int32_k2 : L :=
 o (.bin .add (.tmp 3) (.const (.int .i64 1))) <|
 .goto 0 [.tmp 0, .tmp 1, .tmp 2, .tmp 4]
def l_slices_insertionSortOrdered_int32_k3 : L :=
 o (.bin .lss (.tmp 3) (.tmp 2)) <|
 .ite (.tmp 4)
 (.join 1
 (.loop 2 [(.tmp 0), (.tmp 1), (.tmp 2), (.tmp 3), (.tmp 3)] l_slices_insertionSortOrdered_int32_k1)
 l_slices_insertionSortOrdered_int32_k2)
 (.ret [])
def l_slices_insertionSortOrdered_int32 : LFn := ⟨3,
 o (.bin .add (.tmp 1) (.const (.int .i64 1))) <|
 .loop 0 [(.tmp 0), (.tmp 1), (.tmp 2), (.tmp 3)] l_slices_insertionSortOrdered_int32_k3⟩
def l_slices_heapSortOrdered_int32_k0 : L :=
 o (.bin .geq (.tmp 4) (.const (.int .i64 0))) <|
 .ite (.tmp 5)
 (o (.call F_slices_siftDownOrdered_int32 [.tmp 0, .tmp 4, .tmp 3, .tmp 1]) <|
 o (.bin .sub (.tmp 4) (.const (.int .i64 1))) <|
 .goto 1 [.tmp 0, .tmp 1, .tmp 2, .tmp 3, .tmp 7])
 (.goto 0 [.tmp 0, .tmp 1, .tmp 2, .tmp 3])
def l_slices_heapSortOrdered_int32_k1 : L :=
 o (.bin .geq (.tmp 3) (.const (.int .i64 0))) <|
 .ite (.tmp 4)
 (o (.bin .add (.tmp 1) (.tmp 3)) <|
 o (.bin .add (.tmp 1) (.tmp 3)) <|
 o (.iaddr 1 (.tmp 0) (.tmp 6)) <|
 o (.load false 1 (.tmp 7)) <|
 o (.iaddr 1 (.tmp 0) (.tmp 1)) <|
 o (.load false 1 (.tmp 9)) <|
 o (.iaddr 1 (.tmp 0) (.tmp 1)) <|
 o (.store 1 (.tmp 11) (.tmp 8)) <|
 o (.iaddr 1 (.tmp 0) (.tmp 5)) <|
 o (.store 1 (.tmp 13) (.tmp 10)) <|
 o (.call F_slices_siftDownOrdered_int32 [.tmp 0, .tmp 2, .tmp 3, .tmp 1]) <|
 o (.bin .sub (.tmp 3) (.const (.int .i64 1))) <|
 .goto 1 [.tmp 0, .tmp 1, .tmp 2, .tmp 16])
 (.ret [])
def l_slices_heapSortOrdered_int32_k2 : L :=
 o (.bin .sub (.tmp 3) (.const (.int .i64 1))) <|
 .loop 1 [(.tmp 0), (.tmp 1), (.tmp 2), (.tmp 4)] l_slices_heapSortOrdered_int32_k1
def l_slices_heapSortOrdered_int32 : LFn := ⟨3,
 o (.bin .sub (.tmp 2) (.tmp 1)) <|
 .join 0
 (o (.bin .sub (.tmp 3) (.const (.int .i64 1))) <|
 o (.bin .quo (.tmp 4) (.const (.int .i64 2))) <|
 .loop 1 [(.tmp 0), (.tmp 1), (.const (.int .i64 0)), (.tmp 3), (.tmp 5)] l_slices_heapSortOrdered_int32_k0)
 l_slices_heapSortOrdered_int32_k2⟩
def l_slices_breakPatternsOrdered_int32_k0 : L :=
 o (.bin .add (.tmp 1) (.tmp 6)) <|
 o (.bin .add (.tmp 1) (.tmp 6)) <|
 o (.iaddr 1 (.tmp 0) (.tmp 8)) <|
 o (.load false 1 (.tmp 9)) <|
 o (.iaddr 1 (.tmp 0) (.tmp 5)) <|
 o (.load false 1 (.tmp 11)) <|
 o (.iaddr 1 (.tmp 0) (.tmp 5)) <|
 o (.store 1 (.tmp 13) (.tmp 10)) <|
 o (.iaddr 1 (.tmp 0) (.tmp 7)) <|
 o (.store 1 (.tmp 15) (.tmp 12)) <|
 o (.bin .add (.tmp 5) (.const (.int .i64 1))) <|
 .goto 0 [.tmp 0, .tmp 1, .tmp 2, .tmp 3, .tmp 4, .tmp 17]
def l_slices_breakPatternsOrdered_int32_k1 : L :=
 o (.bin .quo (.tmp 2) (.const (.int .i64 4))) <|
 o (.bin .mul (.tmp 6) (.const (.int .i64 2))) <|
 o (.bin .add (.tmp 1) (.tmp 7)) <|
 o (.bin .add (.tmp 8) (.const (.int .i64 1))) <|
 o (.bin .leq (.tmp 5) (.tmp 9)) <|
 .ite (.tmp 10)
 (o (.call F_slices_xorshift_Next [.tmp 3]) <|
 o (.bin .sub (.tmp 4) (.const (.int .u64 1))) <|
 o (.bin .and (.tmp 11) (.tmp 12)) <|
 o (.conv .i64 (.tmp 13)) <|
 .join 1
 (o (.bin .geq (.tmp 14) (.tmp 2)) <|
 .ite (.tmp 15)
 (o (.bin .sub (.tmp 14) (.tmp 2)) <|
 .goto 1 [.tmp 0, .tmp 1, .tmp 2, .tmp 3, .tmp 4, .tmp 5, .tmp 16])
 (.goto 1 [.tmp 0, .tmp 1, .tmp 2, .tmp 3, .tmp 4, .tmp 5, .tmp 14]))
 l_slices_breakPatternsOrdered_int32_k0)
 (.ret [])
def l_slices_breakPatternsOrdered_int32 : LFn := ⟨3,
 o (.bin .sub (.tmp 2) (.tmp 1)) <|
 o (.bin .geq (.tmp 3) (.const (.int .i64 8))) <|
 .ite (.tmp 4)
 (o (.conv .u64 (.tmp 3)) <|
 o (.new 64) <|
 o (.store 1 (.tmp 6) (.tmp 5)) <|
 om .pure (.call F_slices_nextPowerOfTwo [.tmp 3]) <|
 o (.bin .quo (.tmp 3) (.const (.int .i64 4))) <|
 o (.bin .mul (.tmp 9) (.const (.int .i64 2))) <|
 o (.bin .add (.tmp 1) (.tmp 10)) <|
 o (.bin .sub (.tmp 11) (.const (.int .i64 1))) <|
 .loop 0 [(.tmp 0), (.tmp 1), (.tmp 3), (.tmp 6), (.tmp 8), (.tmp 12)] l_slices_breakPatternsOrdered_int32_k1)
 (.ret [])⟩
def l_slices_choosePivotOrdered_int32_k0 : L :=
 o (.call F_slices_medianOrdered_int32 [.tmp 0, .tmp 2, .tmp 3, .tmp 4, .tmp 1]) <|
 .goto 0 [.tmp 1, .tmp 5]
def l_slices_choosePivotOrdered_int32_k1 : L :=
 o (.load false 1 (.tmp 0)) <|
 o (.bin .eql (.tmp 2) (.const (.int .i64 0))) <|
 .ite (.tmp 3)
 (.ret [(.tmp 1), (.const (.int .i64 1))])
 (o (.bin .eql (.tmp 2) (.const (.int .i64 12))) <|
 .ite (.tmp 4)
 (.ret [(.tmp 1), (.const (.int .i64 2))])
 (.ret [(.tmp 1), (.const (.int .i64 0))]))
def l_slices_choosePivotOrdered_int32 : LFn := ⟨3,
 o (.bin .sub (.tmp 2) (.tmp 1)) <|
 o (.new 3) <|
 o (.bin .quo (.tmp 3) (.const (.int .i64 4))) <|
 o (.bin .mul (.tmp 5) (.const (.int .i64 1))) <|
 o (.bin .add (.tmp 1) (.tmp 6)) <|
 o (.bin .quo (.tmp 3) (.const (.int .i64 4))) <|
 o (.bin .mul (.tmp 8) (.const (.int .i64 2))) <|
 o (.bin .add (.tmp 1) (.tmp 9)) <|
 o (.bin .quo (.tmp 3) (.const (.int .i64 4))) <|
 o (.bin .mul (.tmp 11) (.const (.int .i64 3))) <|
 o (.bin .add (.tmp 1) (.tmp 12)) <|
 .join 0
 (o (.bin .geq (.tmp 3) (.const (.int .i64 8))) <|
 .ite (.tmp 14)
 (.join 1
 (o (.bin .geq (.tmp 3) (.const (.int .i64 50))) <|
 .ite (.tmp 15)
 (o (.call F_slices_medianAdjacentOrdered_int32 [.tmp 0, .tmp 7, .tmp 4]) <|
 o (.call F_slices_medianAdjacentOrdered_int32 [.tmp 0, .tmp 10, .tmp 4]) <|
 o (.call F_slices_medianAdjacentOrdered_int32 [.tmp 0, .tmp 13, .tmp 4]) <|
 .goto 1 [.tmp 0, .tmp 4, .tmp 16, .tmp 17, .tmp 18])
 (.goto 1 [.tmp 0, .tmp 4, .tmp 7, .tmp 10, .tmp 13]))
 l_slices_choosePivotOrdered_int32_k0)
 (.goto 0 [.tmp 4, .tmp 10]))
 l_slices_choosePivotOrdered_int32_k1⟩
def l_slices_reverseRangeOrdered_int32_k0 : L :=
 o (.bin .lss (.tmp 1) (.tmp 2)) <|
 .ite (.tmp 3)
 (o (.iaddr 1 (.tmp 0) (.tmp 2)) <|
 o (.load false 1 (.tmp 4)) <|
 o (.iaddr 1 (.tmp 0) (.tmp 1)) <|
 o (.load false 1 (.tmp 6)) <|
 o (.iaddr 1 (.tmp 0) (.tmp 1)) <|
 o (.store 1 (.tmp 8) (.tmp 5)) <|
 o (.iaddr 1 (.tmp 0) (.tmp 2)) <|
 o (.store 1 (.tmp 10) (.tmp 7)) <|
 o (.bin .add (.tmp 1) (.const (.int .i64 1))) <|
 o (.bin .sub (.tmp 2) (.const (.int .i64 1))) <|
 .goto 0 [.tmp 0, .tmp 12, .tmp 13])
 (.ret [])
def l_slices_reverseRangeOrdered_int32 : LFn := ⟨3,
 o (.bin .sub (.tmp 2) (.const (.int .i64 1))) <|
 .loop 0 [(.tmp 0), (.tmp 1), (.tmp 3)] l_slices_reverseRangeOrdered_int32_k0⟩
def l_slices_partialInsertionSortOrdered_int32_k0 : L :=
 o (.bin .add (.tmp 3) (.const (.int .i64 1))) <|
 .goto 4 [.tmp 0, .tmp 1, .tmp 2, .tmp 5, .tmp 4]
def l_slices_partialInsertionSortOrdered_int32_k1 : L :=
 .join 5
 (o (.bin .lss (.tmp 3) (.tmp 2)) <|
 .ite (.tmp 5)
 (o (.iaddr 1 (.tmp 0) (.tmp 3)) <|
 o (.load false 1 (.tmp 6)) <|
 o (.bin .sub (.tmp 3) (.const (.int .i64 1))) <|
 o (.iaddr 1 (.tmp 0) (.tmp 8)) <|
 o (.load false 1 (.tmp 9)) <|
 om .pure (.call F_cmp_Less_int32 [.tmp 7, .tmp 10]) <|
 o (.un .not (.tmp 11)) <|
 .ite (.tmp 12)
 (.goto 5 [.tmp 0, .tmp 1, .tmp 2, .tmp 3, .tmp 4])
 (.goto 3 [.tmp 0, .tmp 1, .tmp 2, .tmp 3, .tmp 4]))
 (.goto 3 [.tmp 0, .tmp 1, .tmp 2, .tmp 3, .tmp 4]))
 l_slices_partialInsertionSortOrdered_int32_k0
def l_slices_partialInsertionSortOrdered_int32_k2 : L :=
 o (.bin .geq (.tmp 5) (.const (.int .i64 1))) <|
 .ite (.tmp 6)
 (o (.iaddr 1 (.tmp 0) (.tmp 5)) <|
 o (.load false 1 (.tmp 7)) <|
 o (.bin .sub (.tmp 5) (.const (.int .i64 1))) <|
 o (.iaddr 1 (.tmp 0) (.tmp 9)) <|
 o (.load false 1 (.tmp 10)) <|
 om .pure (.call F_cmp_Less_int32 [.tmp 8, .tmp 11]) <|
 o (.un .not (.tmp 12)) <|
 .ite (.tmp 13)
 (.goto 4 [.tmp 0, .tmp 1, .tmp 2, .tmp 3, .tmp 4])
 (o (.bin .sub (.tmp 5) (.const (.int .i64 1))) <|
 o (.bin .sub (.tmp 5) (.const (.int .i64 1))) <|
 o (.iaddr 1 (.tmp 0) (.tmp 15)) <|
 o (.load false 1 (.tmp 16)) <|
 o (.iaddr 1 (.tmp 0) (.tmp 5)) <|
 o (.load false 1 (.tmp 18)) <|
 o (.iaddr 1 (.tmp 0) (.tmp 5)) <|
 o (.store 1 (.tmp 20) (.tmp 17)) <|
 o (.iaddr 1 (.tmp 0) (.tmp 14)) <|
 o (.store 1 (.tmp 22) (.tmp 19)) <|
 o (.bin .sub (.tmp 5) (.const (.int .i64 1))) <|
 .goto 5 [.tmp 0, .tmp 1, .tmp 2, .tmp 3, .tmp 4, .tmp 24]))
 (.goto 4 [.tmp 0, .tmp 1, .tmp 2, .tmp 3, .tmp 4])
def l_slices_partialInsertionSortOrdered_int32_k3 : L :=
 o (.bin .lss (.tmp 5) (.tmp 2)) <|
 .ite (.tmp 6)
 (o (.iaddr 1 (.tmp 0) (.tmp 5)) <|
 o (.load false 1 (.tmp 7)) <|
 o (.bin .sub (.tmp 5) (.const (.int .i64 1))) <|
 o (.iaddr 1 (.tmp 0) (.tmp 9)) <|
 o (.load false 1 (.tmp 10)) <|
 om .pure (.call F_cmp_Less_int32 [.tmp 8, .tmp 11]) <|
 o (.un .not (.tmp 12)) <|
 .ite (.tmp 13)
 (.goto 2 [.tmp 0, .tmp 1, .tmp 2, .tmp 3, .tmp 4])
 (o (.bin .sub (.tmp 5) (.const (.int .i64 1))) <|
 o (.bin .sub (.tmp 5) (.const (.int .i64 1))) <|
 o (.iaddr 1 (.tmp 0) (.tmp 15)) <|
 o (.load false 1 (.tmp 16)) <|
 o (.iaddr 1 (.tmp 0) (.tmp 5)) <|
 o (.load false 1 (.tmp 18)) <|
 o (.iaddr 1 (.tmp 0) (.tmp 5)) <|
 o (.store 1 (.tmp 20) (.tmp 17)) <|
 o (.iaddr 1 (.tmp 0) (.tmp 14)) <|
 o (.store 1 (.tmp 22) (.tmp 19)) <|
 o (.bin .add (.tmp 5) (.const (.int .i64 1))) <|
 .goto 5 [.tmp 0, .tmp 1, .tmp 2, .tmp 3, .tmp 4, .tmp 24]))
 (.goto 2 [.tmp 0, .tmp 1, .tmp 2, .tmp 3, .tmp 4])
def l_slices_partialInsertionSortOrdered_int32_k4 : L :=
 o (.bin .sub (.tmp 2) (.tmp 3)) <|
 o (.bin .geq (.tmp 5) (.const (.int .i64 2))) <|
 .ite (.tmp 6)
 (o (.bin .add (.tmp 3) (.const (.int .i64 1))) <|
 .loop 5 [(.tmp 0), (.tmp 1), (.tmp 2), (.tmp 3), (.tmp 4), (.tmp 7)] l_slices_partialInsertionSortOrdered_int32_k3)
 (.goto 2 [.tmp 0, .tmp 1, .tmp 2, .tmp 3, .tmp 4])
def l_slices_partialInsertionSortOrdered_int32_k5 : L :=
 o (.bin .eql (.tmp 3) (.tmp 2)) <|
 .ite (.tmp 5)
 (.ret [(.const (.bool true))])
 (o (.bin .sub (.tmp 2) (.tmp 1)) <|
 o (.bin .lss (.tmp 6) (.const (.int .i64 50))) <|
 .ite (.tmp 7)
 (.ret [(.const (.bool false))])
 (o (.bin .sub (.tmp 3) (.const (.int .i64 1))) <|
 o (.bin .sub (.tmp 3) (.const (.int .i64 1))) <|
 o (.iaddr 1 (.tmp 0) (.tmp 9)) <|
 o (.load false 1 (.tmp 10)) <|
 o (.iaddr 1 (.tmp 0) (.tmp 3)) <|
 o (.load false 1 (.tmp 12)) <|
 o (.iaddr 1 (.tmp 0) (.tmp 3)) <|
 o (.store 1 (.tmp 14) (.tmp 11)) <|
 o (.iaddr 1 (.tmp 0) (.tmp 8)) <|
 o (.store 1 (.tmp 16) (.tmp 13)) <|
 .join 4
 (o (.bin .sub (.tmp 3) (.tmp 1)) <|
 o (.bin .geq (.tmp 18) (.const (.int .i64 2))) <|
 .ite (.tmp 19)
 (o (.bin .sub (.tmp 3) (.const (.int .i64 1))) <|
 .loop 5 [(.tmp 0), (.tmp 1), (.tmp 2), (.tmp 3), (.tmp 4), (.tmp 20)] l_slices_partialInsertionSortOrdered_int32_k2)
 (.goto 4 [.tmp 0, .tmp 1, .tmp 2, .tmp 3, .tmp 4]))
 l_slices_partialInsertionSortOrdered_int32_k4))
def l_slices_partialInsertionSortOrdered_int32_k6 : L :=
 o (.bin .add (.tmp 4) (.const (.int .i64 1))) <|
 .goto 1 [.tmp 0, .tmp 1, .tmp 2, .tmp 3, .tmp 5]
def l_slices_partialInsertionSortOrdered_int32_k7 : L :=
 o (.bin .lss (.tmp 4) (.const (.int .i64 5))) <|
 .ite (.tmp 5)
 (.join 2
 (.join 3
 (.loop 4 [(.tmp 0), (.tmp 1), (.tmp 2), (.tmp 3), (.tmp 4)] l_slices_partialInsertionSortOrdered_int32_k1)
 l_slices_partialInsertionSortOrdered_int32_k5)
 l_slices_partialInsertionSortOrdered_int32_k6)
 (.goto 0 [])
def l_slices_partialInsertionSortOrdered_int32_k8 : L :=
 .ret [(.const (.bool false))]
def l_slices_partialInsertionSortOrdered_int32 : LFn := ⟨3,
 o (.bin .add (.tmp 1) (.const (.int .i64 1))) <|
 .join 0
 (.loop 1 [(.tmp 0), (.tmp 1), (.tmp 2), (.tmp 3), (.const (.int .i64 0))] l_slices_partialInsertionSortOrdered_int32_k7)
 l_slices_partialInsertionSortOrdered_int32_k8⟩
def l_cmp_Less_int32 : LFn := ⟨2,
 om .pure (.call F_cmp_isNaN_int32 [.tmp 0]) <|
 .ite (.tmp 2)
 (om .pure (.call F_cmp_isNaN_int32 [.tmp 1]) <|
 o (.un .not (.tmp 3)) <|
 .ite (.tmp 4)
 (.ret [(.const (.bool true))])
 (o (.bin .lss (.tmp 0) (.tmp 1)) <|
 .ret [(.tmp 5)]))
 (o (.bin .lss (.tmp 0) (.tmp 1)) <|
 .ret [(.tmp 3)])⟩
def l_slices_partitionEqualOrdered_int32_k0 : L :=
 o (.bin .add (.tmp 2) (.const (.int .i64 1))) <|
 .goto 3 [.tmp 0, .tmp 1, .tmp 4, .tmp 3]
def l_slices_partitionEqualOrdered_int32_k1 : L :=
 .join 4
 (o (.bin .leq (.tmp 2) (.tmp 3)) <|
 .ite (.tmp 4)
 (o (.iaddr 1 (.tmp 0) (.tmp 1)) <|
 o (.load false 1 (.tmp 5)) <|
 o (.iaddr 1 (.tmp 0) (.tmp 2)) <|
 o (.load false 1 (.tmp 7)) <|
 om .pure (.call F_cmp_Less_int32 [.tmp 6, .tmp 8]) <|
 o (.un .not (.tmp 9)) <|
 .ite (.tmp 10)
 (.goto 4 [.tmp 0, .tmp 1, .tmp 2, .tmp 3])
 (.goto 2 [.tmp 0, .tmp 1, .tmp 2, .tmp 3]))
 (.goto 2 [.tmp 0, .tmp 1, .tmp 2, .tmp 3]))
 l_slices_partitionEqualOrdered_int32_k0
def l_slices_partitionEqualOrdered_int32_k2 : L :=
 o (.bin .sub (.tmp 3) (.const (.int .i64 1))) <|
 .goto 4 [.tmp 0, .tmp 1, .tmp 2, .tmp 4]
def l_slices_partitionEqualOrdered_int32_k3 : L :=
 .join 5
 (o (.bin .leq (.tmp 2) (.tmp 3)) <|
 .ite (.tmp 4)
 (o (.iaddr 1 (.tmp 0) (.tmp 1)) <|
 o (.load false 1 (.tmp 5)) <|
 o (.iaddr 1 (.tmp 0) (.tmp 3)) <|
 o (.load false 1 (.tmp 7)) <|
 om .pure (.call F_cmp_Less_int32 [.tmp 6, .tmp 8]) <|
 .ite (.tmp 9)
 (.goto 5 [.tmp 0, .tmp 1, .tmp 2, .tmp 3])
 (.goto 3 [.tmp 0, .tmp 1, .tmp 2, .tmp 3]))
 (.goto 3 [.tmp 0, .tmp 1, .tmp 2, .tmp 3]))
 l_slices_partitionEqualOrdered_int32_k2
def l_slices_partitionEqualOrdered_int32_k4 : L :=
 o (.bin .gtr (.tmp 2) (.tmp 3)) <|
 .ite (.tmp 4)
 (.goto 0 [.tmp 2])
 (o (.iaddr 1 (.tmp 0) (.tmp 3)) <|
 o (.load false 1 (.tmp 5)) <|
 o (.iaddr 1 (.tmp 0) (.tmp 2)) <|
 o (.load false 1 (.tmp 7)) <|
 o (.iaddr 1 (.tmp 0) (.tmp 2)) <|
 o (.store 1 (.tmp 9) (.tmp 6)) <|
 o (.iaddr 1 (.tmp 0) (.tmp 3)) <|
 o (.store 1 (.tmp 11) (.tmp 8)) <|
 o (.bin .add (.tmp 2) (.const (.int .i64 1))) <|
 o (.bin .sub (.tmp 3) (.const (.int .i64 1))) <|
 .goto 1 [.tmp 0, .tmp 1, .tmp 13, .tmp 14])
def l_slices_partitionEqualOrdered_int32_k5 : L :=
 .join 3
 (.loop 4 [(.tmp 0), (.tmp 1), (.tmp 2), (.tmp 3)] l_slices_partitionEqualOrdered_int32_k3)
 l_slices_partitionEqualOrdered_int32_k4
def l_slices_partitionEqualOrdered_int32_k6 : L :=
 .join 2
 (.loop 3 [(.tmp 0), (.tmp 1), (.tmp 2), (.tmp 3)] l_slices_partitionEqualOrdered_int32_k1)
 l_slices_partitionEqualOrdered_int32_k5
def l_slices_partitionEqualOrdered_int32_k7 : L :=
 .ret [(.tmp 0)]
def l_slices_partitionEqualOrdered_int32 : LFn := ⟨4,
 o (.iaddr 1 (.tmp 0) (.tmp 3)) <|
 o (.load false 1 (.tmp 4)) <|
 o (.iaddr 1 (.tmp 0) (.tmp 1)) <|
 o (.load false 1 (.tmp 6)) <|
 o (.iaddr 1 (.tmp 0) (.tmp 1)) <|
 o (.store 1 (.tmp 8) (.tmp 5)) <|
 o (.iaddr 1 (.tmp 0) (.tmp 3)) <|
 o (.store 1 (.tmp 10) (.tmp 7)) <|
 o (.bin .add (.tmp 1) (.const (.int .i64 1))) <|
 o (.bin .sub (.tmp 2) (.const (.int .i64 1))) <|
 .join 0
 (.loop 1 [(.tmp 0), (.tmp 1), (.tmp 12), (.tmp 13)] l_slices_partitionEqualOrdered_int32_k6)
 l_slices_partitionEqualOrdered_int32_k7⟩
def l_slices_partitionOrdered_int32_k0 : L :=
 o (.bin .add (.tmp 2) (.const (.int .i64 1))) <|
 .goto 1 [.tmp 0, .tmp 1, .tmp 4, .tmp 3]
def l_slices_partitionOrdered_int32_k1 : L :=
 .join 2
 (o (.bin .leq (.tmp 2) (.tmp 3)) <|
 .ite (.tmp 4)
 (o (.iaddr 1 (.tmp 0) (.tmp 2)) <|
 o (.load false 1 (.tmp 5)) <|
 o (.iaddr 1 (.tmp 0) (.tmp 1)) <|
 o (.load false 1 (.tmp 7)) <|
 om .pure (.call F_cmp_Less_int32 [.tmp 6, .tmp 8]) <|
 .ite (.tmp 9)
 (.goto 2 [.tmp 0, .tmp 1, .tmp 2, .tmp 3])
 (.goto 0 [.tmp 0, .tmp 1, .tmp 2, .tmp 3]))
 (.goto 0 [.tmp 0, .tmp 1, .tmp 2, .tmp 3]))
 l_slices_partitionOrdered_int32_k0
def l_slices_partitionOrdered_int32_k2 : L :=
 o (.bin .sub (.tmp 3) (.const (.int .i64 1))) <|
 .goto 2 [.tmp 0, .tmp 1, .tmp 2, .tmp 4]
def l_slices_partitionOrdered_int32_k3 : L :=
 .join 3
 (o (.bin .leq (.tmp 2) (.tmp 3)) <|
 .ite (.tmp 4)
 (o (.iaddr 1 (.tmp 0) (.tmp 3)) <|
 o (.load false 1 (.tmp 5)) <|
 o (.iaddr 1 (.tmp 0) (.tmp 1)) <|
 o (.load false 1 (.tmp 7)) <|
 om .pure (.call F_cmp_Less_int32 [.tmp 6, .tmp 8]) <|
 o (.un .not (.tmp 9)) <|
 .ite (.tmp 10)
 (.goto 3 [.tmp 0, .tmp 1, .tmp 2, .tmp 3])
 (.goto 1 [.tmp 0, .tmp 1, .tmp 2, .tmp 3]))
 (.goto 1 [.tmp 0, .tmp 1, .tmp 2, .tmp 3]))
 l_slices_partitionOrdered_int32_k2
def l_slices_partitionOrdered_int32_k4 : L :=
 o (.bin .add (.tmp 2) (.const (.int .i64 1))) <|
 .goto 5 [.tmp 0, .tmp 1, .tmp 4, .tmp 3]
def l_slices_partitionOrdered_int32_k5 : L :=
 .join 6
 (o (.bin .leq (.tmp 2) (.tmp 3)) <|
 .ite (.tmp 4)
 (o (.iaddr 1 (.tmp 0) (.tmp 2)) <|
 o (.load false 1 (.tmp 5)) <|
 o (.iaddr 1 (.tmp 0) (.tmp 1)) <|
 o (.load false 1 (.tmp 7)) <|
 om .pure (.call F_cmp_Less_int32 [.tmp 6, .tmp 8]) <|
 .ite (.tmp 9)
 (.goto 6 [.tmp 0, .tmp 1, .tmp 2, .tmp 3])
 (.goto 4 [.tmp 0, .tmp 1, .tmp 2, .tmp 3]))
 (.goto 4 [.tmp 0, .tmp 1, .tmp 2, .tmp 3]))
 l_slices_partitionOrdered_int32_k4
def l_slices_partitionOrdered_int32_k6 : L :=
 o (.bin .sub (.tmp 3) (.const (.int .i64 1))) <|
 .goto 6 [.tmp 0, .tmp 1, .tmp 2, .tmp 4]
def l_slices_partitionOrdered_int32_k7 : L :=
 .join 7
 (o (.bin .leq (.tmp 2) (.tmp 3)) <|
 .ite (.tmp 4)
 (o (.iaddr 1 (.tmp 0) (.tmp 3)) <|
 o (.load false 1 (.tmp 5)) <|
 o (.iaddr 1 (.tmp 0) (.tmp 1)) <|
 o (.load false 1 (.tmp 7)) <|
 om .pure (.call F_cmp_Less_int32 [.tmp 6, .tmp 8]) <|
 o (.un .not (.tmp 9)) <|
 .ite (.tmp 10)
 (.goto 7 [.tmp 0, .tmp 1, .tmp 2, .tmp 3])
 (.goto 5 [.tmp 0, .tmp 1, .tmp 2, .tmp 3]))
 (.goto 5 [.tmp 0, .tmp 1, .tmp 2, .tmp 3]))
 l_slices_partitionOrdered_int32_k6
def l_slices_partitionOrdered_int32_k8 : L :=
 o (.bin .gtr (.tmp 2) (.tmp 3)) <|
 .ite (.tmp 4)
 (.goto 2 [.tmp 0, .tmp 1, .tmp 3])
 (o (.iaddr 1 (.tmp 0) (.tmp 3)) <|
 o (.load false 1 (.tmp 5)) <|
 o (.iaddr 1 (.tmp 0) (.tmp 2)) <|
 o (.load false 1 (.tmp 7)) <|
 o (.iaddr 1 (.tmp 0) (.tmp 2)) <|
 o (.store 1 (.tmp 9) (.tmp 6)) <|
 o (.iaddr 1 (.tmp 0) (.tmp 3)) <|
 o (.store 1 (.tmp 11) (.tmp 8)) <|
 o (.bin .add (.tmp 2) (.const (.int .i64 1))) <|
 o (.bin .sub (.tmp 3) (.const (.int .i64 1))) <|
 .goto 3 [.tmp 0, .tmp 1, .tmp 13, .tmp 14])
def l_slices_partitionOrdered_int32_k9 : L :=
 .join 5
 (.loop 6 [(.tmp 0), (.tmp 1), (.tmp 2), (.tmp 3)] l_slices_partitionOrdered_int32_k7)
 l_slices_partitionOrdered_int32_k8
def l_slices_partitionOrdered_int32_k10 : L :=
 .join 4
 (.loop 5 [(.tmp 0), (.tmp 1), (.tmp 2), (.tmp 3)] l_slices_partitionOrdered_int32_k5)
 l_slices_partitionOrdered_int32_k9
def l_slices_partitionOrdered_int32_k11 : L :=
 o (.iaddr 1 (.tmp 0) (.tmp 1)) <|
 o (.load false 1 (.tmp 3)) <|
 o (.iaddr 1 (.tmp 0) (.tmp 2)) <|
 o (.load false 1 (.tmp 5)) <|
 o (.iaddr 1 (.tmp 0) (.tmp 2)) <|
 o (.store 1 (.tmp 7) (.tmp 4)) <|
 o (.iaddr 1 (.tmp 0) (.tmp 1)) <|
 o (.store 1 (.tmp 9) (.tmp 6)) <|
 .ret [(.tmp 2), (.const (.bool false))]
def l_slices_partitionOrdered_int32_k12 : L :=
 o (.bin .gtr (.tmp 2) (.tmp 3)) <|
 .ite (.tmp 4)
 (o (.iaddr 1 (.tmp 0) (.tmp 1)) <|
 o (.load false 1 (.tmp 5)) <|
 o (.iaddr 1 (.tmp 0) (.tmp 3)) <|
 o (.load false 1 (.tmp 7)) <|
 o (.iaddr 1 (.tmp 0) (.tmp 3)) <|
 o (.store 1 (.tmp 9) (.tmp 6)) <|
 o (.iaddr 1 (.tmp 0) (.tmp 1)) <|
 o (.store 1 (.tmp 11) (.tmp 8)) <|
 .ret [(.tmp 3), (.const (.bool true))])
 (o (.iaddr 1 (.tmp 0) (.tmp 3)) <|
 o (.load false 1 (.tmp 5)) <|
 o (.iaddr 1 (.tmp 0) (.tmp 2)) <|
 o (.load false 1 (.tmp 7)) <|
 o (.iaddr 1 (.tmp 0) (.tmp 2)) <|
 o (.store 1 (.tmp 9) (.tmp 6)) <|
 o (.iaddr 1 (.tmp 0) (.tmp 3)) <|
 o (.store 1 (.tmp 11) (.tmp 8)) <|
 o (.bin .add (.tmp 2) (.const (.int .i64 1))) <|
 o (.bin .sub (.tmp 3) (.const (.int .i64 1))) <|
 .join 2
 (.loop 3 [(.tmp 0), (.tmp 1), (.tmp 13), (.tmp 14)] l_slices_partitionOrdered_int32_k10)
 l_slices_partitionOrdered_int32_k11)
def l_slices_partitionOrdered_int32_k13 : L :=
 .join 1
 (.loop 2 [(.tmp 0), (.tmp 1), (.tmp 2), (.tmp 3)] l_slices_partitionOrdered_int32_k3)
 l_slices_partitionOrdered_int32_k12
def l_slices_partitionOrdered_int32 : LFn := ⟨4,
 o (.iaddr 1 (.tmp 0) (.tmp 3)) <|
 o (.load false 1 (.tmp 4)) <|
 o (.iaddr 1 (.tmp 0) (.tmp 1)) <|
 o (.load false 1 (.tmp 6)) <|
 o (.iaddr 1 (.tmp 0) (.tmp 1)) <|
 o (.store 1 (.tmp 8) (.tmp 5)) <|
 o (.iaddr 1 (.tmp 0) (.tmp 3)) <|
 o (.store 1 (.tmp 10) (.tmp 7)) <|
 o (.bin .add (.tmp 1) (.const (.int .i64 1))) <|
 o (.bin .sub (.tmp 2) (.const (.int .i64 1))) <|
 .join 0
 (.loop 1 [(.tmp 0), (.tmp 1), (.tmp 12), (.tmp 13)] l_slices_partitionOrdered_int32_k1)
 l_slices_partitionOrdered_int32_k13⟩
def l_math_bits_Len64_k0 : L :=
 o (.conv .u8 (.tmp 0)) <|
 o (.sidx (.const (.string ⟨#[0, 1, 2, 2, 3, 3, 3, 3, 4, 4, 4, 4, 4, 4, 4, 4, 5, 5, 5, 5, 5, 5, 5, 5, 5, 5, 5, 5, 5, 5, 5, 5, 6, 6, 6, 6, 6, 6, 6, 6, 6, 6, 6, 6, 6, 6, 6, 6, 6, 6, 6, 6, 6, 6, 6, 6, 6, 6, 6, 6, 6, 6, 6, 6, 7, 7, 7, 7, 7, 7, 7, 7, 7, 7, 7, 7, 7, 7, 7, 7, 7, 7, 7, 7, 7, 7, 7, 7, 7, 7, 7, 7, 7, 7, 7, 7, 7, 7, 7, 7, 7, 7, 7, 7, 7, 7, 7, 7, 7, 7, 7, 7, 7, 7, 7, 7, 7, 7, 7, 7, 7, 7, 7, 7, 7, 7, 7, 7, 8, 8, 8, 8, 8, 8, 8, 8, 8, 8, 8, 8, 8, 8, 8, 8, 8, 8, 8, 8, 8, 8, 8, 8, 8, 8, 8, 8, 8, 8, 8, 8, 8, 8, 8, 8, 8, 8, 8, 8, 8, 8, 8, 8, 8, 8, 8, 8, 8, 8, 8, 8, 8, 8, 8, 8, 8, 8, 8, 8, 8, 8, 8, 8, 8, 8, 8, 8, 8, 8, 8, 8, 8, 8, 8, 8, 8, 8, 8, 8, 8, 8, 8, 8, 8, 8, 8, 8, 8, 8, 8, 8, 8, 8, 8, 8, 8, 8, 8, 8, 8, 8, 8, 8, 8, 8, 8, 8, 8, 8, 8, 8, 8, 8, 8, 8, 8, 8, 8, 8, 8, 8, 8, 8, 8, 8, 8, 8]⟩)) (.tmp 2)) <|
 o (.conv .i64 (.tmp 3)) <|
 o (.bin .add (.tmp 1) (.tmp 4)) <|
 .ret [(.tmp 5)]
def l_math_bits_Len64_k1 : L :=
 .join 2
 (o (.bin .geq (.tmp 0) (.const (.int .u64 256))) <|
 .ite (.tmp 2)
 (o (.bin .shr (.tmp 0) (.const (.int .u64 8))) <|
 o (.bin .add (.tmp 1) (.const (.int .i64 8))) <|
 .goto 2 [.tmp 3, .tmp 4])
 (.goto 2 [.tmp 0, .tmp 1]))
 l_math_bits_Len64_k0
def l_math_bits_Len64_k2 : L :=
 .join 1
 (o (.bin .geq (.tmp 0) (.const (.int .u64 65536))) <|
 .ite (.tmp 2)
 (o (.bin .shr (.tmp 0) (.const (.int .u64 16))) <|
 o (.bin .add (.tmp 1) (.const (.int .i64 16))) <|
 .goto 1 [.tmp 3, .tmp 4])
 (.goto 1 [.tmp 0, .tmp 1]))
 l_math_bits_Len64_k1
def l_math_bits_Len64 : LFn := ⟨1,
 .join 0
 (o (.bin .geq (.tmp 0) (.const (.int .u64 4294967296))) <|
 .ite (.tmp 1)
 (o (.bin .shr (.tmp 0) (.const (.int .u64 32))) <|
 .goto 0 [.tmp 2, (.const (.int .i64 32))])
 (.goto 0 [.tmp 0, (.const (.int .i64 0))]))
 l_math_bits_Len64_k2⟩
def l_slices_siftDownOrdered_int32_k0 : L :=
 o (.bin .add (.tmp 2) (.tmp 3)) <|
 o (.iaddr 1 (.tmp 0) (.tmp 5)) <|
 o (.load false 1 (.tmp 6)) <|
 o (.bin .add (.tmp 2) (.tmp 4)) <|
 o (.iaddr 1 (.tmp 0) (.tmp 8)) <|
 o (.load false 1 (.tmp 9)) <|
 om .pure (.call F_cmp_Less_int32 [.tmp 7, .tmp 10]) <|
 o (.un .not (.tmp 11)) <|
 .ite (.tmp 12)
 (.ret [])
 (o (.bin .add (.tmp 2) (.tmp 3)) <|
 o (.bin .add (.tmp 2) (.tmp 4)) <|
 o (.bin .add (.tmp 2) (.tmp 4)) <|
 o (.iaddr 1 (.tmp 0) (.tmp 15)) <|
 o (.load false 1 (.tmp 16)) <|
 o (.bin .add (.tmp 2) (.tmp 3)) <|
 o (.iaddr 1 (.tmp 0) (.tmp 18)) <|
 o (.load false 1 (.tmp 19)) <|
 o (.iaddr 1 (.tmp 0) (.tmp 13)) <|
 o (.store 1 (.tmp 21) (.tmp 17)) <|
 o (.iaddr 1 (.tmp 0) (.tmp 14)) <|
 o (.store 1 (.tmp 23) (.tmp 20)) <|
 .goto 0 [.tmp 0, .tmp 1, .tmp 2, .tmp 4])
def l_slices_siftDownOrdered_int32_k1 : L :=
 o (.bin .mul (.const (.int .i64 2)) (.tmp 3)) <|
 o (.bin .add (.tmp 4) (.const (.int .i64 1))) <|
 o (.bin .geq (.tmp 5) (.tmp 1)) <|
 .ite (.tmp 6)
 (.ret [])
 (.join 1
 (o (.bin .add (.tmp 5) (.const (.int .i64 1))) <|
 o (.bin .lss (.tmp 7) (.tmp 1)) <|
 .ite (.tmp 8)
 (o (.bin .add (.tmp 2) (.tmp 5)) <|
 o (.iaddr 1 (.tmp 0) (.tmp 9)) <|
 o (.load false 1 (.tmp 10)) <|
 o (.bin .add (.tmp 2) (.tmp 5)) <|
 o (.bin .add (.tmp 12) (.const (.int .i64 1))) <|
 o (.iaddr 1 (.tmp 0) (.tmp 13)) <|
 o (.load false 1 (.tmp 14)) <|
 om .pure (.call F_cmp_Less_int32 [.tmp 11, .tmp 15]) <|
 .ite (.tmp 16)
 (o (.bin .add (.tmp 5) (.const (.int .i64 1))) <|
 .goto 1 [.tmp 0, .tmp 1, .tmp 2, .tmp 3, .tmp 17])
 (.goto 1 [.tmp 0, .tmp 1, .tmp 2, .tmp 3, .tmp 5]))
 (.goto 1 [.tmp 0, .tmp 1, .tmp 2, .tmp 3, .tmp 5]))
 l_slices_siftDownOrdered_int32_k0)
def l_slices_siftDownOrdered_int32 : LFn := ⟨4,
 .loop 0 [(.tmp 0), (.tmp 2), (.tmp 3), (.tmp 1)] l_slices_siftDownOrdered_int32_k1⟩
def l_slices_nextPowerOfTwo : LFn := ⟨1,
 o (.conv .u64 (.tmp 0)) <|
 om .pure (.call F_math_bits_Len [.tmp 1]) <|
 o (.bin .shl (.const (.int .u64 1)) (.tmp 2)) <|
 .ret [(.tmp 3)]⟩
def l_slices_xorshift_Next : LFn := ⟨1,
 o (.nilck (.tmp 0)) <|
 o (.load false 1 (.tmp 1)) <|
 o (.nilck (.tmp 0)) <|
 o (.load false 1 (.tmp 3)) <|
 o (.bin .shl (.tmp 4) (.const (.int .u64 13))) <|
 o (.bin .xor (.tmp 2) (.tmp 5)) <|
 o (.nilck (.tmp 0)) <|
 o (.store 1 (.tmp 7) (.tmp 6)) <|
 o (.nilck (.tmp 0)) <|
 o (.load false 1 (.tmp 9)) <|
 o (.nilck (.tmp 0)) <|
 o (.load false 1 (.tmp 11)) <|
 o (.bin .shr (.tmp 12) (.const (.int .u64 7))) <|
 o (.bin .xor (.tmp 10) (.tmp 13)) <|
 o (.nilck (.tmp 0)) <|
 o (.store 1 (.tmp 15) (.tmp 14)) <|
 o (.nilck (.tmp 0)) <|
 o (.load false 1 (.tmp 17)) <|
 o (.nilck (.tmp 0)) <|
 o (.load false 1 (.tmp 19)) <|
 o (.bin .shl (.tmp 20) (.const (.int .u64 17))) <|
 o (.bin .xor (.tmp 18) (.tmp 21)) <|
 o (.nilck (.tmp 0)) <|
 o (.store 1 (.tmp 23) (.tmp 22)) <|
 o (.nilck (.tmp 0)) <|
 o (.load false 1 (.tmp 25)) <|
 .ret [(.tmp 26)]⟩
def l_slices_medianAdjacentOrdered_int32 : LFn := ⟨3,
 o (.bin .sub (.tmp 1) (.const (.int .i64 1))) <|
 o (.bin .add (.tmp 1) (.const (.int .i64 1))) <|
 o (.call F_slices_medianOrdered_int32 [.tmp 0, .tmp 3, .tmp 1, .tmp 4, .tmp 2]) <|
 .ret [(.tmp 5)]⟩
def l_slices_medianOrdered_int32 : LFn := ⟨5,
 o (.call F_slices_order2Ordered_int32 [.tmp 0, .tmp 1, .tmp 2, .tmp 4]) <|
 o (.ext (.tmp 5) 0) <|
 o (.ext (.tmp 5) 1) <|
 o (.call F_slices_order2Ordered_int32 [.tmp 0, .tmp 7, .tmp 3, .tmp 4]) <|
 o (.ext (.tmp 8) 0) <|
 o (.ext (.tmp 8) 1) <|
 o (.call F_slices_order2Ordered_int32 [.tmp 0, .tmp 6, .tmp 9, .tmp 4]) <|
 o (.ext (.tmp 11) 0) <|
 o (.ext (.tmp 11) 1) <|
 .ret [(.tmp 13)]⟩
def l_cmp_isNaN_int32 : LFn := ⟨1,
 o (.bin .neq (.tmp 0) (.tmp 0)) <|
 .ret [(.tmp 1)]⟩
def l_slices_order2Ordered_int32 : LFn := ⟨4,
 o (.iaddr 1 (.tmp 0) (.tmp 2)) <|
 o (.load false 1 (.tmp 4)) <|
 o (.iaddr 1 (.tmp 0) (.tmp 1)) <|
 o (.load false 1 (.tmp 6)) <|
 om .pure (.call F_cmp_Less_int32 [.tmp 5, .tmp 7]) <|
 .ite (.tmp 8)
 (o (.nilck (.tmp 3)) <|
 o (.load false 1 (.tmp 9)) <|
 o (.bin .add (.tmp 10) (.const (.int .i64 1))) <|
 o (.nilck (.tmp 3)) <|
 o (.store 1 (.tmp 12) (.tmp 11)) <|
 .ret [(.tmp 2), (.tmp 1)])
 (.ret [(.tmp 1), (.tmp 2)])⟩
def mdT : FuncId → FuncId → Md := mdOf 1228360646648 [(8, 17), (8, 16), (8, 20), (16, 17), (20, 22), (22, 24), (22, 25), (22, 26), (22, 27), (22, 28), (22, 29), (22, 31), (22, 32), (22, 22), (25, 35)]
def zcT : TypeId → Option (List Value)
 | 3 => some [(.int .i64 0)]
 | 21 => some [(.int .i32 0)]
 | 26 => some [(.int .u64 0)]
 | 64 => some [(.int .u64 0)]
 | _ => none
def zvT : TypeId → Option Value
 | _ => none
def coT : TypeId → Option Nat
 | 26 => some 1
 | _ => none
def fnL : List (FuncId × LFn) := [(8, l_law03_DiceShuffles), (9, l_law03_awake), (10, l_dice_Dice_Next), (11, l_ref03_Next), (12, l_dice_Dice_Below), (13, l_ref03_Below), (16, l_dice_Dice_Shuffle), (17, l_slices_Clone_Lint32_int32), (18, l_ref03_Shuffle), (19, l_slices_Equal_Lint32_int32), (20, l_slices_Sort_Lint32_int32), (21, l_dice_mixed), (22, l_slices_pdqsortOrdered_int32), (23, l_math_bits_Len), (24, l_slices_insertionSortOrdered_int32), (25, l_slices_heapSortOrdered_int32), (26, l_slices_breakPatternsOrdered_int32), (27, l_slices_choosePivotOrdered_int32), (28, l_slices_reverseRangeOrdered_int32), (29, l_slices_partialInsertionSortOrdered_int32), (30, l_cmp_Less_int32), (31, l_slices_partitionEqualOrdered_int32), (32, l_slices_partitionOrdered_int32), (34, l_math_bits_Len64), (35, l_slices_siftDownOrdered_int32), (36, l_slices_nextPowerOfTwo), (37, l_slices_xorshift_Next), (38, l_slices_medianAdjacentOrdered_int32), (39, l_slices_medianOrdered_int32), (40, l_cmp_isNaN_int32), (41, l_slices_order2Ordered_int32)]
def fnT (f : FuncId) : Option LFn := lkF fnL f
def givIL : List (FuncId × (List IV → MI IV)) := []
noncomputable def BI : IBook := { zc := zcT, zv := zvT, co := coT, fn := fnT, md := mdT 0, given := gvL givIL }
theorem gv_none {f : FuncId} {l : LFn} (h : BI.fn f = some l) : BI.given f = none := rfl
theorem fn_law03_DiceShuffles : BI.fn F_law03_DiceShuffles = some l_law03_DiceShuffles := by kernel_rfl
theorem fn_law03_awake : BI.fn F_law03_awake = some l_law03_awake := by kernel_rfl
theorem fn_dice_Dice_Next : BI.fn F_dice_Dice_Next = some l_dice_Dice_Next := by kernel_rfl
theorem fn_ref03_Next : BI.fn F_ref03_Next = some l_ref03_Next := by kernel_rfl
theorem fn_dice_Dice_Below : BI.fn F_dice_Dice_Below = some l_dice_Dice_Below := by kernel_rfl
theorem fn_ref03_Below : BI.fn F_ref03_Below = some l_ref03_Below := by kernel_rfl
theorem fn_dice_Dice_Shuffle : BI.fn F_dice_Dice_Shuffle = some l_dice_Dice_Shuffle := by kernel_rfl
theorem fn_slices_Clone_Lint32_int32 : BI.fn F_slices_Clone_Lint32_int32 = some l_slices_Clone_Lint32_int32 := by kernel_rfl
theorem fn_ref03_Shuffle : BI.fn F_ref03_Shuffle = some l_ref03_Shuffle := by kernel_rfl
theorem fn_slices_Equal_Lint32_int32 : BI.fn F_slices_Equal_Lint32_int32 = some l_slices_Equal_Lint32_int32 := by kernel_rfl
theorem fn_slices_Sort_Lint32_int32 : BI.fn F_slices_Sort_Lint32_int32 = some l_slices_Sort_Lint32_int32 := by kernel_rfl
theorem fn_dice_mixed : BI.fn F_dice_mixed = some l_dice_mixed := by kernel_rfl
theorem fn_slices_pdqsortOrdered_int32 : BI.fn F_slices_pdqsortOrdered_int32 = some l_slices_pdqsortOrdered_int32 := by kernel_rfl
theorem fn_math_bits_Len : BI.fn F_math_bits_Len = some l_math_bits_Len := by kernel_rfl
theorem fn_slices_insertionSortOrdered_int32 : BI.fn F_slices_insertionSortOrdered_int32 = some l_slices_insertionSortOrdered_int32 := by kernel_rfl
theorem fn_slices_heapSortOrdered_int32 : BI.fn F_slices_heapSortOrdered_int32 = some l_slices_heapSortOrdered_int32 := by kernel_rfl
theorem fn_slices_breakPatternsOrdered_int32 : BI.fn F_slices_breakPatternsOrdered_int32 = some l_slices_breakPatternsOrdered_int32 := by kernel_rfl
theorem fn_slices_choosePivotOrdered_int32 : BI.fn F_slices_choosePivotOrdered_int32 = some l_slices_choosePivotOrdered_int32 := by kernel_rfl
theorem fn_slices_reverseRangeOrdered_int32 : BI.fn F_slices_reverseRangeOrdered_int32 = some l_slices_reverseRangeOrdered_int32 := by kernel_rfl
theorem fn_slices_partialInsertionSortOrdered_int32 : BI.fn F_slices_partialInsertionSortOrdered_int32 = some l_slices_partialInsertionSortOrdered_int32 := by kernel_rfl
theorem fn_cmp_Less_int32 : BI.fn F_cmp_Less_int32 = some l_cmp_Less_int32 := by kernel_rfl
theorem fn_slices_partitionEqualOrdered_int32 : BI.fn F_slices_partitionEqualOrdered_int32 = some l_slices_partitionEqualOrdered_int32 := by kernel_rfl
theorem fn_slices_partitionOrdered_int32 : BI.fn F_slices_partitionOrdered_int32 = some l_slices_partitionOrdered_int32 := by kernel_rfl
theorem fn_math_bits_Len64 : BI.fn F_math_bits_Len64 = some l_math_bits_Len64 := by kernel_rfl
theorem fn_slices_siftDownOrdered_int32 : BI.fn F_slices_siftDownOrdered_int32 = some l_slices_siftDownOrdered_int32 := by kernel_rfl
theorem fn_slices_nextPowerOfTwo : BI.fn F_slices_nextPowerOfTwo = some l_slices_nextPowerOfTwo := by kernel_rfl
theorem fn_slices_xorshift_Next : BI.fn F_slices_xorshift_Next = some l_slices_xorshift_Next := by kernel_rfl
theorem fn_slices_medianAdjacentOrdered_int32 : BI.fn F_slices_medianAdjacentOrdered_int32 = some l_slices_medianAdjacentOrdered_int32 := by kernel_rfl
theorem fn_slices_medianOrdered_int32 : BI.fn F_slices_medianOrdered_int32 = some l_slices_medianOrdered_int32 := by kernel_rfl
theorem fn_cmp_isNaN_int32 : BI.fn F_cmp_isNaN_int32 = some l_cmp_isNaN_int32 := by kernel_rfl
theorem fn_slices_order2Ordered_int32 : BI.fn F_slices_order2Ordered_int32 = some l_slices_order2Ordered_int32 := by kernel_rfl
end Go.Proofs.Ytdclinhgekbejaa.G
