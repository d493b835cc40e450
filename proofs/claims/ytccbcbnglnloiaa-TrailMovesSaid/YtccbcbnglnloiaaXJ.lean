/- Joined: Q2a to GG. -/
import Derived.Test.YtccbcbnglnloiaaXI
import Derived.Test.YtccbcbnglnloiaaChecked
import Derived.KernelRfl
import Derived.Test.YtccbcbnglnloiaaRows
import Derived.SizedLaws
import Derived.Maps.RangeWalk
import Derived.Maps.AppendAt
import Derived.MapKept
import Derived.OwnWalk
import Derived.LoopTactic
import Derived.WalkKit
import Derived.RangeFuncBox
import Derived.RangeFuncLeaves
import Derived.Shelf.Abstract
import Derived.OwnWalkIn
import Derived.TacticsInMore
import Derived.LoopNIn
import Derived.LoopIn
import Derived.Shelf.AbstractIn
import Derived.Sort.MapsRangeIn
set_option linter.unusedVariables false
set_option linter.unusedSimpArgs false
set_option maxRecDepth 20000
set_option maxHeartbeats 2000000
namespace Go.Proofs.Ytccbcbnglnloiaa.G
open Go
theorem lf_law16_TrailMoves : lf Try.prog mdT 8 = some l_law16_TrailMoves := by kernel_rfl
theorem lf_law16_awake : lf Try.prog mdT 9 = some l_law16_awake := by kernel_rfl
theorem lf_law16_few : lf Try.prog mdT 10 = some l_law16_few := by kernel_rfl
theorem lf_trail_New : lf Try.prog mdT 11 = some l_trail_New := by kernel_rfl
theorem lf_board_New : lf Try.prog mdT 12 = some l_board_New := by kernel_rfl
theorem lf_trail_Trail_Reset : lf Try.prog mdT 13 = some l_trail_Trail_Reset := by kernel_rfl
theorem lf_rules_Game_Legal : lf Try.prog mdT 14 = some l_rules_Game_Legal := by kernel_rfl
theorem lf_trail_Trail_Add : lf Try.prog mdT 15 = some l_trail_Trail_Add := by kernel_rfl
theorem lf_trail_Trail_Room : lf Try.prog mdT 16 = some l_trail_Trail_Room := by kernel_rfl
theorem lf_trail_Trail_Pending : lf Try.prog mdT 17 = some l_trail_Trail_Pending := by kernel_rfl
theorem lf_trail_Trail_Last : lf Try.prog mdT 18 = some l_trail_Trail_Last := by kernel_rfl
theorem lf_trail_Trail_Known : lf Try.prog mdT 19 = some l_trail_Trail_Known := by kernel_rfl
theorem lf_trail_Trail_Shown : lf Try.prog mdT 20 = some l_trail_Trail_Shown := by kernel_rfl
theorem lf_rules_Game_Right : lf Try.prog mdT 21 = some l_rules_Game_Right := by kernel_rfl
theorem lf_rules_Game_Start : lf Try.prog mdT 22 = some l_rules_Game_Start := by kernel_rfl
theorem lf_rules_State_View : lf Try.prog mdT 23 = some l_rules_State_View := by kernel_rfl
theorem lf_rules_Game_Predict : lf Try.prog mdT 24 = some l_rules_Game_Predict := by kernel_rfl
theorem lf_trail_Trail_Confirm : lf Try.prog mdT 25 = some l_trail_Trail_Confirm := by kernel_rfl
theorem lf_rules_Game_Step : lf Try.prog mdT 27 = some l_rules_Game_Step := by kernel_rfl
theorem lf_mask_Mask_Has : lf Try.prog mdT 28 = some l_mask_Mask_Has := by kernel_rfl
theorem lf_board_Board_Put : lf Try.prog mdT 29 = some l_board_Board_Put := by kernel_rfl
theorem lf_slices_Equal_Luint32_uint32 : lf Try.prog mdT 30 = some l_slices_Equal_Luint32_uint32 := by kernel_rfl
theorem lf_slices_Clone_Lboard_Cell_board_Cell : lf Try.prog mdT 31 = some l_slices_Clone_Lboard_Cell_board_Cell := by kernel_rfl
theorem lf_slices_Clone_Lcode_Code_code_Code : lf Try.prog mdT 32 = some l_slices_Clone_Lcode_Code_code_Code := by kernel_rfl
theorem lf_maps_Keys_map_uint32_uint32_uint32_uint32 : lf Try.prog mdT 34 = some l_maps_Keys_map_uint32_uint32_uint32_uint32 := by kernel_rfl
theorem lf_mask_Mask_Within : lf Try.prog mdT 35 = some l_mask_Mask_Within := by kernel_rfl
theorem lf_rules_Game_All : lf Try.prog mdT 36 = some l_rules_Game_All := by kernel_rfl
theorem lf_code_Right : lf Try.prog mdT 37 = some l_code_Right := by kernel_rfl
theorem lf_board_Board_View : lf Try.prog mdT 38 = some l_board_Board_View := by kernel_rfl
theorem lf_trail_Trail_Confirm_1 : lf Try.prog mdT 40 = some l_trail_Trail_Confirm_1 := by kernel_rfl
theorem lf_vm_Run : lf Try.prog mdT 41 = some l_vm_Run := by kernel_rfl
theorem lf_rules_Game_all : lf Try.prog mdT 42 = some l_rules_Game_all := by kernel_rfl
theorem lf_mask_one : lf Try.prog mdT 43 = some l_mask_one := by kernel_rfl
theorem lf_board_Board_there : lf Try.prog mdT 44 = some l_board_Board_there := by kernel_rfl
theorem lf_slices_Sort_Luint32_uint32 : lf Try.prog mdT 46 = some l_slices_Sort_Luint32_uint32 := by kernel_rfl
theorem lf_mask_All : lf Try.prog mdT 48 = some l_mask_All := by kernel_rfl
theorem lf_code_Check : lf Try.prog mdT 49 = some l_code_Check := by kernel_rfl
theorem lf_board_Board_Len : lf Try.prog mdT 50 = some l_board_Board_Len := by kernel_rfl
theorem lf_vm_Compute : lf Try.prog mdT 51 = some l_vm_Compute := by kernel_rfl
theorem lf_vm_machine_fail : lf Try.prog mdT 52 = some l_vm_machine_fail := by kernel_rfl
theorem lf_vm_machine_follow : lf Try.prog mdT 53 = some l_vm_machine_follow := by kernel_rfl
theorem lf_slices_pdqsortOrdered_uint32 : lf Try.prog mdT 55 = some l_slices_pdqsortOrdered_uint32 := by kernel_rfl
theorem lf_math_bits_Len : lf Try.prog mdT 56 = some l_math_bits_Len := by kernel_rfl
theorem lf_code_uses : lf Try.prog mdT 57 = some l_code_uses := by kernel_rfl
theorem lf_code_right : lf Try.prog mdT 58 = some l_code_right := by kernel_rfl
theorem lf_vm_divided : lf Try.prog mdT 59 = some l_vm_divided := by kernel_rfl
theorem lf_vm_one : lf Try.prog mdT 60 = some l_vm_one := by kernel_rfl
theorem lf_vm_machine_load : lf Try.prog mdT 61 = some l_vm_machine_load := by kernel_rfl
theorem lf_vm_machine_store : lf Try.prog mdT 62 = some l_vm_machine_store := by kernel_rfl
theorem lf_mask_Mask_Meet : lf Try.prog mdT 63 = some l_mask_Mask_Meet := by kernel_rfl
theorem lf_vm_machine_open : lf Try.prog mdT 64 = some l_vm_machine_open := by kernel_rfl
theorem lf_mask_Of : lf Try.prog mdT 65 = some l_mask_Of := by kernel_rfl
theorem lf_dice_Dice_Below : lf Try.prog mdT 66 = some l_dice_Dice_Below := by kernel_rfl
theorem lf_vm_machine_reach : lf Try.prog mdT 67 = some l_vm_machine_reach := by kernel_rfl
theorem lf_slices_insertionSortOrdered_uint32 : lf Try.prog mdT 68 = some l_slices_insertionSortOrdered_uint32 := by kernel_rfl
theorem lf_slices_heapSortOrdered_uint32 : lf Try.prog mdT 69 = some l_slices_heapSortOrdered_uint32 := by kernel_rfl
theorem lf_slices_breakPatternsOrdered_uint32 : lf Try.prog mdT 70 = some l_slices_breakPatternsOrdered_uint32 := by kernel_rfl
theorem lf_slices_choosePivotOrdered_uint32 : lf Try.prog mdT 71 = some l_slices_choosePivotOrdered_uint32 := by kernel_rfl
theorem lf_slices_reverseRangeOrdered_uint32 : lf Try.prog mdT 72 = some l_slices_reverseRangeOrdered_uint32 := by kernel_rfl
theorem lf_slices_partialInsertionSortOrdered_uint32 : lf Try.prog mdT 73 = some l_slices_partialInsertionSortOrdered_uint32 := by kernel_rfl
theorem lf_cmp_Less_uint32 : lf Try.prog mdT 74 = some l_cmp_Less_uint32 := by kernel_rfl
theorem lf_slices_partitionEqualOrdered_uint32 : lf Try.prog mdT 75 = some l_slices_partitionEqualOrdered_uint32 := by kernel_rfl
theorem lf_slices_partitionOrdered_uint32 : lf Try.prog mdT 76 = some l_slices_partitionOrdered_uint32 := by kernel_rfl
theorem lf_math_bits_Len64 : lf Try.prog mdT 78 = some l_math_bits_Len64 := by kernel_rfl
theorem lf_code_register : lf Try.prog mdT 79 = some l_code_register := by kernel_rfl
theorem lf_board_Board_At : lf Try.prog mdT 80 = some l_board_Board_At := by kernel_rfl
theorem lf_mask_Mask_With : lf Try.prog mdT 81 = some l_mask_Mask_With := by kernel_rfl
theorem lf_dice_Dice_Next : lf Try.prog mdT 82 = some l_dice_Dice_Next := by kernel_rfl
theorem lf_vm_machine_index : lf Try.prog mdT 83 = some l_vm_machine_index := by kernel_rfl
theorem lf_vm_machine_reveal : lf Try.prog mdT 84 = some l_vm_machine_reveal := by kernel_rfl
theorem lf_vm_machine_shuffle : lf Try.prog mdT 85 = some l_vm_machine_shuffle := by kernel_rfl
theorem lf_slices_siftDownOrdered_uint32 : lf Try.prog mdT 86 = some l_slices_siftDownOrdered_uint32 := by kernel_rfl
theorem lf_slices_nextPowerOfTwo : lf Try.prog mdT 87 = some l_slices_nextPowerOfTwo := by kernel_rfl
theorem lf_slices_xorshift_Next : lf Try.prog mdT 88 = some l_slices_xorshift_Next := by kernel_rfl
theorem lf_slices_medianAdjacentOrdered_uint32 : lf Try.prog mdT 89 = some l_slices_medianAdjacentOrdered_uint32 := by kernel_rfl
theorem lf_slices_medianOrdered_uint32 : lf Try.prog mdT 90 = some l_slices_medianOrdered_uint32 := by kernel_rfl
theorem lf_cmp_isNaN_uint32 : lf Try.prog mdT 91 = some l_cmp_isNaN_uint32 := by kernel_rfl
theorem lf_dice_mixed : lf Try.prog mdT 92 = some l_dice_mixed := by kernel_rfl
theorem lf_mask_Mask_Less : lf Try.prog mdT 93 = some l_mask_Mask_Less := by kernel_rfl
theorem lf_board_Board_Show : lf Try.prog mdT 94 = some l_board_Board_Show := by kernel_rfl
theorem lf_dice_Dice_Shuffle : lf Try.prog mdT 95 = some l_dice_Dice_Shuffle := by kernel_rfl
theorem lf_slices_order2Ordered_uint32 : lf Try.prog mdT 96 = some l_slices_order2Ordered_uint32 := by kernel_rfl
theorem lf_mask_Mask_Join : lf Try.prog mdT 97 = some l_mask_Mask_Join := by kernel_rfl
theorem lf_slices_Clone_Lint32_int32 : lf Try.prog mdT 98 = some l_slices_Clone_Lint32_int32 := by kernel_rfl
end Go.Proofs.Ytccbcbnglnloiaa.G
namespace Go.Proofs.Ytccbcbnglnloiaa.G
open Go Go.Proofs
def givGL : List (FuncId × (List Value → M Value)) := [(33, gsorted), (39, gdelf)]
theorem gvg_none {f : FuncId} {l : LFn} (h : BI.fn f = some l) : gvL givGL f = none := by
 have h2 : gvL givIL f = none := gv_none h
 simp only [givIL, gvL] at h2
 simp only [givGL, gvL]
 split at h2
 ·cases h2
 ·rename_i h3
  split at h2
  ·cases h2
  ·rename_i h4
   rw [if_neg h3, if_neg h4]
theorem giv_sim : ∀ f g, BI.given f = some g → ∀ n args J v J', g args J = some (v, J') → ∀ W H cargs, HR W J H → IRL W args cargs → ∃ W' c H', acall (givenBook Try.prog givGL) (n + 1) f cargs H = some (c, H') ∧ SS W J H W' J' H' (fun _ => True) ∧ IR W' v c := by
 intro f g hg n args J v J' he W H cargs h ha
 have hg : gvL givIL f = some g := hg
 simp only [givIL, gvL] at hg
 split at hg
 ·rename_i h'; subst h'; cases hg; exact isorted_sim args J v J' he W H cargs h ha
 ·split at hg
  ·rename_i h'; subst h'; cases hg; exact idelf_sim args J v J' he W H cargs h ha
  ·cases hg
end Go.Proofs.Ytccbcbnglnloiaa.G
namespace Go.Proofs.Ytccbcbnglnloiaa.G
open Go
set_option maxRecDepth 10000
theorem fns_ok : ∀ f l, fnT f = some l → lf Try.prog mdT f = some l := fun f l h => lkF_all (q := fun f l => lf Try.prog mdT f = some l) (L := fnL) ⟨lf_law16_TrailMoves, lf_law16_awake, lf_law16_few, lf_trail_New, lf_board_New, lf_trail_Trail_Reset, lf_rules_Game_Legal, lf_trail_Trail_Add, lf_trail_Trail_Room, lf_trail_Trail_Pending, lf_trail_Trail_Last, lf_trail_Trail_Known, lf_trail_Trail_Shown, lf_rules_Game_Right, lf_rules_Game_Start, lf_rules_State_View, lf_rules_Game_Predict, lf_trail_Trail_Confirm, lf_rules_Game_Step, lf_mask_Mask_Has, lf_board_Board_Put, lf_slices_Equal_Luint32_uint32, lf_slices_Clone_Lboard_Cell_board_Cell, lf_slices_Clone_Lcode_Code_code_Code, lf_maps_Keys_map_uint32_uint32_uint32_uint32, lf_mask_Mask_Within, lf_rules_Game_All, lf_code_Right, lf_board_Board_View, lf_trail_Trail_Confirm_1, lf_vm_Run, lf_rules_Game_all, lf_mask_one, lf_board_Board_there, lf_slices_Sort_Luint32_uint32, lf_mask_All, lf_code_Check, lf_board_Board_Len, lf_vm_Compute, lf_vm_machine_fail, lf_vm_machine_follow, lf_slices_pdqsortOrdered_uint32, lf_math_bits_Len, lf_code_uses, lf_code_right, lf_vm_divided, lf_vm_one, lf_vm_machine_load, lf_vm_machine_store, lf_mask_Mask_Meet, lf_vm_machine_open, lf_mask_Of, lf_dice_Dice_Below, lf_vm_machine_reach, lf_slices_insertionSortOrdered_uint32, lf_slices_heapSortOrdered_uint32, lf_slices_breakPatternsOrdered_uint32, lf_slices_choosePivotOrdered_uint32, lf_slices_reverseRangeOrdered_uint32, lf_slices_partialInsertionSortOrdered_uint32, lf_cmp_Less_uint32, lf_slices_partitionEqualOrdered_uint32, lf_slices_partitionOrdered_uint32, lf_math_bits_Len64, lf_code_register, lf_board_Board_At, lf_mask_Mask_With, lf_dice_Dice_Next, lf_vm_machine_index, lf_vm_machine_reveal, lf_vm_machine_shuffle, lf_slices_siftDownOrdered_uint32, lf_slices_nextPowerOfTwo, lf_slices_xorshift_Next, lf_slices_medianAdjacentOrdered_uint32, lf_slices_medianOrdered_uint32, lf_cmp_isNaN_uint32, lf_dice_mixed, lf_mask_Mask_Less, lf_board_Board_Show, lf_dice_Dice_Shuffle, lf_slices_order2Ordered_uint32, lf_mask_Mask_Join, lf_slices_Clone_Lint32_int32, trivial⟩ h
theorem tab_ok : TabOK BI Try.prog where
 zc := by
  intro t z h
  simp only [BI] at h
  unfold zcT at h
  split at h
  ·simp only [Option.some.injEq] at h; subst h; exact ⟨by kernel_rfl, by decide⟩
  ·simp only [Option.some.injEq] at h; subst h; exact ⟨by kernel_rfl, by decide⟩
  ·simp only [Option.some.injEq] at h; subst h; exact ⟨by kernel_rfl, by decide⟩
  ·simp only [Option.some.injEq] at h; subst h; exact ⟨by kernel_rfl, by decide⟩
  ·simp only [Option.some.injEq] at h; subst h; exact ⟨by kernel_rfl, by decide⟩
  ·simp only [Option.some.injEq] at h; subst h; exact ⟨by kernel_rfl, by decide⟩
  ·simp only [Option.some.injEq] at h; subst h; exact ⟨by kernel_rfl, by decide⟩
  ·simp only [Option.some.injEq] at h; subst h; exact ⟨by kernel_rfl, by decide⟩
  ·simp only [Option.some.injEq] at h; subst h; exact ⟨by kernel_rfl, by decide⟩
  ·simp only [Option.some.injEq] at h; subst h; exact ⟨by kernel_rfl, by decide⟩
  ·simp only [Option.some.injEq] at h; subst h; exact ⟨by kernel_rfl, by decide⟩
  ·simp only [Option.some.injEq] at h; subst h; exact ⟨by kernel_rfl, by decide⟩
  ·simp only [Option.some.injEq] at h; subst h; exact ⟨by kernel_rfl, by decide⟩
  ·simp only [Option.some.injEq] at h; subst h; exact ⟨by kernel_rfl, by decide⟩
  ·simp only [Option.some.injEq] at h; subst h; exact ⟨by kernel_rfl, by decide⟩
  ·simp only [Option.some.injEq] at h; subst h; exact ⟨by kernel_rfl, by decide⟩
  ·simp only [Option.some.injEq] at h; subst h; exact ⟨by kernel_rfl, by decide⟩
  ·simp only [Option.some.injEq] at h; subst h; exact ⟨by kernel_rfl, by decide⟩
  ·simp only [Option.some.injEq] at h; subst h; exact ⟨by kernel_rfl, by decide⟩
  ·simp at h
 zv := by
  intro t z h
  simp only [BI] at h
  unfold zvT at h
  split at h
  ·simp only [Option.some.injEq] at h; subst h; kernel_rfl
  ·simp at h
 co := by
  intro t z h
  simp only [BI] at h
  unfold coT at h
  split at h
  ·simp only [Option.some.injEq] at h; subst h; kernel_rfl
  ·simp at h
theorem book_ok : IBookOK BI (givenBook Try.prog givGL) := ⟨tab_ok, fun f l h => ⟨gvg_none h, rfl, lf_ok (fns_ok f l h)⟩, giv_sim⟩
theorem pf_laid : (laidOutB Try.prog) = true := by kernel_rfl
theorem pf_maps : (mapsRowed Try.prog) = true := by kernel_rfl
theorem pf_stops : ((Try.prog.stops == [])) = true := by kernel_rfl
theorem pf_knobs : ((Try.prog.stopKnobs == [])) = true := by kernel_rfl
theorem pf_heard : (Try.prog.stopsHeard) = true := by kernel_rfl
theorem pf_enter : (Try.prog.mayEnter) = true := by kernel_rfl
end Go.Proofs.Ytccbcbnglnloiaa.G
namespace Go.Proofs.Ytccbcbnglnloiaa.G
open Go Go.Proofs Go.RowKit Go.Shelf
open Go.ChangeMaps Go.MapKept
structure MR (w : World) (b r : Nat) (es : Array MapEntry) (clock : Nat) (seen : Array Nat) : Prop where
 map : w.heap[b]? = some (.map es clock)
 it : ∃ c0, w.heap[r]? = some (.mapIter (some b) clock seen c0) ∧ clock ≤ c0
theorem MR.ne {w : World} {b r : Nat} {es : Array MapEntry} {clock : Nat} {seen : Array Nat} (h : MR w b r es clock seen) : r ≠ b := by
 obtain ⟨c0, hr, _⟩ := h.it
 rintro rfl
 have := h.map
 rw [hr] at this; cases this
theorem MR.kept {w w' : World} {b r : Nat} {es : Array MapEntry} {clock : Nat} {seen : Array Nat} {row : Option Nat} (h : MR w b r es clock seen) (hg : w.grownBy w' row) (h1 : some b ≠ row) (h2 : some r ≠ row) : MR w' b r es clock seen := by
 obtain ⟨c0, hr, hc⟩ := h.it
 exact ⟨(hg.block b (Array.getElem?_eq_some_iff.1 h.map).1 h1).trans h.map, c0, (hg.block r (Array.getElem?_eq_some_iff.1 hr).1 h2).trans hr, hc⟩
def leftN (w : World) (b r : Nat) : Nat := match w.heap[b]?, w.heap[r]? with
 | some (.map es _), some (.mapIter _ _ seen _) => (leftOf es seen).size
 | _, _ => 0
theorem MR.left {w : World} {b r : Nat} {es : Array MapEntry} {clock : Nat} {seen : Array Nat} (h : MR w b r es clock seen) : leftN w b r = (leftOf es seen).size := by
 obtain ⟨c0, hr, _⟩ := h.it
 simp only [leftN, h.map, hr]
theorem wpList_range_mr {P : Program} (w : World) {ops : Array Oper} {rest : List Oper} {o : Oper} {a : Act} {Q : Exit → Act → World → Prop} (hg : o.guard = none) (m : Operand) (t : TypeId) (hop : o.op = Op.range t m) (k e : TypeId) (ht : P.underlying t = some (.map k e)) (b : Nat) (es : Array MapEntry) (clock : Nat)
  (hm : a.eval m = .map (some b)) (hb : w.heap[b]? = some (.map es clock))
  (hK : ∀ w', MR w' b w.heap.size es clock #[] → w.grownBy w' none → w'.heap.size = w.heap.size + 1 → wpList P ops Q rest (a.put o.dst (.pointer (some ⟨w.heap.size, 0, none⟩))) w') :
  wpList P ops Q (o :: rest) a w := by
 refine wpList_plain hg fun K' hK' => ?_
 unfold Oper.wp
 simp [execOp, hop, hm, run_range_map w t k e b es clock ht hb, Result.andThen]
 refine hK' _ _ (hK _ ⟨?_, clock, ?_, Nat.le_refl _⟩ (World.grownBy_alloc w _ none) (by simp))
 ·rw [Below.heap_alloc _ _ _ (Array.getElem?_eq_some_iff.1 hb).1]; exact hb
 ·exact heap_alloc_new w _
theorem wpListIn_range_mr {F : Fence} {n : Nat} {P : Program} (w : World) {ops : Array Oper} {rest : List Oper} {o : Oper} {a : Act} {Q : Exit → Act → World → Prop} (hg : o.guard = none) (m : Operand) (t : TypeId) (hop : o.op = Op.range t m) (k e : TypeId) (ht : P.underlying t = some (.map k e)) (b : Nat) (es : Array MapEntry) (clock : Nat)
  (hm : a.eval m = .map (some b)) (hb : w.heap[b]? = some (.map es clock))
  (hK : ∀ w', MR w' b w.heap.size es clock #[] → w.grownBy w' none → w'.heap.size = w.heap.size + 1 → wpListIn F n P ops Q rest (a.put o.dst (.pointer (some ⟨w.heap.size, 0, none⟩))) w') :
  wpListIn F n P ops Q (o :: rest) a w := by
 refine wpListIn_plain hg fun K' hK' => ?_
 unfold Oper.wpIn
 refine ⟨by simp [Oper.about, hop], ?_⟩
 rw [Oper.semAt_plain F _ _ (by rw [hop]; intro c hc'; cases hc')]
 simp [execOp, hop, hm, run_range_map w t k e b es clock ht hb, Result.andThen]
 refine hK' _ _ (hK _ ⟨?_, clock, ?_, Nat.le_refl _⟩ (World.grownBy_alloc w _ none) (by simp))
 ·rw [Below.heap_alloc _ _ _ (Array.getElem?_eq_some_iff.1 hb).1]; exact hb
 ·exact heap_alloc_new w _
theorem wpListIn_next_mr {F : Fence} {n : Nat} {P : Program} (w : World) {ops : Array Oper} {rest : List Oper} {o : Oper} {a : Act} {Q : Exit → Act → World → Prop} (hg : o.guard = none) (it : Operand) (hop : o.op = Op.next it false) (b r : Nat) (es : Array MapEntry) (clock : Nat) (seen : Array Nat)
  (hit : a.eval it = .pointer (some ⟨r, 0, none⟩)) (h : MR w b r es clock seen) (hold : ∀ x ∈ es.toList, x.born < clock) (hnd : (es.toList.map (·.born)).Nodup)
  (hDone : (leftOf es seen).size = 0 → wpListIn F n P ops Q rest (a.put o.dst (.tuple #[.bool false])) w)
  (hMore : ∀ (x : MapEntry) (w' : World), x ∈ es.toList → seen.contains x.born = false → MR w' b r es clock (seen.push x.born) → (leftOf es (seen.push x.born)).size < (leftOf es seen).size → w.grownBy w' (some r) → w'.heap.size = w.heap.size →
   (Instr.entry (.pointer (some ⟨r, 0, none⟩))).run P w' = .ok (.tuple #[x.key, x.val]) w' → wpListIn F n P ops Q rest (a.put o.dst (.tuple #[.bool true, x.key, x.val])) w') :
  wpListIn F n P ops Q (o :: rest) a w := by
 refine wpListIn_plain hg fun K' hK' => ?_
 unfold Oper.wpIn
 refine ⟨by simp [Oper.about, hop], ?_⟩
 rw [Oper.semAt_plain F _ _ (by rw [hop]; intro c hc'; cases hc')]
 obtain ⟨c0, hr, hc0⟩ := h.it
 rcases run_next_at (P := P) w o.type r b clock c0 seen es clock hr h.map hold hc0 with ⟨h0, hrun⟩ | ⟨e, he, w1, hal, hrun⟩
 ·simp [execOp, hop, hit, hrun, Result.andThen]
  exact hK' _ _ (hDone h0)
 ·obtain ⟨hem, hes⟩ := mem_left he
  have hr1 : w1.heap[r]? = some (.mapIter (some b) clock seen c0) := by rcases hal with rfl | rfl <;> exact hr
  have hb1 : w1.heap[b]? = some (.map es clock) := by rcases hal with rfl | rfl <;> exact h.map
  have hset := heap_set (o' := .mapIter (some b) clock (seen.push e.born) clock) hr1
  have hb' : (setBlock w1 r (.mapIter (some b) clock (seen.push e.born) clock)).heap[b]? = some (.map es clock) := (hset.2 b (fun e1 => h.ne e1.symm)).trans hb1
  simp [execOp, hop, hit, hrun, Result.andThen]
  refine hK' _ _ (hMore e _ hem hes ⟨hb', clock, hset.1, Nat.le_refl _⟩ (left_shrinks es seen e he) ?_ ?_ (run_entry_at _ r b clock seen es clock e hset.1 hb' hem hnd))
  ·rcases hal with rfl | rfl <;> exact ⟨rfl, rfl, rfl, by simp [setBlock], fun i _ hi => hset.2 i (fun e1 => hi (by rw [e1]))⟩
  ·rcases hal with rfl | rfl <;> simp [setBlock]
theorem seen_push {seen : Array Nat} {e : MapEntry} : ∀ {l : List MapEntry}, (l.map (·.born)).Nodup → e ∈ l → seen.contains e.born = false →
  (l.filter fun x => (seen.push e.born).contains x.born).Perm (l.filter (fun x => seen.contains x.born) ++ [e])
 | [], _, h, _ => by simp at h
 | x :: l, hn, hm, hs => by
  simp only [List.map_cons, List.nodup_cons] at hn
  have push : ∀ y : Nat, (seen.push e.born).contains y = (seen.contains y || y == e.born) := fun y => by
   rw [Bool.eq_iff_iff]; simp
  have none : ∀ {l : List MapEntry}, e.born ∉ l.map (·.born) → (l.filter fun x => (seen.push e.born).contains x.born) = l.filter fun x => seen.contains x.born := by
   intro l hl
   refine List.filter_congr fun y hy => ?_
   rw [push]
   have : (y.born == e.born) = false := by
    simp only [beq_eq_false_iff_ne, ne_eq]
    intro h1
    exact hl (by rw [← h1]; exact List.mem_map_of_mem hy)
   rw [this, Bool.or_false]
  rcases List.mem_cons.1 hm with rfl | hm
  ·have e1 : (seen.push e.born).contains e.born = true := by rw [push]; simp
   rw [List.filter_cons_of_pos (p := fun x : MapEntry => (seen.push e.born).contains x.born) e1, List.filter_cons_of_neg (by rw [hs]; decide), none hn.1]
   exact List.perm_append_singleton _ _ |>.symm
  ·have ih := seen_push hn.2 hm hs
   have hne : x.born ≠ e.born := fun h1 => hn.1 (by rw [h1]; exact List.mem_map_of_mem hm)
   by_cases hx : seen.contains x.born = true
   ·rw [List.filter_cons_of_pos (by rw [push, hx]; rfl), List.filter_cons_of_pos (p := fun x : MapEntry => seen.contains x.born) hx]
    exact ih.cons _
   ·have hx' : seen.contains x.born = false := by simpa using hx
    rw [List.filter_cons_of_neg (by rw [push, hx']; simp [hne]), List.filter_cons_of_neg (p := fun x : MapEntry => seen.contains x.born) hx]
    exact ih
theorem MR.walks {w w' : World} {b r : Nat} {es : Array MapEntry} {clock : Nat} {seen : Array Nat} (h : MR w b r es clock seen) (hk : KeepsWalks w w') : MR w' b r es clock seen := by
 obtain ⟨c0, hr, hc⟩ := h.it
 exact ⟨hk.same b _ h.map rfl, c0, hk.same r _ hr rfl, hc⟩
theorem leftOf_len (es : Array MapEntry) (seen : Array Nat) : (leftOf es seen).size + (es.toList.filter fun x => seen.contains x.born).length = es.size := by
 have e0 : (leftOf es seen).size = (es.toList.filter fun x => !seen.contains x.born).length := by
  unfold leftOf
  rw [← Array.toList_filter, Array.length_toList]
 rw [e0, ← Array.length_toList]
 have := List.length_eq_countP_add_countP (fun x : MapEntry => seen.contains x.born) (l := es.toList)
 rw [List.countP_eq_length_filter, List.countP_eq_length_filter] at this
 have e : (es.toList.filter fun x => !seen.contains x.born) = es.toList.filter fun a => decide ¬seen.contains a.born = true := List.filter_congr fun y _ => by cases seen.contains y.born <;> rfl
 rw [e]; omega
end Go.Proofs.Ytccbcbnglnloiaa.G
namespace Go.Proofs.Ytccbcbnglnloiaa.G
open Go Go.Proofs Go.RowKit Go.Shelf
open Go.ChangeMaps Go.MapKept
attribute [local go_sem] Oper.semAt_some
theorem info22 : (Try.prog.info? 22).map (fun i => (i.zero, i.size, i.bytes)) = some (some (.int .u32 0), 1, 4) := by kernel_rfl
set_option maxRecDepth 100000 in
set_option maxHeartbeats 4000000 in
theorem keys1_in (F : Fence) (n : Nat) (hf : F.fn 47) (hro : F.round = none) (hn1 : 1 ≤ n) (l Bm om b : Nat) (es : Array MapEntry) (clock : Nat) (J Jx : List Int → World → Prop) (W : World) (hJ : AbidesFrom W.heap.size J)
  (hold : ∀ x ∈ es.toList, x.born < clock) (hnd : (es.toList.map (·.born)).Nodup) (hk : ∀ x ∈ es.toList, ∃ t : Int, x.key = .int .u32 t)
  (hY : ∀ pre x W1, J pre W1 → pre.length < es.size → YieldAt F (n - 1) Try.prog l #[.int .u32 x] W1 fun e W' => (e = .returned (.bool true) ∧ J (pre ++ [x]) W' ∧ KeepsWalks W1 W') ∨ (e = .returned (.bool false) ∧ Jx (pre ++ [x]) W'))
  (hm : W.cell? ⟨Bm, om, none⟩ = some (.map (some b))) (hb : W.heap[b]? = some (.map es clock)) (h0 : J [] W) :
  CallsIn F n Try.prog 47 #[.func (.yield l) #[] #[], .pointer (some ⟨Bm, om, none⟩)] W fun e W' => (∃ v, e = .returned v) ∧
   ((∃ ss : List Int, ss.Perm (keysK (es.toList.map (·.key))) ∧ J ss W') ∨ (∃ pre, True ∧ Jx pre W')) := by
 refine callsIn_of_wp Try.func47 rfl hf ?_ hro
 simp only [Try.ntmps47, List.size_toArray, List.length_cons, List.length_nil, Nat.reduceAdd, Nat.reduceSub, Array.replicate_succ, Array.replicate_zero, List.push_toArray, List.append_toArray, List.nil_append, List.cons_append]
 gi_wp2_with (first
  | (gi_at_range; refine wpListIn_range_mr _ rfl _ 81 rfl 22 22 Try.underlying81 b es clock rfl hb ?_; intro w0 hm0 hg0 hs0)
  | gi_in)
 go_frame
 gi_loopw [3] (fun _ wr => ∃ (seen : Array Nat) (ss : List Int), MR wr b W.heap.size es clock seen ∧ ss.length + (leftOf es seen).size ≤ es.size ∧ ss.Perm (keysK ((es.toList.filter fun x => seen.contains x.born).map (·.key))) ∧ J ss wr)
  (fun _ wr => leftN wr b W.heap.size)
 case atStart =>
  refine ⟨#[], [], hm0, ?_, by simp [keysK], hJ [] W w0 none h0 hg0 (fun r e => by cases e)⟩
  have := leftOf_len es #[]
  simp at this ⊢; omega
 case round =>
  obtain ⟨seen, ss, hmr, hcs, hP, hJs⟩ := hrel
  gi_wp2_with (first
   | (gi_at_next; refine wpListIn_next_mr _ rfl _ rfl b W.heap.size es clock seen rfl hmr hold hnd ?_ ?_)
   | gi_in)
  ·intro hz
   have hall : (es.toList.filter fun x => seen.contains x.born) = es.toList := List.filter_eq_self.2 (fun x hx => all_seen es seen (by rw [hz]; rfl) x hx)
   rw [hall] at hP
   gi_wp2
   go_end0
   exact ⟨⟨_, rfl⟩, .inl ⟨ss, hP, hJs⟩⟩
  ·intro x w2 hx hxs hm2 hlt hg2 hs2 hen
   have hx' : x ∈ es.toList := by simpa using hx
   obtain ⟨t, hxk⟩ := hk x hx'
   have hxs' : seen.contains x.born = false := by simpa using hxs
   have hln := seen_push hnd hx' hxs'
   have hl1 := hmr.left
   obtain ⟨c0, hr0, _⟩ := hmr.it
   have hJ2 : J ss w2 := hJ ss wr w2 (some W.heap.size) hJs hg2 (fun r e => by cases e; exact ⟨Nat.le_refl _, _, hr0, rfl⟩)
   obtain ⟨fn, tmps, assign, body, hy, hR⟩ := hY ss t w2 hJ2 (by omega)
   rw [hxk] at hen ⊢
   clear hs2
   gi_wp2
   refine hR.mono ?_
   rintro e W3 (⟨rfl, hJ3, hk3⟩ | ⟨rfl, hJx3⟩)
   ·gi_wp2
    have hm3 := hm2.walks hk3
    go_roundw
    case rel =>
     refine ⟨_, ss ++ [t], hm3, by simp; omega, ?_, hJ3⟩
     refine List.Perm.trans (hP.append_right [t]) ?_
     refine List.Perm.trans ?_ ((hln.map (·.key)).filterMap keyI).symm
     simp only [keysK, List.map_append, List.filterMap_append, List.map_cons, List.map_nil, List.filterMap_cons, hxk, keyI, List.filterMap_nil]
     exact List.Perm.refl _
    case measure => rw [hm3.left, hl1]; exact hlt
   ·gi_wp2
    refine bodyPost_ret (results_none rfl _ _ _) rfl ?_
    exact ⟨⟨_, rfl⟩, .inr ⟨ss ++ [t], trivial, hJx3⟩⟩
theorem keys_stops (F : Fence) (n : Nat) (hf : F.fn 47) (hro : F.round = none) (hn1 : 1 ≤ n) (Bm om b : Nat) (es : Array MapEntry) (clock : Nat) (w : World) (hBm : Bm < w.heap.size)
  (hold : ∀ x ∈ es.toList, x.born < clock) (hnd : (es.toList.map (·.born)).Nodup) (hk : ∀ x ∈ es.toList, ∃ t : Int, x.key = .int .u32 t)
  (hm : w.cell? ⟨Bm, om, none⟩ = some (.map (some b))) (hb : w.heap[b]? = some (.map es clock)) :
  SeqStopsK F n Try.prog 47 #[.pointer (some ⟨Bm, om, none⟩)] (fun x : Int => #[Value.int .u32 x]) KeepsWalks (fun ss => ss.Perm (keysK (es.toList.map (·.key)))) (fun _ => True) es.size w := fun l J Jx W hW hJ hJx hY h0 =>
 keys1_in F n hf hro hn1 l Bm om b es clock J Jx W hJ hold hnd hk hY ((hW.cell (p := ⟨Bm, om, none⟩) hBm).trans hm) ((hW.block b (Array.getElem?_eq_some_iff.1 hb).1).trans hb) h0
set_option maxRecDepth 100000 in
set_option maxHeartbeats 4000000 in
theorem appendSeq_in (F : Fence) (n : Nat) (h54 : F.fn 54) (h47 : F.fn 47) (hro : F.round = none) (hn : 3 ≤ n) (Bm om b : Nat) (es : Array MapEntry) (clock : Nat) (w : World) (hBm : Bm < w.heap.size)
  (hold : ∀ x ∈ es.toList, x.born < clock) (hnd : (es.toList.map (·.born)).Nodup) (hk : ∀ x ∈ es.toList, ∃ t : Int, x.key = .int .u32 t) (hsz : es.size ≤ 1000000)
  (hm : w.cell? ⟨Bm, om, none⟩ = some (.map (some b))) (hb : w.heap[b]? = some (.map es clock)) :
  CallsIn F n Try.prog 54 #[.slice none 0 0, .func (.func 47) #[] #[.pointer (some ⟨Bm, om, none⟩)]] w fun e W' => ∃ (v : Value) (ss : List Int), e = .returned v ∧ ss.Perm (keysK (es.toList.map (·.key))) ∧
   W'.ownsRow w.heap.size 22 1 v ss.length (ss.map (Value.int .u32)) ∧ (ss = [] → v = .slice none 0 0) ∧ Below w.heap.size w W' := by
 have h1 : 1 ≤ n := by omega
 obtain ⟨i0, hi, hz0, hz1, hz2⟩ := info_parts info22
 have hbl := (Array.getElem?_eq_some_iff.1 hb).1
 refine callsIn_of_wp_marks Try.func54 rfl h54 ?_ hro
 simp only [Try.ntmps54, List.size_toArray, List.length_cons, List.length_nil, Nat.reduceAdd, Nat.reduceSub, Array.replicate_succ, Array.replicate_zero, List.push_toArray, List.append_toArray, List.nil_append, List.cons_append]
 gi_wp2
 have bO := Boxed.new w 49 (.slice none 0 0)
 have hB0 : Below w.heap.size w (w.alloc (.cells #[.slice none 0 0] 49)) := (Below.refl _ w).alloc (Nat.le_refl _) _
 refine wpIn_rangeFunc_ownG hro h1 (gf := 47) (lb := #[.pointer (some ⟨Bm, om, none⟩)]) rfl h47 (enters_of Try.func47 (by kernel_rfl) rfl)
  (keys_stops F (n - 1) h47 hro (by omega) Bm om b es clock (w.alloc (.cells #[.slice none 0 0] 49)) (by simp; omega) hold hnd hk ((hB0.cell (p := ⟨Bm, om, none⟩) hBm).trans hm) ((hB0.block b hbl).trans hb)) walksK_t walksK_b (Below.refl _ _) (fun _ => rfl)
  (fun pre W => (∃ v, Boxed W w.heap.size 49 v ∧ W.ownsRow w.heap.size 22 1 v pre.length (pre.map (Value.int .u32)) ∧ (v = .slice none 0 0 ↔ pre = [])) ∧ Below w.heap.size w W)
  (fun _ _ _ => False)
  (OwnFrom.and (Own.from (holdsRow_own w.heap.size w.heap.size 49 22 1 (fun pre => pre.length) (fun pre => pre.map (Value.int .u32)) (fun pre v => v = .slice none 0 0 ↔ pre = [])) _) (ownFrom_below (Nat.le_refl _) (by simp)))
  (fun _ _ _ _ _ hs _ _ => hs)
  ⟨⟨_, bO, World.ownsRow_nil _ _ _ _, by simp⟩, hB0⟩
  (fun x => { tmps := #[.slice none 0 0, .func (.func 47) #[] #[.pointer (some ⟨Bm, om, none⟩)], .pointer (some ⟨w.heap.size, 0, none⟩), undef, .slice none 0 0, .int .u32 x, .func (.func 47) #[] #[.pointer (some ⟨Bm, om, none⟩)], .int .u32 x, undef, undef, undef, undef, undef], defers := [] }) ?assign ?body ?done ?stop
 case assign =>
  intro l x W K hK
  gi_wp2
  exact hK
 case body =>
  rintro l pre x W ⟨⟨v, hv, hrow, hnil⟩, hB⟩ hlt
  have hc := hv.cell
  gi_wp2_with (gi_at_builtin; refine wpListIn_append_own _ rfl _ _ 49 rfl w.heap.size 22 i0 (.int .u32 0) 1 4 Try.underlying49 hi hz0 hz1 hz2 rfl (by decide) _ _ _ rfl (hrow.alloc _) ⟨W.heap.size, 0, none⟩ 1 1 [.int .u32 x] rfl rfl (cell_one_new _ _ _) (by simp [Value.oneCell']) (by unfold maxLen; omega) (by omega) (by have := hB.size; simp; omega) ?_; intro v' w1 hown' hgrow _; obtain ⟨g', cap', rfl⟩ := ownsRow_succ hown'; obtain ⟨hv1, hv2, hr2, hk2, hb2⟩ := hv.appended (by decide) hrow hB.size (Nat.le_refl _) hown' hgrow; have hc1 := hv1.cell; have hf1 := hv1.frozen)
  exact ⟨hk2.from _, hk2.walks, ⟨_, hv2, by simpa using hr2, by simp⟩, hB.trans hb2⟩
 case done =>
  rintro D ys W hD hP ⟨⟨v, hv, hrow, hnil⟩, hB⟩ hK
  have hc := hv.cell
  gi_wp2
  refine ⟨by simp, .inl ⟨_, _, rfl, run_takeDeferred hK, ?_⟩⟩
  exact ⟨_, results_tmp rfl _ _ _, v, ys, rfl, hP, ownsRow_putObj hrow _ hK rfl, fun h => hnil.2 h, hB.trans (belowK_b (w := w) (Nat.le_refl _) W D _ _ (by simp at hD; omega) hK rfl rfl)⟩
 case stop =>
  rintro D c pre W _ _ h _
  exact h.elim
set_option maxHeartbeats 2000000 in
theorem collect_in (F : Fence) (n : Nat) (h45 : F.fn 45) (h54 : F.fn 54) (h47 : F.fn 47) (hro : F.round = none) (hn : 4 ≤ n) (Bm om b : Nat) (es : Array MapEntry) (clock : Nat) (w : World) (hBm : Bm < w.heap.size)
  (hold : ∀ x ∈ es.toList, x.born < clock) (hnd : (es.toList.map (·.born)).Nodup) (hk : ∀ x ∈ es.toList, ∃ t : Int, x.key = .int .u32 t) (hsz : es.size ≤ 1000000)
  (hm : w.cell? ⟨Bm, om, none⟩ = some (.map (some b))) (hb : w.heap[b]? = some (.map es clock)) :
  CallsIn F n Try.prog 45 #[.func (.func 47) #[] #[.pointer (some ⟨Bm, om, none⟩)]] w fun e W' => ∃ (v : Value) (ss : List Int), e = .returned v ∧ ss.Perm (keysK (es.toList.map (·.key))) ∧
   W'.ownsRow w.heap.size 22 1 v ss.length (ss.map (Value.int .u32)) ∧ (ss = [] → v = .slice none 0 0) ∧ Below w.heap.size w W' := by
 have h1 : 1 ≤ n := by omega
 refine callsIn_of_wp Try.func45 rfl h45 ?_ hro
 simp only [Try.ntmps45, List.size_toArray, List.length_cons, List.length_nil, Nat.reduceAdd, Nat.reduceSub, Array.replicate_succ, Array.replicate_zero, List.push_toArray, List.append_toArray, List.nil_append, List.cons_append]
 gi_wp2_with (gi_at_call 54; refine (appendSeq_in F (n - 1) h54 h47 hro (by omega) Bm om b es clock _ hBm hold hnd hk hsz hm hb).mono ?_; rintro e w' ⟨v, ss, rfl, hP, hrow, hnil, hB⟩)
 go_ret
 exact ⟨v, ss, rfl, hP, hrow, hnil, hB⟩
set_option maxHeartbeats 2000000 in
theorem sorted_walk (Bm om b : Nat) (es : Array MapEntry) (clock : Nat) (w : World) (hBm : Bm < w.heap.size) (Q : Value → World → Prop)
  (hold : ∀ x ∈ es.toList, x.born < clock) (hnd : (es.toList.map (·.born)).Nodup) (hk : ∀ x ∈ es.toList, ∃ t : Int, x.key = .int .u32 t) (hsz : es.size ≤ 1000000)
  (hm : w.cell? ⟨Bm, om, none⟩ = some (.map (some b))) (hb : w.heap[b]? = some (.map es clock))
  (hsort : ∀ (w1 : World) (v : Value) (ts : List Int), ts.Perm (keysK (es.toList.map (·.key))) → w1.ownsRow w.heap.size 22 1 v ts.length (ts.map (.int .u32)) → (ts = [] → v = .slice none 0 0) → Below w.heap.size w w1 →
   Calls Try.prog 46 #[v] w1 fun e w' => (∃ c, e = .returned c) ∧ Q v w') :
  Calls Try.prog 33 #[.func (.func 47) #[] #[.pointer (some ⟨Bm, om, none⟩)]] w fun e w' => ∃ v, e = .returned v ∧ Q v w' := by
 go_enter Try.func33, Try.ntmps33
 go_wp2_with (first
  | (go_at_call 45; refine ((callsIn_wide (n := 6)).1 (collect_in Fence.wide 6 trivial trivial trivial rfl (by omega) Bm om b es clock _ hBm hold hnd hk hsz hm hb)).mono ?_; rintro e w1 ⟨v, ss, rfl, hP, hrow, hnil, hB⟩)
  | (go_at_call 46; refine (hsort w1 v ss hP hrow hnil hB).mono ?_; rintro e w' ⟨⟨c, rfl⟩, hq⟩)
  | go_in)
 go_ret
 exact ⟨_, rfl, hq⟩
end Go.Proofs.Ytccbcbnglnloiaa.G
namespace Go.Proofs.Ytccbcbnglnloiaa.G
open Go Go.Proofs Go.RowKit Go.Shelf
open Go.ChangeMaps Go.MapKept
set_option maxHeartbeats 2000000 in
set_option maxRecDepth 100000 in
theorem conf1_calls (k t : Int) (v : Value) (q oq : Nat) (w : World) (h : w.cell? ⟨q, oq + 98, none⟩ = some (.int .u32 t)) : Calls Try.prog 40 #[.int .u32 k, v, .pointer (some ⟨q, oq, none⟩)] w fun e w' => e = .returned (.bool (decide (k ≤ t))) ∧ w' = w := by
 go_enter Try.func40, Try.ntmps40
 go_wp2
 go_ret
 exact ⟨rfl, rfl⟩
theorem Stp.turn {ι ι' : Inj} {H H' : Heap} {w w1 w2 : World} {r : Nat} (h : Stp ι H w ι' H' w1) (hg : w1.grownBy w2 (some r)) (hr : w.heap.size ≤ r) (hn : ∀ b l, ι' b = some l → l.blk ≠ r) : Stp ι H w ι' H' w2 := by
 have hb : ∀ b l, ι' b = some l → w2.heap[l.blk]? = w1.heap[l.blk]? := fun b l hl => hg.block l.blk (h.rel.bound b l hl) (fun e => hn b l hl (Option.some.inj e))
 refine ⟨⟨h.rel.dom, fun b l hl => Nat.lt_of_lt_of_le (h.rel.bound b l hl) hg.size, ?_, ?_, ?_, h.rel.inj⟩, h.le, h.old, h.size, Nat.le_trans h.wsize hg.size, h.unm, ?_, h.mine, hg.os.trans h.os, hg.tape.trans h.tape, hg.output.trans h.output⟩
 ·intro b l cs ro hl hH i v hv
  obtain ⟨h3, c, h4, h5⟩ := h.rel.cells b l cs ro hl hH i v hv
  exact ⟨h3, c, by rw [cell_other (hb b l hl)]; exact h4, h5⟩
 ·intro b l cs hl hH
  obtain ⟨C, t, fr, h1, h2⟩ := h.rel.rw b l cs hl hH
  exact ⟨C, t, fr, by rw [hb b l hl]; exact h1, h2⟩
 ·intro b l es k hl hH
  obtain ⟨es', h1, h2⟩ := h.rel.maps b l es k hl hH
  exact ⟨es', by rw [hb b l hl]; exact h1, h2⟩
 ·intro k hk hno
  rw [hg.block k (Nat.lt_of_lt_of_le hk h.wsize) (fun e => by have := Option.some.inj e; omega)]
  exact h.keep k hk hno
theorem wpList_next_del {P : Program} (w : World) {ops : Array Oper} {rest : List Oper} {o : Oper} {a : Act} {Q : Exit → Act → World → Prop} (hg : o.guard = none) (it : Operand) (hop : o.op = Op.next it false) (b r : Nat) (es : Array MapEntry) (clock since c0 : Nat) (seen : Array Nat)
  (hit : a.eval it = .pointer (some ⟨r, 0, none⟩)) (hb : w.heap[b]? = some (.map es clock)) (hr : w.heap[r]? = some (.mapIter (some b) since seen c0)) (hc0 : since ≤ c0) (hc1 : since ≤ clock) (hold : ∀ x ∈ es.toList, x.born < since) (hn : (es.toList.map (·.born)).Nodup)
  (hDone : (leftOf es seen).size = 0 → wpList P ops Q rest (a.put o.dst (.tuple #[.bool false])) w)
  (hMore : ∀ (x : MapEntry) (w' : World), x ∈ es.toList → seen.contains x.born = false → w'.heap[b]? = some (.map es clock) → (∃ c1, w'.heap[r]? = some (.mapIter (some b) since (seen.push x.born) c1) ∧ since ≤ c1) → (leftOf es (seen.push x.born)).size < (leftOf es seen).size → w.grownBy w' (some r) →
   (Instr.entry (.pointer (some ⟨r, 0, none⟩))).run P w' = .ok (.tuple #[x.key, x.val]) w' → wpList P ops Q rest (a.put o.dst (.tuple #[.bool true, x.key, x.val])) w') :
  wpList P ops Q (o :: rest) a w := by
 refine wpList_plain hg fun K' hK' => ?_
 unfold Oper.wp
 have hne : r ≠ b := fun e => by subst e; rw [hr] at hb; cases hb
 rcases run_next_at (P := P) w o.type r b since c0 seen es clock hr hb hold hc0 with ⟨h0, hrun⟩ | ⟨e, he, w1, hal, hrun⟩
 ·simp [execOp, hop, hit, hrun, Result.andThen]
  exact hK' _ _ (hDone h0)
 ·obtain ⟨hem, hes⟩ := mem_left he
  have hr1 : w1.heap[r]? = some (.mapIter (some b) since seen c0) := by rcases hal with rfl | rfl <;> exact hr
  have hb1 : w1.heap[b]? = some (.map es clock) := by rcases hal with rfl | rfl <;> exact hb
  have hset := heap_set (o' := .mapIter (some b) since (seen.push e.born) clock) hr1
  have hb' : (setBlock w1 r (.mapIter (some b) since (seen.push e.born) clock)).heap[b]? = some (.map es clock) := (hset.2 b (fun e1 => hne e1.symm)).trans hb1
  simp [execOp, hop, hit, hrun, Result.andThen]
  refine hK' _ _ (hMore e _ hem hes hb' ⟨clock, hset.1, hc1⟩ (left_shrinks es seen e he) ?_ (run_entry_at _ r b since seen es clock e hset.1 hb' hem hn))
  rcases hal with rfl | rfl <;> exact ⟨rfl, rfl, rfl, by simp [setBlock], fun i _ hi => hset.2 i (fun e1 => hi (by rw [e1]))⟩
def keepE (t : Int) (k : Value) : Bool := (keyI k).any fun k => decide (t < k)
def leftE (t : Int) (seen : Array Nat) (e : Ent) : Bool := !(seen.contains e.born) || keepE t e.key
theorem delE_filter {k : Value} : ∀ {l : List Ent}, (l.map (·.key)).Nodup → delE k l = l.filter fun e => decide (e.key ≠ k)
 | [], _ => rfl
 | a :: l, h => by
  simp only [List.map_cons, List.nodup_cons] at h
  unfold delE
  by_cases e : k = a.key
  ·rw [if_pos e, List.filter_cons_of_neg (by simp [e])]
   refine (List.filter_eq_self.2 fun y hy => ?_).symm
   simp only [decide_eq_true_eq]
   intro h1
   exact h.1 (by rw [← e, ← h1]; exact List.mem_map_of_mem hy)
  ·rw [if_neg e, List.filter_cons_of_pos (by simp; exact fun h => e h.symm), delE_filter h.2]
theorem nodup_inj {α : Type} {f : Ent → α} : ∀ {l : List Ent}, (l.map f).Nodup → ∀ {y e : Ent}, y ∈ l → e ∈ l → f y = f e → y = e
 | [], _, _, _, hy, _, _ => by simp at hy
 | a :: l, h, y, e, hy, he, hf => by
  simp only [List.map_cons, List.nodup_cons] at h
  rcases List.mem_cons.1 hy with hy1 | hy1
  ·rcases List.mem_cons.1 he with he1 | he1
   ·rw [hy1, he1]
   ·exact absurd (by rw [← hy1, hf]; exact List.mem_map_of_mem he1) h.1
  ·rcases List.mem_cons.1 he with he1 | he1
   ·exact absurd (by rw [← he1, ← hf]; exact List.mem_map_of_mem hy1) h.1
   ·exact nodup_inj h.2 hy1 he1 hf
theorem push_has (seen : Array Nat) (b y : Nat) : (seen.push b).contains y = (seen.contains y || y == b) := by
 rw [Bool.eq_iff_iff]; simp
theorem left_keep {t : Int} {seen : Array Nat} {l : List Ent} {e : Ent} (hb : (l.map (·.born)).Nodup) (he : e ∈ l) (hk : keepE t e.key = true) : l.filter (leftE t (seen.push e.born)) = l.filter (leftE t seen) := by
 refine List.filter_congr fun y hy => ?_
 simp only [leftE, push_has]
 by_cases h : y.born = e.born
 ·have : y = e := nodup_inj hb hy he h
  rw [this, hk]; simp
 ·have : (y.born == e.born) = false := by simpa using h
  rw [this, Bool.or_false]
theorem left_drop {t : Int} {seen : Array Nat} {l : List Ent} {e : Ent} (hb : (l.map (·.born)).Nodup) (hn : (l.map (·.key)).Nodup) (he : e ∈ l) (hk : keepE t e.key = false) : l.filter (leftE t (seen.push e.born)) = delE e.key (l.filter (leftE t seen)) := by
 rw [delE_filter (hn.sublist (List.filter_sublist.map _)), List.filter_filter]
 refine List.filter_congr fun y hy => ?_
 simp only [leftE, push_has]
 by_cases h : y = e
 ·subst h; rw [hk]; simp
 ·have h1 : (y.born == e.born) = false := by
   simp only [beq_eq_false_iff_ne, ne_eq]
   exact fun h2 => h (nodup_inj hb hy he h2)
  have h2 : decide (y.key ≠ e.key) = true := by
   simp only [decide_eq_true_eq]
   exact fun h2 => h (nodup_inj hn hy he h2)
  rw [h1, h2, Bool.or_false, Bool.true_and]
theorem leftOf_born (es : Array MapEntry) (seen : Array Nat) : (leftOf es seen).size = ((es.toList.map (·.born)).filter fun b => !seen.contains b).length := by
 unfold leftOf
 rw [← Array.length_toList, Array.toList_filter, List.filter_map, List.length_map]; rfl
theorem ER.kb {ι : Inj} : ∀ {a : List Ent} {b : List MapEntry}, ER ι a b → b.map (·.key) = a.map (·.key) ∧ b.map (·.born) = a.map (·.born)
 | [], [], _ => ⟨rfl, rfl⟩
 | [], _ :: _, h => by simp [ER] at h
 | _ :: _, [], h => by simp [ER] at h
 | a :: x, b :: y, h => by
  simp only [ER] at h
  obtain ⟨h1, h2⟩ := ER.kb h.2.2.2.2
  simp only [List.map_cons, h1, h2, h.2.1, h.2.2.2.1, and_self]
theorem ER.mem {ι : Inj} : ∀ {a : List Ent} {b : List MapEntry}, ER ι a b → ∀ x ∈ b, ∃ e ∈ a, x.key = e.key ∧ x.born = e.born
 | [], [], _, x, hx => by simp at hx
 | [], _ :: _, h, _, _ => by simp [ER] at h
 | _ :: _, [], h, _, _ => by simp [ER] at h
 | a :: as', b :: bs, h, x, hx => by
  simp only [ER] at h
  rcases List.mem_cons.1 hx with rfl | hx
  ·exact ⟨a, by simp, h.2.1, h.2.2.2.1⟩
  ·obtain ⟨e, he, h2⟩ := ER.mem h.2.2.2.2 x hx
   exact ⟨e, by simp [he], h2⟩
set_option maxHeartbeats 4000000 in
set_option maxRecDepth 100000 in
theorem delf_walk {ι : Inj} {H : Heap} {w : World} (h : Rel ι H w) {b p c o : Nat} {es : List Ent} {l lp : Loc} {cs : List Value} {ro : Bool} {t : Int} (hl : ι b = some l) (hH : H[b]? = some (.map es c)) (hlp : ι p = some lp) (hHp : H[p]? = some (.cells cs ro)) (hcs : cs[o + 98]? = some (.int .u32 t)) (hpb : p ≠ b)
  (hk : ∀ e ∈ es, ∃ k : Int, e.key = .int .u32 k) (hnb : (es.map (·.born)).Nodup) (hnk : (es.map (·.key)).Nodup) (hbc : ∀ e ∈ es, e.born < c) :
  Calls Try.prog 39 #[.map (some l.blk), .func (.func 40) #[] #[.pointer (some ⟨lp.blk, lp.δ + o, none⟩)]] w fun e w' => (∃ v, e = .returned v) ∧ ∃ ι', Stp ι H w ι' (H.setIfInBounds b (.map (es.filter fun e => keepE t e.key) c)) w' := by
 have hbl : l.blk < w.heap.size := h.bound b l hl
 have hbH : b < H.size := h.dom b l hl
 obtain ⟨es0, hw0, her0⟩ := h.maps b l es c hl hH
 go_enter Try.func39, Try.ntmps39
 go_wp2_with (first
  | (at_range; refine wpList_range_mr _ rfl _ 81 rfl 22 22 Try.underlying81 l.blk es0 c rfl hw0 ?_; intro w0 hm0 hg0 hs0)
  | go_in)
 go_frame
 go_loopw [4] (fun _ wr => ∃ (seen : Array Nat) (ι' : Inj) (c0 : Nat), Stp ι H w ι' (H.setIfInBounds b (.map (es.filter (leftE t seen)) c)) wr ∧ wr.heap[w.heap.size]? = some (.mapIter (some l.blk) c seen c0) ∧ c ≤ c0)
  (fun _ wr => leftN wr l.blk w.heap.size)
 case atStart =>
  obtain ⟨c0, hr0, hc0⟩ := hm0.it
  have hall : es.filter (leftE t #[]) = es := List.filter_eq_self.2 fun e _ => by simp [leftE]
  have hset : H.setIfInBounds b (.map es c) = H := by
   apply Array.ext_getElem?
   intro i
   rw [Array.getElem?_setIfInBounds]
   split
   ·rename_i e; subst e; rw [hH]
   ·rfl
  refine ⟨#[], ι, c0, ?_, hr0, hc0⟩
  rw [hall, hset]
  exact Stp.below h ⟨hg0.os, hg0.tape, hg0.output, hg0.size, fun k hk => hg0.block k hk (by simp)⟩
 case round =>
  obtain ⟨seen, ι', c0, hst, hr, hc0⟩ := hrel
  have hι : ∀ b l, ι' b = some l → l.blk ≠ w.heap.size := fun b' l' hb' => by
   have h1 : b' < H.size := by simpa using hst.rel.dom b' l' hb'
   rw [hst.old b' h1] at hb'
   exact Nat.ne_of_lt (h.bound b' l' hb')
  have hl' : ι' b = some l := hst.le b l hl
  have hHb : (H.setIfInBounds b (.map (es.filter (leftE t seen)) c))[b]? = some (.map (es.filter (leftE t seen)) c) := by simp [hbH]
  obtain ⟨es1, hw1, her1⟩ := hst.rel.maps b l _ c hl' hHb
  obtain ⟨k1, k2⟩ := her1.kb
  have hold : ∀ x ∈ es1.toList, x.born < c := fun x hx => by
   obtain ⟨e, he, _, e2⟩ := her1.mem x hx
   rw [e2]; exact hbc e (List.mem_filter.1 he).1
  have hnd : (es1.toList.map (·.born)).Nodup := by rw [k2]; exact hnb.sublist (List.filter_sublist.map _)
  go_wp2_with (first
   | (at_next; refine wpList_next_del _ rfl _ rfl l.blk w.heap.size es1 c c c0 seen rfl hw1 hr hc0 (Nat.le_refl _) hold hnd ?_ ?_)
   | go_in)
  ·intro hz
   have hfin : es.filter (leftE t seen) = es.filter fun e => keepE t e.key := by
    refine List.filter_congr fun e he => ?_
    cases hq : leftE t seen e with
    | false =>
     simp only [leftE, Bool.or_eq_false_iff] at hq
     exact hq.2.symm
    | true =>
     have hm : e ∈ es.filter (leftE t seen) := List.mem_filter.2 ⟨he, hq⟩
     have hb' : e.born ∈ es1.toList.map (·.born) := by rw [k2]; exact List.mem_map_of_mem hm
     obtain ⟨x, hx, hxe⟩ := List.mem_map.1 hb'
     have hs := all_seen es1 seen (by rw [hz]; rfl) x hx
     rw [hxe] at hs
     simp only [leftE, hs, Bool.not_true, Bool.false_or] at hq
     exact hq.symm
   rw [hfin] at hst
   go_wp2
   go_end0
   exact ⟨⟨_, rfl⟩, ι', hst⟩
  ·intro x w2 hx hxs hb2 c1 hr2 hc1 hlt hg2 hen
   have hx' : x ∈ es1.toList := by simpa using hx
   obtain ⟨e0, he0, ek, eb⟩ := her1.mem x hx'
   have hem := (List.mem_filter.1 he0).1
   obtain ⟨kk, hkk⟩ := hk e0 hem
   have hxk : x.key = .int .u32 kk := ek.trans hkk
   have hst2 := hst.turn hg2 (Nat.le_refl _) hι
   have hcell : w2.cell? ⟨lp.blk, lp.δ + o + 98, none⟩ = some (.int .u32 t) := by
    obtain ⟨_, cc, g1, g2⟩ := hst2.rel.cells p lp cs ro (hst.le p lp hlp) (by rw [Array.getElem?_setIfInBounds, if_neg (Ne.symm hpb)]; exact hHp) (o + 98) _ hcs
    simp only [VR] at g2
    subst g2
    rw [Nat.add_assoc]; exact g1
   have hl1 : leftN wr l.blk w.heap.size = (leftOf es1 seen).size := by simp only [leftN, hw1, hr]
   have hcall := conf1_calls kk t x.val lp.blk (lp.δ + o) w2 hcell
   have hgood : goodKeys (.int .u32) (.int .u32 kk) (es.filter (leftE t seen)) = true := by
    simp only [goodKeys, Bool.and_eq_true, List.all_eq_true]
    refine ⟨rfl, fun e he => ?_⟩
    obtain ⟨k', hk'⟩ := hk e (List.mem_filter.1 he).1
    rw [hk']; rfl
   have hset2 : (H.setIfInBounds b (.map (es.filter (leftE t seen)) c)).setIfInBounds b (.map (delE (.int .u32 kk) (es.filter (leftE t seen))) c) = H.setIfInBounds b (.map (delE (.int .u32 kk) (es.filter (leftE t seen))) c) := by
    apply Array.ext_getElem?
    intro i
    by_cases hi : i = b
    ·subst hi; simp [hbH]
    ·simp [Ne.symm hi]
   obtain ⟨ι2, cv, w4, hrun, _, hst4⟩ := sim_del (P := Try.prog) hst2.rel (mt := 81) (kt := 22) (el := 22) Try.underlying81 (s := .int .u32) (by kernel_rfl) 0 22 (m := .map (some b)) (k := .int .u32 kk) (cm := .map (some l.blk)) (ck := .int .u32 kk) (r := .tuple #[]) (H' := H.setIfInBounds b (.map (delE (.int .u32 kk) (es.filter (leftE t seen))) c)) (by simp only [VR]; exact ⟨l, hl', rfl⟩) (by simp [VR]) (by simp only [adelete, hHb, hgood, if_true, hset2])
   have hr4 : w4.heap[w.heap.size]? = some (.mapIter (some l.blk) c (seen.push x.born) c1) := by
    rw [hst4.keep w.heap.size (Array.getElem?_eq_some_iff.1 hr2).1 (fun b' l' hb' he => absurd he (hι b' l' hb'))]
    exact hr2
   have hb4 : ∃ es4 : Array MapEntry, w4.heap[l.blk]? = some (.map es4 c) ∧ ER ι2 (delE (.int .u32 kk) (es.filter (leftE t seen))) es4.toList := by
    exact hst4.rel.maps b l _ c (hst4.le b l hl') (by simp [hbH])
   rw [hxk] at hen ⊢
   go_wp2_with (first
    | (go_at_call 40; refine hcall.mono ?_; rintro e w' ⟨rfl, rfl⟩)
    | go_in)
   ·have hle : kk ≤ t := by first | assumption | (simp_all; done) | omega
    have hkeep : keepE t e0.key = false := by rw [hkk]; simp [keepE, keyI]; omega
    have hdrop := left_drop (seen := seen) (t := t) hnb hnk hem hkeep
    rw [← eb, hkk] at hdrop
    obtain ⟨es4, hw4, her4⟩ := hb4
    have hsub : (es4.toList.map (·.born)).Sublist (es1.toList.map (·.born)) := by
     rw [(her4.kb).2, k2]
     refine List.Sublist.map _ ?_
     rw [delE_filter (hnk.sublist (List.filter_sublist.map _))]
     exact List.filter_sublist
    refine ⟨⟨seen.push x.born, ι2, c1, ?_, hr4, hc1⟩, ?_⟩
    ·rw [hdrop]; exact hst2.trans hst4
    ·rw [hl1]
     have h4 : leftN w4 l.blk w.heap.size = (leftOf es4 (seen.push x.born)).size := by simp only [leftN, hw4, hr4]
     rw [h4, leftOf_born]
     have h5 := (hsub.filter (fun b => !(seen.push x.born).contains b)).length_le
     rw [← leftOf_born es1] at h5
     omega
   ·have hle : ¬ kk ≤ t := by first | assumption | (simp_all; done) | omega
    have hkeep : keepE t e0.key = true := by rw [hkk]; simp [keepE, keyI]; omega
    have hkp := left_keep (seen := seen) (t := t) hnb hem hkeep
    rw [← eb] at hkp
    refine ⟨⟨seen.push x.born, ι', c1, by rw [hkp]; exact hst2, hr2, hc1⟩, ?_⟩
    rw [hl1]
    simp only [leftN, hb2, hr2]
    exact hlt
end Go.Proofs.Ytccbcbnglnloiaa.G
namespace Go.Proofs.Ytccbcbnglnloiaa.G
open Go Go.Proofs Go.RowKit
def sortS : List FuncId := [46, 55, 56, 68, 69, 70, 71, 72, 73, 74, 75, 76, 77, 78, 86, 87, 88, 89, 90, 91, 96]
def sortR (f : FuncId) : Bool := sortS.contains f
theorem sort_closed : (sortS.all fun f => (compileFn Try.prog f).all fun s => codeIn sortR s.body) = true := by kernel_rfl
theorem sort_acall (n : Nat) : acall (givenBook Try.prog givGL) n 46 = acall (plainBook Try.prog) n 46 := by
 refine acall_in (R := sortR) (B1 := givenBook Try.prog givGL) (B2 := plainBook Try.prog) rfl (fun f hf => ?_) n 46 rfl
 have hm : f ∈ sortS := by simpa [sortR] using hf
 refine ⟨?_, rfl, rfl, rfl, fun s hs => ?_⟩
 ·show gvL givGL f = none
  simp only [sortS, List.mem_cons, List.not_mem_nil, or_false] at hm
  rcases hm with rfl | rfl | rfl | rfl | rfl | rfl | rfl | rfl | rfl | rfl | rfl | rfl | rfl | rfl | rfl | rfl | rfl | rfl | rfl | rfl | rfl <;> rfl
 ·have h1 := List.all_eq_true.1 sort_closed f hm
  have hs' : compileFn Try.prog f = some s := hs
  rw [hs'] at h1
  exact h1
theorem uL_crl {W : Wd} (X : List Int) : CRL W (uL X) (X.map (Value.int .u32)) := by
 induction X with
 | nil => simp [uL, CRL]
 | cons a X ih =>
  simp only [uL, List.map_cons] at ih ⊢
  exact CRL.cons_iff.2 ⟨_, _, rfl, rfl, rfl, by simp [uI, CR, scOK, one], ih⟩
theorem crl_uL {W : Wd} : ∀ {X : List Int} {l : List Value}, CRL W (uL X) l → l = X.map (Value.int .u32)
 | [], l, h => by simpa [uL, CRL] using h
 | a :: X, l, h => by
  obtain ⟨u, us, rfl, _, _, h3, h4⟩ := CRL.cons_iff.1 h
  rw [crl_uL h4]
  simp only [uI, CR] at h3
  simp only [List.cons.injEq, and_true] at h3
  rw [h3.1]; rfl
theorem sort_calls {ι : Inj} {H : Heap} {w w1 : World} {v : Value} {ts : List Int} (h : Rel ι H w) (hB : Below w.heap.size w w1) (hrow : w1.ownsRow w.heap.size 22 1 v ts.length (ts.map (.int .u32))) (hnil : ts = [] → v = .slice none 0 0) (h12 : ts.length ≤ 16) :
  Calls Try.prog 46 #[v] w1 fun e w' => (∃ c, e = .returned c) ∧ ((ts = [] ∧ v = .slice none 0 0 ∧ Stp ι H w ι H w') ∨
   (ts ≠ [] ∧ ∃ ι', VR ι' (.slice (some ⟨H.size, 0, none⟩) ts.length (UNK + 1)) v ∧ Stp ι H w ι' (H.push (.cells ((sortI ts).map (.int .u32)) false)) w')) := by
 by_cases hne : ts = []
 ·obtain rfl := hnil hne
  obtain ⟨v, J', hic, rfl, rfl⟩ := RP_of (Sort_nil #[])
  obtain ⟨n, hn⟩ := ic_lim hic
  have hHR : HR ⟨fun _ => none, fun _ => none⟩ #[] H := ⟨fun b w β h => by simp at h, fun b w β cs ro h => by simp at h, fun b w β es k h => by simp at h, fun b c w v β h => by simp at h, fun β cs h => by simp at h⟩
  obtain ⟨W', c, H', k1, k2, k3⟩ := icall_ok book_ok n 46 _ #[] _ _ hn _ H [.slice none 0 0] hHR (IRL.cons_iff.2 ⟨_, _, rfl, .mk_sc rfl, IRL.nil_iff.2 rfl⟩)
  have k1' : acall (givenBook Try.prog givGL) n 46 [.slice none 0 0] H = some (c, H') := k1
  rw [sort_acall] at k1'
  have hst := Stp.below h hB
  obtain ⟨_, g2⟩ := acall_ok (plainBook_ok Try.prog) n 46 _ H c H' k1' ι w1 [.slice none 0 0] hst.rel (by simp [VRL, VR])
  refine g2.mono fun e w' hh => ?_
  obtain ⟨ι', c', rfl, _, hst'⟩ := hh
  exact ⟨⟨_, rfl⟩, .inl ⟨hne, rfl, hst.trans (Stp.forget0 hst.rel hst' fun b hb => k2.frG b hb fun b w hb => by simp at hb)⟩⟩
 ·rcases hrow.2 with ⟨_, h0⟩ | ⟨g, cap, cur, rfl, hge, hg, hnc, hcm, hcs, htake⟩
  ·exact absurd (List.eq_nil_of_length_eq_zero h0) hne
  have hcl : (ts.map (Value.int .u32)).length ≤ cur.size := by rw [← htake, List.length_take, Array.length_toList]; exact Nat.min_le_right _ _
  have hst := Stp.row h hB hg hge (ts.map (Value.int .u32)) hcl (fun i v hv => by
   rw [← htake, List.getElem?_take] at hv
   split at hv
   ·refine ⟨?_, v, by rw [← Array.getElem?_toList]; exact hv, ?_⟩
    ·have : v ∈ ts.map (Value.int .u32) := by
      rw [← htake]
      exact List.mem_of_getElem? (by rw [List.getElem?_take, if_pos (by assumption)]; exact hv)
     obtain ⟨t, _, rfl⟩ := List.mem_map.1 this; rfl
    ·have : v ∈ ts.map (Value.int .u32) := by
      rw [← htake]
      exact List.mem_of_getElem? (by rw [List.getElem?_take, if_pos (by assumption)]; exact hv)
     obtain ⟨t, _, rfl⟩ := List.mem_map.1 this; simp [VR]
   ·cases hv)
  obtain ⟨v, J', hic, rfl, Y, hY1, hY2, hJ0, _⟩ := RP_of (SortM_ok ts 0 (UNK + 1) h12 #[.cells 0 (uL ts) false] rfl)
  obtain rfl := sortI_eq hY1 hY2
  obtain ⟨n, hn⟩ := ic_lim hic
  have hH2 : (H.push (.cells (ts.map (Value.int .u32)) false))[H.size]? = some (.cells (ts.map (Value.int .u32)) false) := by simp
  have hHR : HR ⟨fun x => if x = 0 then some (0, H.size) else none, fun _ => none⟩ #[.cells 0 (uL ts) false] (H.push (.cells (ts.map (Value.int .u32)) false)) := by
   refine ⟨fun b w β h => ?_, fun b w β cs ro h hc => ?_, fun b w β es k h hc => ?_, fun b c w v β h h' => ?_, fun β cs h => by simp at h⟩
   ·simp only at h; split at h
    ·rename_i e; subst e; simp at h; obtain ⟨rfl, rfl⟩ := h; exact .inl ⟨_, _, rfl⟩
    ·cases h
   ·simp only at h; split at h
    ·rename_i e; subst e; simp at h; obtain ⟨rfl, rfl⟩ := h
     simp at hc; obtain ⟨rfl, rfl⟩ := hc
     exact ⟨_, _, hH2, uL_crl ts, fun _ => ⟨rfl, rfl⟩, fun h => by cases h⟩
    ·cases h
   ·simp only at h; split at h
    ·rename_i e; subst e; simp at hc
    ·cases h
   ·simp only at h h'; split at h
    ·split at h'
     ·omega
     ·cases h'
    ·cases h
  obtain ⟨W', c, H', k1, k2, k3⟩ := icall_ok book_ok n 46 _ _ _ _ hn _ _ [.slice (some ⟨H.size, 0, none⟩) ts.length (UNK + 1)] hHR (IRL.cons_iff.2 ⟨_, _, rfl, by simp only [IR, CR]; exact ⟨0, H.size, H.size, rfl, Nat.le_refl _, rfl, by decide, .inr trivial, fun _ => rfl⟩, IRL.nil_iff.2 rfl⟩)
  have k1' : acall (givenBook Try.prog givGL) n 46 [.slice (some ⟨H.size, 0, none⟩) ts.length (UNK + 1)] (H.push (.cells (ts.map (Value.int .u32)) false)) = some (c, H') := k1
  rw [sort_acall] at k1'
  have hVR : VR (ext ι H.size ⟨g, 0, cur.size⟩) (.slice (some ⟨H.size, 0, none⟩) ts.length (UNK + 1)) (.slice (some ⟨g, 0, none⟩) ts.length cap) := by
   simp only [VR]
   refine ⟨_, ext_new _ _, trivial, .inr (.inl ⟨1, cap, rfl, hnc, by unfold maxLen at hcm; omega, by simp only; omega, rfl⟩)⟩
  obtain ⟨_, g2⟩ := acall_ok (plainBook_ok Try.prog) n 46 _ _ c H' k1' _ w1 [.slice (some ⟨g, 0, none⟩) ts.length cap] hst.rel (by simp only [VRL, and_true]; exact hVR)
  refine g2.mono fun e w' hh => ?_
  obtain ⟨ι', c', rfl, _, hst'⟩ := hh
  obtain ⟨w2, β2, m1, m2⟩ := k2.le.M 0 0 H.size rfl
  obtain ⟨cs, ro, hd⟩ : ∃ cs ro, J'[0]? = some (.cells w2 cs ro) := by
   rcases k2.hr.dom 0 w2 β2 m1 with h | ⟨_, es, k, h⟩
   ·exact h
   ·rw [hJ0] at h; cases h
  rw [hJ0] at hd
  simp only [Option.some.injEq, IB.cells.injEq] at hd
  obtain ⟨rfl, rfl, rfl⟩ := hd
  obtain ⟨_, rfl⟩ : 0 = 0 ∧ β2 = H.size := by
   rcases m2 with ⟨_, h⟩ | h
   ·exact ⟨rfl, h⟩
   ·omega
  obtain ⟨cs', r, hcs', hcr, hr, _⟩ := k2.hr.cells 0 0 H.size _ _ m1 hJ0
  obtain rfl := crl_uL hcr
  obtain ⟨rfl, _⟩ := hr rfl
  refine ⟨⟨_, rfl⟩, .inr ⟨hne, _, hVR, ?_⟩⟩
  have hf := Stp.forget hst.rel hst' hH2 hcs' (by
   generalize sortI ts = l
   induction l with
   | nil => rfl
   | cons a l ih => simp [noRefL, noRef, ih]) (fun b hb hbne => k2.frG b hb fun x w hx => by
    simp only at hx; split at hx
    ·simp at hx; exact absurd hx.2.symm hbne
    ·cases hx)
  have e : (H.push (.cells (ts.map (Value.int .u32)) false)).setIfInBounds H.size (.cells ((sortI ts).map (Value.int .u32)) false) = H.push (.cells ((sortI ts).map (Value.int .u32)) false) := by
   apply Array.ext_getElem?
   intro i
   rw [Array.getElem?_setIfInBounds, Array.getElem?_push, Array.getElem?_push]
   by_cases hi : i = H.size
   ·subst hi; simp
   ·simp [Ne.symm hi, hi]
  rw [e] at hf
  exact hst.trans hf
theorem keyB_V {v : Value} (h : keyB v = true) : ∃ t : Int, v = .int .u32 t := by
 unfold keyB at h
 split at h
 ·exact ⟨_, rfl⟩
 ·cases h
theorem sorted_good {args : List Value} {H H' : Heap} {v : Value} (he : gsorted args H = some (v, H')) : Good Try.prog 33 args H v H' := by
 intro ι w cargs h ha
 refine ⟨fun w => ?_, ?_⟩
 ·unfold callFunc
  have hprog : (program).run Try.prog w = .ok Try.prog w := rfl
  simp only [Sem.run_bind, hprog, Result.andThen_ok, Try.func33]
  rfl
 ·unfold gsorted at he
  split at he
  ·rename_i p o
   split at he
   ·rename_i b hrd
    split at he
    ·rename_i es c hH
     split at he
     ·rename_i hok
      cases cargs with
      | nil => simp [VRL] at ha
      | cons c1 cs =>
       simp only [VRL] at ha
       obtain ⟨h1, h2⟩ := ha
       cases cs with
       | cons _ _ => simp [VRL] at h2
       | nil =>
        simp only [VR] at h1
        obtain ⟨a', b', rfl, ha1, hb1⟩ := h1
        have ha2 := VRA_iff.1 ha1
        have hb2 := VRA_iff.1 hb1
        obtain ⟨l, hl, rfl, rfl⟩ : ∃ l, ι p = some l ∧ a' = #[] ∧ b' = #[.pointer (some ⟨l.blk, l.δ + o, none⟩)] := by
         obtain ⟨al⟩ := a'
         obtain ⟨bl⟩ := b'
         cases al with
         | cons _ _ => simp [VRL] at ha2
         | nil =>
          cases bl with
          | nil => simp [VRL] at hb2
          | cons y ys =>
           simp only [VRL, VR] at hb2
           obtain ⟨⟨l, hl, _, rfl⟩, hys⟩ := hb2
           cases ys with
           | cons _ _ => simp [VRL] at hys
           | nil => exact ⟨l, hl, rfl, rfl⟩
        simp only [rd] at hrd
        split at hrd
        ·rename_i cs ro hHp
         split at hrd
         ·rename_i hle
          have hcs : cs[o]? = some (.map (some b)) := by
           have := congrArg (·[0]?) (Option.some.inj hrd)
           simpa [List.getElem?_take, List.getElem?_drop] using this
          obtain ⟨_, cc, hcell, hcc⟩ := h.cells p l cs ro hl hHp o _ hcs
          simp only [VR] at hcc
          obtain ⟨m, hm, rfl⟩ := hcc
          obtain ⟨es', g1, g2⟩ := h.maps b m es c hm hH
          obtain ⟨k1, k2⟩ := g2.kb
          obtain ⟨_, hok, o5⟩ := hok
          simp only [keysOK, Bool.and_eq_true, decide_eq_true_eq] at hok
          obtain ⟨⟨⟨o1, o2⟩, o3⟩, o4⟩ := hok
          rw [← k1] at o1 o4 o5 he
          rw [← k2] at o2 o3
          rw [List.length_map, Array.length_toList] at o4
          refine (sorted_walk l.blk (l.δ + o) m.blk es' c w (h.bound p l hl) (fun v w' => ∃ ts : List Int, ts.Perm (keysK (es'.toList.map (·.key))) ∧ ((ts = [] ∧ v = .slice none 0 0 ∧ Stp ι H w ι H w') ∨
           (ts ≠ [] ∧ ∃ ι', VR ι' (.slice (some ⟨H.size, 0, none⟩) ts.length (UNK + 1)) v ∧ Stp ι H w ι' (H.push (.cells ((sortI ts).map (.int .u32)) false)) w'))) ?_ o2 ?_ o4 hcell g1 ?_).mono ?_
          ·intro x hx
           have := List.all_eq_true.1 o3 x.born (List.mem_map_of_mem hx)
           simpa using this
          ·intro x hx
           exact keyB_V (List.all_eq_true.1 o1 x.key (List.mem_map_of_mem hx))
          ·intro w1 v ts hP hrow hn hB
           exact (sort_calls h hB hrow hn (by rw [hP.length_eq]; exact o5)).mono fun e w' hh => ⟨hh.1, ts, hP, hh.2⟩
          ·rintro e w' ⟨v', rfl, ts, hP, hh⟩
           have hs : sortI ts = sortI (keysK (es'.toList.map (·.key))) := sortI_eq ((List.mergeSort_perm ts _).trans hP) (by
            have := List.pairwise_mergeSort (le := fun a b : Int => decide (a ≤ b)) (fun a b c h1 h2 => by simp at *; omega) (fun a b => by simp; omega) ts
            simpa [sortI] using this)
           split at he
           ·rename_i hnil
            rw [hnil] at hP
            obtain rfl := List.perm_nil.1 hP
            simp only [Option.some.injEq, Prod.mk.injEq] at he
            obtain ⟨rfl, rfl⟩ := he
            rcases hh with ⟨_, rfl, hst⟩ | ⟨hne, _⟩
            ·exact ⟨ι, _, rfl, by simp [VR], hst⟩
            ·exact absurd rfl hne
           ·rename_i hnil
            simp only [Option.some.injEq, Prod.mk.injEq] at he
            obtain ⟨rfl, rfl⟩ := he
            rcases hh with ⟨rfl, _⟩ | ⟨hne, ι', hv, hst⟩
            ·exact absurd (List.perm_nil.1 hP.symm) hnil
            ·rw [hs] at hst
             rw [hP.length_eq] at hv
             exact ⟨ι', _, rfl, hv, hst⟩
         ·cases hrd
        ·cases hrd
     ·cases he
    ·cases he
   ·cases he
  ·cases he
theorem delf_good {args : List Value} {H H' : Heap} {v : Value} (he : gdelf args H = some (v, H')) : Good Try.prog 39 args H v H' := by
 intro ι w cargs h ha
 refine ⟨fun w => ?_, ?_⟩
 ·unfold callFunc
  have hprog : (program).run Try.prog w = .ok Try.prog w := rfl
  simp only [Sem.run_bind, hprog, Result.andThen_ok, Try.func39]
  rfl
 ·unfold gdelf at he
  split at he
  ·rename_i b p o
   split at he
   ·rename_i t hrd
    split at he
    ·rename_i es c hH
     split at he
     ·rename_i hok
      simp only [Option.some.injEq, Prod.mk.injEq] at he
      obtain ⟨rfl, rfl⟩ := he
      obtain ⟨hok, hnk, hpb⟩ := hok
      simp only [keysOK, Bool.and_eq_true, decide_eq_true_eq] at hok
      obtain ⟨⟨⟨o1, o2⟩, o3⟩, o4⟩ := hok
      cases cargs with
      | nil => simp [VRL] at ha
      | cons c0 cs0 =>
       simp only [VRL] at ha
       obtain ⟨h0, ha⟩ := ha
       cases cs0 with
       | nil => simp [VRL] at ha
       | cons c1 cs =>
        simp only [VRL] at ha
        obtain ⟨h1, h2⟩ := ha
        cases cs with
        | cons _ _ => simp [VRL] at h2
        | nil =>
         simp only [VR] at h0
         obtain ⟨m, hm, rfl⟩ := h0
         simp only [VR] at h1
         obtain ⟨a', b', rfl, ha1, hb1⟩ := h1
         have ha2 := VRA_iff.1 ha1
         have hb2 := VRA_iff.1 hb1
         obtain ⟨l, hl, rfl, rfl⟩ : ∃ l, ι p = some l ∧ a' = #[] ∧ b' = #[.pointer (some ⟨l.blk, l.δ + o, none⟩)] := by
          obtain ⟨al⟩ := a'
          obtain ⟨bl⟩ := b'
          cases al with
          | cons _ _ => simp [VRL] at ha2
          | nil =>
           cases bl with
           | nil => simp [VRL] at hb2
           | cons y ys =>
            simp only [VRL, VR] at hb2
            obtain ⟨⟨l, hl, _, rfl⟩, hys⟩ := hb2
            cases ys with
            | cons _ _ => simp [VRL] at hys
            | nil => exact ⟨l, hl, rfl, rfl⟩
         simp only [rd] at hrd
         split at hrd
         ·rename_i cs ro hHp
          split at hrd
          ·rename_i hle
           have hcs : cs[o + 98]? = some (.int .u32 t) := by
            have := congrArg (·[0]?) (Option.some.inj hrd)
            simpa [List.getElem?_take, List.getElem?_drop] using this
           refine (delf_walk h hm hH hl hHp hcs hpb ?_ o2 hnk ?_).mono ?_
           ·intro x hx
            exact keyB_V (List.all_eq_true.1 o1 x.key (List.mem_map_of_mem hx))
           ·intro x hx
            have := List.all_eq_true.1 o3 x.born (List.mem_map_of_mem hx)
            simpa using this
           ·rintro e w' ⟨⟨v', rfl⟩, ι', hst⟩
            exact ⟨ι', v', rfl, by simp [VR], hst⟩
          ·cases hrd
         ·cases hrd
     ·cases he
    ·cases he
   ·cases he
  ·cases he
theorem giv_good : ∀ f g, gvL givGL f = some g → ∀ args H v H', g args H = some (v, H') → Good Try.prog f args H v H' := by
 intro f g hg args H v H' he
 simp only [givGL, gvL] at hg
 split at hg
 ·rename_i h; subst h; cases hg; exact sorted_good he
 ·split at hg
  ·rename_i h; subst h; cases hg; exact delf_good he
  ·cases hg
theorem bookG_ok : BookOK (givenBook Try.prog givGL) := givenBook_ok giv_good
end Go.Proofs.Ytccbcbnglnloiaa.G
