import Derived.Test.YtdclinhgekbejaaQ1
import Derived.Test.YtdclinhgekbejaaChecked
import Derived.KernelRfl
namespace Go.Proofs.Ytdclinhgekbejaa.G
open Go
theorem lf_law03_DiceRolls : lf Try.prog mdT 3 = some l_law03_DiceRolls := by kernel_rfl
theorem lf_law03_DiceBounds : lf Try.prog mdT 4 = some l_law03_DiceBounds := by kernel_rfl
theorem lf_law03_DiceSplits : lf Try.prog mdT 5 = some l_law03_DiceSplits := by kernel_rfl
theorem lf_law03_DiceSkips : lf Try.prog mdT 6 = some l_law03_DiceSkips := by kernel_rfl
theorem lf_law03_DiceOrders : lf Try.prog mdT 7 = some l_law03_DiceOrders := by kernel_rfl
theorem lf_law03_DiceShuffles : lf Try.prog mdT 8 = some l_law03_DiceShuffles := by kernel_rfl
theorem lf_law03_awake : lf Try.prog mdT 9 = some l_law03_awake := by kernel_rfl
theorem lf_dice_Dice_Next : lf Try.prog mdT 10 = some l_dice_Dice_Next := by kernel_rfl
theorem lf_ref03_Next : lf Try.prog mdT 11 = some l_ref03_Next := by kernel_rfl
theorem lf_dice_Dice_Below : lf Try.prog mdT 12 = some l_dice_Dice_Below := by kernel_rfl
theorem lf_ref03_Below : lf Try.prog mdT 13 = some l_ref03_Below := by kernel_rfl
theorem lf_dice_Dice_Split : lf Try.prog mdT 14 = some l_dice_Dice_Split := by kernel_rfl
theorem lf_dice_Dice_Skip : lf Try.prog mdT 15 = some l_dice_Dice_Skip := by kernel_rfl
theorem lf_dice_Dice_Shuffle : lf Try.prog mdT 16 = some l_dice_Dice_Shuffle := by kernel_rfl
theorem lf_slices_Clone_Lint32_int32 : lf Try.prog mdT 17 = some l_slices_Clone_Lint32_int32 := by kernel_rfl
theorem lf_ref03_Shuffle : lf Try.prog mdT 18 = some l_ref03_Shuffle := by kernel_rfl
theorem lf_slices_Equal_Lint32_int32 : lf Try.prog mdT 19 = some l_slices_Equal_Lint32_int32 := by kernel_rfl
theorem lf_slices_Sort_Lint32_int32 : lf Try.prog mdT 20 = some l_slices_Sort_Lint32_int32 := by kernel_rfl
theorem lf_dice_mixed : lf Try.prog mdT 21 = some l_dice_mixed := by kernel_rfl
theorem lf_slices_pdqsortOrdered_int32 : lf Try.prog mdT 22 = some l_slices_pdqsortOrdered_int32 := by kernel_rfl
theorem lf_math_bits_Len : lf Try.prog mdT 23 = some l_math_bits_Len := by kernel_rfl
theorem lf_slices_insertionSortOrdered_int32 : lf Try.prog mdT 24 = some l_slices_insertionSortOrdered_int32 := by kernel_rfl
theorem lf_slices_heapSortOrdered_int32 : lf Try.prog mdT 25 = some l_slices_heapSortOrdered_int32 := by kernel_rfl
theorem lf_slices_breakPatternsOrdered_int32 : lf Try.prog mdT 26 = some l_slices_breakPatternsOrdered_int32 := by kernel_rfl
theorem lf_slices_choosePivotOrdered_int32 : lf Try.prog mdT 27 = some l_slices_choosePivotOrdered_int32 := by kernel_rfl
theorem lf_slices_reverseRangeOrdered_int32 : lf Try.prog mdT 28 = some l_slices_reverseRangeOrdered_int32 := by kernel_rfl
theorem lf_slices_partialInsertionSortOrdered_int32 : lf Try.prog mdT 29 = some l_slices_partialInsertionSortOrdered_int32 := by kernel_rfl
theorem lf_cmp_Less_int32 : lf Try.prog mdT 30 = some l_cmp_Less_int32 := by kernel_rfl
theorem lf_slices_partitionEqualOrdered_int32 : lf Try.prog mdT 31 = some l_slices_partitionEqualOrdered_int32 := by kernel_rfl
theorem lf_slices_partitionOrdered_int32 : lf Try.prog mdT 32 = some l_slices_partitionOrdered_int32 := by kernel_rfl
theorem lf_slices_siftDownOrdered_int32 : lf Try.prog mdT 35 = some l_slices_siftDownOrdered_int32 := by kernel_rfl
theorem lf_slices_nextPowerOfTwo : lf Try.prog mdT 36 = some l_slices_nextPowerOfTwo := by kernel_rfl
theorem lf_slices_xorshift_Next : lf Try.prog mdT 37 = some l_slices_xorshift_Next := by kernel_rfl
theorem lf_slices_medianAdjacentOrdered_int32 : lf Try.prog mdT 38 = some l_slices_medianAdjacentOrdered_int32 := by kernel_rfl
theorem lf_slices_medianOrdered_int32 : lf Try.prog mdT 39 = some l_slices_medianOrdered_int32 := by kernel_rfl
theorem lf_cmp_isNaN_int32 : lf Try.prog mdT 40 = some l_cmp_isNaN_int32 := by kernel_rfl
theorem lf_slices_order2Ordered_int32 : lf Try.prog mdT 41 = some l_slices_order2Ordered_int32 := by kernel_rfl
end Go.Proofs.Ytdclinhgekbejaa.G
