import Derived.Test.YtdclinhgekbejaaQ2a
import Derived.Test.YtdclinhgekbejaaI11
namespace Go.Proofs.Ytdclinhgekbejaa.G
open Go
set_option maxRecDepth 10000
theorem fns_ok : ∀ f l, fnT f = some l → lf Try.prog mdT f = some l := fun f l h => lkF_all (q := fun f l => lf Try.prog mdT f = some l) (L := fnL) ⟨lf_law03_DiceRolls, lf_law03_DiceBounds, lf_law03_DiceSplits, lf_law03_DiceSkips, lf_law03_DiceOrders, lf_law03_DiceShuffles, lf_law03_awake, lf_dice_Dice_Next, lf_ref03_Next, lf_dice_Dice_Below, lf_ref03_Below, lf_dice_Dice_Split, lf_dice_Dice_Skip, lf_dice_Dice_Shuffle, lf_slices_Clone_Lint32_int32, lf_ref03_Shuffle, lf_slices_Equal_Lint32_int32, lf_slices_Sort_Lint32_int32, lf_dice_mixed, lf_slices_pdqsortOrdered_int32, lf_math_bits_Len, lf_slices_insertionSortOrdered_int32, lf_slices_heapSortOrdered_int32, lf_slices_breakPatternsOrdered_int32, lf_slices_choosePivotOrdered_int32, lf_slices_reverseRangeOrdered_int32, lf_slices_partialInsertionSortOrdered_int32, lf_cmp_Less_int32, lf_slices_partitionEqualOrdered_int32, lf_slices_partitionOrdered_int32, lf_slices_siftDownOrdered_int32, lf_slices_nextPowerOfTwo, lf_slices_xorshift_Next, lf_slices_medianAdjacentOrdered_int32, lf_slices_medianOrdered_int32, lf_cmp_isNaN_int32, lf_slices_order2Ordered_int32, trivial⟩ h
theorem tab_ok : TabOK BI Try.prog where
  zc := by
    intro t z h
    simp only [BI] at h
    unfold zcT at h
    split at h
    · simp only [Option.some.injEq] at h; subst h; exact ⟨by kernel_rfl, by decide⟩
    · simp only [Option.some.injEq] at h; subst h; exact ⟨by kernel_rfl, by decide⟩
    · simp only [Option.some.injEq] at h; subst h; exact ⟨by kernel_rfl, by decide⟩
    · simp only [Option.some.injEq] at h; subst h; exact ⟨by kernel_rfl, by decide⟩
    · simp at h
  zv := by
    intro t z h
    simp only [BI] at h
    unfold zvT at h
    split at h
    · simp at h
  co := by
    intro t z h
    simp only [BI] at h
    unfold coT at h
    split at h
    · simp only [Option.some.injEq] at h; subst h; kernel_rfl
    · simp at h
theorem book_ok : IBookOK BI (plainBook Try.prog) := ⟨tab_ok, fun f l h => ⟨rfl, rfl, lf_ok (fns_ok f l h)⟩, fun f g h => by simp [BI] at h⟩
end Go.Proofs.Ytdclinhgekbejaa.G
