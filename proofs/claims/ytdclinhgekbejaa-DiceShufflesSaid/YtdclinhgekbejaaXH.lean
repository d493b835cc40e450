/- Joined: Q2a to Q4. -/
import Derived.Test.YtdclinhgekbejaaXG
import Derived.Test.YtdclinhgekbejaaChecked
import Derived.KernelRfl
import Derived.Test.YtdclinhgekbejaaRows
import Derived.SizedLaws
set_option linter.unusedVariables false
set_option linter.unusedSimpArgs false
set_option maxRecDepth 20000
set_option maxHeartbeats 2000000
namespace Go.Proofs.Ytdclinhgekbejaa.G
open Go
theorem lf_law03_DiceShuffles : lf Try.prog mdT 8 = some l_law03_DiceShuffles := by kernel_rfl
theorem lf_law03_awake : lf Try.prog mdT 9 = some l_law03_awake := by kernel_rfl
theorem lf_dice_Dice_Next : lf Try.prog mdT 10 = some l_dice_Dice_Next := by kernel_rfl
theorem lf_ref03_Next : lf Try.prog mdT 11 = some l_ref03_Next := by kernel_rfl
theorem lf_dice_Dice_Below : lf Try.prog mdT 12 = some l_dice_Dice_Below := by kernel_rfl
theorem lf_ref03_Below : lf Try.prog mdT 13 = some l_ref03_Below := by kernel_rfl
theorem lf_dice_Dice_Shuffle : lf Try.prog mdT 16 = some l_dice_Dice_Shuffle := by kernel_rfl
theorem lf_slices_Clone_Lint32_int32 : lf Try.prog mdT 17 = some l_slices_Clone_Lint32_int32 := by kernel_rfl
theorem lf_ref03_Shuffle : lf Try.prog mdT 18 = some l_ref03_Shuffle := by kernel_rfl
theorem lf_slices_Equal_Lint32_int32 : lf Try.prog mdT 19 = some l_slices_Equal_Lint32_int32 := by kernel_rfl
theorem lf_slices_Sort_Lint32_int32 : lf Try.prog mdT 20 = some l_slices_Sort_Lint32_int32 := by kernel_rfl
theorem lf_dice_mixed : lf Try.prog mdT 21 = some l_dice_mixed := by kernel_rfl
theorem lf_slices_pdqsortOrdered_int32 : lf Try.prog mdT 22 = some l_slices_pdqsortOrdered_int32 := by kernel_rfl
theorem lf_math_bits_Len : lf Try.prog mdT 23 = some l_math_bits_Len := by kernel_rfl
theorem lf_slices_insertionSortOrdered_int32 : lf Try.prog mdT 24 = some l_slices_insertionSortOrdered_int32 := by kernel_rfl
theorem lf_slices_heapSortOrdered_int32 : lf Try.prog mdT 25 = some l_slices_heapSortOrdered_int32 := by kernel_rfl
theorem lf_slices_breakPatternsOrdered_int32 : lf Try.prog mdT 26 = some l_slices_breakPatternsOrdered_int32 := by kernel_rfl
theorem lf_slices_choosePivotOrdered_int32 : lf Try.prog mdT 27 = some l_slices_choosePivotOrdered_int32 := by kernel_rfl
theorem lf_slices_reverseRangeOrdered_int32 : lf Try.prog mdT 28 = some l_slices_reverseRangeOrdered_int32 := by kernel_rfl
theorem lf_slices_partialInsertionSortOrdered_int32 : lf Try.prog mdT 29 = some l_slices_partialInsertionSortOrdered_int32 := by kernel_rfl
theorem lf_cmp_Less_int32 : lf Try.prog mdT 30 = some l_cmp_Less_int32 := by kernel_rfl
theorem lf_slices_partitionEqualOrdered_int32 : lf Try.prog mdT 31 = some l_slices_partitionEqualOrdered_int32 := by kernel_rfl
theorem lf_slices_partitionOrdered_int32 : lf Try.prog mdT 32 = some l_slices_partitionOrdered_int32 := by kernel_rfl
theorem lf_math_bits_Len64 : lf Try.prog mdT 34 = some l_math_bits_Len64 := by kernel_rfl
theorem lf_slices_siftDownOrdered_int32 : lf Try.prog mdT 35 = some l_slices_siftDownOrdered_int32 := by kernel_rfl
theorem lf_slices_nextPowerOfTwo : lf Try.prog mdT 36 = some l_slices_nextPowerOfTwo := by kernel_rfl
theorem lf_slices_xorshift_Next : lf Try.prog mdT 37 = some l_slices_xorshift_Next := by kernel_rfl
theorem lf_slices_medianAdjacentOrdered_int32 : lf Try.prog mdT 38 = some l_slices_medianAdjacentOrdered_int32 := by kernel_rfl
theorem lf_slices_medianOrdered_int32 : lf Try.prog mdT 39 = some l_slices_medianOrdered_int32 := by kernel_rfl
theorem lf_cmp_isNaN_int32 : lf Try.prog mdT 40 = some l_cmp_isNaN_int32 := by kernel_rfl
theorem lf_slices_order2Ordered_int32 : lf Try.prog mdT 41 = some l_slices_order2Ordered_int32 := by kernel_rfl
set_option maxRecDepth 10000
theorem fns_ok : ∀ f l, fnT f = some l → lf Try.prog mdT f = some l := fun f l h => lkF_all (q := fun f l => lf Try.prog mdT f = some l) (L := fnL) ⟨lf_law03_DiceShuffles, lf_law03_awake, lf_dice_Dice_Next, lf_ref03_Next, lf_dice_Dice_Below, lf_ref03_Below, lf_dice_Dice_Shuffle, lf_slices_Clone_Lint32_int32, lf_ref03_Shuffle, lf_slices_Equal_Lint32_int32, lf_slices_Sort_Lint32_int32, lf_dice_mixed, lf_slices_pdqsortOrdered_int32, lf_math_bits_Len, lf_slices_insertionSortOrdered_int32, lf_slices_heapSortOrdered_int32, lf_slices_breakPatternsOrdered_int32, lf_slices_choosePivotOrdered_int32, lf_slices_reverseRangeOrdered_int32, lf_slices_partialInsertionSortOrdered_int32, lf_cmp_Less_int32, lf_slices_partitionEqualOrdered_int32, lf_slices_partitionOrdered_int32, lf_math_bits_Len64, lf_slices_siftDownOrdered_int32, lf_slices_nextPowerOfTwo, lf_slices_xorshift_Next, lf_slices_medianAdjacentOrdered_int32, lf_slices_medianOrdered_int32, lf_cmp_isNaN_int32, lf_slices_order2Ordered_int32, trivial⟩ h
theorem tab_ok : TabOK BI Try.prog where
 zc := by
  intro t z h
  simp only [BI] at h
  unfold zcT at h
  split at h
  ·simp only [Option.some.injEq] at h; subst h; exact ⟨by kernel_rfl, by decide⟩
  ·simp only [Option.some.injEq] at h; subst h; exact ⟨by kernel_rfl, by decide⟩
  ·simp only [Option.some.injEq] at h; subst h; exact ⟨by kernel_rfl, by decide⟩
  ·simp only [Option.some.injEq] at h; subst h; exact ⟨by kernel_rfl, by decide⟩
  ·simp at h
 zv := by
  intro t z h
  simp only [BI] at h
  unfold zvT at h
  split at h
  ·simp at h
 co := by
  intro t z h
  simp only [BI] at h
  unfold coT at h
  split at h
  ·simp only [Option.some.injEq] at h; subst h; kernel_rfl
  ·simp at h
theorem book_ok : IBookOK BI (plainBook Try.prog) := ⟨tab_ok, fun f l h => ⟨rfl, rfl, lf_ok (fns_ok f l h)⟩, fun f g h => by simp [BI, givIL, gvL] at h⟩
theorem bookG_ok : BookOK (plainBook Try.prog) := plainBook_ok _
theorem pf_laid : (laidOutB Try.prog) = true := by kernel_rfl
theorem pf_maps : (mapsRowed Try.prog) = true := by kernel_rfl
theorem pf_stops : ((Try.prog.stops == [])) = true := by kernel_rfl
theorem pf_knobs : ((Try.prog.stopKnobs == [])) = true := by kernel_rfl
theorem pf_heard : (Try.prog.stopsHeard) = true := by kernel_rfl
theorem pf_enter : (Try.prog.mayEnter) = true := by kernel_rfl
end Go.Proofs.Ytdclinhgekbejaa.G
