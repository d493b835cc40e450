/- Of a greater bound the same roll isn't less; below 1 it is 0; the same dice roll the same again. No condition: every input. -/
import Derived.Test.YtdclinhgekbejaaPDiceBoundsx2
import Derived.Laws.Bits64
namespace Go.Proofs.Ytdclinhgekbejaa.Pure
open Go Go Go.RowKit Go.Proofs.Ytdclinhgekbejaa.PDiceBounds Go.Proofs.YtdclinhgekbejaaW.PrintWords Go.Proofs.YtdclinhgekbejaaW.PrintLast

theorem u64_range (n : Int) : 0 ≤ IntKind.u64.wrap n ∧ IntKind.u64.wrap n < 18446744073709551616 := by
  rw [IntKind.wrap_u64]; omega
theorem u64_id (n : Int) (h0 : 0 ≤ n) (h1 : n < 18446744073709551616) : IntKind.u64.wrap n = n := by
  rw [IntKind.wrap_u64]; omega
theorem bits_range (op : BinOp) (x y : Int) : 0 ≤ Go.bits op .u64 x y ∧ Go.bits op .u64 x y < 18446744073709551616 := by
  unfold Go.bits; exact u64_range _
theorem wf_u64 (a : Int) (h : (Lit.int .u64 a).wf = true) : 0 ≤ a ∧ a < 18446744073709551616 := by
  simp [Lit.wf, IntKind.min, IntKind.max, IntKind.signed, IntKind.bits] at h; omega
theorem wf_u32 (a : Int) (h : (Lit.int .u32 a).wf = true) : 0 ≤ a ∧ a < 4294967296 := by
  simp [Lit.wf, IntKind.min, IntKind.max, IntKind.signed, IntKind.bits] at h; omega
theorem wf_u8 (a : Int) (h : (Lit.int .u8 a).wf = true) : 0 ≤ a ∧ a < 256 := by
  simp [Lit.wf, IntKind.min, IntKind.max, IntKind.signed, IntKind.bits] at h; omega
theorem wf_i64 (a : Int) (h : (Lit.int .i64 a).wf = true) : -9223372036854775808 ≤ a ∧ a < 9223372036854775808 := by
  simp [Lit.wf, IntKind.min, IntKind.max, IntKind.signed, IntKind.bits] at h; omega
theorem next_some (s : Int) : ∃ x, dice_Dice_Next.f s = some (x, IntKind.u64.wrap (s + 11400714819323198485)) ∧ 0 ≤ x ∧ x < 4294967296 := by
  exact ⟨_, rfl, by omega, by omega⟩
theorem awake_true : hoodwinklaw03_awake.f = some true := by
  unfold hoodwinklaw03_awake.f dice_Dice_Next.f dice_mixed.f
  simp only [Option.bind_some]
  decide +kernel

theorem below_some (s n : Int) (h0 : 0 ≤ n) (h1 : n < 4294967296) : ∃ x, 0 ≤ x ∧ x < 4294967296 ∧ dice_Dice_Next.f s = some (x, IntKind.u64.wrap (s + 11400714819323198485)) ∧
    dice_Dice_Below.f s n = some (x * n / 4294967296, IntKind.u64.wrap (s + 11400714819323198485)) ∧ 0 ≤ x * n ∧ x * n ≤ 4294967295 * n := by
  obtain ⟨x, hx, x0, x1⟩ := next_some s
  have p0 : 0 ≤ x * n := Int.mul_nonneg x0 h0
  have p1 : x * n ≤ 4294967295 * n := Int.mul_le_mul_of_nonneg_right (by omega) h0
  refine ⟨x, x0, x1, hx, ?_, p0, p1⟩
  unfold dice_Dice_Below.f
  rw [hx]; simp only [Option.bind_some]
  rw [u64_id x x0 (by omega), u64_id n h0 (by omega), u64_id (x * n) p0 (by omega)]
  rw [Int.emod_eq_of_lt (by omega) (by omega)]

theorem DiceBounds : hoodwinklaw03_DiceBounds.Pure := by
  intro a0 a1 a2 w0 w1 w2
  obtain ⟨h0, h1⟩ := wf_u32 _ w1
  obtain ⟨g0, g1⟩ := wf_u32 _ w2
  have l0 : 0 ≤ mn a1 a2 ∧ mn a1 a2 < 4294967296 := by unfold mn; omega
  have m0 : 0 ≤ mx a1 a2 ∧ mx a1 a2 < 4294967296 := by unfold mx; omega
  have lm : mn a1 a2 ≤ mx a1 a2 := by unfold mn mx; omega
  obtain ⟨x, x0, x1, hx, hb, p0, p1⟩ := below_some a0 _ l0.1 l0.2
  obtain ⟨y, y0, y1, hy, hc, q0, q1⟩ := below_some a0 _ m0.1 m0.2
  obtain ⟨z, z0, z1, hz, hd, r0, r1⟩ := below_some a0 1 (by omega) (by omega)
  rw [hx] at hy hz
  obtain rfl : x = y := by simpa using hy
  obtain rfl : x = z := by simpa using hz
  have hle : x * mn a1 a2 ≤ x * mx a1 a2 := Int.mul_le_mul_of_nonneg_left lm x0
  unfold hoodwinklaw03_DiceBounds.f
  rw [awake_true]; simp only [Option.bind_some, if_true, hb, hc, hd, beq_self_eq_true]
  rw [if_pos (by omega), if_pos (by omega)]

end Go.Proofs.Ytdclinhgekbejaa.Pure
