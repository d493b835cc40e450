/- For any state, bound and number of times, each number that the dice roll is the document's, and below any bound it is below it. No condition: every input. -/
import Derived.Test.YtdclinhgekbejaaPDiceRollsx1
import Derived.Laws.Bits64
namespace Go.Proofs.Ytdclinhgekbejaa.Pure
open Go Go Go.RowKit Go.Proofs.Ytdclinhgekbejaa.PDiceRolls Go.Proofs.YtdclinhgekbejaaW.PrintWords Go.Proofs.YtdclinhgekbejaaW.PrintLast

theorem u64_range (n : Int) : 0 ≤ IntKind.u64.wrap n ∧ IntKind.u64.wrap n < 18446744073709551616 := by
  rw [IntKind.wrap_u64]; omega
theorem u64_id (n : Int) (h0 : 0 ≤ n) (h1 : n < 18446744073709551616) : IntKind.u64.wrap n = n := by
  rw [IntKind.wrap_u64]; omega
theorem bits_range (op : BinOp) (x y : Int) : 0 ≤ Go.bits op .u64 x y ∧ Go.bits op .u64 x y < 18446744073709551616 := by
  unfold Go.bits; exact u64_range _
theorem wf_u64 (a : Int) (h : (Lit.int .u64 a).wf = true) : 0 ≤ a ∧ a < 18446744073709551616 := by
  simp [Lit.wf, IntKind.min, IntKind.max, IntKind.signed, IntKind.bits] at h; omega
theorem wf_u32 (a : Int) (h : (Lit.int .u32 a).wf = true) : 0 ≤ a ∧ a < 4294967296 := by
  simp [Lit.wf, IntKind.min, IntKind.max, IntKind.signed, IntKind.bits] at h; omega
theorem wf_u8 (a : Int) (h : (Lit.int .u8 a).wf = true) : 0 ≤ a ∧ a < 256 := by
  simp [Lit.wf, IntKind.min, IntKind.max, IntKind.signed, IntKind.bits] at h; omega
theorem wf_i64 (a : Int) (h : (Lit.int .i64 a).wf = true) : -9223372036854775808 ≤ a ∧ a < 9223372036854775808 := by
  simp [Lit.wf, IntKind.min, IntKind.max, IntKind.signed, IntKind.bits] at h; omega
theorem next_some (s : Int) : ∃ x, dice_Dice_Next.f s = some (x, IntKind.u64.wrap (s + 11400714819323198485)) ∧ 0 ≤ x ∧ x < 4294967296 := by
  exact ⟨_, rfl, by omega, by omega⟩
theorem awake_true : hoodwinklaw03_awake.f = some true := by
  unfold hoodwinklaw03_awake.f dice_Dice_Next.f dice_mixed.f
  simp only [Option.bind_some]
  decide +kernel

theorem refnext (s : Int) : hoodwinkref03_Next.f s = dice_Dice_Next.f s := by
  have t (n m : Int) (h0 : 0 ≤ n) (h1 : n < 18446744073709551616) (hm : 0 < m) : IntKind.u64.wrap (Int.tdiv n m) = n / m := by
    rw [Int.tdiv_eq_ediv_of_nonneg h0]
    have h2 : n / m ≤ n := Int.ediv_le_self _ h0
    have h3 : 0 ≤ n / m := Int.ediv_nonneg h0 (by omega)
    exact u64_id _ h3 (by omega)
  unfold hoodwinkref03_Next.f dice_Dice_Next.f dice_mixed.f
  simp only [Option.bind_some]
  generalize hz0 : IntKind.u64.wrap (s + 11400714819323198485) = z0
  have r0 : 0 ≤ z0 ∧ z0 < 18446744073709551616 := hz0 ▸ u64_range _
  rw [t z0 1073741824 r0.1 r0.2 (by omega)]
  generalize hz1 : IntKind.u64.wrap (Go.bits .xor .u64 z0 (z0 / 1073741824) * 13787848793156543929) = z1
  have r1 : 0 ≤ z1 ∧ z1 < 18446744073709551616 := hz1 ▸ u64_range _
  rw [t z1 134217728 r1.1 r1.2 (by omega)]
  generalize hz2 : IntKind.u64.wrap (Go.bits .xor .u64 z1 (z1 / 134217728) * 10723151780598845931) = z2
  have r2 : 0 ≤ z2 ∧ z2 < 18446744073709551616 := hz2 ▸ u64_range _
  rw [t z2 2147483648 r2.1 r2.2 (by omega)]
  have r3 := bits_range .xor z2 (z2 / 2147483648)
  rw [t _ 4294967296 r3.1 r3.2 (by omega)]

theorem below_some (s n : Int) (h0 : 0 ≤ n) (h1 : n < 4294967296) : ∃ x, 0 ≤ x ∧ x < 4294967296 ∧ dice_Dice_Next.f s = some (x, IntKind.u64.wrap (s + 11400714819323198485)) ∧
    dice_Dice_Below.f s n = some (x * n / 4294967296, IntKind.u64.wrap (s + 11400714819323198485)) ∧ 0 ≤ x * n ∧ x * n ≤ 4294967295 * n := by
  obtain ⟨x, hx, x0, x1⟩ := next_some s
  have p0 : 0 ≤ x * n := Int.mul_nonneg x0 h0
  have p1 : x * n ≤ 4294967295 * n := Int.mul_le_mul_of_nonneg_right (by omega) h0
  refine ⟨x, x0, x1, hx, ?_, p0, p1⟩
  unfold dice_Dice_Below.f
  rw [hx]; simp only [Option.bind_some]
  rw [u64_id x x0 (by omega), u64_id n h0 (by omega), u64_id (x * n) p0 (by omega)]
  rw [Int.emod_eq_of_lt (by omega) (by omega)]

theorem refbelow (s n : Int) (h0 : 0 ≤ n) (h1 : n < 4294967296) : hoodwinkref03_Below.f s n = dice_Dice_Below.f s n := by
  obtain ⟨x, x0, x1, hx, hb, p0, p1⟩ := below_some s n h0 h1
  rw [hb]
  unfold hoodwinkref03_Below.f
  rw [refnext, hx]; simp only [Option.bind_some]
  rw [u64_id x x0 (by omega), u64_id n h0 (by omega), u64_id (x * n) p0 (by omega)]
  rw [Int.tdiv_eq_ediv_of_nonneg p0]
  rw [u64_id (x * n / 4294967296) (by omega) (by omega)]
  rw [Int.emod_eq_of_lt (by omega) (by omega)]

theorem loop_true (n : Int) (h0 : 0 ≤ n) (h1 : n < 4294967296) (m : Int) (hm : m ≤ 255) (d : Nat) : ∀ (i s : Int) (k : Nat), 0 ≤ i → m - i = d → 2 * d < k → hoodwinklaw03_DiceRolls.l0 k n s m i s = some true := by
  induction d with
  | zero =>
    intro i s k hi hd hk
    obtain ⟨k, rfl⟩ : ∃ q, k = q + 1 := ⟨k - 1, by omega⟩
    simp only [hoodwinklaw03_DiceRolls.l0]; rw [if_neg (by omega)]
  | succ d ih =>
    intro i s k hi hd hk
    obtain ⟨k, rfl⟩ : ∃ q, k = q + 2 := ⟨k - 2, by omega⟩
    simp only [hoodwinklaw03_DiceRolls.l0]; rw [if_pos (by omega)]
    obtain ⟨x, hx, x0, x1⟩ := next_some s
    rw [refnext, hx]; simp only [Option.bind_some, if_true]
    simp only [hoodwinklaw03_DiceRolls.j1, bne_self_eq_false, Bool.false_eq_true, if_false]
    generalize IntKind.u64.wrap (s + 11400714819323198485) = s1
    obtain ⟨y, y0, y1, hy, hb, p0, p1⟩ := below_some s1 n h0 h1
    rw [refbelow _ _ h0 h1, hb]; simp only [Option.bind_some, if_true]
    have hl : (i + 1) % 256 = i + 1 := Int.emod_eq_of_lt (by omega) (by omega)
    rw [hl]
    have hr := ih (i + 1) (IntKind.u64.wrap (s1 + 11400714819323198485)) k (by omega) (by omega) (by omega)
    by_cases hn : n > 0
    · rw [if_pos hn, if_neg (by omega), if_neg (by omega)]; exact hr
    · have hz : n = 0 := by omega
      subst hz
      rw [if_neg (by omega), if_pos rfl, if_pos (by simp)]; exact hr

theorem DiceRolls : hoodwinklaw03_DiceRolls.Pure := by
  intro a0 a1 a2 w0 w1 w2
  obtain ⟨h0, h1⟩ := wf_u32 _ w1
  obtain ⟨g0, g1⟩ := wf_u8 _ w2
  refine ⟨80, ?_⟩
  unfold hoodwinklaw03_DiceRolls.f
  rw [awake_true]; simp only [Option.bind_some, if_true]
  rw [Int.tmod_eq_emod_of_nonneg g0]
  exact loop_true a1 h0 h1 (a2 % 40) (by omega) (a2 % 40).toNat 0 a0 80 (by omega) (by omega) (by omega)

end Go.Proofs.Ytdclinhgekbejaa.Pure
