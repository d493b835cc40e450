/- Skipping is rolling so often, and skips add up. No condition: every input. -/
import Derived.Test.YtdclinhgekbejaaPDiceSkipsx3
import Derived.Laws.Bits64
namespace Go.Proofs.Ytdclinhgekbejaa.Pure
open Go Go Go.RowKit Go.Proofs.Ytdclinhgekbejaa.PDiceSkips Go.Proofs.YtdclinhgekbejaaW.PrintWords Go.Proofs.YtdclinhgekbejaaW.PrintLast

theorem u64_range (n : Int) : 0 ≤ IntKind.u64.wrap n ∧ IntKind.u64.wrap n < 18446744073709551616 := by
  rw [IntKind.wrap_u64]; omega
theorem u64_id (n : Int) (h0 : 0 ≤ n) (h1 : n < 18446744073709551616) : IntKind.u64.wrap n = n := by
  rw [IntKind.wrap_u64]; omega
theorem bits_range (op : BinOp) (x y : Int) : 0 ≤ Go.bits op .u64 x y ∧ Go.bits op .u64 x y < 18446744073709551616 := by
  unfold Go.bits; exact u64_range _
theorem wf_u64 (a : Int) (h : (Lit.int .u64 a).wf = true) : 0 ≤ a ∧ a < 18446744073709551616 := by
  simp [Lit.wf, IntKind.min, IntKind.max, IntKind.signed, IntKind.bits] at h; omega
theorem wf_u32 (a : Int) (h : (Lit.int .u32 a).wf = true) : 0 ≤ a ∧ a < 4294967296 := by
  simp [Lit.wf, IntKind.min, IntKind.max, IntKind.signed, IntKind.bits] at h; omega
theorem wf_u8 (a : Int) (h : (Lit.int .u8 a).wf = true) : 0 ≤ a ∧ a < 256 := by
  simp [Lit.wf, IntKind.min, IntKind.max, IntKind.signed, IntKind.bits] at h; omega
theorem wf_i64 (a : Int) (h : (Lit.int .i64 a).wf = true) : -9223372036854775808 ≤ a ∧ a < 9223372036854775808 := by
  simp [Lit.wf, IntKind.min, IntKind.max, IntKind.signed, IntKind.bits] at h; omega
theorem next_some (s : Int) : ∃ x, dice_Dice_Next.f s = some (x, IntKind.u64.wrap (s + 11400714819323198485)) ∧ 0 ≤ x ∧ x < 4294967296 := by
  exact ⟨_, rfl, by omega, by omega⟩
theorem awake_true : hoodwinklaw03_awake.f = some true := by
  unfold hoodwinklaw03_awake.f dice_Dice_Next.f dice_mixed.f
  simp only [Option.bind_some]
  decide +kernel

def adv (s : Int) (n : Nat) : Int := IntKind.u64.wrap (s + 11400714819323198485 * n)
theorem adv_succ (s : Int) (n : Nat) : IntKind.u64.wrap (adv s n + 11400714819323198485) = adv s (n + 1) := by
  unfold adv; rw [IntKind.wrap_u64, IntKind.wrap_u64, IntKind.wrap_u64]; omega
theorem skip_adv (s n : Int) (m : Nat) (h : n = m) (h0 : 0 ≤ s) (h1 : s < 18446744073709551616) (hm : m < 9223372036854775808) : dice_Dice_Skip.f s n = some (adv s m) := by
  subst h
  unfold dice_Dice_Skip.f adv
  split
  · rw [IntKind.wrap_u64, IntKind.wrap_u64, IntKind.wrap_u64, IntKind.wrap_u64]; congr 1; omega
  · have : m = 0 := by omega
    subst this; rw [IntKind.wrap_u64]; congr 1; omega
theorem loop_true (s : Int) (h0 : 0 ≤ s) (h1 : s < 18446744073709551616) (n m : Int) (hn : 0 ≤ n) (hn' : n < 256) (d : Nat) : ∀ (j k : Nat), n - j = d → d < k → hoodwinklaw03_DiceSkips.l0 k n m n j s (adv s j) = some true := by
  induction d with
  | zero =>
    intro j k hd hk
    obtain ⟨k, rfl⟩ : ∃ q, k = q + 1 := ⟨k - 1, by omega⟩
    have hj : n = j := by omega
    have w1 : wrap64 n = n := by unfold wrap64; omega
    have w2 : wrap64 (n + 3) = n + 3 := by unfold wrap64; omega
    have e1 := skip_adv s n j hj h0 h1 (by omega)
    have e2 : dice_Dice_Skip.f s (mn m 0) = some s := by
      unfold dice_Dice_Skip.f; rw [if_neg (by unfold mn; omega)]
    have ra : 0 ≤ adv s j ∧ adv s j < 18446744073709551616 := u64_range _
    have e3 := skip_adv (adv s j) 3 3 rfl ra.1 ra.2 (by omega)
    have e4 := skip_adv s (n + 3) (j + 3) (by omega) h0 h1 (by omega)
    have e5 : adv (adv s j) 3 = adv s (j + 3) := by
      unfold adv; rw [IntKind.wrap_u64, IntKind.wrap_u64, IntKind.wrap_u64]; omega
    simp only [hoodwinklaw03_DiceSkips.l0]; rw [if_neg (by omega)]
    rw [w1, w2, e1]; simp only [Option.bind_some, beq_self_eq_true, if_true]
    rw [e2]; simp only [Option.bind_some, beq_self_eq_true, if_true]
    rw [e3, e4]; simp only [Option.bind_some, e5, beq_self_eq_true]
  | succ d ih =>
    intro j k hd hk
    obtain ⟨k, rfl⟩ : ∃ q, k = q + 1 := ⟨k - 1, by omega⟩
    simp only [hoodwinklaw03_DiceSkips.l0]; rw [if_pos (by omega)]
    obtain ⟨x, hx, x0, x1⟩ := next_some (adv s j)
    rw [hx]; simp only [Option.bind_some]
    rw [adv_succ, Int.emod_eq_of_lt (by omega) (by omega)]
    exact ih (j + 1) k (by omega) (by omega)
theorem DiceSkips : hoodwinklaw03_DiceSkips.Pure := by
  intro a0 a1 a2 w0 w1 w2
  obtain ⟨h0, h1⟩ := wf_u64 _ w0
  obtain ⟨g0, g1⟩ := wf_u8 _ w1
  refine ⟨257, ?_⟩
  unfold hoodwinklaw03_DiceSkips.f
  rw [awake_true]; simp only [Option.bind_some, if_true]
  have e : adv a0 0 = a0 := by unfold adv; rw [IntKind.wrap_u64]; omega
  have := loop_true a0 h0 h1 a1 a2 g0 g1 a1.toNat 0 257 (by omega) (by omega)
  rw [e] at this; exact this

end Go.Proofs.Ytdclinhgekbejaa.Pure
