/- Dice that are split: the one begins with the next two numbers, the other goes on behind them. No condition: every input. -/
import Derived.Test.YtdclinhgekbejaaPDiceSplitsx1
import Derived.Laws.Bits64
namespace Go.Proofs.Ytdclinhgekbejaa.Pure
open Go Go Go.RowKit Go.Proofs.Ytdclinhgekbejaa.PDiceSplits Go.Proofs.YtdclinhgekbejaaW.PrintWords Go.Proofs.YtdclinhgekbejaaW.PrintLast

theorem u64_range (n : Int) : 0 ≤ IntKind.u64.wrap n ∧ IntKind.u64.wrap n < 18446744073709551616 := by
  rw [IntKind.wrap_u64]; omega
theorem u64_id (n : Int) (h0 : 0 ≤ n) (h1 : n < 18446744073709551616) : IntKind.u64.wrap n = n := by
  rw [IntKind.wrap_u64]; omega
theorem bits_range (op : BinOp) (x y : Int) : 0 ≤ Go.bits op .u64 x y ∧ Go.bits op .u64 x y < 18446744073709551616 := by
  unfold Go.bits; exact u64_range _
theorem wf_u64 (a : Int) (h : (Lit.int .u64 a).wf = true) : 0 ≤ a ∧ a < 18446744073709551616 := by
  simp [Lit.wf, IntKind.min, IntKind.max, IntKind.signed, IntKind.bits] at h; omega
theorem wf_u32 (a : Int) (h : (Lit.int .u32 a).wf = true) : 0 ≤ a ∧ a < 4294967296 := by
  simp [Lit.wf, IntKind.min, IntKind.max, IntKind.signed, IntKind.bits] at h; omega
theorem wf_u8 (a : Int) (h : (Lit.int .u8 a).wf = true) : 0 ≤ a ∧ a < 256 := by
  simp [Lit.wf, IntKind.min, IntKind.max, IntKind.signed, IntKind.bits] at h; omega
theorem wf_i64 (a : Int) (h : (Lit.int .i64 a).wf = true) : -9223372036854775808 ≤ a ∧ a < 9223372036854775808 := by
  simp [Lit.wf, IntKind.min, IntKind.max, IntKind.signed, IntKind.bits] at h; omega
theorem next_some (s : Int) : ∃ x, dice_Dice_Next.f s = some (x, IntKind.u64.wrap (s + 11400714819323198485)) ∧ 0 ≤ x ∧ x < 4294967296 := by
  exact ⟨_, rfl, by omega, by omega⟩
theorem awake_true : hoodwinklaw03_awake.f = some true := by
  unfold hoodwinklaw03_awake.f dice_Dice_Next.f dice_mixed.f
  simp only [Option.bind_some]
  decide +kernel

theorem refnext (s : Int) : hoodwinkref03_Next.f s = dice_Dice_Next.f s := by
  have t (n m : Int) (h0 : 0 ≤ n) (h1 : n < 18446744073709551616) (hm : 0 < m) : IntKind.u64.wrap (Int.tdiv n m) = n / m := by
    rw [Int.tdiv_eq_ediv_of_nonneg h0]
    have h2 : n / m ≤ n := Int.ediv_le_self _ h0
    have h3 : 0 ≤ n / m := Int.ediv_nonneg h0 (by omega)
    exact u64_id _ h3 (by omega)
  unfold hoodwinkref03_Next.f dice_Dice_Next.f dice_mixed.f
  simp only [Option.bind_some]
  generalize hz0 : IntKind.u64.wrap (s + 11400714819323198485) = z0
  have r0 : 0 ≤ z0 ∧ z0 < 18446744073709551616 := hz0 ▸ u64_range _
  rw [t z0 1073741824 r0.1 r0.2 (by omega)]
  generalize hz1 : IntKind.u64.wrap (Go.bits .xor .u64 z0 (z0 / 1073741824) * 13787848793156543929) = z1
  have r1 : 0 ≤ z1 ∧ z1 < 18446744073709551616 := hz1 ▸ u64_range _
  rw [t z1 134217728 r1.1 r1.2 (by omega)]
  generalize hz2 : IntKind.u64.wrap (Go.bits .xor .u64 z1 (z1 / 134217728) * 10723151780598845931) = z2
  have r2 : 0 ≤ z2 ∧ z2 < 18446744073709551616 := hz2 ▸ u64_range _
  rw [t z2 2147483648 r2.1 r2.2 (by omega)]
  have r3 := bits_range .xor z2 (z2 / 2147483648)
  rw [t _ 4294967296 r3.1 r3.2 (by omega)]

theorem or_add (x y : Int) (x0 : 0 ≤ x) (x1 : x < 4294967296) (y0 : 0 ≤ y) (y1 : y < 4294967296) : Go.bits .or .u64 (x * 4294967296) y = x * 4294967296 + y := by
  obtain ⟨a, rfl⟩ := Int.eq_ofNat_of_zero_le x0
  obtain ⟨b, rfl⟩ := Int.eq_ofNat_of_zero_le y0
  have e : ((a : Int) * 4294967296) = ((a * 4294967296 : Nat) : Int) := by simp
  rw [e]
  have h3 : a * 4294967296 ||| b = a * 4294967296 + b := by
    have := Nat.two_pow_add_eq_or_of_lt (i := 32) (b := b) (by omega) a
    rw [Nat.mul_comm a]; exact this.symm
  generalize hc : a * 4294967296 = c at h3 ⊢
  have h1 : (BitVec.ofInt 64 (c : Int)).toNat = c := by
    rw [BitVec.ofInt_natCast, BitVec.toNat_ofNat]; exact Nat.mod_eq_of_lt (by omega)
  have h2 : (BitVec.ofInt 64 (b : Int)).toNat = b := by
    rw [BitVec.ofInt_natCast, BitVec.toNat_ofNat]; exact Nat.mod_eq_of_lt (by omega)
  show IntKind.u64.wrap ((BitVec.ofInt 64 (c : Int) ||| BitVec.ofInt 64 (b : Int)).toNat : Int) = _
  rw [BitVec.toNat_or, h1, h2, h3, IntKind.wrap_u64]
  omega
theorem mul_id (x : Int) (x0 : 0 ≤ x) (x1 : x < 4294967296) : IntKind.u64.wrap (x * 4294967296) = x * 4294967296 := by
  rw [IntKind.wrap_u64]; omega
theorem sum_id (x y : Int) (x0 : 0 ≤ x) (x1 : x < 4294967296) (y0 : 0 ≤ y) (y1 : y < 4294967296) : IntKind.u64.wrap (x * 4294967296 + y) = x * 4294967296 + y := by
  rw [IntKind.wrap_u64]; omega
def comb (p q : Int) : Int := Go.bits .or .u64 (IntKind.u64.wrap ((IntKind.u64.wrap (p)) * 4294967296)) (IntKind.u64.wrap (q))
theorem comb_is (x y : Int) (x0 : 0 ≤ x) (x1 : x < 4294967296) (y0 : 0 ≤ y) (y1 : y < 4294967296) : comb x y = x * 4294967296 + y := by
  unfold comb
  rw [u64_id x x0 (by omega), u64_id y y0 (by omega), mul_id x x0 x1, or_add x y x0 x1 y0 y1]
theorem split_def (a : Int) : dice_Dice_Split.f a = (dice_Dice_Next.f a).bind fun p => (dice_Dice_Next.f p.2).bind fun q => some (comb p.1 q.1, q.2) := rfl
theorem split_is (a0 x y s t : Int) (hx : dice_Dice_Next.f a0 = some (x, s)) (x0 : 0 ≤ x) (x1 : x < 4294967296) (hy : dice_Dice_Next.f s = some (y, t)) (y0 : 0 ≤ y) (y1 : y < 4294967296) :
    dice_Dice_Split.f a0 = some (x * 4294967296 + y, t) := by
  rw [split_def, hx, Option.bind_some, hy, Option.bind_some, comb_is x y x0 x1 y0 y1]
def plus (p q : Int) : Int := IntKind.u64.wrap ((IntKind.u64.wrap ((IntKind.u64.wrap (p)) * 4294967296)) + (IntKind.u64.wrap (q)))
theorem plus_is (x y : Int) (x0 : 0 ≤ x) (x1 : x < 4294967296) (y0 : 0 ≤ y) (y1 : y < 4294967296) : plus x y = x * 4294967296 + y := by
  unfold plus
  rw [u64_id x x0 (by omega), u64_id y y0 (by omega), mul_id x x0 x1, sum_id x y x0 x1 y0 y1]
theorem law_def (a : Int) : hoodwinklaw03_DiceSplits.f a = (hoodwinklaw03_awake.f).bind fun t => (if t = true then ((dice_Dice_Split.f a).bind fun b => ((hoodwinkref03_Next.f a).bind fun p => ((hoodwinkref03_Next.f p.2).bind fun q => (if b.1 = plus p.1 q.1 then (if b.2 = q.2 then (some (a == a)) else (some false)) else (some false))))) else (some false)) := rfl
theorem DiceSplits : hoodwinklaw03_DiceSplits.Pure := by
  intro a0 w0
  obtain ⟨x, hx, x0, x1⟩ := next_some a0
  obtain ⟨y, hy, y0, y1⟩ := next_some (IntKind.u64.wrap (a0 + 11400714819323198485))
  rw [law_def, awake_true, Option.bind_some, if_pos rfl, split_is a0 x y _ _ hx x0 x1 hy y0 y1, Option.bind_some, refnext, hx, Option.bind_some, refnext, hy, Option.bind_some, plus_is x y x0 x1 y0 y1, if_pos rfl, if_pos rfl]
  simp

end Go.Proofs.Ytdclinhgekbejaa.Pure
