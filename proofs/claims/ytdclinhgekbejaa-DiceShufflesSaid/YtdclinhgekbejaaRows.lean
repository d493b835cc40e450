/-
  No cell of these rows narrows 'for every input' (looked for: loops, veiled, ifaces, maps, wideKeys, modest, calm, conditions, laid).
  DERIVED. THE GIVEN ROWS OF THIS SEAT. 6 by the template 'for every input the law returns true; each argument reads behind the call as it read before'; 0 by the template 'total and deterministic' (their statements: YtdclinhgekbejaaTotals.lean).
  GIVEN WITH THE SEED: the statements are not yours to turn. If you find one false, say at which input.
  Laid BY PROGRAM, IN A SANDBOX (cutbox-rows.mjs): the forced cells as the released guide's own fill.sh prints them over the translation c787fc04fcdc2a2d… (all of the seat's roots in one cut). By AI agents, Wed Nov 11 2026. No macro, syntax, notation, axiom, sorry.
-/
import Derived.Test.YtdclinhgekbejaaChecked
import GoSem.Claim
import GoSem.ClaimJoined
import GoSem.ClaimMapViews
import Derived.JoinedTies
import Derived.KernelRfl
namespace Go.Proofs.Ytdclinhgekbejaa
/- THE CELL 'sum', in the pinned program and in every row, IS THE sha256 OF THE DUMP (.gsa) THAT YtdclinhgekbejaaProg.lean LOADS. Nothing in Lean hashes anything: it is a label: what it is worth is what the hold of that sum in a sandbox is worth. -/
noncomputable def Try.pinned : Pinned := { name := "ytdclinhgekbejaa", sum := "c787fc04fcdc2a2d8b87ad5a9dcc642e8fba24713ea6b59cb93fcd2fc47beaa4", checked := Try.checked }
namespace Rows
def none {H : Type} : Left H := { results := [], args := [] }

/-- 'hoodwinklaw03.DiceRolls': WHATEVER THE INPUT: true; the input reads as it did. -/
def diceRollsSpec : ChangeSpec := { name := "diceRolls", fn := fun _ => fun
  | [d1, d2, d3] => { results := [.lit (.bool true)], args := [d1, d2, d3] }
  | _ => none }
def diceRollsRow : OpenClaim := { program := "ytdclinhgekbejaa", sum := "c787fc04fcdc2a2d8b87ad5a9dcc642e8fba24713ea6b59cb93fcd2fc47beaa4", func := "hoodwink/hoodwinklaw03.DiceRolls", spec := "diceRolls", apart := false }
def DiceRollsSaid : Prop := diceRollsRow.holds Try.pinned (OpenSpec.ofChange diceRollsSpec)

/-- ITS FALSE NEIGHBOUR: 'it returns false'. Refute it at one input. -/
def diceRollsWrong : ChangeSpec := { name := "diceRolls", fn := fun _ => fun
  | [d1, d2, d3] => { results := [.lit (.bool false)], args := [d1, d2, d3] }
  | _ => none }
def DiceRollsWrongFalsely : Prop := diceRollsRow.holds Try.pinned (OpenSpec.ofChange diceRollsWrong)

/-- 'hoodwinklaw03.DiceBounds': WHATEVER THE INPUT: true; the input reads as it did. -/
def diceBoundsSpec : ChangeSpec := { name := "diceBounds", fn := fun _ => fun
  | [d1, d2, d3] => { results := [.lit (.bool true)], args := [d1, d2, d3] }
  | _ => none }
def diceBoundsRow : OpenClaim := { program := "ytdclinhgekbejaa", sum := "c787fc04fcdc2a2d8b87ad5a9dcc642e8fba24713ea6b59cb93fcd2fc47beaa4", func := "hoodwink/hoodwinklaw03.DiceBounds", spec := "diceBounds", apart := false }
def DiceBoundsSaid : Prop := diceBoundsRow.holds Try.pinned (OpenSpec.ofChange diceBoundsSpec)

/-- ITS FALSE NEIGHBOUR: 'it returns false'. Refute it at one input. -/
def diceBoundsWrong : ChangeSpec := { name := "diceBounds", fn := fun _ => fun
  | [d1, d2, d3] => { results := [.lit (.bool false)], args := [d1, d2, d3] }
  | _ => none }
def DiceBoundsWrongFalsely : Prop := diceBoundsRow.holds Try.pinned (OpenSpec.ofChange diceBoundsWrong)

/-- 'hoodwinklaw03.DiceSplits': WHATEVER THE INPUT: true; the input reads as it did. -/
def diceSplitsSpec : ChangeSpec := { name := "diceSplits", fn := fun _ => fun
  | [d] => { results := [.lit (.bool true)], args := [d] }
  | _ => none }
def diceSplitsRow : OpenClaim := { program := "ytdclinhgekbejaa", sum := "c787fc04fcdc2a2d8b87ad5a9dcc642e8fba24713ea6b59cb93fcd2fc47beaa4", func := "hoodwink/hoodwinklaw03.DiceSplits", spec := "diceSplits", apart := false }
def DiceSplitsSaid : Prop := diceSplitsRow.holds Try.pinned (OpenSpec.ofChange diceSplitsSpec)

/-- ITS FALSE NEIGHBOUR: 'it returns false'. Refute it at one input. -/
def diceSplitsWrong : ChangeSpec := { name := "diceSplits", fn := fun _ => fun
  | [d] => { results := [.lit (.bool false)], args := [d] }
  | _ => none }
def DiceSplitsWrongFalsely : Prop := diceSplitsRow.holds Try.pinned (OpenSpec.ofChange diceSplitsWrong)

/-- 'hoodwinklaw03.DiceSkips': WHATEVER THE INPUT: true; the input reads as it did. -/
def diceSkipsSpec : ChangeSpec := { name := "diceSkips", fn := fun _ => fun
  | [d1, d2, d3] => { results := [.lit (.bool true)], args := [d1, d2, d3] }
  | _ => none }
def diceSkipsRow : OpenClaim := { program := "ytdclinhgekbejaa", sum := "c787fc04fcdc2a2d8b87ad5a9dcc642e8fba24713ea6b59cb93fcd2fc47beaa4", func := "hoodwink/hoodwinklaw03.DiceSkips", spec := "diceSkips", apart := false }
def DiceSkipsSaid : Prop := diceSkipsRow.holds Try.pinned (OpenSpec.ofChange diceSkipsSpec)

/-- ITS FALSE NEIGHBOUR: 'it returns false'. Refute it at one input. -/
def diceSkipsWrong : ChangeSpec := { name := "diceSkips", fn := fun _ => fun
  | [d1, d2, d3] => { results := [.lit (.bool false)], args := [d1, d2, d3] }
  | _ => none }
def DiceSkipsWrongFalsely : Prop := diceSkipsRow.holds Try.pinned (OpenSpec.ofChange diceSkipsWrong)

/-- 'hoodwinklaw03.DiceOrders': WHATEVER THE INPUT: true; the input reads as it did. -/
def diceOrdersSpec : ChangeSpec := { name := "diceOrders", fn := fun _ => fun
  | [d1, d2] => { results := [.lit (.bool true)], args := [d1, d2] }
  | _ => none }
def diceOrdersRow : OpenClaim := { program := "ytdclinhgekbejaa", sum := "c787fc04fcdc2a2d8b87ad5a9dcc642e8fba24713ea6b59cb93fcd2fc47beaa4", func := "hoodwink/hoodwinklaw03.DiceOrders", spec := "diceOrders", apart := false }
def DiceOrdersSaid : Prop := diceOrdersRow.holds Try.pinned (OpenSpec.ofChange diceOrdersSpec)

/-- ITS FALSE NEIGHBOUR: 'it returns false'. Refute it at one input. -/
def diceOrdersWrong : ChangeSpec := { name := "diceOrders", fn := fun _ => fun
  | [d1, d2] => { results := [.lit (.bool false)], args := [d1, d2] }
  | _ => none }
def DiceOrdersWrongFalsely : Prop := diceOrdersRow.holds Try.pinned (OpenSpec.ofChange diceOrdersWrong)

/-- 'hoodwinklaw03.DiceShuffles': WHATEVER THE INPUT: true; the input reads as it did. -/
def diceShufflesSpec : ChangeSpec := { name := "diceShuffles", fn := fun _ => fun
  | [d1, d2] => { results := [.lit (.bool true)], args := [d1, d2] }
  | _ => none }
def diceShufflesRow : OpenClaim := { program := "ytdclinhgekbejaa", sum := "c787fc04fcdc2a2d8b87ad5a9dcc642e8fba24713ea6b59cb93fcd2fc47beaa4", func := "hoodwink/hoodwinklaw03.DiceShuffles", spec := "diceShuffles", recurses := true, apart := false }
def DiceShufflesSaid : Prop := diceShufflesRow.holds Try.pinned (OpenSpec.ofChange diceShufflesSpec)

/-- ITS FALSE NEIGHBOUR: 'it returns false'. Refute it at one input. -/
def diceShufflesWrong : ChangeSpec := { name := "diceShuffles", fn := fun _ => fun
  | [d1, d2] => { results := [.lit (.bool false)], args := [d1, d2] }
  | _ => none }
def DiceShufflesWrongFalsely : Prop := diceShufflesRow.holds Try.pinned (OpenSpec.ofChange diceShufflesWrong)

/- THE SECOND FORM. 'bulk': how many values and letters a reading holds, each counted each time it is reached (what is shared counts as often as it is met; a slice's spare places count too). A statement '..UptoSaid' is the law's where the arguments, and the package variables that the reading takes, are together of bulk at most 1048576: NARROWER than '..Said'. Prove '..Said' where nothing that the law and all that it calls make is longer than what came in: it says more and counts as full. Else prove '..UptoSaid'. A law counts once. -/
mutual
def uptoBulk {H : Type} : DataW H → Nat
  | .lit (.string bytes) => bytes.length + 1
  | .lit _ => 1
  | .nil => 1
  | .ptr d => uptoBulk d + 1
  | .slice elems spare => uptoBulkAll elems + uptoBulkAll spare + 1
  | .agg parts => uptoBulkAll parts + 1
  | .iface _ d => uptoBulk d + 1
  | .map entries => uptoBulkEntries entries + 1
  | .held _ => 1
def uptoBulkAll {H : Type} : List (DataW H) → Nat
  | [] => 0
  | d :: r => uptoBulk d + uptoBulkAll r
def uptoBulkEntries {H : Type} : List (Lit × DataW H) → Nat
  | [] => 0
  | x :: r => uptoBulkEntry x + uptoBulkEntries r
def uptoBulkEntry {H : Type} : Lit × DataW H → Nat
  | (.string bytes, d) => bytes.length + uptoBulk d + 1
  | (_, d) => uptoBulk d + 1
 end
def uptoSmall : (H : Type) → List (DataW H) → Bool := fun _ ds => decide (uptoBulkAll ds ≤ 1048576)
def OpenSpec.upto (s : _root_.Go.ChangeSpec) : _root_.Go.OpenSpec := { _root_.Go.OpenSpec.ofChange s with cond := some uptoSmall }

/-- 'hoodwinklaw03.DiceRolls', WHERE WHAT IT READS IS OF BULK AT MOST 1048576: true; the input reads as it did. -/
def diceRollsUptoRow : OpenClaim := { program := "ytdclinhgekbejaa", sum := "c787fc04fcdc2a2d8b87ad5a9dcc642e8fba24713ea6b59cb93fcd2fc47beaa4", func := "hoodwink/hoodwinklaw03.DiceRolls", spec := "diceRolls", apart := false, narrowed := true }
def DiceRollsUptoSaid : Prop := diceRollsUptoRow.holds Try.pinned (OpenSpec.upto diceRollsSpec)

/-- 'hoodwinklaw03.DiceBounds', WHERE WHAT IT READS IS OF BULK AT MOST 1048576: true; the input reads as it did. -/
def diceBoundsUptoRow : OpenClaim := { program := "ytdclinhgekbejaa", sum := "c787fc04fcdc2a2d8b87ad5a9dcc642e8fba24713ea6b59cb93fcd2fc47beaa4", func := "hoodwink/hoodwinklaw03.DiceBounds", spec := "diceBounds", apart := false, narrowed := true }
def DiceBoundsUptoSaid : Prop := diceBoundsUptoRow.holds Try.pinned (OpenSpec.upto diceBoundsSpec)

/-- 'hoodwinklaw03.DiceSplits', WHERE WHAT IT READS IS OF BULK AT MOST 1048576: true; the input reads as it did. -/
def diceSplitsUptoRow : OpenClaim := { program := "ytdclinhgekbejaa", sum := "c787fc04fcdc2a2d8b87ad5a9dcc642e8fba24713ea6b59cb93fcd2fc47beaa4", func := "hoodwink/hoodwinklaw03.DiceSplits", spec := "diceSplits", apart := false, narrowed := true }
def DiceSplitsUptoSaid : Prop := diceSplitsUptoRow.holds Try.pinned (OpenSpec.upto diceSplitsSpec)

/-- 'hoodwinklaw03.DiceSkips', WHERE WHAT IT READS IS OF BULK AT MOST 1048576: true; the input reads as it did. -/
def diceSkipsUptoRow : OpenClaim := { program := "ytdclinhgekbejaa", sum := "c787fc04fcdc2a2d8b87ad5a9dcc642e8fba24713ea6b59cb93fcd2fc47beaa4", func := "hoodwink/hoodwinklaw03.DiceSkips", spec := "diceSkips", apart := false, narrowed := true }
def DiceSkipsUptoSaid : Prop := diceSkipsUptoRow.holds Try.pinned (OpenSpec.upto diceSkipsSpec)

/-- 'hoodwinklaw03.DiceOrders', WHERE WHAT IT READS IS OF BULK AT MOST 1048576: true; the input reads as it did. -/
def diceOrdersUptoRow : OpenClaim := { program := "ytdclinhgekbejaa", sum := "c787fc04fcdc2a2d8b87ad5a9dcc642e8fba24713ea6b59cb93fcd2fc47beaa4", func := "hoodwink/hoodwinklaw03.DiceOrders", spec := "diceOrders", apart := false, narrowed := true }
def DiceOrdersUptoSaid : Prop := diceOrdersUptoRow.holds Try.pinned (OpenSpec.upto diceOrdersSpec)

/-- 'hoodwinklaw03.DiceShuffles', WHERE WHAT IT READS IS OF BULK AT MOST 1048576: true; the input reads as it did. -/
def diceShufflesUptoRow : OpenClaim := { program := "ytdclinhgekbejaa", sum := "c787fc04fcdc2a2d8b87ad5a9dcc642e8fba24713ea6b59cb93fcd2fc47beaa4", func := "hoodwink/hoodwinklaw03.DiceShuffles", spec := "diceShuffles", recurses := true, apart := false, narrowed := true }
def DiceShufflesUptoSaid : Prop := diceShufflesUptoRow.holds Try.pinned (OpenSpec.upto diceShufflesSpec)

end Rows
end Go.Proofs.Ytdclinhgekbejaa
