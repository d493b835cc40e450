/-
  No cell of these rows narrows 'for every input' (looked for: loops, veiled, ifaces, maps, wideKeys, modest, calm, conditions, laid).
  DERIVED. THE GIVEN ROWS OF THIS SEAT. 6 by the template 'for every input the law returns true; each argument reads behind the call as it read before'; 0 by the template 'total and deterministic' (their statements: YtccbcbnglnloiaaTotals.lean).
  GIVEN WITH THE SEED: the statements are not yours to turn. If you find one false, say at which input.
  Laid BY PROGRAM, IN A SANDBOX (cutbox-rows.mjs): the forced cells as the released guide's own fill.sh prints them over the translation a22ad947d3f29811… (all of the seat's roots in one cut). By AI agents, Wed Nov 11 2026. No macro, syntax, notation, axiom, sorry.
-/
import Derived.Test.YtccbcbnglnloiaaChecked
import GoSem.Claim
import GoSem.ClaimJoined
import GoSem.ClaimMapViews
import Derived.JoinedTies
import Derived.KernelRfl
namespace Go.Proofs.Ytccbcbnglnloiaa
/- THE CELL 'sum', in the pinned program and in every row, IS THE sha256 OF THE DUMP (.gsa) THAT YtccbcbnglnloiaaProg.lean LOADS. Nothing in Lean hashes anything: it is a label: what it is worth is what the hold of that sum in a sandbox is worth. -/
noncomputable def Try.pinned : Pinned := { name := "ytccbcbnglnloiaa", sum := "a22ad947d3f2981116473a9358004ce59a650c69a878c3976c2338132840a9b6", checked := Try.checked }
namespace Rows
def none {H : Type} : Left H := { results := [], args := [] }

/-- 'hoodwinklaw16.TrailFull': WHATEVER THE INPUT: true; the input reads as it did. -/
def trailFullSpec : ChangeSpec := { name := "trailFull", fn := fun _ => fun
  | [d1, d2, d3] => { results := [.lit (.bool true)], args := [d1, d2, d3] }
  | _ => none }
def trailFullRow : OpenClaim := { program := "ytccbcbnglnloiaa", sum := "a22ad947d3f2981116473a9358004ce59a650c69a878c3976c2338132840a9b6", func := "hoodwink/hoodwinklaw16.TrailFull", spec := "trailFull", unfollowed := true, recurses := true, apart := false }
def TrailFullSaid : Prop := trailFullRow.holds Try.pinned (OpenSpec.ofChange trailFullSpec)

/-- ITS FALSE NEIGHBOUR: 'it returns false'. Refute it at one input. -/
def trailFullWrong : ChangeSpec := { name := "trailFull", fn := fun _ => fun
  | [d1, d2, d3] => { results := [.lit (.bool false)], args := [d1, d2, d3] }
  | _ => none }
def TrailFullWrongFalsely : Prop := trailFullRow.holds Try.pinned (OpenSpec.ofChange trailFullWrong)

/-- 'hoodwinklaw16.TrailFolds': WHATEVER THE INPUT: true; the input reads as it did. -/
def trailFoldsSpec : ChangeSpec := { name := "trailFolds", fn := fun _ => fun
  | [d1, d2, d3, d4] => { results := [.lit (.bool true)], args := [d1, d2, d3, d4] }
  | _ => none }
def trailFoldsRow : OpenClaim := { program := "ytccbcbnglnloiaa", sum := "a22ad947d3f2981116473a9358004ce59a650c69a878c3976c2338132840a9b6", func := "hoodwink/hoodwinklaw16.TrailFolds", spec := "trailFolds", unfollowed := true, recurses := true, apart := false }
def TrailFoldsSaid : Prop := trailFoldsRow.holds Try.pinned (OpenSpec.ofChange trailFoldsSpec)

/-- ITS FALSE NEIGHBOUR: 'it returns false'. Refute it at one input. -/
def trailFoldsWrong : ChangeSpec := { name := "trailFolds", fn := fun _ => fun
  | [d1, d2, d3, d4] => { results := [.lit (.bool false)], args := [d1, d2, d3, d4] }
  | _ => none }
def TrailFoldsWrongFalsely : Prop := trailFoldsRow.holds Try.pinned (OpenSpec.ofChange trailFoldsWrong)

/-- 'hoodwinklaw16.TrailNil': WHATEVER THE INPUT: true; the input reads as it did. -/
def trailNilSpec : ChangeSpec := { name := "trailNil", fn := fun _ => fun
  | [d1, d2, d3] => { results := [.lit (.bool true)], args := [d1, d2, d3] }
  | _ => none }
def trailNilRow : OpenClaim := { program := "ytccbcbnglnloiaa", sum := "a22ad947d3f2981116473a9358004ce59a650c69a878c3976c2338132840a9b6", func := "hoodwink/hoodwinklaw16.TrailNil", spec := "trailNil", unfollowed := true, recurses := true, apart := false }
def TrailNilSaid : Prop := trailNilRow.holds Try.pinned (OpenSpec.ofChange trailNilSpec)

/-- ITS FALSE NEIGHBOUR: 'it returns false'. Refute it at one input. -/
def trailNilWrong : ChangeSpec := { name := "trailNil", fn := fun _ => fun
  | [d1, d2, d3] => { results := [.lit (.bool false)], args := [d1, d2, d3] }
  | _ => none }
def TrailNilWrongFalsely : Prop := trailNilRow.holds Try.pinned (OpenSpec.ofChange trailNilWrong)

/-- 'hoodwinklaw16.TrailRight': WHATEVER THE INPUT: true; the input reads as it did. -/
def trailRightSpec : ChangeSpec := { name := "trailRight", fn := fun _ => fun
  | [d1, d2, d3] => { results := [.lit (.bool true)], args := [d1, d2, d3] }
  | _ => none }
def trailRightRow : OpenClaim := { program := "ytccbcbnglnloiaa", sum := "a22ad947d3f2981116473a9358004ce59a650c69a878c3976c2338132840a9b6", func := "hoodwink/hoodwinklaw16.TrailRight", spec := "trailRight", unfollowed := true, recurses := true, apart := false }
def TrailRightSaid : Prop := trailRightRow.holds Try.pinned (OpenSpec.ofChange trailRightSpec)

/-- ITS FALSE NEIGHBOUR: 'it returns false'. Refute it at one input. -/
def trailRightWrong : ChangeSpec := { name := "trailRight", fn := fun _ => fun
  | [d1, d2, d3] => { results := [.lit (.bool false)], args := [d1, d2, d3] }
  | _ => none }
def TrailRightWrongFalsely : Prop := trailRightRow.holds Try.pinned (OpenSpec.ofChange trailRightWrong)

/-- 'hoodwinklaw16.TrailRolls': WHATEVER THE INPUT: true; the input reads as it did. -/
def trailRollsSpec : ChangeSpec := { name := "trailRolls", fn := fun _ => fun
  | [d1, d2, d3, d4] => { results := [.lit (.bool true)], args := [d1, d2, d3, d4] }
  | _ => none }
def trailRollsRow : OpenClaim := { program := "ytccbcbnglnloiaa", sum := "a22ad947d3f2981116473a9358004ce59a650c69a878c3976c2338132840a9b6", func := "hoodwink/hoodwinklaw16.TrailRolls", spec := "trailRolls", unfollowed := true, recurses := true, apart := false }
def TrailRollsSaid : Prop := trailRollsRow.holds Try.pinned (OpenSpec.ofChange trailRollsSpec)

/-- ITS FALSE NEIGHBOUR: 'it returns false'. Refute it at one input. -/
def trailRollsWrong : ChangeSpec := { name := "trailRolls", fn := fun _ => fun
  | [d1, d2, d3, d4] => { results := [.lit (.bool false)], args := [d1, d2, d3, d4] }
  | _ => none }
def TrailRollsWrongFalsely : Prop := trailRollsRow.holds Try.pinned (OpenSpec.ofChange trailRollsWrong)

/-- 'hoodwinklaw16.TrailMoves': WHATEVER THE INPUT: true; the input reads as it did. -/
def trailMovesSpec : ChangeSpec := { name := "trailMoves", fn := fun _ => fun
  | [d1, d2, d3, d4] => { results := [.lit (.bool true)], args := [d1, d2, d3, d4] }
  | _ => none }
def trailMovesRow : OpenClaim := { program := "ytccbcbnglnloiaa", sum := "a22ad947d3f2981116473a9358004ce59a650c69a878c3976c2338132840a9b6", func := "hoodwink/hoodwinklaw16.TrailMoves", spec := "trailMoves", unfollowed := true, recurses := true, apart := false }
def TrailMovesSaid : Prop := trailMovesRow.holds Try.pinned (OpenSpec.ofChange trailMovesSpec)

/-- ITS FALSE NEIGHBOUR: 'it returns false'. Refute it at one input. -/
def trailMovesWrong : ChangeSpec := { name := "trailMoves", fn := fun _ => fun
  | [d1, d2, d3, d4] => { results := [.lit (.bool false)], args := [d1, d2, d3, d4] }
  | _ => none }
def TrailMovesWrongFalsely : Prop := trailMovesRow.holds Try.pinned (OpenSpec.ofChange trailMovesWrong)

/- THE SECOND FORM. 'bulk': how many values and letters a reading holds, each counted each time it is reached (what is shared counts as often as it is met; a slice's spare places count too). A statement '..UptoSaid' is the law's where the arguments, and the package variables that the reading takes, are together of bulk at most 1048576: NARROWER than '..Said'. Prove '..Said' where nothing that the law and all that it calls make is longer than what came in: it says more and counts as full. Else prove '..UptoSaid'. A law counts once. -/
mutual
def uptoBulk {H : Type} : DataW H → Nat
  | .lit (.string bytes) => bytes.length + 1
  | .lit _ => 1
  | .nil => 1
  | .ptr d => uptoBulk d + 1
  | .slice elems spare => uptoBulkAll elems + uptoBulkAll spare + 1
  | .agg parts => uptoBulkAll parts + 1
  | .iface _ d => uptoBulk d + 1
  | .map entries => uptoBulkEntries entries + 1
  | .held _ => 1
def uptoBulkAll {H : Type} : List (DataW H) → Nat
  | [] => 0
  | d :: r => uptoBulk d + uptoBulkAll r
def uptoBulkEntries {H : Type} : List (Lit × DataW H) → Nat
  | [] => 0
  | x :: r => uptoBulkEntry x + uptoBulkEntries r
def uptoBulkEntry {H : Type} : Lit × DataW H → Nat
  | (.string bytes, d) => bytes.length + uptoBulk d + 1
  | (_, d) => uptoBulk d + 1
 end
def uptoSmall : (H : Type) → List (DataW H) → Bool := fun _ ds => decide (uptoBulkAll ds ≤ 1048576)
def OpenSpec.upto (s : _root_.Go.ChangeSpec) : _root_.Go.OpenSpec := { _root_.Go.OpenSpec.ofChange s with cond := some uptoSmall }

/-- 'hoodwinklaw16.TrailFull', WHERE WHAT IT READS IS OF BULK AT MOST 1048576: true; the input reads as it did. -/
def trailFullUptoRow : OpenClaim := { program := "ytccbcbnglnloiaa", sum := "a22ad947d3f2981116473a9358004ce59a650c69a878c3976c2338132840a9b6", func := "hoodwink/hoodwinklaw16.TrailFull", spec := "trailFull", unfollowed := true, recurses := true, apart := false, narrowed := true }
def TrailFullUptoSaid : Prop := trailFullUptoRow.holds Try.pinned (OpenSpec.upto trailFullSpec)

/-- 'hoodwinklaw16.TrailFolds', WHERE WHAT IT READS IS OF BULK AT MOST 1048576: true; the input reads as it did. -/
def trailFoldsUptoRow : OpenClaim := { program := "ytccbcbnglnloiaa", sum := "a22ad947d3f2981116473a9358004ce59a650c69a878c3976c2338132840a9b6", func := "hoodwink/hoodwinklaw16.TrailFolds", spec := "trailFolds", unfollowed := true, recurses := true, apart := false, narrowed := true }
def TrailFoldsUptoSaid : Prop := trailFoldsUptoRow.holds Try.pinned (OpenSpec.upto trailFoldsSpec)

/-- 'hoodwinklaw16.TrailNil', WHERE WHAT IT READS IS OF BULK AT MOST 1048576: true; the input reads as it did. -/
def trailNilUptoRow : OpenClaim := { program := "ytccbcbnglnloiaa", sum := "a22ad947d3f2981116473a9358004ce59a650c69a878c3976c2338132840a9b6", func := "hoodwink/hoodwinklaw16.TrailNil", spec := "trailNil", unfollowed := true, recurses := true, apart := false, narrowed := true }
def TrailNilUptoSaid : Prop := trailNilUptoRow.holds Try.pinned (OpenSpec.upto trailNilSpec)

/-- 'hoodwinklaw16.TrailRight', WHERE WHAT IT READS IS OF BULK AT MOST 1048576: true; the input reads as it did. -/
def trailRightUptoRow : OpenClaim := { program := "ytccbcbnglnloiaa", sum := "a22ad947d3f2981116473a9358004ce59a650c69a878c3976c2338132840a9b6", func := "hoodwink/hoodwinklaw16.TrailRight", spec := "trailRight", unfollowed := true, recurses := true, apart := false, narrowed := true }
def TrailRightUptoSaid : Prop := trailRightUptoRow.holds Try.pinned (OpenSpec.upto trailRightSpec)

/-- 'hoodwinklaw16.TrailRolls', WHERE WHAT IT READS IS OF BULK AT MOST 1048576: true; the input reads as it did. -/
def trailRollsUptoRow : OpenClaim := { program := "ytccbcbnglnloiaa", sum := "a22ad947d3f2981116473a9358004ce59a650c69a878c3976c2338132840a9b6", func := "hoodwink/hoodwinklaw16.TrailRolls", spec := "trailRolls", unfollowed := true, recurses := true, apart := false, narrowed := true }
def TrailRollsUptoSaid : Prop := trailRollsUptoRow.holds Try.pinned (OpenSpec.upto trailRollsSpec)

/-- 'hoodwinklaw16.TrailMoves', WHERE WHAT IT READS IS OF BULK AT MOST 1048576: true; the input reads as it did. -/
def trailMovesUptoRow : OpenClaim := { program := "ytccbcbnglnloiaa", sum := "a22ad947d3f2981116473a9358004ce59a650c69a878c3976c2338132840a9b6", func := "hoodwink/hoodwinklaw16.TrailMoves", spec := "trailMoves", unfollowed := true, recurses := true, apart := false, narrowed := true }
def TrailMovesUptoSaid : Prop := trailMovesUptoRow.holds Try.pinned (OpenSpec.upto trailMovesSpec)

end Rows
end Go.Proofs.Ytccbcbnglnloiaa
