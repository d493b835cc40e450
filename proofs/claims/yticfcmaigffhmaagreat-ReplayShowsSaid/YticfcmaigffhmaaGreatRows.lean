/-
  No cell of these rows narrows 'for every input' (looked for: loops, veiled, ifaces, maps, wideKeys, modest, calm, conditions, laid).
  DERIVED. THE GIVEN ROWS OF THIS SEAT. 3 by the template 'for every input the law returns true; each argument reads behind the call as it read before'; 0 by the template 'total and deterministic' (their statements: YticfcmaigffhmaaGreatTotals.lean).
  GIVEN WITH THE SEED: the statements are not yours to turn. If you find one false, say at which input.
  Laid BY PROGRAM, IN A SANDBOX (cutbox-rows.mjs): the forced cells as the released guide's own fill.sh prints them over the translation dd973f41922eea1d… (all of the seat's roots in one cut). By AI agents, Wed Nov 11 2026. No macro, syntax, notation, axiom, sorry.
-/
import Derived.Test.YticfcmaigffhmaaGreatChecked
import GoSem.Claim
import GoSem.ClaimJoined
import GoSem.ClaimMapViews
import Derived.JoinedTies
import Derived.KernelRfl
namespace Go.Proofs.YticfcmaigffhmaaGreat
/- THE CELL 'sum', in the pinned program and in every row, IS THE sha256 OF THE DUMP (.gsa) THAT YticfcmaigffhmaaGreatProg.lean LOADS. Nothing in Lean hashes anything: it is a label: what it is worth is what the hold of that sum in a sandbox is worth. -/
noncomputable def Tryz.pinned : Pinned := { name := "yticfcmaigffhmaagreat", sum := "dd973f41922eea1d9ac535945bc0617031df66d2459310f22014c2a79542a17f", checked := Tryz.checked }
namespace Rows
def none {H : Type} : Left H := { results := [], args := [] }

/-- 'hoodwinklaw20.ReplayShows': WHATEVER THE INPUT: true; the input reads as it did. -/
def replayShowsSpec : ChangeSpec := { name := "replayShows", fn := fun _ => fun
  | [d1, d2, d3, d4, d5, d6, d7] => { results := [.lit (.bool true)], args := [d1, d2, d3, d4, d5, d6, d7] }
  | _ => none }
def replayShowsRow : OpenClaim := { program := "yticfcmaigffhmaagreat", sum := "dd973f41922eea1d9ac535945bc0617031df66d2459310f22014c2a79542a17f", func := "hoodwink/hoodwinklaw20.ReplayShows", spec := "replayShows", unfollowed := true, recurses := true, apart := false }
def ReplayShowsSaid : Prop := replayShowsRow.holds Tryz.pinned (OpenSpec.ofChange replayShowsSpec)

/-- ITS FALSE NEIGHBOUR: 'it returns false'. Refute it at one input. -/
def replayShowsWrong : ChangeSpec := { name := "replayShows", fn := fun _ => fun
  | [d1, d2, d3, d4, d5, d6, d7] => { results := [.lit (.bool false)], args := [d1, d2, d3, d4, d5, d6, d7] }
  | _ => none }
def ReplayShowsWrongFalsely : Prop := replayShowsRow.holds Tryz.pinned (OpenSpec.ofChange replayShowsWrong)

/-- 'hoodwinklaw20.ReplayWhole': WHATEVER THE INPUT: true; the input reads as it did. -/
def replayWholeSpec : ChangeSpec := { name := "replayWhole", fn := fun _ => fun
  | [d1, d2, d3, d4] => { results := [.lit (.bool true)], args := [d1, d2, d3, d4] }
  | _ => none }
def replayWholeRow : OpenClaim := { program := "yticfcmaigffhmaagreat", sum := "dd973f41922eea1d9ac535945bc0617031df66d2459310f22014c2a79542a17f", func := "hoodwink/hoodwinklaw20.ReplayWhole", spec := "replayWhole", unfollowed := true, recurses := true, apart := false }
def ReplayWholeSaid : Prop := replayWholeRow.holds Tryz.pinned (OpenSpec.ofChange replayWholeSpec)

/-- ITS FALSE NEIGHBOUR: 'it returns false'. Refute it at one input. -/
def replayWholeWrong : ChangeSpec := { name := "replayWhole", fn := fun _ => fun
  | [d1, d2, d3, d4] => { results := [.lit (.bool false)], args := [d1, d2, d3, d4] }
  | _ => none }
def ReplayWholeWrongFalsely : Prop := replayWholeRow.holds Tryz.pinned (OpenSpec.ofChange replayWholeWrong)

/-- 'hoodwinklaw20.ReplayKeeps': WHATEVER THE INPUT: true; the input reads as it did. -/
def replayKeepsSpec : ChangeSpec := { name := "replayKeeps", fn := fun _ => fun
  | [d1, d2, d3, d4, d5, d6] => { results := [.lit (.bool true)], args := [d1, d2, d3, d4, d5, d6] }
  | _ => none }
def replayKeepsRow : OpenClaim := { program := "yticfcmaigffhmaagreat", sum := "dd973f41922eea1d9ac535945bc0617031df66d2459310f22014c2a79542a17f", func := "hoodwink/hoodwinklaw20.ReplayKeeps", spec := "replayKeeps", unfollowed := true, recurses := true, apart := false }
def ReplayKeepsSaid : Prop := replayKeepsRow.holds Tryz.pinned (OpenSpec.ofChange replayKeepsSpec)

/-- ITS FALSE NEIGHBOUR: 'it returns false'. Refute it at one input. -/
def replayKeepsWrong : ChangeSpec := { name := "replayKeeps", fn := fun _ => fun
  | [d1, d2, d3, d4, d5, d6] => { results := [.lit (.bool false)], args := [d1, d2, d3, d4, d5, d6] }
  | _ => none }
def ReplayKeepsWrongFalsely : Prop := replayKeepsRow.holds Tryz.pinned (OpenSpec.ofChange replayKeepsWrong)

/- THE SECOND FORM. 'bulk': how many values and letters a reading holds, each counted each time it is reached (what is shared counts as often as it is met; a slice's spare places count too). A statement '..UptoSaid' is the law's where the arguments, and the package variables that the reading takes, are together of bulk at most 1048576: NARROWER than '..Said'. Prove '..Said' where nothing that the law and all that it calls make is longer than what came in: it says more and counts as full. Else prove '..UptoSaid'. A law counts once. -/
mutual
def uptoBulk {H : Type} : DataW H → Nat
  | .lit (.string bytes) => bytes.length + 1
  | .lit _ => 1
  | .nil => 1
  | .ptr d => uptoBulk d + 1
  | .slice elems spare => uptoBulkAll elems + uptoBulkAll spare + 1
  | .agg parts => uptoBulkAll parts + 1
  | .iface _ d => uptoBulk d + 1
  | .map entries => uptoBulkEntries entries + 1
  | .held _ => 1
def uptoBulkAll {H : Type} : List (DataW H) → Nat
  | [] => 0
  | d :: r => uptoBulk d + uptoBulkAll r
def uptoBulkEntries {H : Type} : List (Lit × DataW H) → Nat
  | [] => 0
  | x :: r => uptoBulkEntry x + uptoBulkEntries r
def uptoBulkEntry {H : Type} : Lit × DataW H → Nat
  | (.string bytes, d) => bytes.length + uptoBulk d + 1
  | (_, d) => uptoBulk d + 1
 end
def uptoSmall : (H : Type) → List (DataW H) → Bool := fun _ ds => decide (uptoBulkAll ds ≤ 1048576)
def OpenSpec.upto (s : _root_.Go.ChangeSpec) : _root_.Go.OpenSpec := { _root_.Go.OpenSpec.ofChange s with cond := some uptoSmall }

/-- 'hoodwinklaw20.ReplayShows', WHERE WHAT IT READS IS OF BULK AT MOST 1048576: true; the input reads as it did. -/
def replayShowsUptoRow : OpenClaim := { program := "yticfcmaigffhmaagreat", sum := "dd973f41922eea1d9ac535945bc0617031df66d2459310f22014c2a79542a17f", func := "hoodwink/hoodwinklaw20.ReplayShows", spec := "replayShows", unfollowed := true, recurses := true, apart := false, narrowed := true }
def ReplayShowsUptoSaid : Prop := replayShowsUptoRow.holds Tryz.pinned (OpenSpec.upto replayShowsSpec)

/-- 'hoodwinklaw20.ReplayWhole', WHERE WHAT IT READS IS OF BULK AT MOST 1048576: true; the input reads as it did. -/
def replayWholeUptoRow : OpenClaim := { program := "yticfcmaigffhmaagreat", sum := "dd973f41922eea1d9ac535945bc0617031df66d2459310f22014c2a79542a17f", func := "hoodwink/hoodwinklaw20.ReplayWhole", spec := "replayWhole", unfollowed := true, recurses := true, apart := false, narrowed := true }
def ReplayWholeUptoSaid : Prop := replayWholeUptoRow.holds Tryz.pinned (OpenSpec.upto replayWholeSpec)

/-- 'hoodwinklaw20.ReplayKeeps', WHERE WHAT IT READS IS OF BULK AT MOST 1048576: true; the input reads as it did. -/
def replayKeepsUptoRow : OpenClaim := { program := "yticfcmaigffhmaagreat", sum := "dd973f41922eea1d9ac535945bc0617031df66d2459310f22014c2a79542a17f", func := "hoodwink/hoodwinklaw20.ReplayKeeps", spec := "replayKeeps", unfollowed := true, recurses := true, apart := false, narrowed := true }
def ReplayKeepsUptoSaid : Prop := replayKeepsUptoRow.holds Tryz.pinned (OpenSpec.upto replayKeepsSpec)

end Rows
end Go.Proofs.YticfcmaigffhmaaGreat
