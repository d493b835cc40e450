/-
  No cell of these rows narrows 'for every input' (looked for: loops, veiled, ifaces, maps, wideKeys, modest, calm, conditions, laid).
  DERIVED. THE GIVEN ROWS OF THIS SEAT. 6 by the template 'for every input the law returns true; each argument reads behind the call as it read before'; 0 by the template 'total and deterministic' (their statements: YtohclaopcejjnaaTotals.lean).
  GIVEN WITH THE SEED: the statements are not yours to turn. If you find one false, say at which input.
  Laid BY PROGRAM, IN A SANDBOX (cutbox-rows.mjs): the forced cells as the released guide's own fill.sh prints them over the translation 27428cb5bb8436e3… (all of the seat's roots in one cut). By AI agents, Wed Nov 11 2026. No macro, syntax, notation, axiom, sorry.
-/
import Derived.Test.YtohclaopcejjnaaChecked
import GoSem.Claim
import GoSem.ClaimJoined
import GoSem.ClaimMapViews
import Derived.JoinedTies
import Derived.KernelRfl
namespace Go.Proofs.Ytohclaopcejjnaa
/- THE CELL 'sum', in the pinned program and in every row, IS THE sha256 OF THE DUMP (.gsa) THAT YtohclaopcejjnaaProg.lean LOADS. Nothing in Lean hashes anything: it is a label: what it is worth is what the hold of that sum in a sandbox is worth. -/
noncomputable def Try.pinned : Pinned := { name := "ytohclaopcejjnaa", sum := "27428cb5bb8436e314957ffca446edb5cfb06cc8303964ed1b3f75f8f3c33372", checked := Try.checked }
namespace Rows
def none {H : Type} : Left H := { results := [], args := [] }

/-- 'hoodwinklaw18.WirePlays': WHATEVER THE INPUT: true; the input reads as it did. -/
def wirePlaysSpec : ChangeSpec := { name := "wirePlays", fn := fun _ => fun
  | [d] => { results := [.lit (.bool true)], args := [d] }
  | _ => none }
def wirePlaysRow : OpenClaim := { program := "ytohclaopcejjnaa", sum := "27428cb5bb8436e314957ffca446edb5cfb06cc8303964ed1b3f75f8f3c33372", func := "hoodwink/hoodwinklaw18.WirePlays", spec := "wirePlays", unfollowed := true, recurses := true, apart := false }
def WirePlaysSaid : Prop := wirePlaysRow.holds Try.pinned (OpenSpec.ofChange wirePlaysSpec)

/-- ITS FALSE NEIGHBOUR: 'it returns false'. Refute it at one input. -/
def wirePlaysWrong : ChangeSpec := { name := "wirePlays", fn := fun _ => fun
  | [d] => { results := [.lit (.bool false)], args := [d] }
  | _ => none }
def WirePlaysWrongFalsely : Prop := wirePlaysRow.holds Try.pinned (OpenSpec.ofChange wirePlaysWrong)

/-- 'hoodwinklaw18.WireOwns': WHATEVER THE INPUT: true; the input reads as it did. -/
def wireOwnsSpec : ChangeSpec := { name := "wireOwns", fn := fun _ => fun
  | [d] => { results := [.lit (.bool true)], args := [d] }
  | _ => none }
def wireOwnsRow : OpenClaim := { program := "ytohclaopcejjnaa", sum := "27428cb5bb8436e314957ffca446edb5cfb06cc8303964ed1b3f75f8f3c33372", func := "hoodwink/hoodwinklaw18.WireOwns", spec := "wireOwns", unfollowed := true, recurses := true, apart := false }
def WireOwnsSaid : Prop := wireOwnsRow.holds Try.pinned (OpenSpec.ofChange wireOwnsSpec)

/-- ITS FALSE NEIGHBOUR: 'it returns false'. Refute it at one input. -/
def wireOwnsWrong : ChangeSpec := { name := "wireOwns", fn := fun _ => fun
  | [d] => { results := [.lit (.bool false)], args := [d] }
  | _ => none }
def WireOwnsWrongFalsely : Prop := wireOwnsRow.holds Try.pinned (OpenSpec.ofChange wireOwnsWrong)

/-- 'hoodwinklaw18.WireCounts': WHATEVER THE INPUT: true; the input reads as it did. -/
def wireCountsSpec : ChangeSpec := { name := "wireCounts", fn := fun _ => fun
  | [d] => { results := [.lit (.bool true)], args := [d] }
  | _ => none }
def wireCountsRow : OpenClaim := { program := "ytohclaopcejjnaa", sum := "27428cb5bb8436e314957ffca446edb5cfb06cc8303964ed1b3f75f8f3c33372", func := "hoodwink/hoodwinklaw18.WireCounts", spec := "wireCounts", unfollowed := true, recurses := true, apart := false }
def WireCountsSaid : Prop := wireCountsRow.holds Try.pinned (OpenSpec.ofChange wireCountsSpec)

/-- ITS FALSE NEIGHBOUR: 'it returns false'. Refute it at one input. -/
def wireCountsWrong : ChangeSpec := { name := "wireCounts", fn := fun _ => fun
  | [d] => { results := [.lit (.bool false)], args := [d] }
  | _ => none }
def WireCountsWrongFalsely : Prop := wireCountsRow.holds Try.pinned (OpenSpec.ofChange wireCountsWrong)

/-- 'hoodwinklaw18.WireKeeps': WHATEVER THE INPUT: true; the input reads as it did. -/
def wireKeepsSpec : ChangeSpec := { name := "wireKeeps", fn := fun _ => fun
  | [d1, d2] => { results := [.lit (.bool true)], args := [d1, d2] }
  | _ => none }
def wireKeepsRow : OpenClaim := { program := "ytohclaopcejjnaa", sum := "27428cb5bb8436e314957ffca446edb5cfb06cc8303964ed1b3f75f8f3c33372", func := "hoodwink/hoodwinklaw18.WireKeeps", spec := "wireKeeps", unfollowed := true, recurses := true, apart := false }
def WireKeepsSaid : Prop := wireKeepsRow.holds Try.pinned (OpenSpec.ofChange wireKeepsSpec)

/-- ITS FALSE NEIGHBOUR: 'it returns false'. Refute it at one input. -/
def wireKeepsWrong : ChangeSpec := { name := "wireKeeps", fn := fun _ => fun
  | [d1, d2] => { results := [.lit (.bool false)], args := [d1, d2] }
  | _ => none }
def WireKeepsWrongFalsely : Prop := wireKeepsRow.holds Try.pinned (OpenSpec.ofChange wireKeepsWrong)

/-- 'hoodwinklaw18.WireLate': WHATEVER THE INPUT: true; the input reads as it did. -/
def wireLateSpec : ChangeSpec := { name := "wireLate", fn := fun _ => fun
  | [d1, d2, d3] => { results := [.lit (.bool true)], args := [d1, d2, d3] }
  | _ => none }
def wireLateRow : OpenClaim := { program := "ytohclaopcejjnaa", sum := "27428cb5bb8436e314957ffca446edb5cfb06cc8303964ed1b3f75f8f3c33372", func := "hoodwink/hoodwinklaw18.WireLate", spec := "wireLate", unfollowed := true, recurses := true, apart := false }
def WireLateSaid : Prop := wireLateRow.holds Try.pinned (OpenSpec.ofChange wireLateSpec)

/-- ITS FALSE NEIGHBOUR: 'it returns false'. Refute it at one input. -/
def wireLateWrong : ChangeSpec := { name := "wireLate", fn := fun _ => fun
  | [d1, d2, d3] => { results := [.lit (.bool false)], args := [d1, d2, d3] }
  | _ => none }
def WireLateWrongFalsely : Prop := wireLateRow.holds Try.pinned (OpenSpec.ofChange wireLateWrong)

/-- 'hoodwinklaw18.WireSpoils': WHATEVER THE INPUT: true; the input reads as it did. -/
def wireSpoilsSpec : ChangeSpec := { name := "wireSpoils", fn := fun _ => fun
  | [d1, d2] => { results := [.lit (.bool true)], args := [d1, d2] }
  | _ => none }
def wireSpoilsRow : OpenClaim := { program := "ytohclaopcejjnaa", sum := "27428cb5bb8436e314957ffca446edb5cfb06cc8303964ed1b3f75f8f3c33372", func := "hoodwink/hoodwinklaw18.WireSpoils", spec := "wireSpoils", unfollowed := true, recurses := true, apart := false }
def WireSpoilsSaid : Prop := wireSpoilsRow.holds Try.pinned (OpenSpec.ofChange wireSpoilsSpec)

/-- ITS FALSE NEIGHBOUR: 'it returns false'. Refute it at one input. -/
def wireSpoilsWrong : ChangeSpec := { name := "wireSpoils", fn := fun _ => fun
  | [d1, d2] => { results := [.lit (.bool false)], args := [d1, d2] }
  | _ => none }
def WireSpoilsWrongFalsely : Prop := wireSpoilsRow.holds Try.pinned (OpenSpec.ofChange wireSpoilsWrong)

/- THE SECOND FORM. 'bulk': how many values and letters a reading holds, each counted each time it is reached (what is shared counts as often as it is met; a slice's spare places count too). A statement '..UptoSaid' is the law's where the arguments, and the package variables that the reading takes, are together of bulk at most 1048576: NARROWER than '..Said'. Prove '..Said' where nothing that the law and all that it calls make is longer than what came in: it says more and counts as full. Else prove '..UptoSaid'. A law counts once. -/
mutual
def uptoBulk {H : Type} : DataW H → Nat
  | .lit (.string bytes) => bytes.length + 1
  | .lit _ => 1
  | .nil => 1
  | .ptr d => uptoBulk d + 1
  | .slice elems spare => uptoBulkAll elems + uptoBulkAll spare + 1
  | .agg parts => uptoBulkAll parts + 1
  | .iface _ d => uptoBulk d + 1
  | .map entries => uptoBulkEntries entries + 1
  | .held _ => 1
def uptoBulkAll {H : Type} : List (DataW H) → Nat
  | [] => 0
  | d :: r => uptoBulk d + uptoBulkAll r
def uptoBulkEntries {H : Type} : List (Lit × DataW H) → Nat
  | [] => 0
  | x :: r => uptoBulkEntry x + uptoBulkEntries r
def uptoBulkEntry {H : Type} : Lit × DataW H → Nat
  | (.string bytes, d) => bytes.length + uptoBulk d + 1
  | (_, d) => uptoBulk d + 1
 end
def uptoSmall : (H : Type) → List (DataW H) → Bool := fun _ ds => decide (uptoBulkAll ds ≤ 1048576)
def OpenSpec.upto (s : _root_.Go.ChangeSpec) : _root_.Go.OpenSpec := { _root_.Go.OpenSpec.ofChange s with cond := some uptoSmall }

/-- 'hoodwinklaw18.WirePlays', WHERE WHAT IT READS IS OF BULK AT MOST 1048576: true; the input reads as it did. -/
def wirePlaysUptoRow : OpenClaim := { program := "ytohclaopcejjnaa", sum := "27428cb5bb8436e314957ffca446edb5cfb06cc8303964ed1b3f75f8f3c33372", func := "hoodwink/hoodwinklaw18.WirePlays", spec := "wirePlays", unfollowed := true, recurses := true, apart := false, narrowed := true }
def WirePlaysUptoSaid : Prop := wirePlaysUptoRow.holds Try.pinned (OpenSpec.upto wirePlaysSpec)

/-- 'hoodwinklaw18.WireOwns', WHERE WHAT IT READS IS OF BULK AT MOST 1048576: true; the input reads as it did. -/
def wireOwnsUptoRow : OpenClaim := { program := "ytohclaopcejjnaa", sum := "27428cb5bb8436e314957ffca446edb5cfb06cc8303964ed1b3f75f8f3c33372", func := "hoodwink/hoodwinklaw18.WireOwns", spec := "wireOwns", unfollowed := true, recurses := true, apart := false, narrowed := true }
def WireOwnsUptoSaid : Prop := wireOwnsUptoRow.holds Try.pinned (OpenSpec.upto wireOwnsSpec)

/-- 'hoodwinklaw18.WireCounts', WHERE WHAT IT READS IS OF BULK AT MOST 1048576: true; the input reads as it did. -/
def wireCountsUptoRow : OpenClaim := { program := "ytohclaopcejjnaa", sum := "27428cb5bb8436e314957ffca446edb5cfb06cc8303964ed1b3f75f8f3c33372", func := "hoodwink/hoodwinklaw18.WireCounts", spec := "wireCounts", unfollowed := true, recurses := true, apart := false, narrowed := true }
def WireCountsUptoSaid : Prop := wireCountsUptoRow.holds Try.pinned (OpenSpec.upto wireCountsSpec)

/-- 'hoodwinklaw18.WireKeeps', WHERE WHAT IT READS IS OF BULK AT MOST 1048576: true; the input reads as it did. -/
def wireKeepsUptoRow : OpenClaim := { program := "ytohclaopcejjnaa", sum := "27428cb5bb8436e314957ffca446edb5cfb06cc8303964ed1b3f75f8f3c33372", func := "hoodwink/hoodwinklaw18.WireKeeps", spec := "wireKeeps", unfollowed := true, recurses := true, apart := false, narrowed := true }
def WireKeepsUptoSaid : Prop := wireKeepsUptoRow.holds Try.pinned (OpenSpec.upto wireKeepsSpec)

/-- 'hoodwinklaw18.WireLate', WHERE WHAT IT READS IS OF BULK AT MOST 1048576: true; the input reads as it did. -/
def wireLateUptoRow : OpenClaim := { program := "ytohclaopcejjnaa", sum := "27428cb5bb8436e314957ffca446edb5cfb06cc8303964ed1b3f75f8f3c33372", func := "hoodwink/hoodwinklaw18.WireLate", spec := "wireLate", unfollowed := true, recurses := true, apart := false, narrowed := true }
def WireLateUptoSaid : Prop := wireLateUptoRow.holds Try.pinned (OpenSpec.upto wireLateSpec)

/-- 'hoodwinklaw18.WireSpoils', WHERE WHAT IT READS IS OF BULK AT MOST 1048576: true; the input reads as it did. -/
def wireSpoilsUptoRow : OpenClaim := { program := "ytohclaopcejjnaa", sum := "27428cb5bb8436e314957ffca446edb5cfb06cc8303964ed1b3f75f8f3c33372", func := "hoodwink/hoodwinklaw18.WireSpoils", spec := "wireSpoils", unfollowed := true, recurses := true, apart := false, narrowed := true }
def WireSpoilsUptoSaid : Prop := wireSpoilsUptoRow.holds Try.pinned (OpenSpec.upto wireSpoilsSpec)

end Rows
end Go.Proofs.Ytohclaopcejjnaa
