/-
  No cell of these rows narrows 'for every input' (looked for: loops, veiled, ifaces, maps, wideKeys, modest, calm, conditions, laid).
  DERIVED. THE GIVEN ROWS OF THIS SEAT. 9 by the template 'for every input the law returns true; each argument reads behind the call as it read before'; 0 by the template 'total and deterministic' (their statements: YthihgfkpdbgogaaTotals.lean).
  GIVEN WITH THE SEED: the statements are not yours to turn. If you find one false, say at which input.
  Laid BY PROGRAM, IN A SANDBOX (cutbox-rows.mjs): the forced cells as the released guide's own fill.sh prints them over the translation 78480b0fbfc5de10… (all of the seat's roots in one cut). By AI agents, Wed Nov 11 2026. No macro, syntax, notation, axiom, sorry.
-/
import Derived.Test.YthihgfkpdbgogaaChecked
import GoSem.Claim
import GoSem.ClaimJoined
import GoSem.ClaimMapViews
import Derived.JoinedTies
import Derived.KernelRfl
namespace Go.Proofs.Ythihgfkpdbgogaa
/- THE CELL 'sum', in the pinned program and in every row, IS THE sha256 OF THE DUMP (.gsa) THAT YthihgfkpdbgogaaProg.lean LOADS. Nothing in Lean hashes anything: it is a label: what it is worth is what the hold of that sum in a sandbox is worth. -/
noncomputable def Try.pinned : Pinned := { name := "ythihgfkpdbgogaa", sum := "78480b0fbfc5de106940fd822143d396fc6ed4ce1b82943aaf85a299293e454b", checked := Try.checked }
namespace Rows
def none {H : Type} : Left H := { results := [], args := [] }

/-- 'hoodwinklaw09.VmComputes': WHATEVER THE INPUT: true; the input reads as it did. -/
def vmComputesSpec : ChangeSpec := { name := "vmComputes", fn := fun _ => fun
  | [d1, d2, d3] => { results := [.lit (.bool true)], args := [d1, d2, d3] }
  | _ => none }
def vmComputesRow : OpenClaim := { program := "ythihgfkpdbgogaa", sum := "78480b0fbfc5de106940fd822143d396fc6ed4ce1b82943aaf85a299293e454b", func := "hoodwink/hoodwinklaw09.VmComputes", spec := "vmComputes", unfollowed := true, recurses := true, apart := false }
def VmComputesSaid : Prop := vmComputesRow.holds Try.pinned (OpenSpec.ofChange vmComputesSpec)

/-- ITS FALSE NEIGHBOUR: 'it returns false'. Refute it at one input. -/
def vmComputesWrong : ChangeSpec := { name := "vmComputes", fn := fun _ => fun
  | [d1, d2, d3] => { results := [.lit (.bool false)], args := [d1, d2, d3] }
  | _ => none }
def VmComputesWrongFalsely : Prop := vmComputesRow.holds Try.pinned (OpenSpec.ofChange vmComputesWrong)

/-- 'hoodwinklaw09.VmNone': WHATEVER THE INPUT: true; the input reads as it did. -/
def vmNoneSpec : ChangeSpec := { name := "vmNone", fn := fun _ => fun
  | [d1, d2, d3] => { results := [.lit (.bool true)], args := [d1, d2, d3] }
  | _ => none }
def vmNoneRow : OpenClaim := { program := "ythihgfkpdbgogaa", sum := "78480b0fbfc5de106940fd822143d396fc6ed4ce1b82943aaf85a299293e454b", func := "hoodwink/hoodwinklaw09.VmNone", spec := "vmNone", unfollowed := true, recurses := true, apart := false }
def VmNoneSaid : Prop := vmNoneRow.holds Try.pinned (OpenSpec.ofChange vmNoneSpec)

/-- ITS FALSE NEIGHBOUR: 'it returns false'. Refute it at one input. -/
def vmNoneWrong : ChangeSpec := { name := "vmNone", fn := fun _ => fun
  | [d1, d2, d3] => { results := [.lit (.bool false)], args := [d1, d2, d3] }
  | _ => none }
def VmNoneWrongFalsely : Prop := vmNoneRow.holds Try.pinned (OpenSpec.ofChange vmNoneWrong)

/-- 'hoodwinklaw09.VmTaint': WHATEVER THE INPUT: true; the input reads as it did. -/
def vmTaintSpec : ChangeSpec := { name := "vmTaint", fn := fun _ => fun
  | [d1, d2, d3, d4] => { results := [.lit (.bool true)], args := [d1, d2, d3, d4] }
  | _ => none }
def vmTaintRow : OpenClaim := { program := "ythihgfkpdbgogaa", sum := "78480b0fbfc5de106940fd822143d396fc6ed4ce1b82943aaf85a299293e454b", func := "hoodwink/hoodwinklaw09.VmTaint", spec := "vmTaint", unfollowed := true, recurses := true, apart := false }
def VmTaintSaid : Prop := vmTaintRow.holds Try.pinned (OpenSpec.ofChange vmTaintSpec)

/-- ITS FALSE NEIGHBOUR: 'it returns false'. Refute it at one input. -/
def vmTaintWrong : ChangeSpec := { name := "vmTaint", fn := fun _ => fun
  | [d1, d2, d3, d4] => { results := [.lit (.bool false)], args := [d1, d2, d3, d4] }
  | _ => none }
def VmTaintWrongFalsely : Prop := vmTaintRow.holds Try.pinned (OpenSpec.ofChange vmTaintWrong)

/-- 'hoodwinklaw09.VmKeeps': WHATEVER THE INPUT: true; the input reads as it did. -/
def vmKeepsSpec : ChangeSpec := { name := "vmKeeps", fn := fun _ => fun
  | [d1, d2, d3, d4] => { results := [.lit (.bool true)], args := [d1, d2, d3, d4] }
  | _ => none }
def vmKeepsRow : OpenClaim := { program := "ythihgfkpdbgogaa", sum := "78480b0fbfc5de106940fd822143d396fc6ed4ce1b82943aaf85a299293e454b", func := "hoodwink/hoodwinklaw09.VmKeeps", spec := "vmKeeps", unfollowed := true, recurses := true, apart := false }
def VmKeepsSaid : Prop := vmKeepsRow.holds Try.pinned (OpenSpec.ofChange vmKeepsSpec)

/-- ITS FALSE NEIGHBOUR: 'it returns false'. Refute it at one input. -/
def vmKeepsWrong : ChangeSpec := { name := "vmKeeps", fn := fun _ => fun
  | [d1, d2, d3, d4] => { results := [.lit (.bool false)], args := [d1, d2, d3, d4] }
  | _ => none }
def VmKeepsWrongFalsely : Prop := vmKeepsRow.holds Try.pinned (OpenSpec.ofChange vmKeepsWrong)

/-- 'hoodwinklaw09.VmFuel': WHATEVER THE INPUT: true; the input reads as it did. -/
def vmFuelSpec : ChangeSpec := { name := "vmFuel", fn := fun _ => fun
  | [d1, d2] => { results := [.lit (.bool true)], args := [d1, d2] }
  | _ => none }
def vmFuelRow : OpenClaim := { program := "ythihgfkpdbgogaa", sum := "78480b0fbfc5de106940fd822143d396fc6ed4ce1b82943aaf85a299293e454b", func := "hoodwink/hoodwinklaw09.VmFuel", spec := "vmFuel", unfollowed := true, recurses := true, apart := false }
def VmFuelSaid : Prop := vmFuelRow.holds Try.pinned (OpenSpec.ofChange vmFuelSpec)

/-- ITS FALSE NEIGHBOUR: 'it returns false'. Refute it at one input. -/
def vmFuelWrong : ChangeSpec := { name := "vmFuel", fn := fun _ => fun
  | [d1, d2] => { results := [.lit (.bool false)], args := [d1, d2] }
  | _ => none }
def VmFuelWrongFalsely : Prop := vmFuelRow.holds Try.pinned (OpenSpec.ofChange vmFuelWrong)

/-- 'hoodwinklaw09.VmRolls': WHATEVER THE INPUT: true; the input reads as it did. -/
def vmRollsSpec : ChangeSpec := { name := "vmRolls", fn := fun _ => fun
  | [d1, d2, d3, d4] => { results := [.lit (.bool true)], args := [d1, d2, d3, d4] }
  | _ => none }
def vmRollsRow : OpenClaim := { program := "ythihgfkpdbgogaa", sum := "78480b0fbfc5de106940fd822143d396fc6ed4ce1b82943aaf85a299293e454b", func := "hoodwink/hoodwinklaw09.VmRolls", spec := "vmRolls", unfollowed := true, recurses := true, apart := false }
def VmRollsSaid : Prop := vmRollsRow.holds Try.pinned (OpenSpec.ofChange vmRollsSpec)

/-- ITS FALSE NEIGHBOUR: 'it returns false'. Refute it at one input. -/
def vmRollsWrong : ChangeSpec := { name := "vmRolls", fn := fun _ => fun
  | [d1, d2, d3, d4] => { results := [.lit (.bool false)], args := [d1, d2, d3, d4] }
  | _ => none }
def VmRollsWrongFalsely : Prop := vmRollsRow.holds Try.pinned (OpenSpec.ofChange vmRollsWrong)

/-- 'hoodwinklaw09.VmViews': WHATEVER THE INPUT: true; the input reads as it did. -/
def vmViewsSpec : ChangeSpec := { name := "vmViews", fn := fun _ => fun
  | [d1, d2, d3, d4, d5, d6] => { results := [.lit (.bool true)], args := [d1, d2, d3, d4, d5, d6] }
  | _ => none }
def vmViewsRow : OpenClaim := { program := "ythihgfkpdbgogaa", sum := "78480b0fbfc5de106940fd822143d396fc6ed4ce1b82943aaf85a299293e454b", func := "hoodwink/hoodwinklaw09.VmViews", spec := "vmViews", unfollowed := true, recurses := true, apart := false }
def VmViewsSaid : Prop := vmViewsRow.holds Try.pinned (OpenSpec.ofChange vmViewsSpec)

/-- ITS FALSE NEIGHBOUR: 'it returns false'. Refute it at one input. -/
def vmViewsWrong : ChangeSpec := { name := "vmViews", fn := fun _ => fun
  | [d1, d2, d3, d4, d5, d6] => { results := [.lit (.bool false)], args := [d1, d2, d3, d4, d5, d6] }
  | _ => none }
def VmViewsWrongFalsely : Prop := vmViewsRow.holds Try.pinned (OpenSpec.ofChange vmViewsWrong)

/-- 'hoodwinklaw09.VmLabels': WHATEVER THE INPUT: true; the input reads as it did. -/
def vmLabelsSpec : ChangeSpec := { name := "vmLabels", fn := fun _ => fun
  | [d1, d2, d3, d4, d5, d6] => { results := [.lit (.bool true)], args := [d1, d2, d3, d4, d5, d6] }
  | _ => none }
def vmLabelsRow : OpenClaim := { program := "ythihgfkpdbgogaa", sum := "78480b0fbfc5de106940fd822143d396fc6ed4ce1b82943aaf85a299293e454b", func := "hoodwink/hoodwinklaw09.VmLabels", spec := "vmLabels", unfollowed := true, recurses := true, apart := false }
def VmLabelsSaid : Prop := vmLabelsRow.holds Try.pinned (OpenSpec.ofChange vmLabelsSpec)

/-- ITS FALSE NEIGHBOUR: 'it returns false'. Refute it at one input. -/
def vmLabelsWrong : ChangeSpec := { name := "vmLabels", fn := fun _ => fun
  | [d1, d2, d3, d4, d5, d6] => { results := [.lit (.bool false)], args := [d1, d2, d3, d4, d5, d6] }
  | _ => none }
def VmLabelsWrongFalsely : Prop := vmLabelsRow.holds Try.pinned (OpenSpec.ofChange vmLabelsWrong)

/-- 'hoodwinklaw09.VmHides': WHATEVER THE INPUT: true; the input reads as it did. -/
def vmHidesSpec : ChangeSpec := { name := "vmHides", fn := fun _ => fun
  | [d1, d2, d3, d4, d5, d6, d7, d8, d9] => { results := [.lit (.bool true)], args := [d1, d2, d3, d4, d5, d6, d7, d8, d9] }
  | _ => none }
def vmHidesRow : OpenClaim := { program := "ythihgfkpdbgogaa", sum := "78480b0fbfc5de106940fd822143d396fc6ed4ce1b82943aaf85a299293e454b", func := "hoodwink/hoodwinklaw09.VmHides", spec := "vmHides", unfollowed := true, recurses := true, apart := false }
def VmHidesSaid : Prop := vmHidesRow.holds Try.pinned (OpenSpec.ofChange vmHidesSpec)

/-- ITS FALSE NEIGHBOUR: 'it returns false'. Refute it at one input. -/
def vmHidesWrong : ChangeSpec := { name := "vmHides", fn := fun _ => fun
  | [d1, d2, d3, d4, d5, d6, d7, d8, d9] => { results := [.lit (.bool false)], args := [d1, d2, d3, d4, d5, d6, d7, d8, d9] }
  | _ => none }
def VmHidesWrongFalsely : Prop := vmHidesRow.holds Try.pinned (OpenSpec.ofChange vmHidesWrong)

/- THE SECOND FORM. 'bulk': how many values and letters a reading holds, each counted each time it is reached (what is shared counts as often as it is met; a slice's spare places count too). A statement '..UptoSaid' is the law's where the arguments, and the package variables that the reading takes, are together of bulk at most 1048576: NARROWER than '..Said'. Prove '..Said' where nothing that the law and all that it calls make is longer than what came in: it says more and counts as full. Else prove '..UptoSaid'. A law counts once. -/
mutual
def uptoBulk {H : Type} : DataW H → Nat
  | .lit (.string bytes) => bytes.length + 1
  | .lit _ => 1
  | .nil => 1
  | .ptr d => uptoBulk d + 1
  | .slice elems spare => uptoBulkAll elems + uptoBulkAll spare + 1
  | .agg parts => uptoBulkAll parts + 1
  | .iface _ d => uptoBulk d + 1
  | .map entries => uptoBulkEntries entries + 1
  | .held _ => 1
def uptoBulkAll {H : Type} : List (DataW H) → Nat
  | [] => 0
  | d :: r => uptoBulk d + uptoBulkAll r
def uptoBulkEntries {H : Type} : List (Lit × DataW H) → Nat
  | [] => 0
  | x :: r => uptoBulkEntry x + uptoBulkEntries r
def uptoBulkEntry {H : Type} : Lit × DataW H → Nat
  | (.string bytes, d) => bytes.length + uptoBulk d + 1
  | (_, d) => uptoBulk d + 1
 end
def uptoSmall : (H : Type) → List (DataW H) → Bool := fun _ ds => decide (uptoBulkAll ds ≤ 1048576)
def OpenSpec.upto (s : _root_.Go.ChangeSpec) : _root_.Go.OpenSpec := { _root_.Go.OpenSpec.ofChange s with cond := some uptoSmall }

/-- 'hoodwinklaw09.VmComputes', WHERE WHAT IT READS IS OF BULK AT MOST 1048576: true; the input reads as it did. -/
def vmComputesUptoRow : OpenClaim := { program := "ythihgfkpdbgogaa", sum := "78480b0fbfc5de106940fd822143d396fc6ed4ce1b82943aaf85a299293e454b", func := "hoodwink/hoodwinklaw09.VmComputes", spec := "vmComputes", unfollowed := true, recurses := true, apart := false, narrowed := true }
def VmComputesUptoSaid : Prop := vmComputesUptoRow.holds Try.pinned (OpenSpec.upto vmComputesSpec)

/-- 'hoodwinklaw09.VmNone', WHERE WHAT IT READS IS OF BULK AT MOST 1048576: true; the input reads as it did. -/
def vmNoneUptoRow : OpenClaim := { program := "ythihgfkpdbgogaa", sum := "78480b0fbfc5de106940fd822143d396fc6ed4ce1b82943aaf85a299293e454b", func := "hoodwink/hoodwinklaw09.VmNone", spec := "vmNone", unfollowed := true, recurses := true, apart := false, narrowed := true }
def VmNoneUptoSaid : Prop := vmNoneUptoRow.holds Try.pinned (OpenSpec.upto vmNoneSpec)

/-- 'hoodwinklaw09.VmTaint', WHERE WHAT IT READS IS OF BULK AT MOST 1048576: true; the input reads as it did. -/
def vmTaintUptoRow : OpenClaim := { program := "ythihgfkpdbgogaa", sum := "78480b0fbfc5de106940fd822143d396fc6ed4ce1b82943aaf85a299293e454b", func := "hoodwink/hoodwinklaw09.VmTaint", spec := "vmTaint", unfollowed := true, recurses := true, apart := false, narrowed := true }
def VmTaintUptoSaid : Prop := vmTaintUptoRow.holds Try.pinned (OpenSpec.upto vmTaintSpec)

/-- 'hoodwinklaw09.VmKeeps', WHERE WHAT IT READS IS OF BULK AT MOST 1048576: true; the input reads as it did. -/
def vmKeepsUptoRow : OpenClaim := { program := "ythihgfkpdbgogaa", sum := "78480b0fbfc5de106940fd822143d396fc6ed4ce1b82943aaf85a299293e454b", func := "hoodwink/hoodwinklaw09.VmKeeps", spec := "vmKeeps", unfollowed := true, recurses := true, apart := false, narrowed := true }
def VmKeepsUptoSaid : Prop := vmKeepsUptoRow.holds Try.pinned (OpenSpec.upto vmKeepsSpec)

/-- 'hoodwinklaw09.VmFuel', WHERE WHAT IT READS IS OF BULK AT MOST 1048576: true; the input reads as it did. -/
def vmFuelUptoRow : OpenClaim := { program := "ythihgfkpdbgogaa", sum := "78480b0fbfc5de106940fd822143d396fc6ed4ce1b82943aaf85a299293e454b", func := "hoodwink/hoodwinklaw09.VmFuel", spec := "vmFuel", unfollowed := true, recurses := true, apart := false, narrowed := true }
def VmFuelUptoSaid : Prop := vmFuelUptoRow.holds Try.pinned (OpenSpec.upto vmFuelSpec)

/-- 'hoodwinklaw09.VmRolls', WHERE WHAT IT READS IS OF BULK AT MOST 1048576: true; the input reads as it did. -/
def vmRollsUptoRow : OpenClaim := { program := "ythihgfkpdbgogaa", sum := "78480b0fbfc5de106940fd822143d396fc6ed4ce1b82943aaf85a299293e454b", func := "hoodwink/hoodwinklaw09.VmRolls", spec := "vmRolls", unfollowed := true, recurses := true, apart := false, narrowed := true }
def VmRollsUptoSaid : Prop := vmRollsUptoRow.holds Try.pinned (OpenSpec.upto vmRollsSpec)

/-- 'hoodwinklaw09.VmViews', WHERE WHAT IT READS IS OF BULK AT MOST 1048576: true; the input reads as it did. -/
def vmViewsUptoRow : OpenClaim := { program := "ythihgfkpdbgogaa", sum := "78480b0fbfc5de106940fd822143d396fc6ed4ce1b82943aaf85a299293e454b", func := "hoodwink/hoodwinklaw09.VmViews", spec := "vmViews", unfollowed := true, recurses := true, apart := false, narrowed := true }
def VmViewsUptoSaid : Prop := vmViewsUptoRow.holds Try.pinned (OpenSpec.upto vmViewsSpec)

/-- 'hoodwinklaw09.VmLabels', WHERE WHAT IT READS IS OF BULK AT MOST 1048576: true; the input reads as it did. -/
def vmLabelsUptoRow : OpenClaim := { program := "ythihgfkpdbgogaa", sum := "78480b0fbfc5de106940fd822143d396fc6ed4ce1b82943aaf85a299293e454b", func := "hoodwink/hoodwinklaw09.VmLabels", spec := "vmLabels", unfollowed := true, recurses := true, apart := false, narrowed := true }
def VmLabelsUptoSaid : Prop := vmLabelsUptoRow.holds Try.pinned (OpenSpec.upto vmLabelsSpec)

/-- 'hoodwinklaw09.VmHides', WHERE WHAT IT READS IS OF BULK AT MOST 1048576: true; the input reads as it did. -/
def vmHidesUptoRow : OpenClaim := { program := "ythihgfkpdbgogaa", sum := "78480b0fbfc5de106940fd822143d396fc6ed4ce1b82943aaf85a299293e454b", func := "hoodwink/hoodwinklaw09.VmHides", spec := "vmHides", unfollowed := true, recurses := true, apart := false, narrowed := true }
def VmHidesUptoSaid : Prop := vmHidesUptoRow.holds Try.pinned (OpenSpec.upto vmHidesSpec)

end Rows
end Go.Proofs.Ythihgfkpdbgogaa
