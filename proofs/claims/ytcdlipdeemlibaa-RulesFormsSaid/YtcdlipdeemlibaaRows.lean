/-
  No cell of these rows narrows 'for every input' (looked for: loops, veiled, ifaces, maps, wideKeys, modest, calm, conditions, laid).
  DERIVED. THE GIVEN ROWS OF THIS SEAT. 9 by the template 'for every input the law returns true; each argument reads behind the call as it read before'; 0 by the template 'total and deterministic' (their statements: YtcdlipdeemlibaaTotals.lean).
  GIVEN WITH THE SEED: the statements are not yours to turn. If you find one false, say at which input.
  Laid BY PROGRAM, IN A SANDBOX (cutbox-rows.mjs): the forced cells as the released guide's own fill.sh prints them over the translation 783e0d14baf842d3… (all of the seat's roots in one cut). By AI agents, Wed Nov 11 2026. No macro, syntax, notation, axiom, sorry.
-/
import Derived.Test.YtcdlipdeemlibaaChecked
import GoSem.Claim
import GoSem.ClaimJoined
import GoSem.ClaimMapViews
import Derived.JoinedTies
import Derived.KernelRfl
namespace Go.Proofs.Ytcdlipdeemlibaa
/- THE CELL 'sum', in the pinned program and in every row, IS THE sha256 OF THE DUMP (.gsa) THAT YtcdlipdeemlibaaProg.lean LOADS. Nothing in Lean hashes anything: it is a label: what it is worth is what the hold of that sum in a sandbox is worth. -/
noncomputable def Try.pinned : Pinned := { name := "ytcdlipdeemlibaa", sum := "783e0d14baf842d35a63b910ac99700cf92f636886d9835e8e9585ce207ebf7d", checked := Try.checked }
namespace Rows
def none {H : Type} : Left H := { results := [], args := [] }

/-- 'hoodwinklaw10.RulesStarts': WHATEVER THE INPUT: true; the input reads as it did. -/
def rulesStartsSpec : ChangeSpec := { name := "rulesStarts", fn := fun _ => fun
  | [d1, d2, d3] => { results := [.lit (.bool true)], args := [d1, d2, d3] }
  | _ => none }
def rulesStartsRow : OpenClaim := { program := "ytcdlipdeemlibaa", sum := "783e0d14baf842d35a63b910ac99700cf92f636886d9835e8e9585ce207ebf7d", func := "hoodwink/hoodwinklaw10.RulesStarts", spec := "rulesStarts", unfollowed := true, recurses := true, apart := false }
def RulesStartsSaid : Prop := rulesStartsRow.holds Try.pinned (OpenSpec.ofChange rulesStartsSpec)

/-- ITS FALSE NEIGHBOUR: 'it returns false'. Refute it at one input. -/
def rulesStartsWrong : ChangeSpec := { name := "rulesStarts", fn := fun _ => fun
  | [d1, d2, d3] => { results := [.lit (.bool false)], args := [d1, d2, d3] }
  | _ => none }
def RulesStartsWrongFalsely : Prop := rulesStartsRow.holds Try.pinned (OpenSpec.ofChange rulesStartsWrong)

/-- 'hoodwinklaw10.RulesDefaults': WHATEVER THE INPUT: true; the input reads as it did. -/
def rulesDefaultsSpec : ChangeSpec := { name := "rulesDefaults", fn := fun _ => fun
  | [d1, d2, d3, d4] => { results := [.lit (.bool true)], args := [d1, d2, d3, d4] }
  | _ => none }
def rulesDefaultsRow : OpenClaim := { program := "ytcdlipdeemlibaa", sum := "783e0d14baf842d35a63b910ac99700cf92f636886d9835e8e9585ce207ebf7d", func := "hoodwink/hoodwinklaw10.RulesDefaults", spec := "rulesDefaults", unfollowed := true, recurses := true, apart := false }
def RulesDefaultsSaid : Prop := rulesDefaultsRow.holds Try.pinned (OpenSpec.ofChange rulesDefaultsSpec)

/-- ITS FALSE NEIGHBOUR: 'it returns false'. Refute it at one input. -/
def rulesDefaultsWrong : ChangeSpec := { name := "rulesDefaults", fn := fun _ => fun
  | [d1, d2, d3, d4] => { results := [.lit (.bool false)], args := [d1, d2, d3, d4] }
  | _ => none }
def RulesDefaultsWrongFalsely : Prop := rulesDefaultsRow.holds Try.pinned (OpenSpec.ofChange rulesDefaultsWrong)

/-- 'hoodwinklaw10.RulesTicks': WHATEVER THE INPUT: true; the input reads as it did. -/
def rulesTicksSpec : ChangeSpec := { name := "rulesTicks", fn := fun _ => fun
  | [d1, d2, d3] => { results := [.lit (.bool true)], args := [d1, d2, d3] }
  | _ => none }
def rulesTicksRow : OpenClaim := { program := "ytcdlipdeemlibaa", sum := "783e0d14baf842d35a63b910ac99700cf92f636886d9835e8e9585ce207ebf7d", func := "hoodwink/hoodwinklaw10.RulesTicks", spec := "rulesTicks", unfollowed := true, recurses := true, apart := false }
def RulesTicksSaid : Prop := rulesTicksRow.holds Try.pinned (OpenSpec.ofChange rulesTicksSpec)

/-- ITS FALSE NEIGHBOUR: 'it returns false'. Refute it at one input. -/
def rulesTicksWrong : ChangeSpec := { name := "rulesTicks", fn := fun _ => fun
  | [d1, d2, d3] => { results := [.lit (.bool false)], args := [d1, d2, d3] }
  | _ => none }
def RulesTicksWrongFalsely : Prop := rulesTicksRow.holds Try.pinned (OpenSpec.ofChange rulesTicksWrong)

/-- 'hoodwinklaw10.RulesShows': WHATEVER THE INPUT: true; the input reads as it did. -/
def rulesShowsSpec : ChangeSpec := { name := "rulesShows", fn := fun _ => fun
  | [d1, d2, d3, d4] => { results := [.lit (.bool true)], args := [d1, d2, d3, d4] }
  | _ => none }
def rulesShowsRow : OpenClaim := { program := "ytcdlipdeemlibaa", sum := "783e0d14baf842d35a63b910ac99700cf92f636886d9835e8e9585ce207ebf7d", func := "hoodwink/hoodwinklaw10.RulesShows", spec := "rulesShows", unfollowed := true, recurses := true, apart := false }
def RulesShowsSaid : Prop := rulesShowsRow.holds Try.pinned (OpenSpec.ofChange rulesShowsSpec)

/-- ITS FALSE NEIGHBOUR: 'it returns false'. Refute it at one input. -/
def rulesShowsWrong : ChangeSpec := { name := "rulesShows", fn := fun _ => fun
  | [d1, d2, d3, d4] => { results := [.lit (.bool false)], args := [d1, d2, d3, d4] }
  | _ => none }
def RulesShowsWrongFalsely : Prop := rulesShowsRow.holds Try.pinned (OpenSpec.ofChange rulesShowsWrong)

/-- 'hoodwinklaw10.RulesHides': WHATEVER THE INPUT: true; the input reads as it did. -/
def rulesHidesSpec : ChangeSpec := { name := "rulesHides", fn := fun _ => fun
  | [d1, d2, d3, d4, d5, d6, d7] => { results := [.lit (.bool true)], args := [d1, d2, d3, d4, d5, d6, d7] }
  | _ => none }
def rulesHidesRow : OpenClaim := { program := "ytcdlipdeemlibaa", sum := "783e0d14baf842d35a63b910ac99700cf92f636886d9835e8e9585ce207ebf7d", func := "hoodwink/hoodwinklaw10.RulesHides", spec := "rulesHides", unfollowed := true, recurses := true, apart := false }
def RulesHidesSaid : Prop := rulesHidesRow.holds Try.pinned (OpenSpec.ofChange rulesHidesSpec)

/-- ITS FALSE NEIGHBOUR: 'it returns false'. Refute it at one input. -/
def rulesHidesWrong : ChangeSpec := { name := "rulesHides", fn := fun _ => fun
  | [d1, d2, d3, d4, d5, d6, d7] => { results := [.lit (.bool false)], args := [d1, d2, d3, d4, d5, d6, d7] }
  | _ => none }
def RulesHidesWrongFalsely : Prop := rulesHidesRow.holds Try.pinned (OpenSpec.ofChange rulesHidesWrong)

/-- 'hoodwinklaw10.RulesTells': WHATEVER THE INPUT: true; the input reads as it did. -/
def rulesTellsSpec : ChangeSpec := { name := "rulesTells", fn := fun _ => fun
  | [d1, d2, d3, d4] => { results := [.lit (.bool true)], args := [d1, d2, d3, d4] }
  | _ => none }
def rulesTellsRow : OpenClaim := { program := "ytcdlipdeemlibaa", sum := "783e0d14baf842d35a63b910ac99700cf92f636886d9835e8e9585ce207ebf7d", func := "hoodwink/hoodwinklaw10.RulesTells", spec := "rulesTells", unfollowed := true, recurses := true, apart := false }
def RulesTellsSaid : Prop := rulesTellsRow.holds Try.pinned (OpenSpec.ofChange rulesTellsSpec)

/-- ITS FALSE NEIGHBOUR: 'it returns false'. Refute it at one input. -/
def rulesTellsWrong : ChangeSpec := { name := "rulesTells", fn := fun _ => fun
  | [d1, d2, d3, d4] => { results := [.lit (.bool false)], args := [d1, d2, d3, d4] }
  | _ => none }
def RulesTellsWrongFalsely : Prop := rulesTellsRow.holds Try.pinned (OpenSpec.ofChange rulesTellsWrong)

/-- 'hoodwinklaw10.RulesNarrow': WHATEVER THE INPUT: true; the input reads as it did. -/
def rulesNarrowSpec : ChangeSpec := { name := "rulesNarrow", fn := fun _ => fun
  | [d1, d2, d3, d4, d5] => { results := [.lit (.bool true)], args := [d1, d2, d3, d4, d5] }
  | _ => none }
def rulesNarrowRow : OpenClaim := { program := "ytcdlipdeemlibaa", sum := "783e0d14baf842d35a63b910ac99700cf92f636886d9835e8e9585ce207ebf7d", func := "hoodwink/hoodwinklaw10.RulesNarrow", spec := "rulesNarrow", unfollowed := true, recurses := true, apart := false }
def RulesNarrowSaid : Prop := rulesNarrowRow.holds Try.pinned (OpenSpec.ofChange rulesNarrowSpec)

/-- ITS FALSE NEIGHBOUR: 'it returns false'. Refute it at one input. -/
def rulesNarrowWrong : ChangeSpec := { name := "rulesNarrow", fn := fun _ => fun
  | [d1, d2, d3, d4, d5] => { results := [.lit (.bool false)], args := [d1, d2, d3, d4, d5] }
  | _ => none }
def RulesNarrowWrongFalsely : Prop := rulesNarrowRow.holds Try.pinned (OpenSpec.ofChange rulesNarrowWrong)

/-- 'hoodwinklaw10.RulesPlays': WHATEVER THE INPUT: true; the input reads as it did. -/
def rulesPlaysSpec : ChangeSpec := { name := "rulesPlays", fn := fun _ => fun
  | [d1, d2, d3, d4, d5, d6] => { results := [.lit (.bool true)], args := [d1, d2, d3, d4, d5, d6] }
  | _ => none }
def rulesPlaysRow : OpenClaim := { program := "ytcdlipdeemlibaa", sum := "783e0d14baf842d35a63b910ac99700cf92f636886d9835e8e9585ce207ebf7d", func := "hoodwink/hoodwinklaw10.RulesPlays", spec := "rulesPlays", unfollowed := true, recurses := true, apart := false }
def RulesPlaysSaid : Prop := rulesPlaysRow.holds Try.pinned (OpenSpec.ofChange rulesPlaysSpec)

/-- ITS FALSE NEIGHBOUR: 'it returns false'. Refute it at one input. -/
def rulesPlaysWrong : ChangeSpec := { name := "rulesPlays", fn := fun _ => fun
  | [d1, d2, d3, d4, d5, d6] => { results := [.lit (.bool false)], args := [d1, d2, d3, d4, d5, d6] }
  | _ => none }
def RulesPlaysWrongFalsely : Prop := rulesPlaysRow.holds Try.pinned (OpenSpec.ofChange rulesPlaysWrong)

/-- 'hoodwinklaw10.RulesForms': WHATEVER THE INPUT: true; the input reads as it did. -/
def rulesFormsSpec : ChangeSpec := { name := "rulesForms", fn := fun _ => fun
  | [d1, d2, d3, d4, d5] => { results := [.lit (.bool true)], args := [d1, d2, d3, d4, d5] }
  | _ => none }
def rulesFormsRow : OpenClaim := { program := "ytcdlipdeemlibaa", sum := "783e0d14baf842d35a63b910ac99700cf92f636886d9835e8e9585ce207ebf7d", func := "hoodwink/hoodwinklaw10.RulesForms", spec := "rulesForms", unfollowed := true, recurses := true, apart := false }
def RulesFormsSaid : Prop := rulesFormsRow.holds Try.pinned (OpenSpec.ofChange rulesFormsSpec)

/-- ITS FALSE NEIGHBOUR: 'it returns false'. Refute it at one input. -/
def rulesFormsWrong : ChangeSpec := { name := "rulesForms", fn := fun _ => fun
  | [d1, d2, d3, d4, d5] => { results := [.lit (.bool false)], args := [d1, d2, d3, d4, d5] }
  | _ => none }
def RulesFormsWrongFalsely : Prop := rulesFormsRow.holds Try.pinned (OpenSpec.ofChange rulesFormsWrong)

/- THE SECOND FORM. 'bulk': how many values and letters a reading holds, each counted each time it is reached (what is shared counts as often as it is met; a slice's spare places count too). A statement '..UptoSaid' is the law's where the arguments, and the package variables that the reading takes, are together of bulk at most 1048576: NARROWER than '..Said'. Prove '..Said' where nothing that the law and all that it calls make is longer than what came in: it says more and counts as full. Else prove '..UptoSaid'. A law counts once. -/
mutual
def uptoBulk {H : Type} : DataW H → Nat
  | .lit (.string bytes) => bytes.length + 1
  | .lit _ => 1
  | .nil => 1
  | .ptr d => uptoBulk d + 1
  | .slice elems spare => uptoBulkAll elems + uptoBulkAll spare + 1
  | .agg parts => uptoBulkAll parts + 1
  | .iface _ d => uptoBulk d + 1
  | .map entries => uptoBulkEntries entries + 1
  | .held _ => 1
def uptoBulkAll {H : Type} : List (DataW H) → Nat
  | [] => 0
  | d :: r => uptoBulk d + uptoBulkAll r
def uptoBulkEntries {H : Type} : List (Lit × DataW H) → Nat
  | [] => 0
  | x :: r => uptoBulkEntry x + uptoBulkEntries r
def uptoBulkEntry {H : Type} : Lit × DataW H → Nat
  | (.string bytes, d) => bytes.length + uptoBulk d + 1
  | (_, d) => uptoBulk d + 1
 end
def uptoSmall : (H : Type) → List (DataW H) → Bool := fun _ ds => decide (uptoBulkAll ds ≤ 1048576)
def OpenSpec.upto (s : _root_.Go.ChangeSpec) : _root_.Go.OpenSpec := { _root_.Go.OpenSpec.ofChange s with cond := some uptoSmall }

/-- 'hoodwinklaw10.RulesStarts', WHERE WHAT IT READS IS OF BULK AT MOST 1048576: true; the input reads as it did. -/
def rulesStartsUptoRow : OpenClaim := { program := "ytcdlipdeemlibaa", sum := "783e0d14baf842d35a63b910ac99700cf92f636886d9835e8e9585ce207ebf7d", func := "hoodwink/hoodwinklaw10.RulesStarts", spec := "rulesStarts", unfollowed := true, recurses := true, apart := false, narrowed := true }
def RulesStartsUptoSaid : Prop := rulesStartsUptoRow.holds Try.pinned (OpenSpec.upto rulesStartsSpec)

/-- 'hoodwinklaw10.RulesDefaults', WHERE WHAT IT READS IS OF BULK AT MOST 1048576: true; the input reads as it did. -/
def rulesDefaultsUptoRow : OpenClaim := { program := "ytcdlipdeemlibaa", sum := "783e0d14baf842d35a63b910ac99700cf92f636886d9835e8e9585ce207ebf7d", func := "hoodwink/hoodwinklaw10.RulesDefaults", spec := "rulesDefaults", unfollowed := true, recurses := true, apart := false, narrowed := true }
def RulesDefaultsUptoSaid : Prop := rulesDefaultsUptoRow.holds Try.pinned (OpenSpec.upto rulesDefaultsSpec)

/-- 'hoodwinklaw10.RulesTicks', WHERE WHAT IT READS IS OF BULK AT MOST 1048576: true; the input reads as it did. -/
def rulesTicksUptoRow : OpenClaim := { program := "ytcdlipdeemlibaa", sum := "783e0d14baf842d35a63b910ac99700cf92f636886d9835e8e9585ce207ebf7d", func := "hoodwink/hoodwinklaw10.RulesTicks", spec := "rulesTicks", unfollowed := true, recurses := true, apart := false, narrowed := true }
def RulesTicksUptoSaid : Prop := rulesTicksUptoRow.holds Try.pinned (OpenSpec.upto rulesTicksSpec)

/-- 'hoodwinklaw10.RulesShows', WHERE WHAT IT READS IS OF BULK AT MOST 1048576: true; the input reads as it did. -/
def rulesShowsUptoRow : OpenClaim := { program := "ytcdlipdeemlibaa", sum := "783e0d14baf842d35a63b910ac99700cf92f636886d9835e8e9585ce207ebf7d", func := "hoodwink/hoodwinklaw10.RulesShows", spec := "rulesShows", unfollowed := true, recurses := true, apart := false, narrowed := true }
def RulesShowsUptoSaid : Prop := rulesShowsUptoRow.holds Try.pinned (OpenSpec.upto rulesShowsSpec)

/-- 'hoodwinklaw10.RulesHides', WHERE WHAT IT READS IS OF BULK AT MOST 1048576: true; the input reads as it did. -/
def rulesHidesUptoRow : OpenClaim := { program := "ytcdlipdeemlibaa", sum := "783e0d14baf842d35a63b910ac99700cf92f636886d9835e8e9585ce207ebf7d", func := "hoodwink/hoodwinklaw10.RulesHides", spec := "rulesHides", unfollowed := true, recurses := true, apart := false, narrowed := true }
def RulesHidesUptoSaid : Prop := rulesHidesUptoRow.holds Try.pinned (OpenSpec.upto rulesHidesSpec)

/-- 'hoodwinklaw10.RulesTells', WHERE WHAT IT READS IS OF BULK AT MOST 1048576: true; the input reads as it did. -/
def rulesTellsUptoRow : OpenClaim := { program := "ytcdlipdeemlibaa", sum := "783e0d14baf842d35a63b910ac99700cf92f636886d9835e8e9585ce207ebf7d", func := "hoodwink/hoodwinklaw10.RulesTells", spec := "rulesTells", unfollowed := true, recurses := true, apart := false, narrowed := true }
def RulesTellsUptoSaid : Prop := rulesTellsUptoRow.holds Try.pinned (OpenSpec.upto rulesTellsSpec)

/-- 'hoodwinklaw10.RulesNarrow', WHERE WHAT IT READS IS OF BULK AT MOST 1048576: true; the input reads as it did. -/
def rulesNarrowUptoRow : OpenClaim := { program := "ytcdlipdeemlibaa", sum := "783e0d14baf842d35a63b910ac99700cf92f636886d9835e8e9585ce207ebf7d", func := "hoodwink/hoodwinklaw10.RulesNarrow", spec := "rulesNarrow", unfollowed := true, recurses := true, apart := false, narrowed := true }
def RulesNarrowUptoSaid : Prop := rulesNarrowUptoRow.holds Try.pinned (OpenSpec.upto rulesNarrowSpec)

/-- 'hoodwinklaw10.RulesPlays', WHERE WHAT IT READS IS OF BULK AT MOST 1048576: true; the input reads as it did. -/
def rulesPlaysUptoRow : OpenClaim := { program := "ytcdlipdeemlibaa", sum := "783e0d14baf842d35a63b910ac99700cf92f636886d9835e8e9585ce207ebf7d", func := "hoodwink/hoodwinklaw10.RulesPlays", spec := "rulesPlays", unfollowed := true, recurses := true, apart := false, narrowed := true }
def RulesPlaysUptoSaid : Prop := rulesPlaysUptoRow.holds Try.pinned (OpenSpec.upto rulesPlaysSpec)

/-- 'hoodwinklaw10.RulesForms', WHERE WHAT IT READS IS OF BULK AT MOST 1048576: true; the input reads as it did. -/
def rulesFormsUptoRow : OpenClaim := { program := "ytcdlipdeemlibaa", sum := "783e0d14baf842d35a63b910ac99700cf92f636886d9835e8e9585ce207ebf7d", func := "hoodwink/hoodwinklaw10.RulesForms", spec := "rulesForms", unfollowed := true, recurses := true, apart := false, narrowed := true }
def RulesFormsUptoSaid : Prop := rulesFormsUptoRow.holds Try.pinned (OpenSpec.upto rulesFormsSpec)

end Rows
end Go.Proofs.Ytcdlipdeemlibaa
