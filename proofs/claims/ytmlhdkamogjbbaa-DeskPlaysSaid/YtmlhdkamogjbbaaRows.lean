/-
  No cell of these rows narrows 'for every input' (looked for: loops, veiled, ifaces, maps, wideKeys, modest, calm, conditions, laid).
  DERIVED. THE GIVEN ROWS OF THIS SEAT. 6 by the template 'for every input the law returns true; each argument reads behind the call as it read before'; 0 by the template 'total and deterministic' (their statements: YtmlhdkamogjbbaaTotals.lean).
  GIVEN WITH THE SEED: the statements are not yours to turn. If you find one false, say at which input.
  Laid BY PROGRAM, IN A SANDBOX (cutbox-rows.mjs): the forced cells as the released guide's own fill.sh prints them over the translation a56b1b706d998dc6… (all of the seat's roots in one cut). By AI agents, Wed Nov 11 2026. No macro, syntax, notation, axiom, sorry.
-/
import Derived.Test.YtmlhdkamogjbbaaChecked
import GoSem.Claim
import GoSem.ClaimJoined
import GoSem.ClaimMapViews
import Derived.JoinedTies
import Derived.KernelRfl
namespace Go.Proofs.Ytmlhdkamogjbbaa
/- THE CELL 'sum', in the pinned program and in every row, IS THE sha256 OF THE DUMP (.gsa) THAT YtmlhdkamogjbbaaProg.lean LOADS. Nothing in Lean hashes anything: it is a label: what it is worth is what the hold of that sum in a sandbox is worth. -/
noncomputable def Try.pinned : Pinned := { name := "ytmlhdkamogjbbaa", sum := "a56b1b706d998dc6da891f6c7024db895e060ca3262770a36431f5c690f20dd6", checked := Try.checked }
namespace Rows
def none {H : Type} : Left H := { results := [], args := [] }

/-- 'hoodwinklaw14.DeskApart': WHATEVER THE INPUT: true; the input reads as it did. -/
def deskApartSpec : ChangeSpec := { name := "deskApart", fn := fun _ => fun
  | [d1, d2, d3, d4] => { results := [.lit (.bool true)], args := [d1, d2, d3, d4] }
  | _ => none }
def deskApartRow : OpenClaim := { program := "ytmlhdkamogjbbaa", sum := "a56b1b706d998dc6da891f6c7024db895e060ca3262770a36431f5c690f20dd6", func := "hoodwink/hoodwinklaw14.DeskApart", spec := "deskApart", inPlace := ["maps.clone"], plainKeys := false, apart := false }
def DeskApartSaid : Prop := deskApartRow.holds Try.pinned (OpenSpec.ofChange deskApartSpec)

/-- ITS FALSE NEIGHBOUR: 'it returns false'. Refute it at one input. -/
def deskApartWrong : ChangeSpec := { name := "deskApart", fn := fun _ => fun
  | [d1, d2, d3, d4] => { results := [.lit (.bool false)], args := [d1, d2, d3, d4] }
  | _ => none }
def DeskApartWrongFalsely : Prop := deskApartRow.holds Try.pinned (OpenSpec.ofChange deskApartWrong)

/-- 'hoodwinklaw14.DeskFirst': WHATEVER THE INPUT: true; the input reads as it did. -/
def deskFirstSpec : ChangeSpec := { name := "deskFirst", fn := fun _ => fun
  | [d1, d2, d3, d4, d5] => { results := [.lit (.bool true)], args := [d1, d2, d3, d4, d5] }
  | _ => none }
def deskFirstRow : OpenClaim := { program := "ytmlhdkamogjbbaa", sum := "a56b1b706d998dc6da891f6c7024db895e060ca3262770a36431f5c690f20dd6", func := "hoodwink/hoodwinklaw14.DeskFirst", spec := "deskFirst", recurses := true, plainKeys := false, apart := false }
def DeskFirstSaid : Prop := deskFirstRow.holds Try.pinned (OpenSpec.ofChange deskFirstSpec)

/-- ITS FALSE NEIGHBOUR: 'it returns false'. Refute it at one input. -/
def deskFirstWrong : ChangeSpec := { name := "deskFirst", fn := fun _ => fun
  | [d1, d2, d3, d4, d5] => { results := [.lit (.bool false)], args := [d1, d2, d3, d4, d5] }
  | _ => none }
def DeskFirstWrongFalsely : Prop := deskFirstRow.holds Try.pinned (OpenSpec.ofChange deskFirstWrong)

/-- 'hoodwinklaw14.DeskWrong': WHATEVER THE INPUT: true; the input reads as it did. -/
def deskWrongSpec : ChangeSpec := { name := "deskWrong", fn := fun _ => fun
  | [d1, d2, d3] => { results := [.lit (.bool true)], args := [d1, d2, d3] }
  | _ => none }
def deskWrongRow : OpenClaim := { program := "ytmlhdkamogjbbaa", sum := "a56b1b706d998dc6da891f6c7024db895e060ca3262770a36431f5c690f20dd6", func := "hoodwink/hoodwinklaw14.DeskWrong", spec := "deskWrong", recurses := true, plainKeys := false, apart := false }
def DeskWrongSaid : Prop := deskWrongRow.holds Try.pinned (OpenSpec.ofChange deskWrongSpec)

/-- ITS FALSE NEIGHBOUR: 'it returns false'. Refute it at one input. -/
def deskWrongWrong : ChangeSpec := { name := "deskWrong", fn := fun _ => fun
  | [d1, d2, d3] => { results := [.lit (.bool false)], args := [d1, d2, d3] }
  | _ => none }
def DeskWrongWrongFalsely : Prop := deskWrongRow.holds Try.pinned (OpenSpec.ofChange deskWrongWrong)

/-- 'hoodwinklaw14.DeskTimes': WHATEVER THE INPUT: true; the input reads as it did. -/
def deskTimesSpec : ChangeSpec := { name := "deskTimes", fn := fun _ => fun
  | [d1, d2] => { results := [.lit (.bool true)], args := [d1, d2] }
  | _ => none }
def deskTimesRow : OpenClaim := { program := "ytmlhdkamogjbbaa", sum := "a56b1b706d998dc6da891f6c7024db895e060ca3262770a36431f5c690f20dd6", func := "hoodwink/hoodwinklaw14.DeskTimes", spec := "deskTimes", recurses := true, plainKeys := false, apart := false }
def DeskTimesSaid : Prop := deskTimesRow.holds Try.pinned (OpenSpec.ofChange deskTimesSpec)

/-- ITS FALSE NEIGHBOUR: 'it returns false'. Refute it at one input. -/
def deskTimesWrong : ChangeSpec := { name := "deskTimes", fn := fun _ => fun
  | [d1, d2] => { results := [.lit (.bool false)], args := [d1, d2] }
  | _ => none }
def DeskTimesWrongFalsely : Prop := deskTimesRow.holds Try.pinned (OpenSpec.ofChange deskTimesWrong)

/-- 'hoodwinklaw14.DeskPlays': WHATEVER THE INPUT: true; the input reads as it did. -/
def deskPlaysSpec : ChangeSpec := { name := "deskPlays", fn := fun _ => fun
  | [d1, d2] => { results := [.lit (.bool true)], args := [d1, d2] }
  | _ => none }
def deskPlaysRow : OpenClaim := { program := "ytmlhdkamogjbbaa", sum := "a56b1b706d998dc6da891f6c7024db895e060ca3262770a36431f5c690f20dd6", func := "hoodwink/hoodwinklaw14.DeskPlays", spec := "deskPlays", recurses := true, plainKeys := false, apart := false }
def DeskPlaysSaid : Prop := deskPlaysRow.holds Try.pinned (OpenSpec.ofChange deskPlaysSpec)

/-- ITS FALSE NEIGHBOUR: 'it returns false'. Refute it at one input. -/
def deskPlaysWrong : ChangeSpec := { name := "deskPlays", fn := fun _ => fun
  | [d1, d2] => { results := [.lit (.bool false)], args := [d1, d2] }
  | _ => none }
def DeskPlaysWrongFalsely : Prop := deskPlaysRow.holds Try.pinned (OpenSpec.ofChange deskPlaysWrong)

/-- 'hoodwinklaw14.DeskNil': WHATEVER THE INPUT: true; the input reads as it did. -/
def deskNilSpec : ChangeSpec := { name := "deskNil", fn := fun _ => fun
  | [d1, d2, d3] => { results := [.lit (.bool true)], args := [d1, d2, d3] }
  | _ => none }
def deskNilRow : OpenClaim := { program := "ytmlhdkamogjbbaa", sum := "a56b1b706d998dc6da891f6c7024db895e060ca3262770a36431f5c690f20dd6", func := "hoodwink/hoodwinklaw14.DeskNil", spec := "deskNil", inPlace := ["maps.clone"], recurses := true, plainKeys := false, apart := false }
def DeskNilSaid : Prop := deskNilRow.holds Try.pinned (OpenSpec.ofChange deskNilSpec)

/-- ITS FALSE NEIGHBOUR: 'it returns false'. Refute it at one input. -/
def deskNilWrong : ChangeSpec := { name := "deskNil", fn := fun _ => fun
  | [d1, d2, d3] => { results := [.lit (.bool false)], args := [d1, d2, d3] }
  | _ => none }
def DeskNilWrongFalsely : Prop := deskNilRow.holds Try.pinned (OpenSpec.ofChange deskNilWrong)

/- THE SECOND FORM. 'bulk': how many values and letters a reading holds, each counted each time it is reached (what is shared counts as often as it is met; a slice's spare places count too). A statement '..UptoSaid' is the law's where the arguments, and the package variables that the reading takes, are together of bulk at most 1048576: NARROWER than '..Said'. Prove '..Said' where nothing that the law and all that it calls make is longer than what came in: it says more and counts as full. Else prove '..UptoSaid'. A law counts once. -/
mutual
def uptoBulk {H : Type} : DataW H → Nat
  | .lit (.string bytes) => bytes.length + 1
  | .lit _ => 1
  | .nil => 1
  | .ptr d => uptoBulk d + 1
  | .slice elems spare => uptoBulkAll elems + uptoBulkAll spare + 1
  | .agg parts => uptoBulkAll parts + 1
  | .iface _ d => uptoBulk d + 1
  | .map entries => uptoBulkEntries entries + 1
  | .held _ => 1
def uptoBulkAll {H : Type} : List (DataW H) → Nat
  | [] => 0
  | d :: r => uptoBulk d + uptoBulkAll r
def uptoBulkEntries {H : Type} : List (Lit × DataW H) → Nat
  | [] => 0
  | x :: r => uptoBulkEntry x + uptoBulkEntries r
def uptoBulkEntry {H : Type} : Lit × DataW H → Nat
  | (.string bytes, d) => bytes.length + uptoBulk d + 1
  | (_, d) => uptoBulk d + 1
 end
def uptoSmall : (H : Type) → List (DataW H) → Bool := fun _ ds => decide (uptoBulkAll ds ≤ 1048576)
def OpenSpec.upto (s : _root_.Go.ChangeSpec) : _root_.Go.OpenSpec := { _root_.Go.OpenSpec.ofChange s with cond := some uptoSmall }

/-- 'hoodwinklaw14.DeskApart', WHERE WHAT IT READS IS OF BULK AT MOST 1048576: true; the input reads as it did. -/
def deskApartUptoRow : OpenClaim := { program := "ytmlhdkamogjbbaa", sum := "a56b1b706d998dc6da891f6c7024db895e060ca3262770a36431f5c690f20dd6", func := "hoodwink/hoodwinklaw14.DeskApart", spec := "deskApart", inPlace := ["maps.clone"], plainKeys := false, apart := false, narrowed := true }
def DeskApartUptoSaid : Prop := deskApartUptoRow.holds Try.pinned (OpenSpec.upto deskApartSpec)

/-- 'hoodwinklaw14.DeskFirst', WHERE WHAT IT READS IS OF BULK AT MOST 1048576: true; the input reads as it did. -/
def deskFirstUptoRow : OpenClaim := { program := "ytmlhdkamogjbbaa", sum := "a56b1b706d998dc6da891f6c7024db895e060ca3262770a36431f5c690f20dd6", func := "hoodwink/hoodwinklaw14.DeskFirst", spec := "deskFirst", recurses := true, plainKeys := false, apart := false, narrowed := true }
def DeskFirstUptoSaid : Prop := deskFirstUptoRow.holds Try.pinned (OpenSpec.upto deskFirstSpec)

/-- 'hoodwinklaw14.DeskWrong', WHERE WHAT IT READS IS OF BULK AT MOST 1048576: true; the input reads as it did. -/
def deskWrongUptoRow : OpenClaim := { program := "ytmlhdkamogjbbaa", sum := "a56b1b706d998dc6da891f6c7024db895e060ca3262770a36431f5c690f20dd6", func := "hoodwink/hoodwinklaw14.DeskWrong", spec := "deskWrong", recurses := true, plainKeys := false, apart := false, narrowed := true }
def DeskWrongUptoSaid : Prop := deskWrongUptoRow.holds Try.pinned (OpenSpec.upto deskWrongSpec)

/-- 'hoodwinklaw14.DeskTimes', WHERE WHAT IT READS IS OF BULK AT MOST 1048576: true; the input reads as it did. -/
def deskTimesUptoRow : OpenClaim := { program := "ytmlhdkamogjbbaa", sum := "a56b1b706d998dc6da891f6c7024db895e060ca3262770a36431f5c690f20dd6", func := "hoodwink/hoodwinklaw14.DeskTimes", spec := "deskTimes", recurses := true, plainKeys := false, apart := false, narrowed := true }
def DeskTimesUptoSaid : Prop := deskTimesUptoRow.holds Try.pinned (OpenSpec.upto deskTimesSpec)

/-- 'hoodwinklaw14.DeskPlays', WHERE WHAT IT READS IS OF BULK AT MOST 1048576: true; the input reads as it did. -/
def deskPlaysUptoRow : OpenClaim := { program := "ytmlhdkamogjbbaa", sum := "a56b1b706d998dc6da891f6c7024db895e060ca3262770a36431f5c690f20dd6", func := "hoodwink/hoodwinklaw14.DeskPlays", spec := "deskPlays", recurses := true, plainKeys := false, apart := false, narrowed := true }
def DeskPlaysUptoSaid : Prop := deskPlaysUptoRow.holds Try.pinned (OpenSpec.upto deskPlaysSpec)

/-- 'hoodwinklaw14.DeskNil', WHERE WHAT IT READS IS OF BULK AT MOST 1048576: true; the input reads as it did. -/
def deskNilUptoRow : OpenClaim := { program := "ytmlhdkamogjbbaa", sum := "a56b1b706d998dc6da891f6c7024db895e060ca3262770a36431f5c690f20dd6", func := "hoodwink/hoodwinklaw14.DeskNil", spec := "deskNil", inPlace := ["maps.clone"], recurses := true, plainKeys := false, apart := false, narrowed := true }
def DeskNilUptoSaid : Prop := deskNilUptoRow.holds Try.pinned (OpenSpec.upto deskNilSpec)

end Rows
end Go.Proofs.Ytmlhdkamogjbbaa
