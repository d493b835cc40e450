/- 'hoodwink/hoodwinklaw18.WireOwns' returns true, whatever it is given: the row, on the pure statement. -/
import Derived.Test.YtmgfkifjgajclaaRows
import Derived.Test.YtmgfkifjgajclaaXH
import Derived.WalkKit
import Derived.ProofKit
import Derived.OpenShut
import Derived.SizedLaws
namespace Go.Proofs.Ytmgfkifjgajclaa.wireOwns
open Go Go.ChangeShapes Go.WideShapes Go.ChangeAt Go.RowKit G
set_option maxRecDepth 100000
theorem own : ownKnob Try.prog.godebug = none := by kernel_rfl
theorem laid : laidOutB Try.prog = true := pf_laid
theorem c0 : (Rows.wireOwnsRow.wf (OpenSpec.ofChange Rows.wireOwnsSpec)) = true := by kernel_rfl
theorem c3 : (Try.f3.params.all (Try.prog.readableRec ·)) = true := by kernel_rfl
theorem c4 : (namedTie Try.prog Rows.wireOwnsRow.named Rows.wireOwnsSpec.vars) = true := by kernel_rfl
theorem c5 : ((Rows.wireOwnsRow.stops == [])) = true := by kernel_rfl
theorem c7 : ((Rows.wireOwnsRow.knobs == [])) = true := by kernel_rfl
theorem c9 : ((Rows.wireOwnsRow.inPlace == Try.prog.inPlace 3)) = true := by kernel_rfl
theorem c10 : ((Rows.wireOwnsRow.unfollowed == Try.prog.unfollowed 3)) = true := by kernel_rfl
theorem c11 : ((Rows.wireOwnsRow.recurses == Try.prog.recurses 3)) = true := by kernel_rfl
theorem c12 : ((Rows.wireOwnsRow.named == Try.prog.varsNamed 3)) = true := by kernel_rfl
theorem c13 : ((Rows.wireOwnsRow.maps == (Try.f3.params.toList ++ Rows.wireOwnsSpec.plain.varTypes Try.prog).any (Try.prog.mapsRec ·))) = true := by kernel_rfl
theorem c14 : ((Rows.wireOwnsRow.ifaces == (Try.f3.params.toList ++ Rows.wireOwnsSpec.plain.varTypes Try.prog).any (Try.prog.ifacesRec ·))) = true := by kernel_rfl
theorem c15 : ((Rows.wireOwnsRow.mapsOut == Try.prog.mapsAmong Try.f3.resultTypes.toList)) = true := by kernel_rfl
theorem c16 : ((Rows.wireOwnsRow.loops == (Try.f3.params.toList ++ Rows.wireOwnsSpec.plain.varTypes Try.prog).any (Try.prog.loopsFrom ·))) = true := by kernel_rfl
theorem c17 : ((Rows.wireOwnsRow.wideKeys == (Try.f3.params.toList ++ Rows.wireOwnsSpec.plain.varTypes Try.prog ++ Try.f3.resultTypes.toList).any (Try.prog.wideKeysFrom ·))) = true := by kernel_rfl
theorem c18 : (Rows.wireOwnsSpec.vars.all (Try.prog.varReadable ·)) = true := by kernel_rfl
theorem c19 : (Try.f3.resultTypes.all (fun t => Try.prog.readableRec t && decide (t < Try.prog.types.size))) = true := by kernel_rfl
theorem c20 : ((Rows.wireOwnsRow.ifacesOut == Try.f3.resultTypes.toList.any (Try.prog.ifacesRec ·))) = true := by kernel_rfl
theorem c21 : ((Rows.wireOwnsRow.loopsOut == Try.f3.resultTypes.toList.any (Try.prog.loopsFrom ·))) = true := by kernel_rfl
theorem c22 : ((Rows.wireOwnsRow.plainKeys == Try.prog.plainKeys)) = true := by kernel_rfl
theorem c23 : (Rows.wireOwnsRow.shortTexts.isNone) = true := by kernel_rfl
theorem c26 : ((Rows.wireOwnsRow.lifted == Try.prog.liftsFinal)) = true := by kernel_rfl
theorem c27 : ((Try.prog.make == some Rows.wireOwnsRow.make)) = true := by kernel_rfl
theorem c28 : ((Rows.wireOwnsRow.kinds == (if Rows.wireOwnsRow.domain.isEmpty then [] else Try.f3.params.toList.map fun t => match Try.prog.underlying t with | some (.int k) => some k | _ => none))) = true := by kernel_rfl
theorem c29 : ((Rows.wireOwnsRow.pinned == Rows.wireOwnsRow.pinnedBy)) = true := by kernel_rfl
theorem c30 : ((Rows.wireOwnsRow.veiled == (Try.f3.params.toList ++ Rows.wireOwnsSpec.plain.varTypes Try.prog ++ Try.f3.resultTypes.toList).any (Try.prog.veiledRec ·))) = true := by kernel_rfl
theorem c31 : (Rows.wireOwnsRow.veiledFits Try.prog Try.f3.params.toList (Try.f3.params.toList ++ Rows.wireOwnsSpec.plain.varTypes Try.prog ++ Try.f3.resultTypes.toList)) = true := by kernel_rfl
theorem closed : joinedFacts Try.prog 3 Try.f3 Rows.wireOwnsSpec Rows.wireOwnsRow = true := by
 unfold joinedFacts
 simp only [Bool.and_eq_true]
 exact ⟨⟨⟨⟨⟨⟨⟨⟨⟨⟨⟨⟨⟨⟨⟨⟨⟨⟨⟨⟨⟨⟨⟨⟨⟨⟨⟨⟨⟨⟨⟨c0, pf_laid⟩, pf_maps⟩, c3⟩, c4⟩, c5⟩, pf_stops⟩, c7⟩, pf_knobs⟩, c9⟩, c10⟩, c11⟩, c12⟩, c13⟩, c14⟩, c15⟩, c16⟩, c17⟩, c18⟩, c19⟩, c20⟩, c21⟩, c22⟩, c23⟩, pf_heard⟩, pf_enter⟩, c26⟩, c27⟩, c28⟩, c29⟩, c30⟩, c31⟩

theorem pure_ok : ∀ xs, WTA Try.prog 8 [22] xs → ipureL xs = true → pc BI 3 xs = some (.bool true) := by
 intro xs h hp
 obtain ⟨cs, r, rfl, h1, rfl⟩ := h
 obtain ⟨zs, hz, hzl, _⟩ := wt_ints Try.underlying22 Try.underlying5 (by kernel_rfl) h1
 have hzl' : zs.length ≤ 9223372036854775807 := by unfold maxLen at hzl; omega
 rcases hz with ⟨rfl, rfl⟩ | rfl
 ·rw [argOf_one (by kernel_rfl)]
  exact Owns_ok _ [] .nil (by simp)
 ·rw [argOf_one (by kernel_rfl)]
  exact Owns_ok _ zs .lst hzl'
theorem okts : ∀ t ∈ ([22] : List TypeId), okT Try.prog 8 t = true := by
 have h : ([22] : List TypeId).all (okT Try.prog 8) = true := by kernel_rfl
 exact fun t ht => List.all_eq_true.1 h t ht
theorem rds : ∀ t ∈ ([22] : List TypeId), Try.prog.readableRec t = true ∧ t < Try.prog.types.size := by
 have h : ([22] : List TypeId).all (fun t => Try.prog.readableRec t && decide (t < Try.prog.types.size)) = true := by kernel_rfl
 intro t ht
 have := List.all_eq_true.1 h t ht
 simpa using this
theorem lifted (os : Os) (started : os.Started) (H : Type) (enc : TypeId × Value → H) :
  ReturnsInHanded {} Try.checked os 3 .any (Rows.wireOwnsSpec.pre6 enc Try.prog Try.f3 Rows.wireOwnsRow.domain false) (Rows.wireOwnsSpec.post enc Try.prog Try.f3 false true false false) := by
 refine returnsInHanded_of_change_sized (C := Try.checked) own started (by kernel_rfl) Try.func3
  (ChangeSpec.witness6 (enc := enc) (C := Try.checked) false ⟨#[], #[.slice none 0 0], []⟩ 8 (by kernel_rfl) (by kernel_rfl) (by kernel_rfl) (by kernel_rfl)) ?_
 intro W base args ds gs before hval0 hW hcnd hsz0 _
 have hval : ∀ (j : Nat) t v, Try.f3.params[j]? = some t → args[j]? = some v → Value.okWide Try.prog W .any base t v := hval0
 have hW' := hW
 obtain ⟨p, q, hA0, hV, rfl, hfz, hnd⟩ := hW
 have hA : DataW.TrodAll enc Try.prog W 0 (fun _ => true) true Try.f3.params.toList args.toList ds p := hA0
 rw [Try.params3] at hA hval
 obtain ⟨rfl, rfl⟩ := trodVars_none hV
 have hA2 := hA
 obtain ⟨v0, vs0, d0, ds0, p0, q0, hargs, rfl, rfl, h0, r0⟩ := trodAll_cons hA2
 obtain ⟨rfl, rfl, rfl⟩ := trodAll_nil r0
 obtain rfl : args = #[v0] := by cases args; simp_all
 clear hA0 hval0 hsz0
 simp only [List.append_nil] at hW'
 have hlt := fun x hx => hW'.lt x hx
 refine (law_calls (D := 8) bookG_ok rfl book_ok (f := 3) (ts := [22]) okts hA (fun j t v ht hv => hval j t v (by simpa using ht) (by simpa using hv)) pure_ok).mono fun e W' ⟨he, bel⟩ => ?_
 subst he
 refine ⟨_, rfl, _, _, _, [], _, [], hW', trodAll_mk1 (shut_bool Try.underlying4 _), trodAll_below laid bel [22] _ _ _ rds hA (fun x hx => ?_), rfl, bel.frame _, fun h => by cases h⟩
 exact hlt x (by simpa using hx)
theorem over : Rows.wireOwnsRow.holds Try.pinned (OpenSpec.ofChange Rows.wireOwnsSpec) :=
 OpenClaim.holds_of_wide 3 Try.f3 rfl rfl rfl rfl rfl rfl rfl ⟨rfl, rfl, rfl, rfl, rfl⟩ rfl rfl rfl rfl rfl (by kernel_rfl) Try.func3 closed
  (of_decide_eq_true (by kernel_rfl)) (by unfold Func.isWrapper; first | (rw [if_pos (by decide +kernel)]; kernel_rfl) | (rw [if_neg (by decide +kernel)]; exact ⟨rfl, rfl⟩))
  (fun os started H enc _ => lifted os started H enc)
theorem proved : Rows.WireOwnsSaid := over
#print axioms proved
end Go.Proofs.Ytmgfkifjgajclaa.wireOwns
namespace Go.Proofs.Ytmgfkifjgajclaa
/-- The row, under a short name, for the claim. -/
theorem wireOwns_holds : Rows.WireOwnsSaid := wireOwns.proved
end Go.Proofs.Ytmgfkifjgajclaa
