/- 'hoodwink/hoodwinklaw09.VmLabels' returns true, whatever it is given: the row, on the pure statement. -/
import Derived.Test.YthihgfkpdbgogaaRows
import Derived.Test.YthihgfkpdbgogaaXJ
import Derived.WalkKit
import Derived.ProofKit
import Derived.OpenShut
import Derived.SizedLaws
namespace Go.Proofs.Ythihgfkpdbgogaa.vmLabels
open Go Go.ChangeShapes Go.WideShapes Go.ChangeAt Go.RowKit G
set_option linter.unusedVariables false
set_option linter.unusedSimpArgs false
set_option maxRecDepth 100000
theorem own : ownKnob Try.prog.godebug = none := by kernel_rfl
theorem laid : laidOutB Try.prog = true := pf_laid
theorem c0 : (Rows.vmLabelsRow.wf (OpenSpec.ofChange Rows.vmLabelsSpec)) = true := by kernel_rfl
theorem c3 : (Try.f10.params.all (Try.prog.readableRec ·)) = true := by kernel_rfl
theorem c4 : (namedTie Try.prog Rows.vmLabelsRow.named Rows.vmLabelsSpec.vars) = true := by kernel_rfl
theorem c5 : ((Rows.vmLabelsRow.stops == [])) = true := by kernel_rfl
theorem c7 : ((Rows.vmLabelsRow.knobs == [])) = true := by kernel_rfl
theorem c9 : ((Rows.vmLabelsRow.inPlace == Try.prog.inPlace 10)) = true := by kernel_rfl
theorem c10 : ((Rows.vmLabelsRow.unfollowed == Try.prog.unfollowed 10)) = true := by kernel_rfl
theorem c11 : ((Rows.vmLabelsRow.recurses == Try.prog.recurses 10)) = true := by kernel_rfl
theorem c12 : ((Rows.vmLabelsRow.named == Try.prog.varsNamed 10)) = true := by kernel_rfl
theorem c13 : ((Rows.vmLabelsRow.maps == (Try.f10.params.toList ++ Rows.vmLabelsSpec.plain.varTypes Try.prog).any (Try.prog.mapsRec ·))) = true := by kernel_rfl
theorem c14 : ((Rows.vmLabelsRow.ifaces == (Try.f10.params.toList ++ Rows.vmLabelsSpec.plain.varTypes Try.prog).any (Try.prog.ifacesRec ·))) = true := by kernel_rfl
theorem c15 : ((Rows.vmLabelsRow.mapsOut == Try.prog.mapsAmong Try.f10.resultTypes.toList)) = true := by kernel_rfl
theorem c16 : ((Rows.vmLabelsRow.loops == (Try.f10.params.toList ++ Rows.vmLabelsSpec.plain.varTypes Try.prog).any (Try.prog.loopsFrom ·))) = true := by kernel_rfl
theorem c17 : ((Rows.vmLabelsRow.wideKeys == (Try.f10.params.toList ++ Rows.vmLabelsSpec.plain.varTypes Try.prog ++ Try.f10.resultTypes.toList).any (Try.prog.wideKeysFrom ·))) = true := by kernel_rfl
theorem c18 : (Rows.vmLabelsSpec.vars.all (Try.prog.varReadable ·)) = true := by kernel_rfl
theorem c19 : (Try.f10.resultTypes.all (fun t => Try.prog.readableRec t && decide (t < Try.prog.types.size))) = true := by kernel_rfl
theorem c20 : ((Rows.vmLabelsRow.ifacesOut == Try.f10.resultTypes.toList.any (Try.prog.ifacesRec ·))) = true := by kernel_rfl
theorem c21 : ((Rows.vmLabelsRow.loopsOut == Try.f10.resultTypes.toList.any (Try.prog.loopsFrom ·))) = true := by kernel_rfl
theorem c22 : ((Rows.vmLabelsRow.plainKeys == Try.prog.plainKeys)) = true := by kernel_rfl
theorem c23 : (Rows.vmLabelsRow.shortTexts.isNone) = true := by kernel_rfl
theorem c26 : ((Rows.vmLabelsRow.lifted == Try.prog.liftsFinal)) = true := by kernel_rfl
theorem c27 : ((Try.prog.make == some Rows.vmLabelsRow.make)) = true := by kernel_rfl
theorem c28 : ((Rows.vmLabelsRow.kinds == (if Rows.vmLabelsRow.domain.isEmpty then [] else Try.f10.params.toList.map fun t => match Try.prog.underlying t with | some (.int k) => some k | _ => none))) = true := by kernel_rfl
theorem c29 : ((Rows.vmLabelsRow.pinned == Rows.vmLabelsRow.pinnedBy)) = true := by kernel_rfl
theorem c30 : ((Rows.vmLabelsRow.veiled == (Try.f10.params.toList ++ Rows.vmLabelsSpec.plain.varTypes Try.prog ++ Try.f10.resultTypes.toList).any (Try.prog.veiledRec ·))) = true := by kernel_rfl
theorem c31 : (Rows.vmLabelsRow.veiledFits Try.prog Try.f10.params.toList (Try.f10.params.toList ++ Rows.vmLabelsSpec.plain.varTypes Try.prog ++ Try.f10.resultTypes.toList)) = true := by kernel_rfl
theorem closed : joinedFacts Try.prog 10 Try.f10 Rows.vmLabelsSpec Rows.vmLabelsRow = true := by
  unfold joinedFacts
  simp only [Bool.and_eq_true]
  exact ⟨⟨⟨⟨⟨⟨⟨⟨⟨⟨⟨⟨⟨⟨⟨⟨⟨⟨⟨⟨⟨⟨⟨⟨⟨⟨⟨⟨⟨⟨⟨c0, pf_laid⟩, pf_maps⟩, c3⟩, c4⟩, c5⟩, pf_stops⟩, c7⟩, pf_knobs⟩, c9⟩, c10⟩, c11⟩, c12⟩, c13⟩, c14⟩, c15⟩, c16⟩, c17⟩, c18⟩, c19⟩, c20⟩, c21⟩, c22⟩, c23⟩, pf_heard⟩, pf_enter⟩, c26⟩, c27⟩, c28⟩, c29⟩, c30⟩, c31⟩

theorem pure_ok : ∀ xs, WTA Try.prog 8 [25, 26, 52, 29, 29, 52] xs → ipureL xs = true → pc BI 10 xs = some (.bool true) := by
  intro xs h hp
  obtain ⟨cs, r, rfl, h1, cs2, r2, rfl, h2, cs3, r3, rfl, h3, cs4, r4, rfl, h4, cs5, r5, rfl, h5, cs6, r6, rfl, h6, rfl⟩ := h
  obtain ⟨x, l, rfl, hx, hl, hw⟩ := dec_codes Try.underlying25 Try.underlying51 rfl Try.underlying5 Try.underlying5 Try.underlying5 Try.underlying5 Try.underlying21 Try.underlying34 (by kernel_rfl) h1
  obtain ⟨y, cl, rfl, hy, hcl, hv⟩ := dec_cells Try.underlying26 Try.underlying37 rfl Try.underlying21 Try.underlying34 (by kernel_rfl) h2
  obtain ⟨v, vs, rfl, hvv, hvl, hvr⟩ := dec_i32s Try.underlying52 Try.underlying21 (by kernel_rfl) h3
  obtain ⟨d, rfl, hd0, hd1⟩ := dec_u64 Try.underlying29 rfl Try.underlying27 h4
  obtain ⟨e, rfl, he0, he1⟩ := dec_u64 Try.underlying29 rfl Try.underlying27 h5
  obtain ⟨m, ms, rfl, hm, hml, hmr⟩ := dec_i32s Try.underlying52 Try.underlying21 (by kernel_rfl) h6
  have e1 : argOf Try.prog 25 [x] = x := argOf_one (by kernel_rfl) _
  have e2 : argOf Try.prog 26 [y] = y := argOf_one (by kernel_rfl) _
  have e3 : argOf Try.prog 29 [IV.int .u64 d] = .agg [IV.int .u64 d] := argOf_agg (by kernel_rfl) _
  have e5 : argOf Try.prog 29 [IV.int .u64 e] = .agg [IV.int .u64 e] := argOf_agg (by kernel_rfl) _
  have e4 : argOf Try.prog 52 [m] = m := argOf_one (by kernel_rfl) _
  have e6 : argOf Try.prog 52 [v] = v := argOf_one (by kernel_rfl) _
  rw [e1, e2, e3, e4, e5, e6]
  exact VmLabels_ok x y v m l cl vs d e ms hx hy hvv hm hw hv hvr hmr hl hcl hml hvl
theorem okts : ∀ t ∈ ([25, 26, 52, 29, 29, 52] : List TypeId), okT Try.prog 8 t = true := by
  have h : ([25, 26, 52, 29, 29, 52] : List TypeId).all (okT Try.prog 8) = true := by kernel_rfl
  exact fun t ht => List.all_eq_true.1 h t ht
theorem rds : ∀ t ∈ ([25, 26, 52, 29, 29, 52] : List TypeId), Try.prog.readableRec t = true ∧ t < Try.prog.types.size := by
  have h : ([25, 26, 52, 29, 29, 52] : List TypeId).all (fun t => Try.prog.readableRec t && decide (t < Try.prog.types.size)) = true := by kernel_rfl
  intro t ht
  have := List.all_eq_true.1 h t ht
  simpa using this
theorem lifted (os : Os) (started : os.Started) (H : Type) (enc : TypeId × Value → H) :
    ReturnsInHanded {} Try.checked os 10 .any (Rows.vmLabelsSpec.pre6 enc Try.prog Try.f10 Rows.vmLabelsRow.domain false) (Rows.vmLabelsSpec.post enc Try.prog Try.f10 false true false false) := by
  refine returnsInHanded_of_change_sized (C := Try.checked) own started (by kernel_rfl) Try.func10
    (ChangeSpec.witness6 (enc := enc) (C := Try.checked) false ⟨#[], #[.slice none 0 0, .slice none 0 0, .slice none 0 0, .agg #[.int .u64 0], .agg #[.int .u64 0], .slice none 0 0], []⟩ 8 (by kernel_rfl) (by kernel_rfl) (by kernel_rfl) (by kernel_rfl)) ?_
  intro W base args ds gs before hval0 hW hcnd hsz0 _
  have hval : ∀ (j : Nat) t v, Try.f10.params[j]? = some t → args[j]? = some v → Value.okWide Try.prog W .any base t v := hval0
  have hW' := hW
  obtain ⟨p, q, hA0, hV, rfl, hfz, hnd⟩ := hW
  have hA : DataW.TrodAll enc Try.prog W 0 (fun _ => true) true Try.f10.params.toList args.toList ds p := hA0
  rw [Try.params10] at hA hval
  obtain ⟨rfl, rfl⟩ := trodVars_none hV
  have hA2 := hA
  obtain ⟨v0, vs0, d0, ds0, p0, q0, hargs, rfl, rfl, h0, r0⟩ := trodAll_cons hA2
  obtain ⟨v1, vs1, d1, ds1, p1, q1, rfl, rfl, rfl, h1, r1⟩ := trodAll_cons r0
  obtain ⟨v2, vs2, d2, ds2, p2, q2, rfl, rfl, rfl, h2, r2⟩ := trodAll_cons r1
  obtain ⟨v3, vs3, d3, ds3, p3, q3, rfl, rfl, rfl, h3, r3⟩ := trodAll_cons r2
  obtain ⟨v4, vs4, d4, ds4, p4, q4, rfl, rfl, rfl, h4, r4⟩ := trodAll_cons r3
  obtain ⟨v5, vs5, d5, ds5, p5, q5, rfl, rfl, rfl, h5, r5⟩ := trodAll_cons r4
  obtain ⟨rfl, rfl, rfl⟩ := trodAll_nil r5
  obtain rfl : args = #[v0, v1, v2, v3, v4, v5] := by cases args; simp_all
  clear hA0 hval0 hsz0
  simp only [List.append_nil] at hW'
  have hlt := fun x hx => hW'.lt x hx
  refine (law_calls (D := 8) book_ok (f := 10) (ts := [25, 26, 52, 29, 29, 52]) okts hA (fun j t v ht hv => hval j t v (by simpa using ht) (by simpa using hv)) pure_ok).mono fun e W' ⟨he, bel⟩ => ?_
  subst he
  refine ⟨_, rfl, _, _, _, [], _, [], hW', trodAll_mk1 (shut_bool Try.underlying4 _), trodAll_below laid bel [25, 26, 52, 29, 29, 52] _ _ _ rds hA (fun x hx => ?_), rfl, bel.frame _, fun h => by cases h⟩
  exact hlt x (by simpa using hx)
theorem over : Rows.vmLabelsRow.holds Try.pinned (OpenSpec.ofChange Rows.vmLabelsSpec) :=
  OpenClaim.holds_of_wide 10 Try.f10 rfl rfl rfl rfl rfl rfl rfl ⟨rfl, rfl, rfl, rfl, rfl⟩ rfl rfl rfl rfl rfl (by kernel_rfl) Try.func10 closed
    (of_decide_eq_true (by kernel_rfl)) (by unfold Func.isWrapper; first | (rw [if_pos (by decide +kernel)]; kernel_rfl) | (rw [if_neg (by decide +kernel)]; exact ⟨rfl, rfl⟩))
    (fun os started H enc _ => lifted os started H enc)
theorem proved : Rows.VmLabelsSaid := over
#print axioms proved
end Go.Proofs.Ythihgfkpdbgogaa.vmLabels
namespace Go.Proofs.Ythihgfkpdbgogaa
/-- The row, under a short name, for the claim. -/
theorem vmLabels_holds : Rows.VmLabelsSaid := vmLabels.proved
end Go.Proofs.Ythihgfkpdbgogaa
