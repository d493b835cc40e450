/- 'hoodwink/hoodwinklaw09.VmHides' returns true, whatever it is given: the row, on the pure statement. -/
import Derived.Test.YthihgfkpdbgogaaRows
import Derived.Test.YthihgfkpdbgogaaXJ
import Derived.WalkKit
import Derived.ProofKit
import Derived.OpenShut
import Derived.SizedLaws
namespace Go.Proofs.Ythihgfkpdbgogaa.vmHides
open Go Go.ChangeShapes Go.WideShapes Go.ChangeAt Go.RowKit G
set_option linter.unusedVariables false
set_option linter.unusedSimpArgs false
set_option maxRecDepth 100000
theorem own : ownKnob Try.prog.godebug = none := by kernel_rfl
theorem laid : laidOutB Try.prog = true := pf_laid
theorem c0 : (Rows.vmHidesRow.wf (OpenSpec.ofChange Rows.vmHidesSpec)) = true := by kernel_rfl
theorem c3 : (Try.f11.params.all (Try.prog.readableRec ·)) = true := by kernel_rfl
theorem c4 : (namedTie Try.prog Rows.vmHidesRow.named Rows.vmHidesSpec.vars) = true := by kernel_rfl
theorem c5 : ((Rows.vmHidesRow.stops == [])) = true := by kernel_rfl
theorem c7 : ((Rows.vmHidesRow.knobs == [])) = true := by kernel_rfl
theorem c9 : ((Rows.vmHidesRow.inPlace == Try.prog.inPlace 11)) = true := by kernel_rfl
theorem c10 : ((Rows.vmHidesRow.unfollowed == Try.prog.unfollowed 11)) = true := by kernel_rfl
theorem c11 : ((Rows.vmHidesRow.recurses == Try.prog.recurses 11)) = true := by kernel_rfl
theorem c12 : ((Rows.vmHidesRow.named == Try.prog.varsNamed 11)) = true := by kernel_rfl
theorem c13 : ((Rows.vmHidesRow.maps == (Try.f11.params.toList ++ Rows.vmHidesSpec.plain.varTypes Try.prog).any (Try.prog.mapsRec ·))) = true := by kernel_rfl
theorem c14 : ((Rows.vmHidesRow.ifaces == (Try.f11.params.toList ++ Rows.vmHidesSpec.plain.varTypes Try.prog).any (Try.prog.ifacesRec ·))) = true := by kernel_rfl
theorem c15 : ((Rows.vmHidesRow.mapsOut == Try.prog.mapsAmong Try.f11.resultTypes.toList)) = true := by kernel_rfl
theorem c16 : ((Rows.vmHidesRow.loops == (Try.f11.params.toList ++ Rows.vmHidesSpec.plain.varTypes Try.prog).any (Try.prog.loopsFrom ·))) = true := by kernel_rfl
theorem c17 : ((Rows.vmHidesRow.wideKeys == (Try.f11.params.toList ++ Rows.vmHidesSpec.plain.varTypes Try.prog ++ Try.f11.resultTypes.toList).any (Try.prog.wideKeysFrom ·))) = true := by kernel_rfl
theorem c18 : (Rows.vmHidesSpec.vars.all (Try.prog.varReadable ·)) = true := by kernel_rfl
theorem c19 : (Try.f11.resultTypes.all (fun t => Try.prog.readableRec t && decide (t < Try.prog.types.size))) = true := by kernel_rfl
theorem c20 : ((Rows.vmHidesRow.ifacesOut == Try.f11.resultTypes.toList.any (Try.prog.ifacesRec ·))) = true := by kernel_rfl
theorem c21 : ((Rows.vmHidesRow.loopsOut == Try.f11.resultTypes.toList.any (Try.prog.loopsFrom ·))) = true := by kernel_rfl
theorem c22 : ((Rows.vmHidesRow.plainKeys == Try.prog.plainKeys)) = true := by kernel_rfl
theorem c23 : (Rows.vmHidesRow.shortTexts.isNone) = true := by kernel_rfl
theorem c26 : ((Rows.vmHidesRow.lifted == Try.prog.liftsFinal)) = true := by kernel_rfl
theorem c27 : ((Try.prog.make == some Rows.vmHidesRow.make)) = true := by kernel_rfl
theorem c28 : ((Rows.vmHidesRow.kinds == (if Rows.vmHidesRow.domain.isEmpty then [] else Try.f11.params.toList.map fun t => match Try.prog.underlying t with | some (.int k) => some k | _ => none))) = true := by kernel_rfl
theorem c29 : ((Rows.vmHidesRow.pinned == Rows.vmHidesRow.pinnedBy)) = true := by kernel_rfl
theorem c30 : ((Rows.vmHidesRow.veiled == (Try.f11.params.toList ++ Rows.vmHidesSpec.plain.varTypes Try.prog ++ Try.f11.resultTypes.toList).any (Try.prog.veiledRec ·))) = true := by kernel_rfl
theorem c31 : (Rows.vmHidesRow.veiledFits Try.prog Try.f11.params.toList (Try.f11.params.toList ++ Rows.vmHidesSpec.plain.varTypes Try.prog ++ Try.f11.resultTypes.toList)) = true := by kernel_rfl
theorem closed : joinedFacts Try.prog 11 Try.f11 Rows.vmHidesSpec Rows.vmHidesRow = true := by
  unfold joinedFacts
  simp only [Bool.and_eq_true]
  exact ⟨⟨⟨⟨⟨⟨⟨⟨⟨⟨⟨⟨⟨⟨⟨⟨⟨⟨⟨⟨⟨⟨⟨⟨⟨⟨⟨⟨⟨⟨⟨c0, pf_laid⟩, pf_maps⟩, c3⟩, c4⟩, c5⟩, pf_stops⟩, c7⟩, pf_knobs⟩, c9⟩, c10⟩, c11⟩, c12⟩, c13⟩, c14⟩, c15⟩, c16⟩, c17⟩, c18⟩, c19⟩, c20⟩, c21⟩, c22⟩, c23⟩, pf_heard⟩, pf_enter⟩, c26⟩, c27⟩, c28⟩, c29⟩, c30⟩, c31⟩

theorem pure_ok : ∀ xs, WTA Try.prog 8 [25, 26, 52, 29, 29, 52, 52, 34, 5] xs → ipureL xs = true → pc BI 11 xs = some (.bool true) := by
  intro xs h hp
  obtain ⟨cs, r, rfl, h1, cs2, r2, rfl, h2, cs3, r3, rfl, h3, cs4, r4, rfl, h4, cs5, r5, rfl, h5, cs6, r6, rfl, h6, cs7, r7, rfl, h7, cs8, r8, rfl, h8, cs9, r9, rfl, h9, rfl⟩ := h
  obtain ⟨x, l, rfl, hx, hl, hw⟩ := dec_codes Try.underlying25 Try.underlying51 rfl Try.underlying5 Try.underlying5 Try.underlying5 Try.underlying5 Try.underlying21 Try.underlying34 (by kernel_rfl) h1
  obtain ⟨y, cl, rfl, hy, hcl, hv⟩ := dec_cells Try.underlying26 Try.underlying37 rfl Try.underlying21 Try.underlying34 (by kernel_rfl) h2
  obtain ⟨v, vs, rfl, hvv, hvl, hvr⟩ := dec_i32s Try.underlying52 Try.underlying21 (by kernel_rfl) h3
  obtain ⟨d, rfl, hd0, hd1⟩ := dec_u64 Try.underlying29 rfl Try.underlying27 h4
  obtain ⟨e, rfl, he0, he1⟩ := dec_u64 Try.underlying29 rfl Try.underlying27 h5
  obtain ⟨m, ms, rfl, hm, hml, hmr⟩ := dec_i32s Try.underlying52 Try.underlying21 (by kernel_rfl) h6
  obtain ⟨w, ws, rfl, hww, hwl, hwr⟩ := dec_i32s Try.underlying52 Try.underlying21 (by kernel_rfl) h7
  obtain ⟨t, rfl, ht⟩ := wt_int Try.underlying34 h8
  obtain ⟨b, rfl, hb⟩ := wt_int Try.underlying5 h9
  obtain ⟨k, rfl, hk⟩ := u8_of hb
  have e1 : argOf Try.prog 25 [x] = x := argOf_one (by kernel_rfl) _
  have e2 : argOf Try.prog 26 [y] = y := argOf_one (by kernel_rfl) _
  have e3 : argOf Try.prog 29 [IV.int .u64 d] = .agg [IV.int .u64 d] := argOf_agg (by kernel_rfl) _
  have e4 : argOf Try.prog 29 [IV.int .u64 e] = .agg [IV.int .u64 e] := argOf_agg (by kernel_rfl) _
  have e5 : argOf Try.prog 52 [v] = v := argOf_one (by kernel_rfl) _
  have e6 : argOf Try.prog 52 [m] = m := argOf_one (by kernel_rfl) _
  have e7 : argOf Try.prog 52 [w] = w := argOf_one (by kernel_rfl) _
  have e8 : argOf Try.prog 34 [IV.int .u32 t] = IV.int .u32 t := argOf_one (by kernel_rfl) _
  have e9 : argOf Try.prog 5 [IV.int .u8 (k : Int)] = IV.int .u8 (k : Int) := argOf_one (by kernel_rfl) _
  rw [e1, e2, e3, e4, e5, e6, e7, e8, e9]
  exact VmHides_ok x y v m w l cl vs ws d e ms t k hk hx hy hvv hm hww hw hv hvr hmr hwr hl hcl hml
theorem okts : ∀ t ∈ ([25, 26, 52, 29, 29, 52, 52, 34, 5] : List TypeId), okT Try.prog 8 t = true := by
  have h : ([25, 26, 52, 29, 29, 52, 52, 34, 5] : List TypeId).all (okT Try.prog 8) = true := by kernel_rfl
  exact fun t ht => List.all_eq_true.1 h t ht
theorem rds : ∀ t ∈ ([25, 26, 52, 29, 29, 52, 52, 34, 5] : List TypeId), Try.prog.readableRec t = true ∧ t < Try.prog.types.size := by
  have h : ([25, 26, 52, 29, 29, 52, 52, 34, 5] : List TypeId).all (fun t => Try.prog.readableRec t && decide (t < Try.prog.types.size)) = true := by kernel_rfl
  intro t ht
  have := List.all_eq_true.1 h t ht
  simpa using this
theorem lifted (os : Os) (started : os.Started) (H : Type) (enc : TypeId × Value → H) :
    ReturnsInHanded {} Try.checked os 11 .any (Rows.vmHidesSpec.pre6 enc Try.prog Try.f11 Rows.vmHidesRow.domain false) (Rows.vmHidesSpec.post enc Try.prog Try.f11 false true false false) := by
  refine returnsInHanded_of_change_sized (C := Try.checked) own started (by kernel_rfl) Try.func11
    (ChangeSpec.witness6 (enc := enc) (C := Try.checked) false ⟨#[], #[.slice none 0 0, .slice none 0 0, .slice none 0 0, .agg #[.int .u64 0], .agg #[.int .u64 0], .slice none 0 0, .slice none 0 0, .int .u32 0, .int .u8 0], []⟩ 8 (by kernel_rfl) (by kernel_rfl) (by kernel_rfl) (by kernel_rfl)) ?_
  intro W base args ds gs before hval0 hW hcnd hsz0 _
  have hval : ∀ (j : Nat) t v, Try.f11.params[j]? = some t → args[j]? = some v → Value.okWide Try.prog W .any base t v := hval0
  have hW' := hW
  obtain ⟨p, q, hA0, hV, rfl, hfz, hnd⟩ := hW
  have hA : DataW.TrodAll enc Try.prog W 0 (fun _ => true) true Try.f11.params.toList args.toList ds p := hA0
  rw [Try.params11] at hA hval
  obtain ⟨rfl, rfl⟩ := trodVars_none hV
  have hA2 := hA
  obtain ⟨v0, vs0, d0, ds0, p0, q0, hargs, rfl, rfl, h0, r0⟩ := trodAll_cons hA2
  obtain ⟨v1, vs1, d1, ds1, p1, q1, rfl, rfl, rfl, h1, r1⟩ := trodAll_cons r0
  obtain ⟨v2, vs2, d2, ds2, p2, q2, rfl, rfl, rfl, h2, r2⟩ := trodAll_cons r1
  obtain ⟨v3, vs3, d3, ds3, p3, q3, rfl, rfl, rfl, h3, r3⟩ := trodAll_cons r2
  obtain ⟨v4, vs4, d4, ds4, p4, q4, rfl, rfl, rfl, h4, r4⟩ := trodAll_cons r3
  obtain ⟨v5, vs5, d5, ds5, p5, q5, rfl, rfl, rfl, h5, r5⟩ := trodAll_cons r4
  obtain ⟨v6, vs6, d6, ds6, p6, q6, rfl, rfl, rfl, h6, r6⟩ := trodAll_cons r5
  obtain ⟨v7, vs7, d7, ds7, p7, q7, rfl, rfl, rfl, h7, r7⟩ := trodAll_cons r6
  obtain ⟨v8, vs8, d8, ds8, p8, q8, rfl, rfl, rfl, h8, r8⟩ := trodAll_cons r7
  obtain ⟨rfl, rfl, rfl⟩ := trodAll_nil r8
  obtain rfl : args = #[v0, v1, v2, v3, v4, v5, v6, v7, v8] := by cases args; simp_all
  clear hA0 hval0 hsz0
  simp only [List.append_nil] at hW'
  have hlt := fun x hx => hW'.lt x hx
  refine (law_calls (D := 8) book_ok (f := 11) (ts := [25, 26, 52, 29, 29, 52, 52, 34, 5]) okts hA (fun j t v ht hv => hval j t v (by simpa using ht) (by simpa using hv)) pure_ok).mono fun e W' ⟨he, bel⟩ => ?_
  subst he
  refine ⟨_, rfl, _, _, _, [], _, [], hW', trodAll_mk1 (shut_bool Try.underlying4 _), trodAll_below laid bel [25, 26, 52, 29, 29, 52, 52, 34, 5] _ _ _ rds hA (fun x hx => ?_), rfl, bel.frame _, fun h => by cases h⟩
  exact hlt x (by simpa using hx)
theorem over : Rows.vmHidesRow.holds Try.pinned (OpenSpec.ofChange Rows.vmHidesSpec) :=
  OpenClaim.holds_of_wide 11 Try.f11 rfl rfl rfl rfl rfl rfl rfl ⟨rfl, rfl, rfl, rfl, rfl⟩ rfl rfl rfl rfl rfl (by kernel_rfl) Try.func11 closed
    (of_decide_eq_true (by kernel_rfl)) (by unfold Func.isWrapper; first | (rw [if_pos (by decide +kernel)]; kernel_rfl) | (rw [if_neg (by decide +kernel)]; exact ⟨rfl, rfl⟩))
    (fun os started H enc _ => lifted os started H enc)
theorem proved : Rows.VmHidesSaid := over
#print axioms proved
end Go.Proofs.Ythihgfkpdbgogaa.vmHides
namespace Go.Proofs.Ythihgfkpdbgogaa
/-- The row, under a short name, for the claim. -/
theorem vmHides_holds : Rows.VmHidesSaid := vmHides.proved
end Go.Proofs.Ythihgfkpdbgogaa
