/- 'hoodwink/hoodwinklaw20.ReplayHides' returns true, whatever it is given: the row, on the pure statement. -/
import Derived.Test.YticfcmaigffhmaaRows
import Derived.Test.YticfcmaigffhmaaXJ
import Derived.WalkKit
import Derived.ProofKit
import Derived.OpenShut
import Derived.SizedLaws
namespace Go.Proofs.Yticfcmaigffhmaa.replayHides
open Go Go.ChangeShapes Go.WideShapes Go.ChangeAt Go.RowKit G
set_option linter.unusedVariables false
set_option linter.unusedSimpArgs false
set_option maxRecDepth 100000
theorem own : ownKnob Try.prog.godebug = none := by kernel_rfl
theorem laid : laidOutB Try.prog = true := pf_laid
theorem c0 : (Rows.replayHidesRow.wf (OpenSpec.ofChange Rows.replayHidesSpec)) = true := by kernel_rfl
theorem c3 : (Try.f3.params.all (Try.prog.readableRec ·)) = true := by kernel_rfl
theorem c4 : (namedTie Try.prog Rows.replayHidesRow.named Rows.replayHidesSpec.vars) = true := by kernel_rfl
theorem c5 : ((Rows.replayHidesRow.stops == [])) = true := by kernel_rfl
theorem c7 : ((Rows.replayHidesRow.knobs == [])) = true := by kernel_rfl
theorem c9 : ((Rows.replayHidesRow.inPlace == Try.prog.inPlace 3)) = true := by kernel_rfl
theorem c10 : ((Rows.replayHidesRow.unfollowed == Try.prog.unfollowed 3)) = true := by kernel_rfl
theorem c11 : ((Rows.replayHidesRow.recurses == Try.prog.recurses 3)) = true := by kernel_rfl
theorem c12 : ((Rows.replayHidesRow.named == Try.prog.varsNamed 3)) = true := by kernel_rfl
theorem c13 : ((Rows.replayHidesRow.maps == (Try.f3.params.toList ++ Rows.replayHidesSpec.plain.varTypes Try.prog).any (Try.prog.mapsRec ·))) = true := by kernel_rfl
theorem c14 : ((Rows.replayHidesRow.ifaces == (Try.f3.params.toList ++ Rows.replayHidesSpec.plain.varTypes Try.prog).any (Try.prog.ifacesRec ·))) = true := by kernel_rfl
theorem c15 : ((Rows.replayHidesRow.mapsOut == Try.prog.mapsAmong Try.f3.resultTypes.toList)) = true := by kernel_rfl
theorem c16 : ((Rows.replayHidesRow.loops == (Try.f3.params.toList ++ Rows.replayHidesSpec.plain.varTypes Try.prog).any (Try.prog.loopsFrom ·))) = true := by kernel_rfl
theorem c17 : ((Rows.replayHidesRow.wideKeys == (Try.f3.params.toList ++ Rows.replayHidesSpec.plain.varTypes Try.prog ++ Try.f3.resultTypes.toList).any (Try.prog.wideKeysFrom ·))) = true := by kernel_rfl
theorem c18 : (Rows.replayHidesSpec.vars.all (Try.prog.varReadable ·)) = true := by kernel_rfl
theorem c19 : (Try.f3.resultTypes.all (fun t => Try.prog.readableRec t && decide (t < Try.prog.types.size))) = true := by kernel_rfl
theorem c20 : ((Rows.replayHidesRow.ifacesOut == Try.f3.resultTypes.toList.any (Try.prog.ifacesRec ·))) = true := by kernel_rfl
theorem c21 : ((Rows.replayHidesRow.loopsOut == Try.f3.resultTypes.toList.any (Try.prog.loopsFrom ·))) = true := by kernel_rfl
theorem c22 : ((Rows.replayHidesRow.plainKeys == Try.prog.plainKeys)) = true := by kernel_rfl
theorem c23 : (Rows.replayHidesRow.shortTexts.isNone) = true := by kernel_rfl
theorem c26 : ((Rows.replayHidesRow.lifted == Try.prog.liftsFinal)) = true := by kernel_rfl
theorem c27 : ((Try.prog.make == some Rows.replayHidesRow.make)) = true := by kernel_rfl
theorem c28 : ((Rows.replayHidesRow.kinds == (if Rows.replayHidesRow.domain.isEmpty then [] else Try.f3.params.toList.map fun t => match Try.prog.underlying t with | some (.int k) => some k | _ => none))) = true := by kernel_rfl
theorem c29 : ((Rows.replayHidesRow.pinned == Rows.replayHidesRow.pinnedBy)) = true := by kernel_rfl
theorem c30 : ((Rows.replayHidesRow.veiled == (Try.f3.params.toList ++ Rows.replayHidesSpec.plain.varTypes Try.prog ++ Try.f3.resultTypes.toList).any (Try.prog.veiledRec ·))) = true := by kernel_rfl
theorem c31 : (Rows.replayHidesRow.veiledFits Try.prog Try.f3.params.toList (Try.f3.params.toList ++ Rows.replayHidesSpec.plain.varTypes Try.prog ++ Try.f3.resultTypes.toList)) = true := by kernel_rfl
theorem closed : joinedFacts Try.prog 3 Try.f3 Rows.replayHidesSpec Rows.replayHidesRow = true := by
  unfold joinedFacts
  simp only [Bool.and_eq_true]
  exact ⟨⟨⟨⟨⟨⟨⟨⟨⟨⟨⟨⟨⟨⟨⟨⟨⟨⟨⟨⟨⟨⟨⟨⟨⟨⟨⟨⟨⟨⟨⟨c0, pf_laid⟩, pf_maps⟩, c3⟩, c4⟩, c5⟩, pf_stops⟩, c7⟩, pf_knobs⟩, c9⟩, c10⟩, c11⟩, c12⟩, c13⟩, c14⟩, c15⟩, c16⟩, c17⟩, c18⟩, c19⟩, c20⟩, c21⟩, c22⟩, c23⟩, pf_heard⟩, pf_enter⟩, c26⟩, c27⟩, c28⟩, c29⟩, c30⟩, c31⟩

theorem pure_ok : ∀ xs, WTA Try.prog 8 [26, 27, 27, 28, 28, 29, 5] xs → ipureL xs = true → pc BI 3 xs = some (.bool true) := by
  intro xs h hp
  obtain ⟨cs, r, rfl, h1, cs2, r2, rfl, h2, cs3, r3, rfl, h3, cs4, r4, rfl, h4, cs5, r5, rfl, h5, cs6, r6, rfl, h6, cs7, r7, rfl, h7, rfl⟩ := h
  obtain ⟨g, x, y, rfl, hg, hw, hv, hc, hd⟩ := dec_gm Try.underlying26 rfl Try.underlying3 Try.underlying3 Try.underlying22 Try.underlying22 (fun cs h => dec_cells Try.underlying23 Try.underlying34 rfl Try.underlying21 Try.underlying32 (by kernel_rfl) h) (fun cs h => dec_codes Try.underlying24 Try.underlying72 rfl Try.underlying5 Try.underlying5 Try.underlying5 Try.underlying5 Try.underlying21 Try.underlying32 (by kernel_rfl) h) h1
  obtain ⟨a, rfl, ha⟩ := wt_int Try.underlying27 h2
  obtain ⟨b, rfl, hb⟩ := wt_int Try.underlying27 h3
  obtain ⟨u, H, rfl, hu, hul, hur⟩ := dec_i32s Try.underlying28 Try.underlying21 (by kernel_rfl) h4
  obtain ⟨v, I, rfl, hvv, hvl, hvr⟩ := dec_i32s Try.underlying28 Try.underlying21 (by kernel_rfl) h5
  obtain ⟨q, ms, rfl, hq, hql, hqr⟩ := dec_m32ss Try.underlying29 Try.underlying47 Try.underlying22 (by kernel_rfl) (by kernel_rfl) h6
  obtain ⟨o, rfl, ho⟩ := wt_int Try.underlying5 h7
  obtain ⟨o, rfl, hol⟩ := u8_of ho
  have e1 : argOf Try.prog 26 (gmc g x y) = .agg (gmc g x y) := argOf_agg (by kernel_rfl) _
  have e2 : argOf Try.prog 27 [IV.int .u64 a] = IV.int .u64 a := argOf_one (by kernel_rfl) _
  have e3 : argOf Try.prog 27 [IV.int .u64 b] = IV.int .u64 b := argOf_one (by kernel_rfl) _
  have e4 : argOf Try.prog 28 [u] = u := argOf_one (by kernel_rfl) _
  have e5 : argOf Try.prog 28 [v] = v := argOf_one (by kernel_rfl) _
  have e6 : argOf Try.prog 29 [q] = q := argOf_one (by kernel_rfl) _
  have e7 : argOf Try.prog 5 [IV.int .u8 (o : Int)] = IV.int .u8 (o : Int) := argOf_one (by kernel_rfl) _
  rw [e1, e2, e3, e4, e5, e6, e7]
  exact ReplayHides_ok awake20 g x y hg hw hv hc hd a b u v H I hu hul hur hvv hvl hvr q ms hq hql o hol
theorem okts : ∀ t ∈ ([26, 27, 27, 28, 28, 29, 5] : List TypeId), okT Try.prog 8 t = true := by
  have h : ([26, 27, 27, 28, 28, 29, 5] : List TypeId).all (okT Try.prog 8) = true := by kernel_rfl
  exact fun t ht => List.all_eq_true.1 h t ht
theorem rds : ∀ t ∈ ([26, 27, 27, 28, 28, 29, 5] : List TypeId), Try.prog.readableRec t = true ∧ t < Try.prog.types.size := by
  have h : ([26, 27, 27, 28, 28, 29, 5] : List TypeId).all (fun t => Try.prog.readableRec t && decide (t < Try.prog.types.size)) = true := by kernel_rfl
  intro t ht
  have := List.all_eq_true.1 h t ht
  simpa using this
theorem lifted (os : Os) (started : os.Started) (H : Type) (enc : TypeId × Value → H) :
    ReturnsInHanded {} Try.checked os 3 .any (Rows.replayHidesSpec.pre6 enc Try.prog Try.f3 Rows.replayHidesRow.domain false) (Rows.replayHidesSpec.post enc Try.prog Try.f3 false true false false) := by
  refine returnsInHanded_of_change_sized (C := Try.checked) own started (by kernel_rfl) Try.func3
    (ChangeSpec.witness6 (enc := enc) (C := Try.checked) false ⟨#[], #[.agg #[.int .i64 0, .int .i64 0, .int .u32 0, .int .u32 0, .slice none 0 0, .slice none 0 0], .int .u64 0, .int .u64 0, .slice none 0 0, .slice none 0 0, .slice none 0 0, .int .u8 0], []⟩ 8 (by kernel_rfl) (by kernel_rfl) (by kernel_rfl) (by kernel_rfl)) ?_
  intro W base args ds gs before hval0 hW hcnd hsz0 _
  have hval : ∀ (j : Nat) t v, Try.f3.params[j]? = some t → args[j]? = some v → Value.okWide Try.prog W .any base t v := hval0
  have hW' := hW
  obtain ⟨p, q, hA0, hV, rfl, hfz, hnd⟩ := hW
  have hA : DataW.TrodAll enc Try.prog W 0 (fun _ => true) true Try.f3.params.toList args.toList ds p := hA0
  rw [Try.params3] at hA hval
  obtain ⟨rfl, rfl⟩ := trodVars_none hV
  have hA2 := hA
  obtain ⟨v0, vs0, d0, ds0, p0, q0, hargs, rfl, rfl, h0, r0⟩ := trodAll_cons hA2
  obtain ⟨v1, vs1, d1, ds1, p1, q1, rfl, rfl, rfl, h1, r1⟩ := trodAll_cons r0
  obtain ⟨v2, vs2, d2, ds2, p2, q2, rfl, rfl, rfl, h2, r2⟩ := trodAll_cons r1
  obtain ⟨v3, vs3, d3, ds3, p3, q3, rfl, rfl, rfl, h3, r3⟩ := trodAll_cons r2
  obtain ⟨v4, vs4, d4, ds4, p4, q4, rfl, rfl, rfl, h4, r4⟩ := trodAll_cons r3
  obtain ⟨v5, vs5, d5, ds5, p5, q5, rfl, rfl, rfl, h5, r5⟩ := trodAll_cons r4
  obtain ⟨v6, vs6, d6, ds6, p6, q6, rfl, rfl, rfl, h6, r6⟩ := trodAll_cons r5
  obtain ⟨rfl, rfl, rfl⟩ := trodAll_nil r6
  obtain rfl : args = #[v0, v1, v2, v3, v4, v5, v6] := by cases args; simp_all
  clear hA0 hval0 hsz0
  simp only [List.append_nil] at hW'
  have hlt := fun x hx => hW'.lt x hx
  refine (law_calls (D := 8) bookG_ok rfl book_ok (f := 3) (ts := [26, 27, 27, 28, 28, 29, 5]) okts hA (fun j t v ht hv => hval j t v (by simpa using ht) (by simpa using hv)) pure_ok).mono fun e W' ⟨he, bel⟩ => ?_
  subst he
  refine ⟨_, rfl, _, _, _, [], _, [], hW', trodAll_mk1 (shut_bool Try.underlying4 _), trodAll_below laid bel [26, 27, 27, 28, 28, 29, 5] _ _ _ rds hA (fun x hx => ?_), rfl, bel.frame _, fun h => by cases h⟩
  exact hlt x (by simpa using hx)
theorem over : Rows.replayHidesRow.holds Try.pinned (OpenSpec.ofChange Rows.replayHidesSpec) :=
  OpenClaim.holds_of_wide 3 Try.f3 rfl rfl rfl rfl rfl rfl rfl ⟨rfl, rfl, rfl, rfl, rfl⟩ rfl rfl rfl rfl rfl (by kernel_rfl) Try.func3 closed
    (of_decide_eq_true (by kernel_rfl)) (by unfold Func.isWrapper; first | (rw [if_pos (by decide +kernel)]; kernel_rfl) | (rw [if_neg (by decide +kernel)]; exact ⟨rfl, rfl⟩))
    (fun os started H enc _ => lifted os started H enc)
theorem proved : Rows.ReplayHidesSaid := over
#print axioms proved
end Go.Proofs.Yticfcmaigffhmaa.replayHides
namespace Go.Proofs.Yticfcmaigffhmaa
/-- The row, under a short name, for the claim. -/
theorem replayHides_holds : Rows.ReplayHidesSaid := replayHides.proved
end Go.Proofs.Yticfcmaigffhmaa
