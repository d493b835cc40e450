/- 'hoodwink/hoodwinklaw20.ReplayShows' returns true, whatever it is given: the row, on the pure statement. -/
import Derived.Test.YticfcmaigffhmaaGreatRows
import Derived.Test.YticfcmaigffhmaaGreatXJ
import Derived.WalkKit
import Derived.ProofKit
import Derived.OpenShut
import Derived.SizedLaws
namespace Go.Proofs.YticfcmaigffhmaaGreat.replayShows
open Go Go.ChangeShapes Go.WideShapes Go.ChangeAt Go.RowKit G
set_option maxRecDepth 100000
theorem own : ownKnob Tryz.prog.godebug = none := by kernel_rfl
theorem laid : laidOutB Tryz.prog = true := pf_laid
theorem c0 : (Rows.replayShowsRow.wf (OpenSpec.ofChange Rows.replayShowsSpec)) = true := by kernel_rfl
theorem c3 : (Tryz.f3.params.all (Tryz.prog.readableRec ·)) = true := by kernel_rfl
theorem c4 : (namedTie Tryz.prog Rows.replayShowsRow.named Rows.replayShowsSpec.vars) = true := by kernel_rfl
theorem c5 : ((Rows.replayShowsRow.stops == [])) = true := by kernel_rfl
theorem c7 : ((Rows.replayShowsRow.knobs == [])) = true := by kernel_rfl
theorem c9 : ((Rows.replayShowsRow.inPlace == Tryz.prog.inPlace 3)) = true := by kernel_rfl
theorem c10 : ((Rows.replayShowsRow.unfollowed == Tryz.prog.unfollowed 3)) = true := by kernel_rfl
theorem c11 : ((Rows.replayShowsRow.recurses == Tryz.prog.recurses 3)) = true := by kernel_rfl
theorem c12 : ((Rows.replayShowsRow.named == Tryz.prog.varsNamed 3)) = true := by kernel_rfl
theorem c13 : ((Rows.replayShowsRow.maps == (Tryz.f3.params.toList ++ Rows.replayShowsSpec.plain.varTypes Tryz.prog).any (Tryz.prog.mapsRec ·))) = true := by kernel_rfl
theorem c14 : ((Rows.replayShowsRow.ifaces == (Tryz.f3.params.toList ++ Rows.replayShowsSpec.plain.varTypes Tryz.prog).any (Tryz.prog.ifacesRec ·))) = true := by kernel_rfl
theorem c15 : ((Rows.replayShowsRow.mapsOut == Tryz.prog.mapsAmong Tryz.f3.resultTypes.toList)) = true := by kernel_rfl
theorem c16 : ((Rows.replayShowsRow.loops == (Tryz.f3.params.toList ++ Rows.replayShowsSpec.plain.varTypes Tryz.prog).any (Tryz.prog.loopsFrom ·))) = true := by kernel_rfl
theorem c17 : ((Rows.replayShowsRow.wideKeys == (Tryz.f3.params.toList ++ Rows.replayShowsSpec.plain.varTypes Tryz.prog ++ Tryz.f3.resultTypes.toList).any (Tryz.prog.wideKeysFrom ·))) = true := by kernel_rfl
theorem c18 : (Rows.replayShowsSpec.vars.all (Tryz.prog.varReadable ·)) = true := by kernel_rfl
theorem c19 : (Tryz.f3.resultTypes.all (fun t => Tryz.prog.readableRec t && decide (t < Tryz.prog.types.size))) = true := by kernel_rfl
theorem c20 : ((Rows.replayShowsRow.ifacesOut == Tryz.f3.resultTypes.toList.any (Tryz.prog.ifacesRec ·))) = true := by kernel_rfl
theorem c21 : ((Rows.replayShowsRow.loopsOut == Tryz.f3.resultTypes.toList.any (Tryz.prog.loopsFrom ·))) = true := by kernel_rfl
theorem c22 : ((Rows.replayShowsRow.plainKeys == Tryz.prog.plainKeys)) = true := by kernel_rfl
theorem c23 : (Rows.replayShowsRow.shortTexts.isNone) = true := by kernel_rfl
theorem c26 : ((Rows.replayShowsRow.lifted == Tryz.prog.liftsFinal)) = true := by kernel_rfl
theorem c27 : ((Tryz.prog.make == some Rows.replayShowsRow.make)) = true := by kernel_rfl
theorem c28 : ((Rows.replayShowsRow.kinds == (if Rows.replayShowsRow.domain.isEmpty then [] else Tryz.f3.params.toList.map fun t => match Tryz.prog.underlying t with | some (.int k) => some k | _ => none))) = true := by kernel_rfl
theorem c29 : ((Rows.replayShowsRow.pinned == Rows.replayShowsRow.pinnedBy)) = true := by kernel_rfl
theorem c30 : ((Rows.replayShowsRow.veiled == (Tryz.f3.params.toList ++ Rows.replayShowsSpec.plain.varTypes Tryz.prog ++ Tryz.f3.resultTypes.toList).any (Tryz.prog.veiledRec ·))) = true := by kernel_rfl
theorem c31 : (Rows.replayShowsRow.veiledFits Tryz.prog Tryz.f3.params.toList (Tryz.f3.params.toList ++ Rows.replayShowsSpec.plain.varTypes Tryz.prog ++ Tryz.f3.resultTypes.toList)) = true := by kernel_rfl
theorem closed : joinedFacts Tryz.prog 3 Tryz.f3 Rows.replayShowsSpec Rows.replayShowsRow = true := by
 unfold joinedFacts
 simp only [Bool.and_eq_true]
 exact ⟨⟨⟨⟨⟨⟨⟨⟨⟨⟨⟨⟨⟨⟨⟨⟨⟨⟨⟨⟨⟨⟨⟨⟨⟨⟨⟨⟨⟨⟨⟨c0, pf_laid⟩, pf_maps⟩, c3⟩, c4⟩, c5⟩, pf_stops⟩, c7⟩, pf_knobs⟩, c9⟩, c10⟩, c11⟩, c12⟩, c13⟩, c14⟩, c15⟩, c16⟩, c17⟩, c18⟩, c19⟩, c20⟩, c21⟩, c22⟩, c23⟩, pf_heard⟩, pf_enter⟩, c26⟩, c27⟩, c28⟩, c29⟩, c30⟩, c31⟩

theorem pure_ok : ∀ xs, WTA Tryz.prog 8 [26, 27, 28, 29, 29, 22, 30] xs → ipureL xs = true → pc BI 3 xs = some (.bool true) := by
 intro xs h hp
 obtain ⟨cs, r, rfl, h1, cs2, r2, rfl, h2, cs3, r3, rfl, h3, cs4, r4, rfl, h4, cs5, r5, rfl, h5, cs6, r6, rfl, h6, cs7, r7, rfl, h7, rfl⟩ := h
 obtain ⟨g, x, y, rfl, hg, hw, hv, hc, hd⟩ := dec_gm Tryz.underlying26 rfl Tryz.underlying3 Tryz.underlying3 Tryz.underlying22 Tryz.underlying22 (fun cs h => dec_cells Tryz.underlying23 Tryz.underlying35 rfl Tryz.underlying21 Tryz.underlying33 (by kernel_rfl) h) (fun cs h => dec_codes Tryz.underlying24 Tryz.underlying100 rfl Tryz.underlying5 Tryz.underlying5 Tryz.underlying5 Tryz.underlying5 Tryz.underlying21 Tryz.underlying33 (by kernel_rfl) h) h1
 obtain ⟨a, rfl, ha⟩ := wt_int Tryz.underlying27 h2
 obtain ⟨q, ms, rfl, hq, hql, hqr⟩ := dec_m32ss Tryz.underlying28 Tryz.underlying48 Tryz.underlying22 (by kernel_rfl) (by kernel_rfl) h3
 obtain ⟨cut, rfl, hcut⟩ := dec_u16 Tryz.underlying29 h4
 obtain ⟨at', rfl, hat⟩ := dec_u16 Tryz.underlying29 h5
 obtain ⟨mk, rfl⟩ := dec_m32 Tryz.underlying22 h6
 obtain ⟨w, l, rfl, hwl, hl⟩ := dec_bytes Tryz.underlying30 Tryz.underlying5 (by kernel_rfl) h7
 have e1 : argOf Tryz.prog 26 (gmc g x y) = .agg (gmc g x y) := argOf_agg (by kernel_rfl) _
 have e2 : argOf Tryz.prog 27 [IV.int .u64 a] = IV.int .u64 a := argOf_one (by kernel_rfl) _
 have e3 : argOf Tryz.prog 28 [q] = q := argOf_one (by kernel_rfl) _
 have e4 : argOf Tryz.prog 29 [IV.int .u16 (cut : Int)] = IV.int .u16 (cut : Int) := argOf_one (by kernel_rfl) _
 have e5 : argOf Tryz.prog 29 [IV.int .u16 (at' : Int)] = IV.int .u16 (at' : Int) := argOf_one (by kernel_rfl) _
 have e6 : argOf Tryz.prog 22 [m32 mk] = m32 mk := argOf_one (by kernel_rfl) _
 have e7 : argOf Tryz.prog 30 [w] = w := argOf_one (by kernel_rfl) _
 rw [e1, e2, e3, e4, e5, e6, e7]
 exact Shows_ok g x y hg hw hv hc hd a q ms hq hql cut at' hcut hat mk w l hwl hl
theorem okts : ∀ t ∈ ([26, 27, 28, 29, 29, 22, 30] : List TypeId), okT Tryz.prog 8 t = true := by
 have h : ([26, 27, 28, 29, 29, 22, 30] : List TypeId).all (okT Tryz.prog 8) = true := by kernel_rfl
 exact fun t ht => List.all_eq_true.1 h t ht
theorem rds : ∀ t ∈ ([26, 27, 28, 29, 29, 22, 30] : List TypeId), Tryz.prog.readableRec t = true ∧ t < Tryz.prog.types.size := by
 have h : ([26, 27, 28, 29, 29, 22, 30] : List TypeId).all (fun t => Tryz.prog.readableRec t && decide (t < Tryz.prog.types.size)) = true := by kernel_rfl
 intro t ht
 have := List.all_eq_true.1 h t ht
 simpa using this
theorem lifted (os : Os) (started : os.Started) (H : Type) (enc : TypeId × Value → H) :
  ReturnsInHanded {} Tryz.checked os 3 .any (Rows.replayShowsSpec.pre6 enc Tryz.prog Tryz.f3 Rows.replayShowsRow.domain false) (Rows.replayShowsSpec.post enc Tryz.prog Tryz.f3 false true false false) := by
 refine returnsInHanded_of_change_sized (C := Tryz.checked) own started (by kernel_rfl) Tryz.func3
  (ChangeSpec.witness6 (enc := enc) (C := Tryz.checked) false ⟨#[], #[.agg #[.int .i64 0, .int .i64 0, .int .u32 0, .int .u32 0, .slice none 0 0, .slice none 0 0], .int .u64 0, .slice none 0 0, .int .u16 0, .int .u16 0, .int .u32 0, .slice none 0 0], []⟩ 8 (by kernel_rfl) (by kernel_rfl) (by kernel_rfl) (by kernel_rfl)) ?_
 intro W base args ds gs before hval0 hW hcnd hsz0 _
 have hval : ∀ (j : Nat) t v, Tryz.f3.params[j]? = some t → args[j]? = some v → Value.okWide Tryz.prog W .any base t v := hval0
 have hW' := hW
 obtain ⟨p, q, hA0, hV, rfl, hfz, hnd⟩ := hW
 have hA : DataW.TrodAll enc Tryz.prog W 0 (fun _ => true) true Tryz.f3.params.toList args.toList ds p := hA0
 rw [Tryz.params3] at hA hval
 obtain ⟨rfl, rfl⟩ := trodVars_none hV
 have hA2 := hA
 obtain ⟨v0, vs0, d0, ds0, p0, q0, hargs, rfl, rfl, h0, r0⟩ := trodAll_cons hA2
 obtain ⟨v1, vs1, d1, ds1, p1, q1, rfl, rfl, rfl, h1, r1⟩ := trodAll_cons r0
 obtain ⟨v2, vs2, d2, ds2, p2, q2, rfl, rfl, rfl, h2, r2⟩ := trodAll_cons r1
 obtain ⟨v3, vs3, d3, ds3, p3, q3, rfl, rfl, rfl, h3, r3⟩ := trodAll_cons r2
 obtain ⟨v4, vs4, d4, ds4, p4, q4, rfl, rfl, rfl, h4, r4⟩ := trodAll_cons r3
 obtain ⟨v5, vs5, d5, ds5, p5, q5, rfl, rfl, rfl, h5, r5⟩ := trodAll_cons r4
 obtain ⟨v6, vs6, d6, ds6, p6, q6, rfl, rfl, rfl, h6, r6⟩ := trodAll_cons r5
 obtain ⟨rfl, rfl, rfl⟩ := trodAll_nil r6
 obtain rfl : args = #[v0, v1, v2, v3, v4, v5, v6] := by cases args; simp_all
 clear hA0 hval0 hsz0
 simp only [List.append_nil] at hW'
 have hlt := fun x hx => hW'.lt x hx
 refine (law_calls (D := 8) bookG_ok rfl book_ok (f := 3) (ts := [26, 27, 28, 29, 29, 22, 30]) okts hA (fun j t v ht hv => hval j t v (by simpa using ht) (by simpa using hv)) pure_ok).mono fun e W' ⟨he, bel⟩ => ?_
 subst he
 refine ⟨_, rfl, _, _, _, [], _, [], hW', trodAll_mk1 (shut_bool Tryz.underlying4 _), trodAll_below laid bel [26, 27, 28, 29, 29, 22, 30] _ _ _ rds hA (fun x hx => ?_), rfl, bel.frame _, fun h => by cases h⟩
 exact hlt x (by simpa using hx)
theorem over : Rows.replayShowsRow.holds Tryz.pinned (OpenSpec.ofChange Rows.replayShowsSpec) :=
 OpenClaim.holds_of_wide 3 Tryz.f3 rfl rfl rfl rfl rfl rfl rfl ⟨rfl, rfl, rfl, rfl, rfl⟩ rfl rfl rfl rfl rfl (by kernel_rfl) Tryz.func3 closed
  (of_decide_eq_true (by kernel_rfl)) (by unfold Func.isWrapper; first | (rw [if_pos (by decide +kernel)]; kernel_rfl) | (rw [if_neg (by decide +kernel)]; exact ⟨rfl, rfl⟩))
  (fun os started H enc _ => lifted os started H enc)
theorem proved : Rows.ReplayShowsSaid := over
#print axioms proved
end Go.Proofs.YticfcmaigffhmaaGreat.replayShows
namespace Go.Proofs.YticfcmaigffhmaaGreat
/-- The row, under a short name, for the claim. -/
theorem replayShows_holds : Rows.ReplayShowsSaid := replayShows.proved
end Go.Proofs.YticfcmaigffhmaaGreat
