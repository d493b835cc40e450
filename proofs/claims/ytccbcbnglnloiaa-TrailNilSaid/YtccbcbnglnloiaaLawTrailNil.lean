/- 'hoodwink/hoodwinklaw16.TrailNil' returns true, whatever it is given: the row, on the pure statement. -/
import Derived.Test.YtccbcbnglnloiaaRows
import Derived.Test.YtccbcbnglnloiaaXI
import Derived.WalkKit
import Derived.ProofKit
import Derived.OpenShut
import Derived.SizedLaws
namespace Go.Proofs.Ytccbcbnglnloiaa.trailNil
open Go Go.ChangeShapes Go.WideShapes Go.ChangeAt Go.RowKit G
set_option maxRecDepth 100000
theorem own : ownKnob Try.prog.godebug = none := by kernel_rfl
theorem laid : laidOutB Try.prog = true := pf_laid
theorem c0 : (Rows.trailNilRow.wf (OpenSpec.ofChange Rows.trailNilSpec)) = true := by kernel_rfl
theorem c3 : (Try.f5.params.all (Try.prog.readableRec ·)) = true := by kernel_rfl
theorem c4 : (namedTie Try.prog Rows.trailNilRow.named Rows.trailNilSpec.vars) = true := by kernel_rfl
theorem c5 : ((Rows.trailNilRow.stops == [])) = true := by kernel_rfl
theorem c7 : ((Rows.trailNilRow.knobs == [])) = true := by kernel_rfl
theorem c9 : ((Rows.trailNilRow.inPlace == Try.prog.inPlace 5)) = true := by kernel_rfl
theorem c10 : ((Rows.trailNilRow.unfollowed == Try.prog.unfollowed 5)) = true := by kernel_rfl
theorem c11 : ((Rows.trailNilRow.recurses == Try.prog.recurses 5)) = true := by kernel_rfl
theorem c12 : ((Rows.trailNilRow.named == Try.prog.varsNamed 5)) = true := by kernel_rfl
theorem c13 : ((Rows.trailNilRow.maps == (Try.f5.params.toList ++ Rows.trailNilSpec.plain.varTypes Try.prog).any (Try.prog.mapsRec ·))) = true := by kernel_rfl
theorem c14 : ((Rows.trailNilRow.ifaces == (Try.f5.params.toList ++ Rows.trailNilSpec.plain.varTypes Try.prog).any (Try.prog.ifacesRec ·))) = true := by kernel_rfl
theorem c15 : ((Rows.trailNilRow.mapsOut == Try.prog.mapsAmong Try.f5.resultTypes.toList)) = true := by kernel_rfl
theorem c16 : ((Rows.trailNilRow.loops == (Try.f5.params.toList ++ Rows.trailNilSpec.plain.varTypes Try.prog).any (Try.prog.loopsFrom ·))) = true := by kernel_rfl
theorem c17 : ((Rows.trailNilRow.wideKeys == (Try.f5.params.toList ++ Rows.trailNilSpec.plain.varTypes Try.prog ++ Try.f5.resultTypes.toList).any (Try.prog.wideKeysFrom ·))) = true := by kernel_rfl
theorem c18 : (Rows.trailNilSpec.vars.all (Try.prog.varReadable ·)) = true := by kernel_rfl
theorem c19 : (Try.f5.resultTypes.all (fun t => Try.prog.readableRec t && decide (t < Try.prog.types.size))) = true := by kernel_rfl
theorem c20 : ((Rows.trailNilRow.ifacesOut == Try.f5.resultTypes.toList.any (Try.prog.ifacesRec ·))) = true := by kernel_rfl
theorem c21 : ((Rows.trailNilRow.loopsOut == Try.f5.resultTypes.toList.any (Try.prog.loopsFrom ·))) = true := by kernel_rfl
theorem c22 : ((Rows.trailNilRow.plainKeys == Try.prog.plainKeys)) = true := by kernel_rfl
theorem c23 : (Rows.trailNilRow.shortTexts.isNone) = true := by kernel_rfl
theorem c26 : ((Rows.trailNilRow.lifted == Try.prog.liftsFinal)) = true := by kernel_rfl
theorem c27 : ((Try.prog.make == some Rows.trailNilRow.make)) = true := by kernel_rfl
theorem c28 : ((Rows.trailNilRow.kinds == (if Rows.trailNilRow.domain.isEmpty then [] else Try.f5.params.toList.map fun t => match Try.prog.underlying t with | some (.int k) => some k | _ => none))) = true := by kernel_rfl
theorem c29 : ((Rows.trailNilRow.pinned == Rows.trailNilRow.pinnedBy)) = true := by kernel_rfl
theorem c30 : ((Rows.trailNilRow.veiled == (Try.f5.params.toList ++ Rows.trailNilSpec.plain.varTypes Try.prog ++ Try.f5.resultTypes.toList).any (Try.prog.veiledRec ·))) = true := by kernel_rfl
theorem c31 : (Rows.trailNilRow.veiledFits Try.prog Try.f5.params.toList (Try.f5.params.toList ++ Rows.trailNilSpec.plain.varTypes Try.prog ++ Try.f5.resultTypes.toList)) = true := by kernel_rfl
theorem closed : joinedFacts Try.prog 5 Try.f5 Rows.trailNilSpec Rows.trailNilRow = true := by
 unfold joinedFacts
 simp only [Bool.and_eq_true]
 exact ⟨⟨⟨⟨⟨⟨⟨⟨⟨⟨⟨⟨⟨⟨⟨⟨⟨⟨⟨⟨⟨⟨⟨⟨⟨⟨⟨⟨⟨⟨⟨c0, pf_laid⟩, pf_maps⟩, c3⟩, c4⟩, c5⟩, pf_stops⟩, c7⟩, pf_knobs⟩, c9⟩, c10⟩, c11⟩, c12⟩, c13⟩, c14⟩, c15⟩, c16⟩, c17⟩, c18⟩, c19⟩, c20⟩, c21⟩, c22⟩, c23⟩, pf_heard⟩, pf_enter⟩, c26⟩, c27⟩, c28⟩, c29⟩, c30⟩, c31⟩

theorem pure_ok : ∀ xs, WTA Try.prog 8 [22, 22, 41] xs → ipureL xs = true → pc BI 5 xs = some (.bool true) := by
 intro xs h hp
 obtain ⟨cs, r, rfl, h1, cs2, r2, rfl, h2, cs3, r3, rfl, h3, rfl⟩ := h
 obtain ⟨t, rfl⟩ := dec_m32 Try.underlying22 h1
 obtain ⟨m, rfl⟩ := dec_m32 Try.underlying22 h2
 obtain ⟨n, rfl, _⟩ := wt_int Try.underlying41 h3
 have e1 : argOf Try.prog 22 [m32 t] = m32 t := argOf_one (by kernel_rfl) _
 have e2 : argOf Try.prog 22 [m32 m] = m32 m := argOf_one (by kernel_rfl) _
 have e3 : argOf Try.prog 41 [IV.int .u64 n] = IV.int .u64 n := argOf_one (by kernel_rfl) _
 rw [e1, e2, e3]
 exact Nil16_ok t m n
theorem okts : ∀ t ∈ ([22, 22, 41] : List TypeId), okT Try.prog 8 t = true := by
 have h : ([22, 22, 41] : List TypeId).all (okT Try.prog 8) = true := by kernel_rfl
 exact fun t ht => List.all_eq_true.1 h t ht
theorem rds : ∀ t ∈ ([22, 22, 41] : List TypeId), Try.prog.readableRec t = true ∧ t < Try.prog.types.size := by
 have h : ([22, 22, 41] : List TypeId).all (fun t => Try.prog.readableRec t && decide (t < Try.prog.types.size)) = true := by kernel_rfl
 intro t ht
 have := List.all_eq_true.1 h t ht
 simpa using this
theorem lifted (os : Os) (started : os.Started) (H : Type) (enc : TypeId × Value → H) :
  ReturnsInHanded {} Try.checked os 5 .any (Rows.trailNilSpec.pre6 enc Try.prog Try.f5 Rows.trailNilRow.domain false) (Rows.trailNilSpec.post enc Try.prog Try.f5 false true false false) := by
 refine returnsInHanded_of_change_sized (C := Try.checked) own started (by kernel_rfl) Try.func5
  (ChangeSpec.witness6 (enc := enc) (C := Try.checked) false ⟨#[], #[.int .u32 0, .int .u32 0, .int .u64 0], []⟩ 8 (by kernel_rfl) (by kernel_rfl) (by kernel_rfl) (by kernel_rfl)) ?_
 intro W base args ds gs before hval0 hW hcnd hsz0 _
 have hval : ∀ (j : Nat) t v, Try.f5.params[j]? = some t → args[j]? = some v → Value.okWide Try.prog W .any base t v := hval0
 have hW' := hW
 obtain ⟨p, q, hA0, hV, rfl, hfz, hnd⟩ := hW
 have hA : DataW.TrodAll enc Try.prog W 0 (fun _ => true) true Try.f5.params.toList args.toList ds p := hA0
 rw [Try.params5] at hA hval
 obtain ⟨rfl, rfl⟩ := trodVars_none hV
 have hA2 := hA
 obtain ⟨v0, vs0, d0, ds0, p0, q0, hargs, rfl, rfl, h0, r0⟩ := trodAll_cons hA2
 obtain ⟨v1, vs1, d1, ds1, p1, q1, rfl, rfl, rfl, h1, r1⟩ := trodAll_cons r0
 obtain ⟨v2, vs2, d2, ds2, p2, q2, rfl, rfl, rfl, h2, r2⟩ := trodAll_cons r1
 obtain ⟨rfl, rfl, rfl⟩ := trodAll_nil r2
 obtain rfl : args = #[v0, v1, v2] := by cases args; simp_all
 clear hA0 hval0 hsz0
 simp only [List.append_nil] at hW'
 have hlt := fun x hx => hW'.lt x hx
 refine (law_calls (D := 8) bookG_ok rfl book_ok (f := 5) (ts := [22, 22, 41]) okts hA (fun j t v ht hv => hval j t v (by simpa using ht) (by simpa using hv)) pure_ok).mono fun e W' ⟨he, bel⟩ => ?_
 subst he
 refine ⟨_, rfl, _, _, _, [], _, [], hW', trodAll_mk1 (shut_bool Try.underlying4 _), trodAll_below laid bel [22, 22, 41] _ _ _ rds hA (fun x hx => ?_), rfl, bel.frame _, fun h => by cases h⟩
 exact hlt x (by simpa using hx)
theorem over : Rows.trailNilRow.holds Try.pinned (OpenSpec.ofChange Rows.trailNilSpec) :=
 OpenClaim.holds_of_wide 5 Try.f5 rfl rfl rfl rfl rfl rfl rfl ⟨rfl, rfl, rfl, rfl, rfl⟩ rfl rfl rfl rfl rfl (by kernel_rfl) Try.func5 closed
  (of_decide_eq_true (by kernel_rfl)) (by unfold Func.isWrapper; first | (rw [if_pos (by decide +kernel)]; kernel_rfl) | (rw [if_neg (by decide +kernel)]; exact ⟨rfl, rfl⟩))
  (fun os started H enc _ => lifted os started H enc)
theorem proved : Rows.TrailNilSaid := over
#print axioms proved
end Go.Proofs.Ytccbcbnglnloiaa.trailNil
namespace Go.Proofs.Ytccbcbnglnloiaa
/-- The row, under a short name, for the claim. -/
theorem trailNil_holds : Rows.TrailNilSaid := trailNil.proved
end Go.Proofs.Ytccbcbnglnloiaa
