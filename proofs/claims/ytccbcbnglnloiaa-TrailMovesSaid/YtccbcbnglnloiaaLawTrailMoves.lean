/- 'hoodwink/hoodwinklaw16.TrailMoves' returns true, whatever it is given: the row, on the pure statement. -/
import Derived.Test.YtccbcbnglnloiaaRows
import Derived.Test.YtccbcbnglnloiaaXJ
import Derived.WalkKit
import Derived.ProofKit
import Derived.OpenShut
import Derived.SizedLaws
namespace Go.Proofs.Ytccbcbnglnloiaa.trailMoves
open Go Go.ChangeShapes Go.WideShapes Go.ChangeAt Go.RowKit G
set_option maxRecDepth 100000
theorem own : ownKnob Try.prog.godebug = none := by kernel_rfl
theorem laid : laidOutB Try.prog = true := pf_laid
theorem c0 : (Rows.trailMovesRow.wf (OpenSpec.ofChange Rows.trailMovesSpec)) = true := by kernel_rfl
theorem c3 : (Try.f8.params.all (Try.prog.readableRec ·)) = true := by kernel_rfl
theorem c4 : (namedTie Try.prog Rows.trailMovesRow.named Rows.trailMovesSpec.vars) = true := by kernel_rfl
theorem c5 : ((Rows.trailMovesRow.stops == [])) = true := by kernel_rfl
theorem c7 : ((Rows.trailMovesRow.knobs == [])) = true := by kernel_rfl
theorem c9 : ((Rows.trailMovesRow.inPlace == Try.prog.inPlace 8)) = true := by kernel_rfl
theorem c10 : ((Rows.trailMovesRow.unfollowed == Try.prog.unfollowed 8)) = true := by kernel_rfl
theorem c11 : ((Rows.trailMovesRow.recurses == Try.prog.recurses 8)) = true := by kernel_rfl
theorem c12 : ((Rows.trailMovesRow.named == Try.prog.varsNamed 8)) = true := by kernel_rfl
theorem c13 : ((Rows.trailMovesRow.maps == (Try.f8.params.toList ++ Rows.trailMovesSpec.plain.varTypes Try.prog).any (Try.prog.mapsRec ·))) = true := by kernel_rfl
theorem c14 : ((Rows.trailMovesRow.ifaces == (Try.f8.params.toList ++ Rows.trailMovesSpec.plain.varTypes Try.prog).any (Try.prog.ifacesRec ·))) = true := by kernel_rfl
theorem c15 : ((Rows.trailMovesRow.mapsOut == Try.prog.mapsAmong Try.f8.resultTypes.toList)) = true := by kernel_rfl
theorem c16 : ((Rows.trailMovesRow.loops == (Try.f8.params.toList ++ Rows.trailMovesSpec.plain.varTypes Try.prog).any (Try.prog.loopsFrom ·))) = true := by kernel_rfl
theorem c17 : ((Rows.trailMovesRow.wideKeys == (Try.f8.params.toList ++ Rows.trailMovesSpec.plain.varTypes Try.prog ++ Try.f8.resultTypes.toList).any (Try.prog.wideKeysFrom ·))) = true := by kernel_rfl
theorem c18 : (Rows.trailMovesSpec.vars.all (Try.prog.varReadable ·)) = true := by kernel_rfl
theorem c19 : (Try.f8.resultTypes.all (fun t => Try.prog.readableRec t && decide (t < Try.prog.types.size))) = true := by kernel_rfl
theorem c20 : ((Rows.trailMovesRow.ifacesOut == Try.f8.resultTypes.toList.any (Try.prog.ifacesRec ·))) = true := by kernel_rfl
theorem c21 : ((Rows.trailMovesRow.loopsOut == Try.f8.resultTypes.toList.any (Try.prog.loopsFrom ·))) = true := by kernel_rfl
theorem c22 : ((Rows.trailMovesRow.plainKeys == Try.prog.plainKeys)) = true := by kernel_rfl
theorem c23 : (Rows.trailMovesRow.shortTexts.isNone) = true := by kernel_rfl
theorem c26 : ((Rows.trailMovesRow.lifted == Try.prog.liftsFinal)) = true := by kernel_rfl
theorem c27 : ((Try.prog.make == some Rows.trailMovesRow.make)) = true := by kernel_rfl
theorem c28 : ((Rows.trailMovesRow.kinds == (if Rows.trailMovesRow.domain.isEmpty then [] else Try.f8.params.toList.map fun t => match Try.prog.underlying t with | some (.int k) => some k | _ => none))) = true := by kernel_rfl
theorem c29 : ((Rows.trailMovesRow.pinned == Rows.trailMovesRow.pinnedBy)) = true := by kernel_rfl
theorem c30 : ((Rows.trailMovesRow.veiled == (Try.f8.params.toList ++ Rows.trailMovesSpec.plain.varTypes Try.prog ++ Try.f8.resultTypes.toList).any (Try.prog.veiledRec ·))) = true := by kernel_rfl
theorem c31 : (Rows.trailMovesRow.veiledFits Try.prog Try.f8.params.toList (Try.f8.params.toList ++ Rows.trailMovesSpec.plain.varTypes Try.prog ++ Try.f8.resultTypes.toList)) = true := by kernel_rfl
theorem closed : joinedFacts Try.prog 8 Try.f8 Rows.trailMovesSpec Rows.trailMovesRow = true := by
 unfold joinedFacts
 simp only [Bool.and_eq_true]
 exact ⟨⟨⟨⟨⟨⟨⟨⟨⟨⟨⟨⟨⟨⟨⟨⟨⟨⟨⟨⟨⟨⟨⟨⟨⟨⟨⟨⟨⟨⟨⟨c0, pf_laid⟩, pf_maps⟩, c3⟩, c4⟩, c5⟩, pf_stops⟩, c7⟩, pf_knobs⟩, c9⟩, c10⟩, c11⟩, c12⟩, c13⟩, c14⟩, c15⟩, c16⟩, c17⟩, c18⟩, c19⟩, c20⟩, c21⟩, c22⟩, c23⟩, pf_heard⟩, pf_enter⟩, c26⟩, c27⟩, c28⟩, c29⟩, c30⟩, c31⟩

theorem pure_ok : ∀ xs, WTA Try.prog 8 [26, 41, 55, 5] xs → ipureL xs = true → pc BI 8 xs = some (.bool true) := by
 intro xs h hp
 obtain ⟨cs, r, rfl, h1, cs2, r2, rfl, h2, cs3, r3, rfl, h3, cs4, r4, rfl, h4, rfl⟩ := h
 obtain ⟨g, x, y, rfl, hg, hw, hv, hc, hd⟩ := dec_gm Try.underlying26 rfl Try.underlying3 Try.underlying3 Try.underlying22 Try.underlying22 (fun cs h => dec_cells Try.underlying23 Try.underlying33 rfl Try.underlying21 Try.underlying31 (by kernel_rfl) h) (fun cs h => dec_codes Try.underlying24 Try.underlying80 rfl Try.underlying5 Try.underlying5 Try.underlying5 Try.underlying5 Try.underlying21 Try.underlying31 (by kernel_rfl) h) h1
 obtain ⟨sd, rfl, _⟩ := wt_int Try.underlying41 h2
 obtain ⟨mv, ms, rfl, hm, hl⟩ := dec_u8s Try.underlying55 Try.underlying5 (by kernel_rfl) h3
 obtain ⟨k, rfl, hk⟩ := wt_int Try.underlying5 h4
 obtain ⟨hk0, hk1⟩ := wf_u8 hk
 obtain ⟨q, rfl⟩ : ∃ q : BitVec 8, k = (q.toNat : Int) := ⟨BitVec.ofNat 8 k.toNat, by simp; omega⟩
 have e1 : argOf Try.prog 26 (gmc g x y) = .agg (gmc g x y) := argOf_agg (by kernel_rfl) _
 have e2 : argOf Try.prog 41 [IV.int .u64 sd] = IV.int .u64 sd := argOf_one (by kernel_rfl) _
 have e3 : argOf Try.prog 55 [mv] = mv := argOf_one (by kernel_rfl) _
 have e4 : argOf Try.prog 5 [IV.int .u8 (q.toNat : Int)] = IV.int .u8 (q.toNat : Int) := argOf_one (by kernel_rfl) _
 rw [e1, e2, e3, e4]
 exact Moves_ok g x y hg hw hv hc hd sd mv ms hm hl q
theorem okts : ∀ t ∈ ([26, 41, 55, 5] : List TypeId), okT Try.prog 8 t = true := by
 have h : ([26, 41, 55, 5] : List TypeId).all (okT Try.prog 8) = true := by kernel_rfl
 exact fun t ht => List.all_eq_true.1 h t ht
theorem rds : ∀ t ∈ ([26, 41, 55, 5] : List TypeId), Try.prog.readableRec t = true ∧ t < Try.prog.types.size := by
 have h : ([26, 41, 55, 5] : List TypeId).all (fun t => Try.prog.readableRec t && decide (t < Try.prog.types.size)) = true := by kernel_rfl
 intro t ht
 have := List.all_eq_true.1 h t ht
 simpa using this
theorem lifted (os : Os) (started : os.Started) (H : Type) (enc : TypeId × Value → H) :
  ReturnsInHanded {} Try.checked os 8 .any (Rows.trailMovesSpec.pre6 enc Try.prog Try.f8 Rows.trailMovesRow.domain false) (Rows.trailMovesSpec.post enc Try.prog Try.f8 false true false false) := by
 refine returnsInHanded_of_change_sized (C := Try.checked) own started (by kernel_rfl) Try.func8
  (ChangeSpec.witness6 (enc := enc) (C := Try.checked) false ⟨#[], #[.agg #[.int .i64 0, .int .i64 0, .int .u32 0, .int .u32 0, .slice none 0 0, .slice none 0 0], .int .u64 0, .slice none 0 0, .int .u8 0], []⟩ 8 (by kernel_rfl) (by kernel_rfl) (by kernel_rfl) (by kernel_rfl)) ?_
 intro W base args ds gs before hval0 hW hcnd hsz0 _
 have hval : ∀ (j : Nat) t v, Try.f8.params[j]? = some t → args[j]? = some v → Value.okWide Try.prog W .any base t v := hval0
 have hW' := hW
 obtain ⟨p, q, hA0, hV, rfl, hfz, hnd⟩ := hW
 have hA : DataW.TrodAll enc Try.prog W 0 (fun _ => true) true Try.f8.params.toList args.toList ds p := hA0
 rw [Try.params8] at hA hval
 obtain ⟨rfl, rfl⟩ := trodVars_none hV
 have hA2 := hA
 obtain ⟨v0, vs0, d0, ds0, p0, q0, hargs, rfl, rfl, h0, r0⟩ := trodAll_cons hA2
 obtain ⟨v1, vs1, d1, ds1, p1, q1, rfl, rfl, rfl, h1, r1⟩ := trodAll_cons r0
 obtain ⟨v2, vs2, d2, ds2, p2, q2, rfl, rfl, rfl, h2, r2⟩ := trodAll_cons r1
 obtain ⟨v3, vs3, d3, ds3, p3, q3, rfl, rfl, rfl, h3, r3⟩ := trodAll_cons r2
 obtain ⟨rfl, rfl, rfl⟩ := trodAll_nil r3
 obtain rfl : args = #[v0, v1, v2, v3] := by cases args; simp_all
 clear hA0 hval0 hsz0
 simp only [List.append_nil] at hW'
 have hlt := fun x hx => hW'.lt x hx
 refine (law_calls (D := 8) bookG_ok rfl book_ok (f := 8) (ts := [26, 41, 55, 5]) okts hA (fun j t v ht hv => hval j t v (by simpa using ht) (by simpa using hv)) pure_ok).mono fun e W' ⟨he, bel⟩ => ?_
 subst he
 refine ⟨_, rfl, _, _, _, [], _, [], hW', trodAll_mk1 (shut_bool Try.underlying4 _), trodAll_below laid bel [26, 41, 55, 5] _ _ _ rds hA (fun x hx => ?_), rfl, bel.frame _, fun h => by cases h⟩
 exact hlt x (by simpa using hx)
theorem over : Rows.trailMovesRow.holds Try.pinned (OpenSpec.ofChange Rows.trailMovesSpec) :=
 OpenClaim.holds_of_wide 8 Try.f8 rfl rfl rfl rfl rfl rfl rfl ⟨rfl, rfl, rfl, rfl, rfl⟩ rfl rfl rfl rfl rfl (by kernel_rfl) Try.func8 closed
  (of_decide_eq_true (by kernel_rfl)) (by unfold Func.isWrapper; first | (rw [if_pos (by decide +kernel)]; kernel_rfl) | (rw [if_neg (by decide +kernel)]; exact ⟨rfl, rfl⟩))
  (fun os started H enc _ => lifted os started H enc)
theorem proved : Rows.TrailMovesSaid := over
#print axioms proved
end Go.Proofs.Ytccbcbnglnloiaa.trailMoves
namespace Go.Proofs.Ytccbcbnglnloiaa
/-- The row, under a short name, for the claim. -/
theorem trailMoves_holds : Rows.TrailMovesSaid := trailMoves.proved
end Go.Proofs.Ytccbcbnglnloiaa
