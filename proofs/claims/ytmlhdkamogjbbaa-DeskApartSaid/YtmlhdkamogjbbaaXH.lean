/- Joined: Q2a to Q4. -/
import Derived.Test.YtmlhdkamogjbbaaXG
import Derived.Test.YtmlhdkamogjbbaaChecked
import Derived.KernelRfl
import Derived.Laws.Externs
import Derived.MapKept
import Derived.WalkKit
import Derived.Test.YtmlhdkamogjbbaaRows
import Derived.SizedLaws
set_option linter.unusedVariables false
set_option linter.unusedSimpArgs false
namespace Go.Proofs.Ytmlhdkamogjbbaa.G
open Go
theorem lf_law14_DeskApart : lf Try.prog mdT 3 = some l_law14_DeskApart := by kernel_rfl
theorem lf_law14_awake : lf Try.prog mdT 9 = some l_law14_awake := by kernel_rfl
theorem lf_law14_few : lf Try.prog mdT 10 = some l_law14_few := by kernel_rfl
theorem lf_rules_Game_Right : lf Try.prog mdT 11 = some l_rules_Game_Right := by kernel_rfl
theorem lf_desk_New : lf Try.prog mdT 12 = some l_desk_New := by kernel_rfl
theorem lf_desk_Desk_Put : lf Try.prog mdT 13 = some l_desk_Desk_Put := by kernel_rfl
theorem lf_desk_Desk_Take : lf Try.prog mdT 14 = some l_desk_Desk_Take := by kernel_rfl
theorem lf_desk_Desk_Copy : lf Try.prog mdT 15 = some l_desk_Desk_Copy := by kernel_rfl
theorem lf_desk_Desk_Tick : lf Try.prog mdT 16 = some l_desk_Desk_Tick := by kernel_rfl
theorem lf_mask_Mask_Within : lf Try.prog mdT 25 = some l_mask_Mask_Within := by kernel_rfl
theorem lf_rules_Game_All : lf Try.prog mdT 26 = some l_rules_Game_All := by kernel_rfl
theorem lf_code_Right : lf Try.prog mdT 27 = some l_code_Right := by kernel_rfl
theorem lf_mask_All : lf Try.prog mdT 32 = some l_mask_All := by kernel_rfl
theorem lf_code_Check : lf Try.prog mdT 33 = some l_code_Check := by kernel_rfl
theorem lf_code_uses : lf Try.prog mdT 39 = some l_code_uses := by kernel_rfl
theorem lf_code_right : lf Try.prog mdT 40 = some l_code_right := by kernel_rfl
theorem lf_code_register : lf Try.prog mdT 53 = some l_code_register := by kernel_rfl
end Go.Proofs.Ytmlhdkamogjbbaa.G
namespace Go.Proofs.Ytmlhdkamogjbbaa.G
open Go Go.Proofs Go.RowKit
set_option linter.unusedSimpArgs false
set_option linter.unusedVariables false
section
variable {P : Program} (w : World)
theorem eqlIn_map_nil (d : Nat) (t k e : TypeId) (p : Option Nat) (h : P.underlying t = some (.map k e)) : (Op.equalIn (d + 1) t (.map p) (.map none)).run P w = .ok p.isNone w := by
  cases p <;> simp [Op.equalIn, run_underlying h]
theorem eql_map_nil (t k e : TypeId) (p : Option Nat) (h : P.underlying t = some (.map k e)) : (binOp .eql t (.map p) (.map none)).run P w = .ok (.bool p.isNone) w := by
  simp only [binOp]
  simp [show Op.equal t (.map p) (.map none) = Op.equalIn (9999 + 1) t (.map p) (.map none) from rfl, eqlIn_map_nil w 9999 t k e p h]
theorem assert_map (t xT k e : TypeId) (v : Value) (h : P.underlying t = some (.map k e)) : (Instr.typeAssert (.iface t v) xT t false).run P w = .ok v w := by
  simp [Instr.typeAssert, run_underlying h, go_sem, Result.andThen]
theorem run_mclone {r : Nat} {es : Array MapEntry} {clock : Nat} (t : TypeId) (hb : w.heap[r]? = some (.map es clock)) :
    (Extern.MapsClone.clone #[.iface t (.map (some r))]).run P w = .ok (.iface t (.map (some w.heap.size))) (w.alloc (.map es clock)) := by
  have e : Extern.MapsClone.clone #[.iface t (.map (some r))] = (getObj r >>= fun o => match o with
      | .map entries clock => (newObj (.map entries clock) >>= fun n => pure (.iface t (.map (some n))))
      | _ => stuck "maps.clone: a map expected") := rfl
  rw [e]
  simp [MapKept.run_getObj_map hb, Result.andThen, go_sem]
end
set_option maxHeartbeats 2000000 in
set_option maxRecDepth 100000 in
theorem clone_calls (b : Nat) (es : Array MapEntry) (clock : Nat) (w : World) (hb : w.heap[b]? = some (.map es clock)) :
    Calls Try.prog 28 #[.map (some b)] w fun e w' => e = .returned (.map (some w.heap.size)) ∧ w' = w.alloc (.map es clock) := by
  have hq := fun w => eql_map_nil (P := Try.prog) w 68 _ _ (some b) Try.underlying68
  go_enter Try.func28, Try.ntmps28
  go_wp2
  rw [run_callFunc_extern Try.func34 (by kernel_rfl) (by kernel_rfl) (by kernel_rfl) (e := Extern.MapsClone.clone) (by kernel_rfl), run_mclone w 68 hb]
  simp only [Result.andThen]
  rw [Oper.upon_value]
  go_wp2
  rw [assert_map _ 68 20 _ _ _ Try.underlying68]
  simp only [Result.andThen]
  rw [Oper.upon_value]
  go_wp2
  go_ret
  exact ⟨rfl, rfl⟩
set_option maxHeartbeats 2000000 in
set_option maxRecDepth 100000 in
theorem clone_calls_nil (w : World) : Calls Try.prog 28 #[.map none] w fun e w' => e = .returned (.map none) ∧ w' = w := by
  have hq := fun w => eql_map_nil (P := Try.prog) w 68 _ _ none Try.underlying68
  go_enter Try.func28, Try.ntmps28
  go_wp2
  go_ret
  exact ⟨rfl, rfl⟩
theorem clone_good {args : List Value} {H H' : Heap} {v : Value} (he : gclone args H = some (v, H')) : Good Try.prog 28 args H v H' := by
  intro ι w cargs h ha
  refine ⟨fun w => ?_, ?_⟩
  · unfold callFunc
    have hprog : (program).run Try.prog w = .ok Try.prog w := rfl
    simp only [Sem.run_bind, hprog, Result.andThen_ok, Try.func28]
    rfl
  · unfold gclone at he
    split at he
    · simp only [Option.some.injEq, Prod.mk.injEq] at he
      obtain ⟨rfl, rfl⟩ := he
      cases cargs with
      | nil => simp [VRL] at ha
      | cons c cs =>
        simp only [VRL] at ha
        obtain ⟨h1, h2⟩ := ha
        cases cs with
        | cons _ _ => simp [VRL] at h2
        | nil =>
          simp only [VR] at h1
          subst h1
          refine (clone_calls_nil w).mono fun e w' hh => ?_
          obtain ⟨rfl, rfl⟩ := hh
          exact ⟨ι, .map none, rfl, by simp [VR], .refl h⟩
    · rename_i b
      split at he
      · rename_i es c hH
        simp only [Option.some.injEq, Prod.mk.injEq] at he
        obtain ⟨rfl, rfl⟩ := he
        cases cargs with
        | nil => simp [VRL] at ha
        | cons c1 cs =>
          simp only [VRL] at ha
          obtain ⟨h1, h2⟩ := ha
          cases cs with
          | cons _ _ => simp [VRL] at h2
          | nil =>
            simp only [VR] at h1
            obtain ⟨l, hl, rfl⟩ := h1
            obtain ⟨es', g1, g2⟩ := h.maps b l es c hl hH
            refine (clone_calls l.blk es' c w g1).mono fun e w' hh => ?_
            obtain ⟨rfl, rfl⟩ := hh
            refine ⟨ext ι H.size ⟨w.heap.size, 0, 0⟩, .map (some w.heap.size), rfl, ?_, Stp.fresh h _ _ _ rfl (by simp) (fun es2 k he => ?_)⟩
            · simp only [VR]
              exact ⟨_, ext_new _ _, rfl⟩
            · cases he
              exact ⟨es', rfl, g2.mono (ext_le h _)⟩
      · simp at he
    · simp at he
set_option maxHeartbeats 2000000 in
set_option maxRecDepth 100000 in
theorem held_calls_nil (p : Value) (w : World) : Calls Try.prog 17 #[.pointer none, p] w fun e w' => e = .returned (.slice none 0 0) ∧ w' = w := by
  go_enter Try.func17, Try.ntmps17
  go_wp2
  go_ret
  exact ⟨rfl, rfl⟩
theorem held0_good {args : List Value} {H H' : Heap} {v : Value} (he : gheld0 args H = some (v, H')) : Good Try.prog 17 args H v H' := by
  intro ι w cargs h ha
  refine ⟨fun w => ?_, ?_⟩
  · unfold callFunc
    have hprog : (program).run Try.prog w = .ok Try.prog w := rfl
    simp only [Sem.run_bind, hprog, Result.andThen_ok, Try.func17]
    rfl
  · unfold gheld0 at he
    split at he
    · simp only [Option.some.injEq, Prod.mk.injEq] at he
      obtain ⟨rfl, rfl⟩ := he
      cases cargs with
      | nil => simp [VRL] at ha
      | cons c cs =>
        simp only [VRL] at ha
        obtain ⟨h1, h2⟩ := ha
        cases cs with
        | nil => simp [VRL] at h2
        | cons c2 cs =>
          simp only [VRL] at h2
          cases cs with
          | cons _ _ => simp [VRL] at h2
          | nil =>
            simp only [VR] at h1
            subst h1
            refine (held_calls_nil c2 w).mono fun e w' hh => ?_
            obtain ⟨rfl, rfl⟩ := hh
            exact ⟨ι, .slice none 0 0, rfl, by simp [VR], .refl h⟩
    · simp at he
def givGL : List (FuncId × (List Value → M Value)) := [(28, gclone), (17, gheld0)]
theorem gvg_none {f : FuncId} {l : LFn} (h : BI.fn f = some l) : gvL givGL f = none := by
  have h2 : gvL givIL f = none := gv_none h
  simp only [givIL, gvL] at h2
  simp only [givGL, gvL]
  split at h2
  · cases h2
  · rename_i h3
    split at h2
    · cases h2
    · rename_i h4
      rw [if_neg h3, if_neg h4]
theorem giv_good : ∀ f g, gvL givGL f = some g → ∀ args H v H', g args H = some (v, H') → Good Try.prog f args H v H' := by
  intro f g hg args H v H' he
  simp only [givGL, gvL] at hg
  split at hg
  · rename_i h; subst h; cases hg; exact clone_good he
  · split at hg
    · rename_i h; subst h; cases hg; exact held0_good he
    · cases hg
theorem giv_sim : ∀ f g, BI.given f = some g → ∀ n args J v J', g args J = some (v, J') → ∀ W H cargs, HR W J H → IRL W args cargs → ∃ W' c H', acall (givenBook Try.prog givGL) (n + 1) f cargs H = some (c, H') ∧ SS W J H W' J' H' (fun _ => True) ∧ IR W' v c := by
  intro f g hg n args J v J' he W H cargs h ha
  have hg : gvL givIL f = some g := hg
  simp only [givIL, gvL] at hg
  split at hg
  · rename_i h'; subst h'; cases hg; exact iclone_sim args J v J' he W H cargs h ha
  · split at hg
    · rename_i h'; subst h'; cases hg; exact iheld0_sim args J v J' he W H cargs h ha
    · cases hg
end Go.Proofs.Ytmlhdkamogjbbaa.G
namespace Go.Proofs.Ytmlhdkamogjbbaa.G
open Go
set_option maxRecDepth 10000
theorem fns_ok : ∀ f l, fnT f = some l → lf Try.prog mdT f = some l := fun f l h => lkF_all (q := fun f l => lf Try.prog mdT f = some l) (L := fnL) ⟨lf_law14_DeskApart, lf_law14_awake, lf_law14_few, lf_rules_Game_Right, lf_desk_New, lf_desk_Desk_Put, lf_desk_Desk_Take, lf_desk_Desk_Copy, lf_desk_Desk_Tick, lf_mask_Mask_Within, lf_rules_Game_All, lf_code_Right, lf_mask_All, lf_code_Check, lf_code_uses, lf_code_right, lf_code_register, trivial⟩ h
theorem tab_ok : TabOK BI Try.prog where
  zc := by
    intro t z h
    simp only [BI] at h
    unfold zcT at h
    split at h
    · simp only [Option.some.injEq] at h; subst h; exact ⟨by kernel_rfl, by decide⟩
    · simp only [Option.some.injEq] at h; subst h; exact ⟨by kernel_rfl, by decide⟩
    · simp only [Option.some.injEq] at h; subst h; exact ⟨by kernel_rfl, by decide⟩
    · simp only [Option.some.injEq] at h; subst h; exact ⟨by kernel_rfl, by decide⟩
    · simp only [Option.some.injEq] at h; subst h; exact ⟨by kernel_rfl, by decide⟩
    · simp only [Option.some.injEq] at h; subst h; exact ⟨by kernel_rfl, by decide⟩
    · simp only [Option.some.injEq] at h; subst h; exact ⟨by kernel_rfl, by decide⟩
    · simp only [Option.some.injEq] at h; subst h; exact ⟨by kernel_rfl, by decide⟩
    · simp only [Option.some.injEq] at h; subst h; exact ⟨by kernel_rfl, by decide⟩
    · simp only [Option.some.injEq] at h; subst h; exact ⟨by kernel_rfl, by decide⟩
    · simp only [Option.some.injEq] at h; subst h; exact ⟨by kernel_rfl, by decide⟩
    · simp only [Option.some.injEq] at h; subst h; exact ⟨by kernel_rfl, by decide⟩
    · simp only [Option.some.injEq] at h; subst h; exact ⟨by kernel_rfl, by decide⟩
    · simp only [Option.some.injEq] at h; subst h; exact ⟨by kernel_rfl, by decide⟩
    · simp only [Option.some.injEq] at h; subst h; exact ⟨by kernel_rfl, by decide⟩
    · simp at h
  zv := by
    intro t z h
    simp only [BI] at h
    unfold zvT at h
    split at h
    · simp only [Option.some.injEq] at h; subst h; kernel_rfl
    · simp at h
  co := by
    intro t z h
    simp only [BI] at h
    unfold coT at h
    split at h
    · simp at h
theorem book_ok : IBookOK BI (givenBook Try.prog givGL) := ⟨tab_ok, fun f l h => ⟨gvg_none h, rfl, lf_ok (fns_ok f l h)⟩, giv_sim⟩
theorem bookG_ok : BookOK (givenBook Try.prog givGL) := givenBook_ok giv_good
end Go.Proofs.Ytmlhdkamogjbbaa.G
namespace Go.Proofs.Ytmlhdkamogjbbaa.G
open Go
theorem pf_laid : (laidOutB Try.prog) = true := by kernel_rfl
theorem pf_maps : (mapsRowed Try.prog) = true := by kernel_rfl
theorem pf_stops : ((Try.prog.stops == [])) = true := by kernel_rfl
theorem pf_knobs : ((Try.prog.stopKnobs == [])) = true := by kernel_rfl
theorem pf_heard : (Try.prog.stopsHeard) = true := by kernel_rfl
theorem pf_enter : (Try.prog.mayEnter) = true := by kernel_rfl
end Go.Proofs.Ytmlhdkamogjbbaa.G
