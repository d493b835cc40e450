/- Joined: Q2a to GG. -/
import Derived.Test.YtmlhdkamogjbbaaXH
import Derived.Test.YtmlhdkamogjbbaaChecked
import Derived.KernelRfl
import Derived.Test.YtmlhdkamogjbbaaRows
import Derived.SizedLaws
import Derived.Maps.RangeWalk
import Derived.Maps.AppendAt
import Derived.MapKept
import Derived.OwnWalk
import Derived.LoopTactic
import Derived.WalkKit
import Derived.Laws.Externs
set_option linter.unusedVariables false
set_option linter.unusedSimpArgs false
set_option maxRecDepth 20000
set_option maxHeartbeats 2000000
namespace Go.Proofs.Ytmlhdkamogjbbaa.G
open Go
theorem lf_law14_DeskPlays : lf Try.prog mdT 7 = some l_law14_DeskPlays := by kernel_rfl
theorem lf_law14_awake : lf Try.prog mdT 9 = some l_law14_awake := by kernel_rfl
theorem lf_law14_few : lf Try.prog mdT 10 = some l_law14_few := by kernel_rfl
theorem lf_rules_Game_Right : lf Try.prog mdT 11 = some l_rules_Game_Right := by kernel_rfl
theorem lf_desk_New : lf Try.prog mdT 12 = some l_desk_New := by kernel_rfl
theorem lf_desk_Desk_Put : lf Try.prog mdT 13 = some l_desk_Desk_Put := by kernel_rfl
theorem lf_desk_Desk_Take : lf Try.prog mdT 14 = some l_desk_Desk_Take := by kernel_rfl
theorem lf_desk_Desk_Tick : lf Try.prog mdT 16 = some l_desk_Desk_Tick := by kernel_rfl
theorem lf_desk_Desk_Drop : lf Try.prog mdT 18 = some l_desk_Desk_Drop := by kernel_rfl
theorem lf_law14_own : lf Try.prog mdT 19 = some l_law14_own := by kernel_rfl
theorem lf_slices_Equal_Luint32_uint32 : lf Try.prog mdT 20 = some l_slices_Equal_Luint32_uint32 := by kernel_rfl
theorem lf_ref14_Take : lf Try.prog mdT 21 = some l_ref14_Take := by kernel_rfl
theorem lf_ref14_Drop : lf Try.prog mdT 22 = some l_ref14_Drop := by kernel_rfl
theorem lf_ref14_Put : lf Try.prog mdT 23 = some l_ref14_Put := by kernel_rfl
theorem lf_ref14_Held : lf Try.prog mdT 24 = some l_ref14_Held := by kernel_rfl
theorem lf_mask_Mask_Within : lf Try.prog mdT 25 = some l_mask_Mask_Within := by kernel_rfl
theorem lf_rules_Game_All : lf Try.prog mdT 26 = some l_rules_Game_All := by kernel_rfl
theorem lf_code_Right : lf Try.prog mdT 27 = some l_code_Right := by kernel_rfl
theorem lf_slices_Sort_Luint32_uint32 : lf Try.prog mdT 29 = some l_slices_Sort_Luint32_uint32 := by kernel_rfl
theorem lf_ref10_Right : lf Try.prog mdT 30 = some l_ref10_Right := by kernel_rfl
theorem lf_ref14_at : lf Try.prog mdT 31 = some l_ref14_at := by kernel_rfl
theorem lf_mask_All : lf Try.prog mdT 32 = some l_mask_All := by kernel_rfl
theorem lf_code_Check : lf Try.prog mdT 33 = some l_code_Check := by kernel_rfl
theorem lf_slices_pdqsortOrdered_uint32 : lf Try.prog mdT 35 = some l_slices_pdqsortOrdered_uint32 := by kernel_rfl
theorem lf_math_bits_Len : lf Try.prog mdT 36 = some l_math_bits_Len := by kernel_rfl
theorem lf_ref10_All : lf Try.prog mdT 37 = some l_ref10_All := by kernel_rfl
theorem lf_ref08_Check : lf Try.prog mdT 38 = some l_ref08_Check := by kernel_rfl
theorem lf_code_uses : lf Try.prog mdT 39 = some l_code_uses := by kernel_rfl
theorem lf_code_right : lf Try.prog mdT 40 = some l_code_right := by kernel_rfl
theorem lf_slices_insertionSortOrdered_uint32 : lf Try.prog mdT 41 = some l_slices_insertionSortOrdered_uint32 := by kernel_rfl
theorem lf_slices_heapSortOrdered_uint32 : lf Try.prog mdT 42 = some l_slices_heapSortOrdered_uint32 := by kernel_rfl
theorem lf_slices_breakPatternsOrdered_uint32 : lf Try.prog mdT 43 = some l_slices_breakPatternsOrdered_uint32 := by kernel_rfl
theorem lf_slices_choosePivotOrdered_uint32 : lf Try.prog mdT 44 = some l_slices_choosePivotOrdered_uint32 := by kernel_rfl
theorem lf_slices_reverseRangeOrdered_uint32 : lf Try.prog mdT 45 = some l_slices_reverseRangeOrdered_uint32 := by kernel_rfl
theorem lf_slices_partialInsertionSortOrdered_uint32 : lf Try.prog mdT 46 = some l_slices_partialInsertionSortOrdered_uint32 := by kernel_rfl
theorem lf_cmp_Less_uint32 : lf Try.prog mdT 47 = some l_cmp_Less_uint32 := by kernel_rfl
theorem lf_slices_partitionEqualOrdered_uint32 : lf Try.prog mdT 48 = some l_slices_partitionEqualOrdered_uint32 := by kernel_rfl
theorem lf_slices_partitionOrdered_uint32 : lf Try.prog mdT 49 = some l_slices_partitionOrdered_uint32 := by kernel_rfl
theorem lf_math_bits_Len64 : lf Try.prog mdT 51 = some l_math_bits_Len64 := by kernel_rfl
theorem lf_ref08_Right : lf Try.prog mdT 52 = some l_ref08_Right := by kernel_rfl
theorem lf_code_register : lf Try.prog mdT 53 = some l_code_register := by kernel_rfl
theorem lf_slices_siftDownOrdered_uint32 : lf Try.prog mdT 54 = some l_slices_siftDownOrdered_uint32 := by kernel_rfl
theorem lf_slices_nextPowerOfTwo : lf Try.prog mdT 55 = some l_slices_nextPowerOfTwo := by kernel_rfl
theorem lf_slices_xorshift_Next : lf Try.prog mdT 56 = some l_slices_xorshift_Next := by kernel_rfl
theorem lf_slices_medianAdjacentOrdered_uint32 : lf Try.prog mdT 57 = some l_slices_medianAdjacentOrdered_uint32 := by kernel_rfl
theorem lf_slices_medianOrdered_uint32 : lf Try.prog mdT 58 = some l_slices_medianOrdered_uint32 := by kernel_rfl
theorem lf_cmp_isNaN_uint32 : lf Try.prog mdT 59 = some l_cmp_isNaN_uint32 := by kernel_rfl
theorem lf_ref08_Parts : lf Try.prog mdT 60 = some l_ref08_Parts := by kernel_rfl
theorem lf_ref08_has : lf Try.prog mdT 61 = some l_ref08_has := by kernel_rfl
theorem lf_slices_order2Ordered_uint32 : lf Try.prog mdT 62 = some l_slices_order2Ordered_uint32 := by kernel_rfl
theorem lf_ref08_Table : lf Try.prog mdT 63 = some l_ref08_Table := by kernel_rfl
end Go.Proofs.Ytmlhdkamogjbbaa.G
namespace Go.Proofs.Ytmlhdkamogjbbaa.G
open Go Go.Proofs
def givGL : List (FuncId × (List Value → M Value)) := [(28, gclone), (17, gheld)]
theorem gvg_none {f : FuncId} {l : LFn} (h : BI.fn f = some l) : gvL givGL f = none := by
 have h2 : gvL givIL f = none := gv_none h
 simp only [givIL, gvL] at h2
 simp only [givGL, gvL]
 split at h2
 ·cases h2
 ·rename_i h3
  split at h2
  ·cases h2
  ·rename_i h4
   rw [if_neg h3, if_neg h4]
theorem giv_sim : ∀ f g, BI.given f = some g → ∀ n args J v J', g args J = some (v, J') → ∀ W H cargs, HR W J H → IRL W args cargs → ∃ W' c H', acall (givenBook Try.prog givGL) (n + 1) f cargs H = some (c, H') ∧ SS W J H W' J' H' (fun _ => True) ∧ IR W' v c := by
 intro f g hg n args J v J' he W H cargs h ha
 have hg : gvL givIL f = some g := hg
 simp only [givIL, gvL] at hg
 split at hg
 ·rename_i h'; subst h'; cases hg; exact iclone_sim args J v J' he W H cargs h ha
 ·split at hg
  ·rename_i h'; subst h'; cases hg; exact iheld_sim args J v J' he W H cargs h ha
  ·cases hg
end Go.Proofs.Ytmlhdkamogjbbaa.G
namespace Go.Proofs.Ytmlhdkamogjbbaa.G
open Go
set_option maxRecDepth 10000
theorem fns_ok : ∀ f l, fnT f = some l → lf Try.prog mdT f = some l := fun f l h => lkF_all (q := fun f l => lf Try.prog mdT f = some l) (L := fnL) ⟨lf_law14_DeskPlays, lf_law14_awake, lf_law14_few, lf_rules_Game_Right, lf_desk_New, lf_desk_Desk_Put, lf_desk_Desk_Take, lf_desk_Desk_Tick, lf_desk_Desk_Drop, lf_law14_own, lf_slices_Equal_Luint32_uint32, lf_ref14_Take, lf_ref14_Drop, lf_ref14_Put, lf_ref14_Held, lf_mask_Mask_Within, lf_rules_Game_All, lf_code_Right, lf_slices_Sort_Luint32_uint32, lf_ref10_Right, lf_ref14_at, lf_mask_All, lf_code_Check, lf_slices_pdqsortOrdered_uint32, lf_math_bits_Len, lf_ref10_All, lf_ref08_Check, lf_code_uses, lf_code_right, lf_slices_insertionSortOrdered_uint32, lf_slices_heapSortOrdered_uint32, lf_slices_breakPatternsOrdered_uint32, lf_slices_choosePivotOrdered_uint32, lf_slices_reverseRangeOrdered_uint32, lf_slices_partialInsertionSortOrdered_uint32, lf_cmp_Less_uint32, lf_slices_partitionEqualOrdered_uint32, lf_slices_partitionOrdered_uint32, lf_math_bits_Len64, lf_ref08_Right, lf_code_register, lf_slices_siftDownOrdered_uint32, lf_slices_nextPowerOfTwo, lf_slices_xorshift_Next, lf_slices_medianAdjacentOrdered_uint32, lf_slices_medianOrdered_uint32, lf_cmp_isNaN_uint32, lf_ref08_Parts, lf_ref08_has, lf_slices_order2Ordered_uint32, lf_ref08_Table, trivial⟩ h
theorem tab_ok : TabOK BI Try.prog where
 zc := by
  intro t z h
  simp only [BI] at h
  unfold zcT at h
  split at h
  ·simp only [Option.some.injEq] at h; subst h; exact ⟨by kernel_rfl, by decide⟩
  ·simp only [Option.some.injEq] at h; subst h; exact ⟨by kernel_rfl, by decide⟩
  ·simp only [Option.some.injEq] at h; subst h; exact ⟨by kernel_rfl, by decide⟩
  ·simp only [Option.some.injEq] at h; subst h; exact ⟨by kernel_rfl, by decide⟩
  ·simp only [Option.some.injEq] at h; subst h; exact ⟨by kernel_rfl, by decide⟩
  ·simp only [Option.some.injEq] at h; subst h; exact ⟨by kernel_rfl, by decide⟩
  ·simp only [Option.some.injEq] at h; subst h; exact ⟨by kernel_rfl, by decide⟩
  ·simp only [Option.some.injEq] at h; subst h; exact ⟨by kernel_rfl, by decide⟩
  ·simp only [Option.some.injEq] at h; subst h; exact ⟨by kernel_rfl, by decide⟩
  ·simp only [Option.some.injEq] at h; subst h; exact ⟨by kernel_rfl, by decide⟩
  ·simp only [Option.some.injEq] at h; subst h; exact ⟨by kernel_rfl, by decide⟩
  ·simp only [Option.some.injEq] at h; subst h; exact ⟨by kernel_rfl, by decide⟩
  ·simp only [Option.some.injEq] at h; subst h; exact ⟨by kernel_rfl, by decide⟩
  ·simp only [Option.some.injEq] at h; subst h; exact ⟨by kernel_rfl, by decide⟩
  ·simp only [Option.some.injEq] at h; subst h; exact ⟨by kernel_rfl, by decide⟩
  ·simp only [Option.some.injEq] at h; subst h; exact ⟨by kernel_rfl, by decide⟩
  ·simp only [Option.some.injEq] at h; subst h; exact ⟨by kernel_rfl, by decide⟩
  ·simp at h
 zv := by
  intro t z h
  simp only [BI] at h
  unfold zvT at h
  split at h
  ·simp only [Option.some.injEq] at h; subst h; kernel_rfl
  ·simp at h
 co := by
  intro t z h
  simp only [BI] at h
  unfold coT at h
  split at h
  ·simp at h
theorem book_ok : IBookOK BI (givenBook Try.prog givGL) := ⟨tab_ok, fun f l h => ⟨gvg_none h, rfl, lf_ok (fns_ok f l h)⟩, giv_sim⟩
theorem pf_laid : (laidOutB Try.prog) = true := by kernel_rfl
theorem pf_maps : (mapsRowed Try.prog) = true := by kernel_rfl
theorem pf_stops : ((Try.prog.stops == [])) = true := by kernel_rfl
theorem pf_knobs : ((Try.prog.stopKnobs == [])) = true := by kernel_rfl
theorem pf_heard : (Try.prog.stopsHeard) = true := by kernel_rfl
theorem pf_enter : (Try.prog.mayEnter) = true := by kernel_rfl
end Go.Proofs.Ytmlhdkamogjbbaa.G
namespace Go.Proofs.Ytmlhdkamogjbbaa.G
open Go Go.Proofs Go.RowKit
open Go.ChangeMaps Go.MapKept
def slotV (v : Value) : Prop := ∃ q t : Int, v = .agg #[.int .i64 q, .int .u32 t]
structure MR (w : World) (b r : Nat) (es : Array MapEntry) (clock : Nat) (seen : Array Nat) : Prop where
 map : w.heap[b]? = some (.map es clock)
 it : ∃ c0, w.heap[r]? = some (.mapIter (some b) clock seen c0) ∧ clock ≤ c0
theorem MR.ne {w : World} {b r : Nat} {es : Array MapEntry} {clock : Nat} {seen : Array Nat} (h : MR w b r es clock seen) : r ≠ b := by
 obtain ⟨c0, hr, _⟩ := h.it
 rintro rfl
 have := h.map
 rw [hr] at this; cases this
theorem MR.kept {w w' : World} {b r : Nat} {es : Array MapEntry} {clock : Nat} {seen : Array Nat} {row : Option Nat} (h : MR w b r es clock seen) (hg : w.grownBy w' row) (h1 : some b ≠ row) (h2 : some r ≠ row) : MR w' b r es clock seen := by
 obtain ⟨c0, hr, hc⟩ := h.it
 exact ⟨(hg.block b (Array.getElem?_eq_some_iff.1 h.map).1 h1).trans h.map, c0, (hg.block r (Array.getElem?_eq_some_iff.1 hr).1 h2).trans hr, hc⟩
def leftN (w : World) (b r : Nat) : Nat := match w.heap[b]?, w.heap[r]? with
 | some (.map es _), some (.mapIter _ _ seen _) => (leftOf es seen).size
 | _, _ => 0
theorem MR.left {w : World} {b r : Nat} {es : Array MapEntry} {clock : Nat} {seen : Array Nat} (h : MR w b r es clock seen) : leftN w b r = (leftOf es seen).size := by
 obtain ⟨c0, hr, _⟩ := h.it
 simp only [leftN, h.map, hr]
theorem wpList_range_mr {P : Program} (w : World) {ops : Array Oper} {rest : List Oper} {o : Oper} {a : Act} {Q : Exit → Act → World → Prop} (hg : o.guard = none) (m : Operand) (t : TypeId) (hop : o.op = Op.range t m) (k e : TypeId) (ht : P.underlying t = some (.map k e)) (b : Nat) (es : Array MapEntry) (clock : Nat)
  (hm : a.eval m = .map (some b)) (hb : w.heap[b]? = some (.map es clock))
  (hK : ∀ w', MR w' b w.heap.size es clock #[] → w.grownBy w' none → w'.heap.size = w.heap.size + 1 → wpList P ops Q rest (a.put o.dst (.pointer (some ⟨w.heap.size, 0, none⟩))) w') :
  wpList P ops Q (o :: rest) a w := by
 refine wpList_plain hg fun K' hK' => ?_
 unfold Oper.wp
 simp [execOp, hop, hm, run_range_map w t k e b es clock ht hb, Result.andThen]
 refine hK' _ _ (hK _ ⟨?_, clock, ?_, Nat.le_refl _⟩ (World.grownBy_alloc w _ none) (by simp))
 ·rw [Below.heap_alloc _ _ _ (Array.getElem?_eq_some_iff.1 hb).1]; exact hb
 ·exact heap_alloc_new w _
theorem wpList_next_mr {P : Program} (w : World) {ops : Array Oper} {rest : List Oper} {o : Oper} {a : Act} {Q : Exit → Act → World → Prop} (hg : o.guard = none) (it : Operand) (hop : o.op = Op.next it false) (b r : Nat) (es : Array MapEntry) (clock : Nat) (seen : Array Nat)
  (hit : a.eval it = .pointer (some ⟨r, 0, none⟩)) (h : MR w b r es clock seen) (hold : ∀ x ∈ es.toList, x.born < clock) (hn : (es.toList.map (·.born)).Nodup)
  (hDone : (leftOf es seen).size = 0 → wpList P ops Q rest (a.put o.dst (.tuple #[.bool false])) w)
  (hMore : ∀ (x : MapEntry) (w' : World), x ∈ es.toList → seen.contains x.born = false → MR w' b r es clock (seen.push x.born) → (leftOf es (seen.push x.born)).size < (leftOf es seen).size → w.grownBy w' (some r) → w'.heap.size = w.heap.size →
   (Instr.entry (.pointer (some ⟨r, 0, none⟩))).run P w' = .ok (.tuple #[x.key, x.val]) w' → wpList P ops Q rest (a.put o.dst (.tuple #[.bool true, x.key, x.val])) w') :
  wpList P ops Q (o :: rest) a w := by
 refine wpList_plain hg fun K' hK' => ?_
 unfold Oper.wp
 obtain ⟨c0, hr, hc0⟩ := h.it
 rcases run_next_at (P := P) w o.type r b clock c0 seen es clock hr h.map hold hc0 with ⟨h0, hrun⟩ | ⟨e, he, w1, hal, hrun⟩
 ·simp [execOp, hop, hit, hrun, Result.andThen]
  exact hK' _ _ (hDone h0)
 ·obtain ⟨hem, hes⟩ := mem_left he
  have hr1 : w1.heap[r]? = some (.mapIter (some b) clock seen c0) := by rcases hal with rfl | rfl <;> exact hr
  have hb1 : w1.heap[b]? = some (.map es clock) := by rcases hal with rfl | rfl <;> exact h.map
  have hset := heap_set (o' := .mapIter (some b) clock (seen.push e.born) clock) hr1
  have hb' : (setBlock w1 r (.mapIter (some b) clock (seen.push e.born) clock)).heap[b]? = some (.map es clock) := (hset.2 b (fun e1 => h.ne e1.symm)).trans hb1
  simp [execOp, hop, hit, hrun, Result.andThen]
  refine hK' _ _ (hMore e _ hem hes ⟨hb', clock, hset.1, Nat.le_refl _⟩ (left_shrinks es seen e he) ?_ ?_ (run_entry_at _ r b clock seen es clock e hset.1 hb' hem hn))
  ·rcases hal with rfl | rfl <;> exact ⟨rfl, rfl, rfl, by simp [setBlock], fun i _ hi => hset.2 i (fun e1 => hi (by rw [e1]))⟩
  ·rcases hal with rfl | rfl <;> simp [setBlock]
theorem seen_push {seen : Array Nat} {e : MapEntry} : ∀ {l : List MapEntry}, (l.map (·.born)).Nodup → e ∈ l → seen.contains e.born = false →
  (l.filter fun x => (seen.push e.born).contains x.born).Perm (l.filter (fun x => seen.contains x.born) ++ [e])
 | [], _, h, _ => by simp at h
 | x :: l, hn, hm, hs => by
  simp only [List.map_cons, List.nodup_cons] at hn
  have push : ∀ y : Nat, (seen.push e.born).contains y = (seen.contains y || y == e.born) := fun y => by
   rw [Bool.eq_iff_iff]; simp
  have none : ∀ {l : List MapEntry}, e.born ∉ l.map (·.born) → (l.filter fun x => (seen.push e.born).contains x.born) = l.filter fun x => seen.contains x.born := by
   intro l hl
   refine List.filter_congr fun y hy => ?_
   rw [push]
   have : (y.born == e.born) = false := by
    simp only [beq_eq_false_iff_ne, ne_eq]
    intro h1
    exact hl (by rw [← h1]; exact List.mem_map_of_mem hy)
   rw [this, Bool.or_false]
  rcases List.mem_cons.1 hm with rfl | hm
  ·have e1 : (seen.push e.born).contains e.born = true := by rw [push]; simp
   rw [List.filter_cons_of_pos (p := fun x : MapEntry => (seen.push e.born).contains x.born) e1, List.filter_cons_of_neg (by rw [hs]; decide), none hn.1]
   exact List.perm_append_singleton _ _ |>.symm
  ·have ih := seen_push hn.2 hm hs
   have hne : x.born ≠ e.born := fun h1 => hn.1 (by rw [h1]; exact List.mem_map_of_mem hm)
   by_cases hx : seen.contains x.born = true
   ·rw [List.filter_cons_of_pos (by rw [push, hx]; rfl), List.filter_cons_of_pos (p := fun x : MapEntry => seen.contains x.born) hx]
    exact ih.cons _
   ·have hx' : seen.contains x.born = false := by simpa using hx
    rw [List.filter_cons_of_neg (by rw [push, hx']; simp [hne]), List.filter_cons_of_neg (p := fun x : MapEntry => seen.contains x.born) hx]
    exact ih
theorem info22 : (Try.prog.info? 22).map (fun i => (i.zero, i.size, i.bytes)) = some (some (.int .u32 0), 1, 4) := by kernel_rfl
set_option maxHeartbeats 4000000 in
set_option maxRecDepth 100000 in
theorem held_walk (w : World) (p o : Nat) (pl : Int) (b : Nat) (es : Array MapEntry) (clock : Nat) (Q : Value → World → Prop)
  (hcell : w.cell? ⟨p, o + 4, none⟩ = some (.map (some b))) (hb : w.heap[b]? = some (.map es clock)) (hold : ∀ x ∈ es.toList, x.born < clock) (hn : (es.toList.map (·.born)).Nodup)
  (hk : ∀ x ∈ es.toList, slotV x.key) (hsz : es.size ≤ 1000000)
  (hsort : ∀ (w1 : World) (v : Value) (ts : List Int), ts.Perm (heldK pl (es.toList.map (·.key))) → w1.ownsRow w.heap.size 22 1 v ts.length (ts.map (.int .u32)) → (ts = [] → v = .slice none 0 0) → Below w.heap.size w w1 →
   Calls Try.prog 29 #[v] w1 fun e w' => (∃ c, e = .returned c) ∧ Q v w') :
  Calls Try.prog 17 #[.pointer (some ⟨p, o, none⟩), .int .i64 pl] w fun e w' => ∃ v, e = .returned v ∧ Q v w' := by
 obtain ⟨i0, hi, hz0, hz1, hz2⟩ := info_parts info22
 have hbl := (Array.getElem?_eq_some_iff.1 hb).1
 go_enter Try.func17, Try.ntmps17
 go_wp2_with (first
  | (at_range; refine wpList_range_mr _ rfl _ 68 rfl 73 22 Try.underlying68 b es clock rfl hb ?_; intro w0 hm0 hg0 hs0)
  | go_in)
 go_frame
 go_loopw [5] (fun v wr => ∃ (seen : Array Nat) (ts : List Int), MR wr b w.heap.size es clock seen ∧ ts.length ≤ es.size ∧ ts.Perm (heldK pl ((es.toList.filter fun x => seen.contains x.born).map (·.key))) ∧ wr.ownsRow w.heap.size 22 1 v ts.length (ts.map (.int .u32)) ∧ Below w.heap.size w wr ∧ w.heap.size + 1 ≤ wr.heap.size ∧ (ts = [] → v = .slice none 0 0))
  (fun _ wr => leftN wr b w.heap.size)
 case atStart =>
  refine ⟨#[], [], hm0, by simp, ?_, World.ownsRow_nil _ _ _ _, (Below.refl _ _).grown hg0 (Nat.le_refl _) (fun j hj => by cases hj), by omega, fun _ => rfl⟩
  simp [heldK]
 case round =>
  obtain ⟨seen, ts, hm, hcs, hP, hrow, hnx, hws, hnil⟩ := hrel
  go_wp2_with (first
   | (at_next; refine wpList_next_mr _ rfl _ rfl b w.heap.size es clock seen rfl hm hold hn ?_ ?_)
   | go_in)
  ·intro h0
   have hall : (es.toList.filter fun x => seen.contains x.born) = es.toList := List.filter_eq_self.2 (fun x hx => all_seen es seen (by rw [h0]; rfl) x hx)
   rw [hall] at hP
   have hc := hsort wr u5 ts hP hrow hnil hnx
   go_wp2_with (first
    | (go_at_call 29; refine hc.mono ?_; rintro e w' ⟨⟨c, rfl⟩, hq⟩)
    | go_in)
   go_ret
   exact ⟨_, rfl, hq⟩
  ·intro x w2 hx hxs hm2 hlt hg2 hs2 hen
   have hx' : x ∈ es.toList := by simpa using hx
   obtain ⟨q, t, hxk⟩ := hk x hx'
   have hne : u5.ownBlock ≠ some w.heap.size := fun e1 => by
    rcases hrow.2 with ⟨rfl, _⟩ | ⟨g, cap, cur, rfl, hbase, hbb, _⟩
    ·simp [Value.ownBlock] at e1
    ·simp [Value.ownBlock] at e1
     subst e1
     obtain ⟨c0, hr, _⟩ := hm.it
     rw [hr] at hbb; cases hbb
   have hbne : some b ≠ u5.ownBlock := fun e1 => by
    have := (hrow.lt b e1.symm).1; omega
   have hrow2 := hrow.kept hg2 (Or.inr hne)
   have hg2s := hg2.size
   have hxs' : seen.contains x.born = false := by simpa using hxs
   have hln := seen_push hn hx' hxs'
   have hl1 := hm.left
   have hnx2 : Below w.heap.size w w2 := hnx.grown hg2 (by omega) (fun j hj => by cases hj; exact Nat.le_refl _)
   have hts : ts.length + (leftOf es seen).size ≤ es.size := by
    have h1 := hP.length_eq
    have h2 : (leftOf es seen).size + (es.toList.filter fun x => seen.contains x.born).length = es.size := by
     have e0 : (leftOf es seen).size = (es.toList.filter fun x => !seen.contains x.born).length := by
      unfold leftOf
      rw [← Array.toList_filter, Array.length_toList]
     rw [e0, ← Array.length_toList]
     have := List.length_eq_countP_add_countP (fun x : MapEntry => seen.contains x.born) (l := es.toList)
     rw [List.countP_eq_length_filter, List.countP_eq_length_filter] at this
     have e : (es.toList.filter fun x => !seen.contains x.born) = es.toList.filter fun a => decide ¬seen.contains a.born = true := List.filter_congr fun y _ => by cases seen.contains y.born <;> rfl
     rw [e]; omega
    rw [h1, heldK]
    have := List.length_filterMap_le (slotI pl) ((es.toList.filter fun x => seen.contains x.born).map (·.key))
    rw [List.length_map] at this
    omega
   have hlt0 : 0 < (leftOf es seen).size := by omega
   rw [hxk] at hen ⊢
   clear hs2
   go_wp2_with (first
    | (at_builtin; refine wpList_append_own _ rfl _ _ 33 rfl w.heap.size 22 i0 (.int .u32 0) 1 4 Try.underlying33 hi hz0 hz1 hz2 rfl (by decide) _ _ _ rfl ((hrow2.alloc _).alloc _) ⟨w2.heap.size + 1, 0, none⟩ 1 1 [.int .u32 t] rfl rfl (by simpa using cell_one_new (w2.alloc (.cells #[.int .i64 q, .int .u32 t] 73)) (.int .u32 t) 22) (by simp [Value.oneCell']) (by unfold maxLen; omega) (by omega) (by simp; omega) ?_; intro v' w3 hown' hg3 hnil3; go_frame)
    | go_in)
   ·have hm3 := (hm2.kept (World.grownBy_alloc w2 (.cells #[.int .i64 q, .int .u32 t] 73) none) (by simp) (by simp)).kept (World.grownBy_alloc _ (.cells #[.int .u32 t] 22) none) (by simp) (by simp) |>.kept hg3 hbne (fun e1 => hne e1.symm)
    have hqp : q = pl := by simpa using ‹(q == pl) = true›
    go_roundw
    case rel =>
     refine ⟨_, ts ++ [t], hm3, by simp; omega, ?_, by simpa using hown', ?_, ?_, fun h => by simp at h⟩
     ·refine List.Perm.trans (hP.append_right [t]) ?_
      refine List.Perm.trans ?_ ((hln.map (·.key)).filterMap (slotI pl)).symm
      simp only [heldK, List.map_append, List.filterMap_append, List.map_cons, List.map_nil, List.filterMap_cons, hxk, slotI, hqp, if_true, List.filterMap_nil]
      exact List.Perm.refl _
     ·exact ((hnx2.alloc (by omega) _).alloc (by simp; omega) _).grown hg3 (by simp; omega) (fun j hj => (hrow2.lt j hj).1)
     ·have := hg3.size; simp at this; omega
    case measure => rw [hm3.left, hl1]; exact hlt
   ·have hm3 := hm2.kept (World.grownBy_alloc w2 (.cells #[.int .i64 q, .int .u32 t] 73) none) (by simp) (by simp)
    have hqp : ¬ q = pl := by simpa using ‹(q == pl) = false›
    refine ⟨⟨_, ts, hm3, by omega, ?_, hrow2.alloc _, hnx2.alloc (by omega) _, by simp; omega, hnil⟩, by rw [hm3.left, hl1]; exact hlt⟩
    refine hP.trans (List.Perm.trans ?_ ((hln.map (·.key)).filterMap (slotI pl)).symm)
    simp only [heldK, List.map_append, List.filterMap_append, List.map_cons, List.map_nil, List.filterMap_cons, hxk, slotI, hqp, if_false, List.filterMap_nil, List.append_nil]
    exact List.Perm.refl _
end Go.Proofs.Ytmlhdkamogjbbaa.G
namespace Go.Proofs.Ytmlhdkamogjbbaa.G
open Go Go.Proofs Go.RowKit
section
variable {P : Program} (w : World)
theorem eqlIn_map_nil (d : Nat) (t k e : TypeId) (p : Option Nat) (h : P.underlying t = some (.map k e)) : (Op.equalIn (d + 1) t (.map p) (.map none)).run P w = .ok p.isNone w := by
 cases p <;> simp [Op.equalIn, run_underlying h]
theorem eql_map_nil (t k e : TypeId) (p : Option Nat) (h : P.underlying t = some (.map k e)) : (binOp .eql t (.map p) (.map none)).run P w = .ok (.bool p.isNone) w := by
 simp only [binOp]
 simp [show Op.equal t (.map p) (.map none) = Op.equalIn (9999 + 1) t (.map p) (.map none) from rfl, eqlIn_map_nil w 9999 t k e p h]
theorem assert_map (t xT k e : TypeId) (v : Value) (h : P.underlying t = some (.map k e)) : (Instr.typeAssert (.iface t v) xT t false).run P w = .ok v w := by
 simp [Instr.typeAssert, run_underlying h, go_sem, Result.andThen]
theorem run_mclone {r : Nat} {es : Array MapEntry} {clock : Nat} (t : TypeId) (hb : w.heap[r]? = some (.map es clock)) :
  (Extern.MapsClone.clone #[.iface t (.map (some r))]).run P w = .ok (.iface t (.map (some w.heap.size))) (w.alloc (.map es clock)) := by
 have e : Extern.MapsClone.clone #[.iface t (.map (some r))] = (getObj r >>= fun o => match o with
   | .map entries clock => (newObj (.map entries clock) >>= fun n => pure (.iface t (.map (some n))))
   | _ => stuck "maps.clone: a map expected") := rfl
 rw [e]
 simp [MapKept.run_getObj_map hb, Result.andThen, go_sem]
end
set_option maxHeartbeats 2000000 in
set_option maxRecDepth 100000 in
theorem clone_calls (b : Nat) (es : Array MapEntry) (clock : Nat) (w : World) (hb : w.heap[b]? = some (.map es clock)) :
  Calls Try.prog 28 #[.map (some b)] w fun e w' => e = .returned (.map (some w.heap.size)) ∧ w' = w.alloc (.map es clock) := by
 have hq := fun w => eql_map_nil (P := Try.prog) w 68 _ _ (some b) Try.underlying68
 go_enter Try.func28, Try.ntmps28
 go_wp2
 rw [run_callFunc_extern Try.func34 (by kernel_rfl) (by kernel_rfl) (by kernel_rfl) (e := Extern.MapsClone.clone) (by kernel_rfl), run_mclone w 68 hb]
 simp only [Result.andThen]
 rw [Oper.upon_value]
 go_wp2
 rw [assert_map _ 68 20 _ _ _ Try.underlying68]
 simp only [Result.andThen]
 rw [Oper.upon_value]
 go_wp2
 go_ret
 exact ⟨rfl, rfl⟩
set_option maxHeartbeats 2000000 in
set_option maxRecDepth 100000 in
theorem clone_calls_nil (w : World) : Calls Try.prog 28 #[.map none] w fun e w' => e = .returned (.map none) ∧ w' = w := by
 have hq := fun w => eql_map_nil (P := Try.prog) w 68 _ _ none Try.underlying68
 go_enter Try.func28, Try.ntmps28
 go_wp2
 go_ret
 exact ⟨rfl, rfl⟩
theorem clone_good {args : List Value} {H H' : Heap} {v : Value} (he : gclone args H = some (v, H')) : Good Try.prog 28 args H v H' := by
 intro ι w cargs h ha
 refine ⟨fun w => ?_, ?_⟩
 ·unfold callFunc
  have hprog : (program).run Try.prog w = .ok Try.prog w := rfl
  simp only [Sem.run_bind, hprog, Result.andThen_ok, Try.func28]
  rfl
 ·unfold gclone at he
  split at he
  ·simp only [Option.some.injEq, Prod.mk.injEq] at he
   obtain ⟨rfl, rfl⟩ := he
   cases cargs with
   | nil => simp [VRL] at ha
   | cons c cs =>
    simp only [VRL] at ha
    obtain ⟨h1, h2⟩ := ha
    cases cs with
    | cons _ _ => simp [VRL] at h2
    | nil =>
     simp only [VR] at h1
     subst h1
     refine (clone_calls_nil w).mono fun e w' hh => ?_
     obtain ⟨rfl, rfl⟩ := hh
     exact ⟨ι, .map none, rfl, by simp [VR], .refl h⟩
  ·rename_i b
   split at he
   ·rename_i es c hH
    simp only [Option.some.injEq, Prod.mk.injEq] at he
    obtain ⟨rfl, rfl⟩ := he
    cases cargs with
    | nil => simp [VRL] at ha
    | cons c1 cs =>
     simp only [VRL] at ha
     obtain ⟨h1, h2⟩ := ha
     cases cs with
     | cons _ _ => simp [VRL] at h2
     | nil =>
      simp only [VR] at h1
      obtain ⟨l, hl, rfl⟩ := h1
      obtain ⟨es', g1, g2⟩ := h.maps b l es c hl hH
      refine (clone_calls l.blk es' c w g1).mono fun e w' hh => ?_
      obtain ⟨rfl, rfl⟩ := hh
      refine ⟨ext ι H.size ⟨w.heap.size, 0, 0⟩, .map (some w.heap.size), rfl, ?_, Stp.fresh h _ _ _ rfl (by simp) (fun es2 k he => ?_)⟩
      ·simp only [VR]
       exact ⟨_, ext_new _ _, rfl⟩
      ·cases he
       exact ⟨es', rfl, g2.mono (ext_le h _)⟩
   ·simp at he
  ·simp at he
def sortS : List FuncId := [29, 35, 36, 41, 42, 43, 44, 45, 46, 47, 48, 49, 50, 51, 54, 55, 56, 57, 58, 59, 62]
def sortR (f : FuncId) : Bool := sortS.contains f
theorem sort_closed : (sortS.all fun f => (compileFn Try.prog f).all fun s => codeIn sortR s.body) = true := by kernel_rfl
theorem sort_acall (n : Nat) : acall (givenBook Try.prog givGL) n 29 = acall (plainBook Try.prog) n 29 := by
 refine acall_in (R := sortR) (B1 := givenBook Try.prog givGL) (B2 := plainBook Try.prog) rfl (fun f hf => ?_) n 29 rfl
 have hm : f ∈ sortS := by simpa [sortR] using hf
 refine ⟨?_, rfl, rfl, rfl, fun s hs => ?_⟩
 ·show gvL givGL f = none
  simp only [sortS, List.mem_cons, List.not_mem_nil, or_false] at hm
  rcases hm with rfl | rfl | rfl | rfl | rfl | rfl | rfl | rfl | rfl | rfl | rfl | rfl | rfl | rfl | rfl | rfl | rfl | rfl | rfl | rfl | rfl <;> rfl
 ·have h1 := List.all_eq_true.1 sort_closed f hm
  have hs' : compileFn Try.prog f = some s := hs
  rw [hs'] at h1
  exact h1
theorem uL_crl {W : Wd} (X : List Int) : CRL W (uL X) (X.map (Value.int .u32)) := by
 induction X with
 | nil => simp [uL, CRL]
 | cons a X ih =>
  simp only [uL, List.map_cons] at ih ⊢
  exact CRL.cons_iff.2 ⟨_, _, rfl, rfl, rfl, by simp [uI, CR, scOK, one], ih⟩
theorem crl_uL {W : Wd} : ∀ {X : List Int} {l : List Value}, CRL W (uL X) l → l = X.map (Value.int .u32)
 | [], l, h => by simpa [uL, CRL] using h
 | a :: X, l, h => by
  obtain ⟨u, us, rfl, _, _, h3, h4⟩ := CRL.cons_iff.1 h
  rw [crl_uL h4]
  simp only [uI, CR] at h3
  simp only [List.cons.injEq, and_true] at h3
  rw [h3.1]; rfl
theorem sort_calls {ι : Inj} {H : Heap} {w w1 : World} {v : Value} {ts : List Int} (h : Rel ι H w) (hB : Below w.heap.size w w1) (hrow : w1.ownsRow w.heap.size 22 1 v ts.length (ts.map (.int .u32))) (hnil : ts = [] → v = .slice none 0 0) (h12 : ts.length ≤ 12) :
  Calls Try.prog 29 #[v] w1 fun e w' => (∃ c, e = .returned c) ∧ ((ts = [] ∧ v = .slice none 0 0 ∧ Stp ι H w ι H w') ∨
   (ts ≠ [] ∧ ∃ ι', VR ι' (.slice (some ⟨H.size, 0, none⟩) ts.length (UNK + 1)) v ∧ Stp ι H w ι' (H.push (.cells ((sortI ts).map (.int .u32)) false)) w')) := by
 by_cases hne : ts = []
 ·obtain rfl := hnil hne
  obtain ⟨v, J', hic, rfl, rfl⟩ := RP_of (Sort_nil #[])
  obtain ⟨n, hn⟩ := ic_lim hic
  have hHR : HR ⟨fun _ => none, fun _ => none⟩ #[] H := ⟨fun b w β h => by simp at h, fun b w β cs ro h => by simp at h, fun b w β es k h => by simp at h, fun b c w v β h => by simp at h, fun β cs h => by simp at h⟩
  obtain ⟨W', c, H', k1, k2, k3⟩ := icall_ok book_ok n 29 _ #[] _ _ hn _ H [.slice none 0 0] hHR (IRL.cons_iff.2 ⟨_, _, rfl, .mk_sc rfl, IRL.nil_iff.2 rfl⟩)
  have k1' : acall (givenBook Try.prog givGL) n 29 [.slice none 0 0] H = some (c, H') := k1
  rw [sort_acall] at k1'
  have hst := Stp.below h hB
  obtain ⟨_, g2⟩ := acall_ok (plainBook_ok Try.prog) n 29 _ H c H' k1' ι w1 [.slice none 0 0] hst.rel (by simp [VRL, VR])
  refine g2.mono fun e w' hh => ?_
  obtain ⟨ι', c', rfl, _, hst'⟩ := hh
  exact ⟨⟨_, rfl⟩, .inl ⟨hne, rfl, hst.trans (Stp.forget0 hst.rel hst' fun b hb => k2.frG b hb fun b w hb => by simp at hb)⟩⟩
 ·rcases hrow.2 with ⟨_, h0⟩ | ⟨g, cap, cur, rfl, hge, hg, hnc, hcm, hcs, htake⟩
  ·exact absurd (List.eq_nil_of_length_eq_zero h0) hne
  have hcl : (ts.map (Value.int .u32)).length ≤ cur.size := by rw [← htake, List.length_take, Array.length_toList]; exact Nat.min_le_right _ _
  have hst := Stp.row h hB hg hge (ts.map (Value.int .u32)) hcl (fun i v hv => by
   rw [← htake, List.getElem?_take] at hv
   split at hv
   ·refine ⟨?_, v, by rw [← Array.getElem?_toList]; exact hv, ?_⟩
    ·have : v ∈ ts.map (Value.int .u32) := by
      rw [← htake]
      exact List.mem_of_getElem? (by rw [List.getElem?_take, if_pos (by assumption)]; exact hv)
     obtain ⟨t, _, rfl⟩ := List.mem_map.1 this; rfl
    ·have : v ∈ ts.map (Value.int .u32) := by
      rw [← htake]
      exact List.mem_of_getElem? (by rw [List.getElem?_take, if_pos (by assumption)]; exact hv)
     obtain ⟨t, _, rfl⟩ := List.mem_map.1 this; simp [VR]
   ·cases hv)
  obtain ⟨v, J', hic, rfl, Y, hY1, hY2, rfl⟩ := RP_of (Sort_ok ts 0 (UNK + 1) h12 #[.cells 0 (uL ts) false] rfl)
  obtain rfl := sortI_eq hY1 hY2
  obtain ⟨n, hn⟩ := ic_lim hic
  have hH2 : (H.push (.cells (ts.map (Value.int .u32)) false))[H.size]? = some (.cells (ts.map (Value.int .u32)) false) := by simp
  have hHR : HR ⟨fun x => if x = 0 then some (0, H.size) else none, fun _ => none⟩ #[.cells 0 (uL ts) false] (H.push (.cells (ts.map (Value.int .u32)) false)) := by
   refine ⟨fun b w β h => ?_, fun b w β cs ro h hc => ?_, fun b w β es k h hc => ?_, fun b c w v β h h' => ?_, fun β cs h => by simp at h⟩
   ·simp only at h; split at h
    ·rename_i e; subst e; simp at h; obtain ⟨rfl, rfl⟩ := h; exact .inl ⟨_, _, rfl⟩
    ·cases h
   ·simp only at h; split at h
    ·rename_i e; subst e; simp at h; obtain ⟨rfl, rfl⟩ := h
     simp at hc; obtain ⟨rfl, rfl⟩ := hc
     exact ⟨_, _, hH2, uL_crl ts, fun _ => ⟨rfl, rfl⟩, fun h => by cases h⟩
    ·cases h
   ·simp only at h; split at h
    ·rename_i e; subst e; simp at hc
    ·cases h
   ·simp only at h h'; split at h
    ·split at h'
     ·omega
     ·cases h'
    ·cases h
  obtain ⟨W', c, H', k1, k2, k3⟩ := icall_ok book_ok n 29 _ _ _ _ hn _ _ [.slice (some ⟨H.size, 0, none⟩) ts.length (UNK + 1)] hHR (IRL.cons_iff.2 ⟨_, _, rfl, by simp only [IR, CR]; exact ⟨0, H.size, H.size, rfl, Nat.le_refl _, rfl, by decide, .inr trivial, fun _ => rfl⟩, IRL.nil_iff.2 rfl⟩)
  have k1' : acall (givenBook Try.prog givGL) n 29 [.slice (some ⟨H.size, 0, none⟩) ts.length (UNK + 1)] (H.push (.cells (ts.map (Value.int .u32)) false)) = some (c, H') := k1
  rw [sort_acall] at k1'
  have hVR : VR (ext ι H.size ⟨g, 0, cur.size⟩) (.slice (some ⟨H.size, 0, none⟩) ts.length (UNK + 1)) (.slice (some ⟨g, 0, none⟩) ts.length cap) := by
   simp only [VR]
   refine ⟨_, ext_new _ _, trivial, .inr (.inl ⟨1, cap, rfl, hnc, by unfold maxLen at hcm; omega, by simp only; omega, rfl⟩)⟩
  obtain ⟨_, g2⟩ := acall_ok (plainBook_ok Try.prog) n 29 _ _ c H' k1' _ w1 [.slice (some ⟨g, 0, none⟩) ts.length cap] hst.rel (by simp only [VRL, and_true]; exact hVR)
  refine g2.mono fun e w' hh => ?_
  obtain ⟨ι', c', rfl, _, hst'⟩ := hh
  obtain ⟨w2, β2, m1, m2⟩ := k2.le.M 0 0 H.size rfl
  have hJ0 : (#[IB.cells 0 (uL ts) false].setIfInBounds 0 (.cells 0 (uL (sortI ts)) false))[0]? = some (.cells 0 (uL (sortI ts)) false) := rfl
  obtain ⟨cs, ro, hd⟩ : ∃ cs ro, (#[IB.cells 0 (uL ts) false].setIfInBounds 0 (.cells 0 (uL (sortI ts)) false))[0]? = some (.cells w2 cs ro) := by
   rcases k2.hr.dom 0 w2 β2 m1 with h | ⟨_, es, k, h⟩
   ·exact h
   ·rw [hJ0] at h; cases h
  rw [hJ0] at hd
  simp only [Option.some.injEq, IB.cells.injEq] at hd
  obtain ⟨rfl, rfl, rfl⟩ := hd
  obtain ⟨_, rfl⟩ : 0 = 0 ∧ β2 = H.size := by
   rcases m2 with ⟨_, h⟩ | h
   ·exact ⟨rfl, h⟩
   ·omega
  obtain ⟨cs', r, hcs', hcr, hr, _⟩ := k2.hr.cells 0 0 H.size _ _ m1 hJ0
  obtain rfl := crl_uL hcr
  obtain ⟨rfl, _⟩ := hr rfl
  refine ⟨⟨_, rfl⟩, .inr ⟨hne, _, hVR, ?_⟩⟩
  have hf := Stp.forget hst.rel hst' hH2 hcs' (by
   generalize sortI ts = l
   induction l with
   | nil => rfl
   | cons a l ih => simp [noRefL, noRef, ih]) (fun b hb hbne => k2.frG b hb fun x w hx => by
    simp only at hx; split at hx
    ·simp at hx; exact absurd hx.2.symm hbne
    ·cases hx)
  have e : (H.push (.cells (ts.map (Value.int .u32)) false)).setIfInBounds H.size (.cells ((sortI ts).map (Value.int .u32)) false) = H.push (.cells ((sortI ts).map (Value.int .u32)) false) := by
   apply Array.ext_getElem?
   intro i
   rw [Array.getElem?_setIfInBounds, Array.getElem?_push, Array.getElem?_push]
   by_cases hi : i = H.size
   ·subst hi; simp
   ·simp [Ne.symm hi, hi]
  rw [e] at hf
  exact hst.trans hf
theorem slotB_V {v : Value} (h : slotB v = true) : slotV v := by
 unfold slotB at h
 split at h
 ·exact ⟨_, _, rfl⟩
 ·cases h
theorem ER.kb {ι : Inj} : ∀ {a : List Ent} {b : List MapEntry}, ER ι a b → b.map (·.key) = a.map (·.key) ∧ b.map (·.born) = a.map (·.born)
 | [], [], _ => ⟨rfl, rfl⟩
 | [], _ :: _, h => by simp [ER] at h
 | _ :: _, [], h => by simp [ER] at h
 | a :: x, b :: y, h => by
  simp only [ER] at h
  obtain ⟨h1, h2⟩ := ER.kb h.2.2.2.2
  simp only [List.map_cons, h1, h2, h.2.1, h.2.2.2.1, and_self]
set_option maxHeartbeats 2000000 in
set_option maxRecDepth 100000 in
theorem held_calls_nil (p : Value) (w : World) : Calls Try.prog 17 #[.pointer none, p] w fun e w' => e = .returned (.slice none 0 0) ∧ w' = w := by
 go_enter Try.func17, Try.ntmps17
 go_wp2
 go_ret
 exact ⟨rfl, rfl⟩
theorem held_good {args : List Value} {H H' : Heap} {v : Value} (he : gheld args H = some (v, H')) : Good Try.prog 17 args H v H' := by
 intro ι w cargs h ha
 refine ⟨fun w => ?_, ?_⟩
 ·unfold callFunc
  have hprog : (program).run Try.prog w = .ok Try.prog w := rfl
  simp only [Sem.run_bind, hprog, Result.andThen_ok, Try.func17]
  rfl
 ·unfold gheld at he
  split at he
  ·simp only [Option.some.injEq, Prod.mk.injEq] at he
   obtain ⟨rfl, rfl⟩ := he
   cases cargs with
   | nil => simp [VRL] at ha
   | cons c cs =>
    simp only [VRL] at ha
    obtain ⟨h1, h2⟩ := ha
    cases cs with
    | nil => simp [VRL] at h2
    | cons c2 cs =>
     simp only [VRL] at h2
     cases cs with
     | cons _ _ => simp [VRL] at h2
     | nil =>
      simp only [VR] at h1
      subst h1
      refine (held_calls_nil c2 w).mono fun e w' hh => ?_
      obtain ⟨rfl, rfl⟩ := hh
      exact ⟨ι, .slice none 0 0, rfl, by simp [VR], .refl h⟩
  ·rename_i p o pl
   split at he
   ·rename_i b hrd
    split at he
    ·rename_i es c hH
     split at he
     ·rename_i hok
      cases cargs with
      | nil => simp [VRL] at ha
      | cons c1 cs =>
       simp only [VRL] at ha
       obtain ⟨h1, h2⟩ := ha
       cases cs with
       | nil => simp [VRL] at h2
       | cons c2 cs =>
        simp only [VRL] at h2
        cases cs with
        | cons _ _ => simp [VRL] at h2
        | nil =>
         simp only [VR] at h1 h2
         obtain ⟨l, hl, _, rfl⟩ := h1
         obtain ⟨rfl, _⟩ := h2
         simp only [rd] at hrd
         split at hrd
         ·rename_i cs ro hHp
          split at hrd
          ·rename_i hle
           have hcs : cs[o + 4]? = some (.map (some b)) := by
            have := congrArg (·[0]?) (Option.some.inj hrd)
            simpa [List.getElem?_take, List.getElem?_drop] using this
           obtain ⟨_, cc, hcell, hcc⟩ := h.cells p l cs ro hl hHp (o + 4) _ hcs
           simp only [VR] at hcc
           obtain ⟨m, hm, rfl⟩ := hcc
           obtain ⟨es', g1, g2⟩ := h.maps b m es c hm hH
           obtain ⟨k1, k2⟩ := g2.kb
           simp only [heldOK, Bool.and_eq_true, decide_eq_true_eq] at hok
           obtain ⟨⟨⟨⟨o1, o2⟩, o3⟩, o4⟩, o5⟩ := hok
           rw [← k1] at o1 o4 o5 he
           rw [← k2] at o2 o3
           rw [List.length_map, Array.length_toList] at o4
           refine (held_walk w l.blk (l.δ + o) pl m.blk es' c (fun v w' => ∃ ts : List Int, ts.Perm (heldK pl (es'.toList.map (·.key))) ∧ ((ts = [] ∧ v = .slice none 0 0 ∧ Stp ι H w ι H w') ∨
            (ts ≠ [] ∧ ∃ ι', VR ι' (.slice (some ⟨H.size, 0, none⟩) ts.length (UNK + 1)) v ∧ Stp ι H w ι' (H.push (.cells ((sortI ts).map (.int .u32)) false)) w'))) (by rw [Nat.add_assoc]; exact hcell) g1 ?_ o2 ?_ o4 ?_).mono ?_
           ·intro x hx
            have := List.all_eq_true.1 o3 x.born (List.mem_map_of_mem hx)
            simpa using this
           ·intro x hx
            exact slotB_V (List.all_eq_true.1 o1 x.key (List.mem_map_of_mem hx))
           ·intro w1 v ts hP hrow hn hB
            exact (sort_calls h hB hrow hn (by rw [hP.length_eq]; exact o5)).mono fun e w' hh => ⟨hh.1, ts, hP, hh.2⟩
           ·rintro e w' ⟨v', rfl, ts, hP, hh⟩
            have hs : sortI ts = sortI (heldK pl (es'.toList.map (·.key))) := sortI_eq ((List.mergeSort_perm ts _).trans hP) (by
             have := List.pairwise_mergeSort (le := fun a b : Int => decide (a ≤ b)) (fun a b c h1 h2 => by simp at *; omega) (fun a b => by simp; omega) ts
             simpa [sortI] using this)
            split at he
            ·rename_i hnil
             rw [hnil] at hP
             obtain rfl := List.perm_nil.1 hP
             simp only [Option.some.injEq, Prod.mk.injEq] at he
             obtain ⟨rfl, rfl⟩ := he
             rcases hh with ⟨_, rfl, hst⟩ | ⟨hne, _⟩
             ·exact ⟨ι, _, rfl, by simp [VR], hst⟩
             ·exact absurd rfl hne
            ·rename_i hnil
             simp only [Option.some.injEq, Prod.mk.injEq] at he
             obtain ⟨rfl, rfl⟩ := he
             rcases hh with ⟨rfl, _⟩ | ⟨hne, ι', hv, hst⟩
             ·exact absurd (List.perm_nil.1 hP.symm) hnil
             ·rw [hs] at hst
              rw [hP.length_eq] at hv
              exact ⟨ι', _, rfl, hv, hst⟩
          ·cases hrd
         ·cases hrd
     ·cases he
    ·cases he
   ·cases he
  ·cases he
theorem giv_good : ∀ f g, gvL givGL f = some g → ∀ args H v H', g args H = some (v, H') → Good Try.prog f args H v H' := by
 intro f g hg args H v H' he
 simp only [givGL, gvL] at hg
 split at hg
 ·rename_i h; subst h; cases hg; exact clone_good he
 ·split at hg
  ·rename_i h; subst h; cases hg; exact held_good he
  ·cases hg
theorem bookG_ok : BookOK (givenBook Try.prog givGL) := givenBook_ok giv_good
end Go.Proofs.Ytmlhdkamogjbbaa.G
