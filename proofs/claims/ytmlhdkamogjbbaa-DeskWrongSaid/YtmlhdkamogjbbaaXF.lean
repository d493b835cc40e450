/- Joined: GC1 to KD7. -/
import Derived.Test.YtmlhdkamogjbbaaXE
import Derived.Below
import Derived.KernelRfl
set_option linter.unusedVariables false
set_option linter.unusedSimpArgs false
set_option maxRecDepth 20000
set_option maxHeartbeats 2000000
namespace Go.Proofs.Ytmlhdkamogjbbaa.G
open Go
def opIn (R : FuncId → Bool) : SOp → Bool
 | .call f _ => R f
 | .callv _ _ => false
 | _ => true
def codeIn (R : FuncId → Bool) : SC → Bool
 | .reg l => l.all fun i => opIn R i.op
 | .drw l => l.all fun i => opIn R i.op
 | .seq a b => codeIn R a && codeIn R b
 | .cond _ a b => codeIn R a && codeIn R b
 | .blk _ b => codeIn R b
 | .loop b => codeIn R b
 | _ => true
section
variable {R : FuncId → Bool} {P : Program} {c1 c2 : FuncId → List Value → M Value} (h : ∀ f, R f = true → c1 f = c2 f)
include h
theorem exec_in (e : Env) (o : SOp) (ho : opIn R o = true) : exec ⟨P, c1⟩ e o = exec ⟨P, c2⟩ e o := by
 cases o <;> first | rfl | (simp only [opIn] at ho; simp only [exec, h _ ho]) | (simp [opIn] at ho)
theorem stepI_in (e : Env) (i : SI) (ho : opIn R i.op = true) : stepI ⟨P, c1⟩ e i = stepI ⟨P, c2⟩ e i := by
 funext H; simp only [stepI, exec_in h e i.op ho]
theorem runL_in : ∀ (l : List SI) (e : Env), (l.all fun i => opIn R i.op) = true → runL ⟨P, c1⟩ l e = runL ⟨P, c2⟩ l e
 | [], e, _ => rfl
 | i :: r, e, hl => by
  simp only [List.all_cons, Bool.and_eq_true] at hl
  funext H
  simp only [runL, stepI_in h e i hl.1]
  cases stepI ⟨P, c2⟩ e i H with
  | none => rfl
  | some p => simp only [runL_in r p.1 hl.2]
theorem runD_in : ∀ (l : List SI) (ls : List Look) (e : Env), (l.all fun i => opIn R i.op) = true → runD ⟨P, c1⟩ l ls e = runD ⟨P, c2⟩ l ls e
 | [], ls, e, _ => rfl
 | i :: r, ls, e, hl => by
  simp only [List.all_cons, Bool.and_eq_true] at hl
  funext H
  simp only [runD, stepI_in h e i hl.1]
  cases stepI ⟨P, c2⟩ e i H with
  | none => rfl
  | some p => simp only [runD_in r _ p.1 hl.2]
theorem codeRun_in (n : Nat) : ∀ (c : SC) (e : Env), codeIn R c = true → run ⟨P, c1⟩ n c e = run ⟨P, c2⟩ n c e
 | .skip, e, _ | .exit _, e, _ | .ret, e, _ => rfl
 | .reg l, e, hc => by funext H; simp only [run, runL_in h l e hc]
 | .drw l, e, hc => by funext H; simp only [run, runD_in h l [] e hc]
 | .seq a b, e, hc => by
  simp only [codeIn, Bool.and_eq_true] at hc
  funext H
  simp only [run, codeRun_in n a e hc.1]
  have hb : run ⟨P, c1⟩ n b = run ⟨P, c2⟩ n b := funext fun e => codeRun_in n b e hc.2
  rw [hb]
 | .cond c a b, e, hc => by
  simp only [codeIn, Bool.and_eq_true] at hc
  funext H
  simp only [run, codeRun_in n a e hc.1, codeRun_in n b e hc.2]
 | .blk id b, e, hc => by funext H; simp only [run, codeRun_in n b e hc]
 | .loop b, e, hc => by
  have hb : run ⟨P, c1⟩ n b = run ⟨P, c2⟩ n b := funext fun e => codeRun_in n b e hc
  simp only [run, hb]
theorem runFn_in (n : Nat) (s : SFn) (args : List Value) (hs : codeIn R s.body = true) : runFn ⟨P, c1⟩ n s args = runFn ⟨P, c2⟩ n s args := by
 funext H; simp only [runFn, codeRun_in h n s.body _ hs]
end
theorem acall_in {R : FuncId → Bool} {B1 B2 : Book} (hP : B1.P = B2.P) (h : ∀ f, R f = true → B1.given f = none ∧ B2.given f = none ∧ B1.fn f = B2.fn f ∧ B1.mode f = B2.mode f ∧ ∀ s, B2.fn f = some s → codeIn R s.body = true) :
  ∀ n f, R f = true → acall B1 n f = acall B2 n f
 | 0, f, _ => rfl
 | n + 1, f, hf => by
  obtain ⟨h1, h2, h3, h4, h5⟩ := h f hf
  have ih : ∀ f, R f = true → acall B1 n f = acall B2 n f := fun f hf => acall_in hP h n f hf
  funext args H
  simp only [acall, h1, h2, h3, h4, hP]
  cases hs : B2.fn f with
  | none => rfl
  | some s => simp only [runFn_in ih n s args (h5 s hs)]
end Go.Proofs.Ytmlhdkamogjbbaa.G
namespace Go.Proofs.Ytmlhdkamogjbbaa.G
open Go Go.RowKit
section
variable {P : Program} {ι : Inj} {H : Heap} {w : World}
theorem Stp.row {w1 : World} (h : Rel ι H w) (hB : Below w.heap.size w w1) {g : Nat} {C : Array Value} {t : TypeId} (hg : w1.heap[g]? = some (.cells C t (0, 0))) (hge : w.heap.size ≤ g) (cs : List Value) (hl : cs.length ≤ C.size)
  (hc : ∀ (i : Nat) v, cs[i]? = some v → one v = true ∧ ∃ c, C[i]? = some c ∧ VR ι v c) :
  Stp ι H w (ext ι H.size ⟨g, 0, C.size⟩) (H.push (.cells cs false)) w1 := by
 have hle := ext_le h ⟨g, 0, C.size⟩
 have hglt : g < w1.heap.size := (Array.getElem?_eq_some_iff.1 hg).1
 have hcase : ∀ b m, ext ι H.size ⟨g, 0, C.size⟩ b = some m → (b = H.size ∧ m = ⟨g, 0, C.size⟩) ∨ (b ≠ H.size ∧ ι b = some m ∧ b < H.size ∧ m.blk < w.heap.size) := by
  intro b m hb
  simp only [ext] at hb
  split at hb
  ·rename_i e; exact .inl ⟨e, by simpa using hb.symm⟩
  ·rename_i e; exact .inr ⟨e, hb, h.dom b m hb, h.bound b m hb⟩
 have hpo : ∀ b, b < H.size → (H.push (.cells cs false))[b]? = H[b]? := fun b hb => by rw [Array.getElem?_push, if_neg (by omega)]
 have hpn : (H.push (.cells cs false))[H.size]? = some (.cells cs false) := by simp
 refine ⟨⟨?_, ?_, ?_, ?_, ?_, ?_⟩, hle, ?_, by simp, hB.size, ?_, ?_, ?_, hB.os, hB.tape, hB.output⟩
 ·intro b m hb
  rcases hcase b m hb with ⟨rfl, rfl⟩ | ⟨_, _, hlt, _⟩ <;> simp; omega
 ·intro b m hb
  have := hB.size
  rcases hcase b m hb with ⟨rfl, rfl⟩ | ⟨_, _, _, hlt⟩
  ·exact hglt
  ·omega
 ·intro b m ds ro hb hH
  rcases hcase b m hb with ⟨rfl, rfl⟩ | ⟨_, hb', hlt, hblt⟩
  ·rw [hpn] at hH
   simp only [Option.some.injEq, Blk.cells.injEq] at hH
   obtain ⟨rfl, rfl⟩ := hH
   intro i v hv
   obtain ⟨h5, c, h6, h7⟩ := hc i v hv
   exact ⟨h5, c, by rw [Nat.zero_add, cell_of_row _ _ _ _ _ _ hg]; exact h6, h7.mono hle⟩
  ·rw [hpo b hlt] at hH
   have h2 := h.cells b m ds ro hb' hH
   intro i v hv
   obtain ⟨h3, c, h4, h5⟩ := h2 i v hv
   exact ⟨h3, c, by rw [cell_other (hB.block _ hblt)]; exact h4, h5.mono hle⟩
 ·intro b m ds hb hH
  rcases hcase b m hb with ⟨rfl, rfl⟩ | ⟨_, hb', hlt, hblt⟩
  ·rw [hpn] at hH
   simp only [Option.some.injEq, Blk.cells.injEq] at hH
   obtain ⟨rfl, _⟩ := hH
   exact ⟨C, t, (0, 0), hg, rfl, by simpa using hl, .inl rfl⟩
  ·rw [hpo b hlt] at hH
   obtain ⟨C, t, fr, h1, h2⟩ := h.rw b m ds hb' hH
   exact ⟨C, t, fr, by rw [hB.block _ hblt]; exact h1, h2⟩
 ·intro b m es k hb hH
  rcases hcase b m hb with ⟨rfl, rfl⟩ | ⟨_, hb', hlt, hblt⟩
  ·rw [hpn] at hH; simp at hH
  ·rw [hpo b hlt] at hH
   obtain ⟨es', h1, h2⟩ := h.maps b m es k hb' hH
   exact ⟨es', by rw [hB.block _ hblt]; exact h1, h2.mono hle⟩
 ·intro b c l m hb hc' hbc hne ho
  rcases hcase b l hb with ⟨rfl, rfl⟩ | ⟨_, hb', hlt, hblt⟩
  ·rcases hcase c m hc' with ⟨rfl, rfl⟩ | ⟨_, hc2, hclt, hcblt⟩
   ·exact absurd rfl hne
   ·simp only at hbc; omega
  ·rcases hcase c m hc' with ⟨rfl, rfl⟩ | ⟨_, hc2, hclt, hcblt⟩
   ·simp only at hbc; omega
   ·rw [hpo c hclt]
    refine h.inj b c l m hb' hc2 hbc hne ?_
    unfold own at ho ⊢
    rwa [hpo b hlt] at ho
 ·intro b hb
  simp only [ext]; rw [if_neg (by omega)]
 ·intro b hb _
  exact hpo b hb
 ·intro k hk _
  exact hB.block k hk
 ·intro b l hb ho
  rcases hcase b l hb with ⟨rfl, rfl⟩ | ⟨_, hb', hlt, hblt⟩
  ·exact .inl hge
  ·refine .inr ⟨b, l, hb', ?_, rfl⟩
   unfold own at ho ⊢
   rwa [hpo b hlt] at ho
theorem Stp.below {w1 : World} (h : Rel ι H w) (hB : Below w.heap.size w w1) : Stp ι H w ι H w1 := by
 refine ⟨⟨h.dom, fun b l hb => Nat.lt_of_lt_of_le (h.bound b l hb) hB.size, ?_, ?_, ?_, h.inj⟩, .refl _, fun _ _ => rfl, Nat.le_refl _, hB.size, fun _ _ _ => rfl, fun k hk _ => hB.block k hk, fun b l hb ho => .inr ⟨b, l, hb, ho, rfl⟩, hB.os, hB.tape, hB.output⟩
 ·intro b l cs ro hb hH i v hv
  obtain ⟨h3, c, h4, h5⟩ := h.cells b l cs ro hb hH i v hv
  exact ⟨h3, c, by rw [cell_other (hB.block _ (h.bound b l hb))]; exact h4, h5⟩
 ·intro b l cs hb hH
  obtain ⟨C, t, fr, h1, h2⟩ := h.rw b l cs hb hH
  exact ⟨C, t, fr, by rw [hB.block _ (h.bound b l hb)]; exact h1, h2⟩
 ·intro b l es k hb hH
  obtain ⟨es', h1, h2⟩ := h.maps b l es k hb hH
  exact ⟨es', by rw [hB.block _ (h.bound b l hb)]; exact h1, h2⟩
theorem Stp.forget0 {ι' : Inj} {H' : Heap} {w' : World} (h : Rel ι H w) (hst : Stp ι H w ι' H' w') (hsame : ∀ b, b < H.size → H'[b]? = H[b]?) : Stp ι H w ι H w' := by
 refine ⟨⟨h.dom, ?_, ?_, ?_, ?_, h.inj⟩, .refl _, fun _ _ => rfl, Nat.le_refl _, hst.wsize, fun _ _ _ => rfl, hst.keep, fun b l hb ho => .inr ⟨b, l, hb, ho, rfl⟩, hst.os, hst.tape, hst.output⟩
 ·intro b l hb; exact Nat.lt_of_lt_of_le (h.bound b l hb) hst.wsize
 ·intro b l cs ro hb hc
  intro i u hu
  obtain ⟨h1, cu, h2, h3⟩ := hst.rel.cells b l cs ro (hst.le b l hb) (by rw [hsame b (h.dom b l hb)]; exact hc) i u hu
  obtain ⟨_, c0, _, h4⟩ := h.cells b l cs ro hb hc i u hu
  exact ⟨h1, cu, h2, VR_back hst.le u c0 cu h4 h3⟩
 ·intro b l cs hb hc
  exact hst.rel.rw b l cs (hst.le b l hb) (by rw [hsame b (h.dom b l hb)]; exact hc)
 ·intro b l es k hb hc
  obtain ⟨es', h1, h2⟩ := hst.rel.maps b l es k (hst.le b l hb) (by rw [hsame b (h.dom b l hb)]; exact hc)
  obtain ⟨es0, _, h4⟩ := h.maps b l es k hb hc
  exact ⟨es', h1, ER_back hst.le es _ _ h4 h2⟩
theorem Stp.forget {ι' : Inj} {H' : Heap} {w' : World} (h : Rel ι H w) (hst : Stp ι H w ι' H' w') {j : Nat} {xs ys : List Value} (hj : H[j]? = some (.cells xs false)) (hj' : H'[j]? = some (.cells ys false)) (hys : noRefL ys = true)
  (hsame : ∀ b, b < H.size → b ≠ j → H'[b]? = H[b]?) : Stp ι H w ι (H.setIfInBounds j (.cells ys false)) w' := by
 have hjl : j < H.size := (Array.getElem?_eq_some_iff.1 hj).1
 have hset : ∀ b, b < H.size → (H.setIfInBounds j (.cells ys false))[b]? = H'[b]? := fun b hb => by
  by_cases e : b = j
  ·subst e; rw [hj', Array.getElem?_setIfInBounds, if_pos rfl, if_pos hb]
  ·rw [hsame b hb e, Array.getElem?_setIfInBounds, if_neg (Ne.symm e)]
 have hown : ∀ b, own (H.setIfInBounds j (.cells ys false)) b → own H b := fun b ho => own_set hj ho
 refine ⟨⟨fun b l hb => by simpa using h.dom b l hb, ?_, ?_, ?_, ?_, ?_⟩, .refl _, fun _ _ => rfl, by simp, hst.wsize, ?_, hst.keep, fun b l hb ho => .inr ⟨b, l, hb, hown b ho, rfl⟩, hst.os, hst.tape, hst.output⟩
 ·intro b l hb; exact Nat.lt_of_lt_of_le (h.bound b l hb) hst.wsize
 ·intro b l cs ro hb hc i u hu
  have hblt := h.dom b l hb
  rw [hset b hblt] at hc
  obtain ⟨h1, cu, h2, h3⟩ := hst.rel.cells b l cs ro (hst.le b l hb) hc i u hu
  by_cases e : b = j
  ·subst e
   rw [hj'] at hc
   simp only [Option.some.injEq, Blk.cells.injEq] at hc
   obtain ⟨rfl, rfl⟩ := hc
   have hn : noRef u = true := by
    have : ∀ (l : List Value), noRefL l = true → ∀ (i : Nat) v, l[i]? = some v → noRef v = true := by
     intro l
     induction l with
     | nil => intro _ i v hv; simp at hv
     | cons a l ih =>
      intro hl i v hv
      simp only [noRefL, Bool.and_eq_true] at hl
      cases i with
      | zero => simp at hv; subst hv; exact hl.1
      | succ i => exact ih hl.2 i v (by simpa using hv)
    exact this _ hys i u hu
   exact ⟨h1, cu, h2, VR_noRef u cu hn h3⟩
  ·rw [hsame b hblt e] at hc
   obtain ⟨_, c0, _, h4⟩ := h.cells b l cs ro hb hc i u hu
   exact ⟨h1, cu, h2, VR_back hst.le u c0 cu h4 h3⟩
 ·intro b l cs hb hc
  rw [hset b (h.dom b l hb)] at hc
  exact hst.rel.rw b l cs (hst.le b l hb) hc
 ·intro b l es k hb hc
  have hblt := h.dom b l hb
  rw [hset b hblt] at hc
  obtain ⟨es', h1, h2⟩ := hst.rel.maps b l es k (hst.le b l hb) hc
  have e : b ≠ j := fun e => by subst e; rw [hj'] at hc; simp at hc
  rw [hsame b hblt e] at hc
  obtain ⟨es0, _, h4⟩ := h.maps b l es k hb hc
  exact ⟨es', h1, ER_back hst.le es _ _ h4 h2⟩
 ·intro b c l m hb hc hbc hne ho
  have hd := h.inj b c l m hb hc hbc hne (hown b ho)
  by_cases e : c = j
  ·subst e; rw [hj] at hd; simp at hd
  ·rw [Array.getElem?_setIfInBounds, if_neg (Ne.symm e)]; exact hd
 ·intro b hb hn
  by_cases e : b = j
  ·subst e
   have h2 := hst.unm b hb hn
   rw [hset b hb, h2]
  ·rw [Array.getElem?_setIfInBounds, if_neg (Ne.symm e)]
end
end Go.Proofs.Ytmlhdkamogjbbaa.G
namespace Go.Proofs.Ytmlhdkamogjbbaa.G
open Go
theorem evI_int {ρ : List IV} {k : IntKind} {n : Int} : evI ρ (.const (.int k n)) = .int k n := rfl
theorem evI_bool {ρ : List IV} {b : Bool} : evI ρ (.const (.bool b)) = .bool b := rfl
theorem evI_nilsl {ρ : List IV} : evI ρ (.const (.slice none 0 0)) = .sc (.slice none 0 0) := rfl
theorem evI_nilp {ρ : List IV} : evI ρ (.const (.pointer none)) = .sc (.pointer none) := rfl
theorem BI_zc (t : TypeId) : BI.zc t = zcT t := rfl
theorem BI_zv (t : TypeId) : BI.zv t = zvT t := rfl
theorem BI_co (t : TypeId) : BI.co t = coT t := rfl
theorem dcp {f : FuncId} {args : List IV} {u : IV} {J : JH} (hp : pc BI f args = some u) (h : ipureL args = true) : doCall (ic BI) .pure f args J = some (u, J) := doCall_pure h hp
theorem agg_pure {cs : List IV} : ipure (.agg cs) = ipureL cs := by simp only [ipure]
theorem ic_run {f : FuncId} {l : LFn} {args : List IV} {vs : List IV} {J J' : JH} (hf : BI.fn f = some l) (hl : args.length = l.np) (h : dn BI l.body args J = some (.ret vs, J')) : ic BI f args J = some (itup vs, J') := ic_intro (gv_none hf) hf hl h
theorem frzP {J : JH} {v : IV} (h : ipure v = true) : frz J DEP v = some v := frz_pure J DEP h
theorem isplice_cons (a : IV) (cs : List IV) (off : Nat) (vs : List IV) : isplice (a :: cs) off vs = (a :: cs).take off ++ vs ++ (a :: cs).drop (off + vs.length) := rfl
theorem isplice_set {cs : List IV} {i : Nat} {v : IV} (h : i < cs.length) : isplice cs i [v] = cs.set i v := by
 unfold isplice
 rw [List.set_eq_take_append_cons_drop, if_pos h]
 simp
theorem wrap_i64 {x : Int} (h0 : -9223372036854775808 ≤ x) (h1 : x ≤ 9223372036854775807) : IntKind.i64.wrap x = x := by
 simp only [IntKind.wrap, IntKind.bits, IntKind.signed, if_true]
 simp
 omega
theorem wrap_u32 {x : Int} (h0 : 0 ≤ x) (h1 : x < 4294967296) : IntKind.u32.wrap x = x := by
 simp only [IntKind.wrap, IntKind.bits, IntKind.signed]
 simp
 omega
theorem UNK_pos : (0 < UNK) = True := by simp [UNK]
theorem one_lt_UNK : (1 < UNK) = True := by simp [UNK]
theorem lt_UNK {n : Nat} (h : n ≤ 1000000) : (n < UNK) = True := by simp [UNK]; omega
theorem not_UNK_le {n : Nat} (h : n ≤ 1000000) : (UNK ≤ n) = False := by simp [UNK]; omega
theorem frz12 : DEP = 11 + 1 := rfl
theorem frz_sl {J : JH} {k b v off n cap sz : Nat} {cs : List IV} (hsz : 0 < sz) (h : ird J b v off (n * sz) = some cs) (hp : ipureL cs = true) (ho : cs.all ione = true) : frz J (k + 1) (.sl b v off n cap sz) = some (.lst sz (n == cap && decide (cap < UNK)) (grp sz n cs)) := by
 simp only [frz, ipure, Bool.false_eq_true, if_false]
 rw [if_neg (by omega), h]
 simp only [frzL_pure J k hp, ho, if_true]
theorem shows_sl {J : JH} {k b v off n cap sz : Nat} {cs : List IV} (h : ird J b v off (n * sz) = some cs) (hp : ipureL cs = true) : shows J (k + 1) (.sl b v off n cap sz) = [b] := by
 simp only [shows, ipure, Bool.false_eq_true, if_false, h, showsL_pure J k hp]
def WP (r : Option (Out IV × JH)) (P : Out IV → JH → Prop) : Prop := match r with | some (o, J) => P o J | none => False
def RP (r : Option (IV × JH)) (P : IV → JH → Prop) : Prop := match r with | some (v, J) => P v J | none => False
def byOut (G : Nat → List IV → JH → Prop) (R : List IV → JH → Prop) (o : Out IV) (J : JH) : Prop := match o with | .goto j vs => G j vs J | .ret vs => R vs J
theorem byOut_goto {G R j vs J} : byOut G R (.goto j vs) J = G j vs J := rfl
theorem byOut_ret {G R vs J} : byOut G R (.ret vs) J = R vs J := rfl
theorem WP_some {o : Out IV} {J : JH} {P} : WP (some (o, J)) P = P o J := rfl
theorem RP_some {v : IV} {J : JH} {P} : RP (some (v, J)) P = P v J := rfl
theorem WP_ite {c : Prop} [Decidable c] {a b : Option (Out IV × JH)} {P} : WP (if c then a else b) P = if c then WP a P else WP b P := by split <;> rfl
theorem WP_of {r : Option (Out IV × JH)} {P} (h : WP r P) : ∃ o J, r = some (o, J) ∧ P o J := by
 cases r with
 | none => exact h.elim
 | some q => exact ⟨q.1, q.2, rfl, h⟩
theorem RP_of {r : Option (IV × JH)} {P} (h : RP r P) : ∃ v J, r = some (v, J) ∧ P v J := by
 cases r with
 | none => exact h.elim
 | some q => exact ⟨q.1, q.2, rfl, h⟩
theorem RP_mono {r : Option (IV × JH)} {P Q : IV → JH → Prop} (h : RP r P) (hq : ∀ o J, P o J → Q o J) : RP r Q := by
 cases r with
 | none => exact h.elim
 | some q => exact hq _ _ h
noncomputable def thenD (r : Option (IV × JH)) (k : L) (ρ : List IV) : Option (Out IV × JH) := thenI r fun v J' => dn BI k (ρ ++ [v]) J'
noncomputable def onJoinD (l : Nat) (r : Option (Out IV × JH)) (b : L) : Option (Out IV × JH) := onJoin l r fun vs J => dn BI b vs J
noncomputable def onIfD (v : IV) (a b : L) (ρ : List IV) (J : JH) : Option (Out IV × JH) := onIf v (dn BI a ρ J) (dn BI b ρ J)
section
variable {ρ : List IV} {J : JH} {p : SOp} {k : L} {md : Md}
theorem dnW_o : dn BI (o p k) ρ J = thenD (iexec BI (ic BI) .raw ρ p J) k ρ := dn_o
theorem dnW_om : dn BI (om md p k) ρ J = thenD (iexec BI (ic BI) md ρ p J) k ρ := dn_om
theorem dnW_oc {g : Option (Operand × Bool)} {chk} : dn BI (oc g p md chk k) ρ J = thenD (stepI' BI (ic BI) ρ ⟨g, p, md, chk⟩ J) k ρ := dn_oc
theorem dnW_ite {c : Operand} {a b : L} : dn BI (.ite c a b) ρ J = onIfD (evI ρ c) a b ρ J := dn_ite
theorem dnW_join {l : Nat} {a b : L} : dn BI (.join l a b) ρ J = onJoinD l (dn BI a ρ J) b := dn_join
theorem thenD_some {v : IV} : thenD (some (v, J)) k ρ = dn BI k (ρ ++ [v]) J := rfl
theorem thenD_ite {c : Prop} [Decidable c] {a b : Option (IV × JH)} : thenD (if c then a else b) k ρ = if c then thenD a k ρ else thenD b k ρ := by split <;> rfl
theorem onIfD_bool {t : Bool} {a b : L} : onIfD (.sc (.bool t)) a b ρ J = if t = true then dn BI a ρ J else dn BI b ρ J := rfl
theorem onJoinD_out {l j : Nat} {vs : List IV} {b : L} : onJoinD l (some (.goto j vs, J)) b = if j = l then dn BI b vs J else some (.goto j vs, J) := rfl
theorem onJoinD_ret {l : Nat} {vs : List IV} {b : L} : onJoinD l (some (.ret vs, J)) b = some (.ret vs, J) := rfl
theorem onJoinD_ite {l : Nat} {c : Prop} [Decidable c] {a a' : Option (Out IV × JH)} {b : L} : onJoinD l (if c then a else a') b = if c then onJoinD l a b else onJoinD l a' b := by split <;> rfl
end
theorem WP_join {l : Nat} {r : Option (Out IV × JH)} {b : L} {K : Out IV → JH → Prop}
  (h : ∀ K' : Out IV → JH → Prop, (∀ vs J, WP (dn BI b vs J) K → K' (.goto l vs) J) → (∀ j vs J, j ≠ l → K (.goto j vs) J → K' (.goto j vs) J) → (∀ vs J, K (.ret vs) J → K' (.ret vs) J) → WP r K') : WP (onJoinD l r b) K := by
 have h1 := h (fun o J => byOut (fun j vs J => if j = l then WP (dn BI b vs J) K else K (.goto j vs) J) (fun vs J => K (.ret vs) J) o J) (fun vs J h => by simpa [byOut] using h) (fun j vs J hj h => by simpa [byOut, hj] using h) (fun vs J h => h)
 cases r with
 | none => exact h1.elim
 | some q =>
  obtain ⟨o, J⟩ := q
  cases o with
  | goto j vs =>
   simp only [WP_some, byOut_goto] at h1
   simp only [onJoinD, onJoin]
   split at h1
   ·rename_i hj; rw [if_pos hj]; exact h1
   ·rename_i hj; rw [if_neg hj]; exact h1
  | ret vs => exact h1
theorem WP_iter {f : List IV → JH → Option (Out IV × JH)} {l : Nat} {K : Out IV → JH → Prop} (I : Nat → List IV → JH → Prop)
  (hs : ∀ n vs J, I n vs J → ∀ K' : Out IV → JH → Prop, (∀ ws m J', m < n → I m ws J' → K' (.goto l ws) J') → (∀ j ws J', j ≠ l → K (.goto j ws) J' → K' (.goto j ws) J') → (∀ ws J', K (.ret ws) J' → K' (.ret ws) J') → WP (f vs J) K') :
  ∀ n vs J, I n vs J → WP (iter f l vs J) K := by
 intro n
 induction n using Nat.strongRecOn with
 | ind n ih =>
  intro vs J hI
  have h := hs n vs J hI (fun o J' => byOut (fun j ws J' => if j = l then ∃ m, m < n ∧ I m ws J' else K (.goto j ws) J') (fun ws J' => K (.ret ws) J') o J') (fun ws m J' hm hi => by simp only [byOut, if_true]; exact ⟨m, hm, hi⟩) (fun j ws J' hj hk => by simp only [byOut, if_neg hj]; exact hk) (fun ws J' h => h)
  obtain ⟨o, J', hf, hp⟩ := WP_of h
  cases o with
  | goto j ws =>
   simp only [byOut_goto] at hp
   split at hp
   ·rename_i hj
    subst hj
    obtain ⟨m, hm, hi⟩ := hp
    obtain ⟨o2, J2, h2, p2⟩ := WP_of (ih m hm ws J' hi)
    rw [iter_step hf h2]
    exact p2
   ·rename_i hj
    rw [iter_out hf hj]
    exact hp
  | ret ws =>
   rw [iter_ret hf]
   exact hp
theorem WP_loop {f : List IV → JH → Option (Out IV × JH)} {l0 l1 : Nat} {b : L} {K : Out IV → JH → Prop} (hne : l0 ≠ l1) (I : Nat → List IV → JH → Prop)
  (hs : ∀ n vs J, I n vs J → ∀ K' : Out IV → JH → Prop, (∀ ws m J', m < n → I m ws J' → K' (.goto l1 ws) J') → (∀ ws J', WP (dn BI b ws J') K → K' (.goto l0 ws) J') → (∀ ws J', K (.ret ws) J' → K' (.ret ws) J') → WP (f vs J) K') :
  ∀ n vs J, I n vs J → WP (onJoinD l0 (iter f l1 vs J) b) K := fun n vs J hI =>
 WP_join fun K1 g1 _ g3 => WP_iter I (fun n vs J hI K' k1 k2 k3 => hs n vs J hI K' k1 (fun ws J' h => k2 l0 ws J' hne (g1 ws J' h)) (fun ws J' h => k3 ws J' (g3 ws J' h))) n vs J hI
theorem RP_run {f : FuncId} {l : LFn} {args : List IV} {J : JH} {P} (hf : BI.fn f = some l) (hl : args.length = l.np) (h : ∀ K : Out IV → JH → Prop, (∀ vs J', P (itup vs) J' → K (.ret vs) J') → WP (dn BI l.body args J) K) : RP (ic BI f args J) P := by
 obtain ⟨o, J', hd, hp⟩ := WP_of (h (fun o J' => byOut (fun _ _ _ => False) (fun vs J' => P (itup vs) J') o J') (fun vs J' h => h))
 cases o with
 | goto j ws => exact hp.elim
 | ret vs => rw [ic_run hf hl hd]; exact hp
theorem WP_bind {r : Option (IV × JH)} {k : L} {ρ : List IV} {P Q} (h : RP r Q) (hk : ∀ v J', Q v J' → WP (dn BI k (ρ ++ [v]) J') P) : WP (thenD r k ρ) P := by
 obtain ⟨v, J', hc, hq⟩ := RP_of h
 rw [hc]
 exact hk v J' hq
theorem WP_call {f : FuncId} {args : List IV} {J : JH} {k : L} {ρ : List IV} {P Q} (h : RP (ic BI f args J) Q) (hk : ∀ v J', Q v J' → WP (dn BI k (ρ ++ [v]) J') P) : WP (thenD (doCall (ic BI) .raw f args J) k ρ) P := WP_bind h hk
theorem pcW {f : FuncId} {l : LFn} {args : List IV} {P : IV → Prop} (hf : BI.fn f = some l) (hl : args.length = l.np) (h : ∀ K : Out IV → JH → Prop, (∀ vs J' u, frz J' DEP (itup vs) = some u → P u → K (.ret vs) J') → WP (dn BI l.body args #[]) K) : ∃ u, pc BI f args = some u ∧ P u := by
 obtain ⟨o, J', hd, hp⟩ := WP_of (h (fun o J' => byOut (fun _ _ _ => False) (fun vs J' => ∃ u, frz J' DEP (itup vs) = some u ∧ P u) o J') (fun vs J' u h1 h2 => ⟨u, h1, h2⟩))
 cases o with
 | goto j ws => exact hp.elim
 | ret vs =>
  obtain ⟨u, hu, hp⟩ := hp
  exact ⟨u, pc_intro (gv_none hf) hf hl hd hu, hp⟩
theorem pcE {f : FuncId} {l : LFn} {args : List IV} {r : IV} (hf : BI.fn f = some l) (hl : args.length = l.np) (h : ∀ K : Out IV → JH → Prop, (∀ vs J', frz J' DEP (itup vs) = some r → K (.ret vs) J') → WP (dn BI l.body args #[]) K) : pc BI f args = some r := by
 obtain ⟨u, hu, rfl⟩ := pcW (P := fun u => u = r) hf hl (fun K hK => h K fun vs J' h1 => hK vs J' r h1 rfl)
 exact hu
theorem frzE {J : JH} {v w : IV} (h : ipure v = true) (e : v = w) : frz J DEP v = some w := by rw [← e]; exact frzP h
theorem lt_get {α : Type} {J : Array α} {b : Nat} {X : α} (h : J[b]? = some X) : b < J.size := by
 rcases Nat.lt_or_ge b J.size with h1 | h1
 ·exact h1
 ·rw [Array.getElem?_eq_none h1] at h; cases h
theorem inb {α : Type} {J : Array α} {b : Nat} {X : α} (h : J[b]? = some X) : (b < J.size) = True ∧ (b = J.size) = False ∧ (J.size = b) = False ∧ (∀ k, (b < J.size + k) = True) ∧ (∀ k, (b = J.size + k) = False) ∧ (∀ k, (J.size + k = b) = False) := by
 have := lt_get h
 refine ⟨by simp [this], by simp; omega, by simp; omega, fun k => by simp; omega, fun k => by simp; omega, fun k => by simp; omega⟩
def Fr (J J' : JH) (S : List Nat) : Prop := J.size ≤ J'.size ∧ ∀ d, d < J.size → d ∉ S → J'[d]? = J[d]?
theorem Fr.refl (J : JH) (S : List Nat) : Fr J J S := ⟨Nat.le_refl _, fun _ _ _ => rfl⟩
theorem Fr.trans {J J1 J2 : JH} {S T : List Nat} (h : Fr J J1 S) (k : Fr J1 J2 T) (hT : ∀ d, d < J.size → d ∈ T → d ∈ S) : Fr J J2 S :=
 ⟨Nat.le_trans h.1 k.1, fun d hd hn => by rw [k.2 d (Nat.lt_of_lt_of_le hd h.1) (fun ht => hn (hT d hd ht)), h.2 d hd hn]⟩
theorem Fr.push (J : JH) (X : IB) (S : List Nat) : Fr J (J.push X) S := ⟨by simp, fun d hd _ => by rw [Array.getElem?_push, if_neg (Nat.ne_of_lt hd)]⟩
theorem Fr.set (J : JH) {b : Nat} (X : IB) {S : List Nat} (hb : b ∈ S) : Fr J (J.setIfInBounds b X) S := ⟨by simp, fun d hd hn => by
 rw [Array.getElem?_setIfInBounds, if_neg]
 rintro rfl
 exact hn hb⟩
theorem evI_fn {ρ : List IV} {f : FuncId} : evI ρ (.func f) = .fn f [] [] := rfl
def storeF (sz : Nat) (p v : IV) (J : JH) : Option (IV × JH) := istore sz p v J
theorem iexec_store {B : IBook} {C : ICall} {md : Md} {ρ : List IV} {sz : Nat} {x v : Operand} {J : JH} : iexec B C md ρ (.store sz x v) J = storeF sz (evI ρ x) (evI ρ v) J := rfl
theorem storeF_ptr {sz b w off : Nat} {v : IV} {J : JH} : storeF sz (.ptr b w off) v J = if (icells v).length = sz then (match iwr J b w off (icells v) with | some J' => some ((.tup []), J') | none => none) else none := rfl
def lenF (str : Bool) (x : IV) (J : JH) : Option (IV × JH) := match x with
  | .sc (.string s) => if str then ilift (some (.int .i64 s.size)) J else ilift none J
  | v => if str then ilift none J else ilift ((ilen v).map fun n => .int .i64 (n : Nat)) J
theorem iexec_len {B : IBook} {C : ICall} {md : Md} {ρ : List IV} {str : Bool} {x : Operand} {J : JH} : iexec B C md ρ (.len str x) J = lenF str (evI ρ x) J := rfl
theorem lenF_nil {J : JH} : lenF false (.sc (.slice none 0 0)) J = some (.int .i64 0, J) := rfl
theorem lenF_lst {J : JH} {sz : Nat} {f : Bool} {xs : List IV} : lenF false (.lst sz f xs) J = some (.int .i64 (xs.length : Nat), J) := rfl
theorem lenF_sl {J : JH} {b v o n c z : Nat} : lenF false (.sl b v o n c z) J = some (.int .i64 (n : Nat), J) := rfl
theorem lenF_str {J : JH} {s : ByteArray} : lenF true (.sc (.string s)) J = some (.int .i64 s.size, J) := rfl
def iaddrF (sz : Nat) (x i : IV) (J : JH) : Option (IV × JH) := match x, iasNat i with
  | .sl b v o n _ z, some j => if j < n ∧ z = sz then ilift (some (.ptr b v (o + j * sz))) J else ilift none J
  | .lst z _ xs, some j => (match xs[j]? with | some e => if z = sz then ilift (some (.rptr e 0)) J else ilift none J | none => ilift none J)
  | _, _ => ilift none J
theorem iexec_iaddr {B : IBook} {C : ICall} {md : Md} {ρ : List IV} {sz : Nat} {x i : Operand} {J : JH} : iexec B C md ρ (.iaddr sz x i) J = iaddrF sz (evI ρ x) (evI ρ i) J := rfl
theorem iaddrF_lst {sz : Nat} {f : Bool} {xs : List IV} {κ : IntKind} {i : Int} {J : JH} : iaddrF sz (.lst sz f xs) (.int κ i) J = (match iasNat (.int κ i) with | some j => (match xs[j]? with | some e => some (.rptr e 0, J) | none => none) | none => none) := by
 simp only [iaddrF]
 cases iasNat (.int κ i) with
 | none => rfl
 | some j => simp only; cases xs[j]? <;> simp [ilift]
theorem iaddrF_sl {sz : Nat} {b v o n c : Nat} {κ : IntKind} {i : Int} {J : JH} : iaddrF sz (.sl b v o n c sz) (.int κ i) J = (match iasNat (.int κ i) with | some j => if j < n then some (.ptr b v (o + j * sz), J) else none | none => none) := by
 simp only [iaddrF]
 cases iasNat (.int κ i) with
 | none => rfl
 | some j => simp only [and_true]; split <;> rfl
def Ls (sz : Nat) (x : IV) (xs : List IV) : Prop := (x = .sc (.slice none 0 0) ∧ xs = []) ∨ ∃ f, x = .lst sz f xs
def Bs (x : IV) (l : List Int) : Prop := Ls 1 x (l.map (IV.int .u8))
theorem Ls.nil {sz : Nat} : Ls sz (.sc (.slice none 0 0)) [] := .inl ⟨rfl, rfl⟩
theorem Ls.lst {sz : Nat} {f : Bool} {xs : List IV} : Ls sz (.lst sz f xs) xs := .inr ⟨f, rfl⟩
theorem Ls.ilen {sz : Nat} {x : IV} {xs : List IV} (h : Ls sz x xs) : ilen x = some xs.length := by
 rcases h with ⟨rfl, rfl⟩ | ⟨f, rfl⟩ <;> rfl
theorem Ls.cells {sz : Nat} {x : IV} {xs : List IV} (h : Ls sz x xs) (J : JH) : iscells J sz x = some (xs.flatMap icells) := by
 rcases h with ⟨rfl, rfl⟩ | ⟨f, rfl⟩ <;> simp [iscells]
theorem Ls.pure {sz : Nat} {x : IV} {xs : List IV} (h : Ls sz x xs) : ipure x = true := by
 rcases h with ⟨rfl, rfl⟩ | ⟨f, rfl⟩ <;> simp [ipure]
theorem Ls.one {sz : Nat} {x : IV} {xs : List IV} (h : Ls sz x xs) : ione x = true := by
 rcases h with ⟨rfl, rfl⟩ | ⟨f, rfl⟩ <;> simp [ione, Go.Proofs.Ytmlhdkamogjbbaa.G.one]
theorem Ls.icells {sz : Nat} {x : IV} {xs : List IV} (h : Ls sz x xs) : icells x = [x] := by
 rcases h with ⟨rfl, rfl⟩ | ⟨f, rfl⟩ <;> simp [Go.Proofs.Ytmlhdkamogjbbaa.G.icells]
theorem Ls.ne {sz : Nat} {x : IV} {xs : List IV} (h : Ls sz x xs) (hn : xs ≠ []) : ∃ f, x = .lst sz f xs := by
 rcases h with ⟨rfl, rfl⟩ | h
 ·exact absurd rfl hn
 ·exact h
theorem Ls.get {sz : Nat} {x : IV} {xs : List IV} (h : Ls sz x xs) {i : Nat} (hi : i < xs.length) : ∃ f, x = .lst sz f xs := h.ne fun h => by rw [h] at hi; simp at hi
theorem Ls.lenF {sz : Nat} {x : IV} {xs : List IV} (h : Ls sz x xs) {J : JH} : lenF false x J = some (.int .i64 (xs.length : Nat), J) := by
 rcases h with ⟨rfl, rfl⟩ | ⟨f, rfl⟩ <;> rfl
theorem Ls.at {sz : Nat} {x : IV} {xs : List IV} (h : Ls sz x xs) {i : Nat} (hi : i < xs.length) {J : JH} : iaddrF sz x (.int .i64 (i : Int)) J = some (.rptr xs[i] 0, J) := by
 obtain ⟨f, rfl⟩ := h.get hi
 rw [iaddrF_lst]
 simp [iasNat, asNat, hi]
theorem Bs.lenF {x : IV} {l : List Int} (h : Bs x l) {J : JH} : Go.Proofs.Ytmlhdkamogjbbaa.G.lenF false x J = some (.int .i64 (l.length : Nat), J) := by rw [Ls.lenF h]; simp
theorem Bs.at {x : IV} {l : List Int} (h : Bs x l) {i : Nat} (hi : i < l.length) {J : JH} : iaddrF 1 x (.int .i64 (i : Int)) J = some (.rptr (.int .u8 l[i]) 0, J) := by
 rw [Ls.at h (by simpa using hi)]; simp
theorem Bs.len {x : IV} {l : List Int} (h : Bs x l) : Go.Proofs.Ytmlhdkamogjbbaa.G.ilen x = some l.length := by rw [Ls.ilen h]; simp
def appF (sz bytes : Nat) (s x : IV) (J : JH) : Option (IV × JH) := if 0 < sz then iappend sz bytes s x J else none
theorem iexec_append {B : IBook} {C : ICall} {md : Md} {ρ : List IV} {sz by' : Nat} {s x : Operand} {J : JH} : iexec B C md ρ (.append sz by' s x) J = appF sz by' (evI ρ s) (evI ρ x) J := by
 simp only [iexec, appF, ilift]
def blk (x : IV) : List Nat := (blkOf x).getD []
def Grow (J : JH) (x : IV) (sz : Nat) (cs : List IV) : Prop := (x = .sc (.slice none 0 0) ∧ cs = []) ∨ ∃ b v n full, x = .sl b v 0 n (UNK + sz) sz ∧ J[b]? = some (.cells v full false) ∧ n * sz ≤ full.length ∧ full.take (n * sz) = cs ∧ irefsL (full.drop (n * sz)) = []
theorem Grow.nil {J : JH} {sz : Nat} : Grow J (.sc (.slice none 0 0)) sz [] := .inl ⟨rfl, rfl⟩
theorem Grow.fr {J J' : JH} {x : IV} {sz : Nat} {cs : List IV} {S : List Nat} (h : Grow J x sz cs) (hf : Fr J J' S) (hS : ∀ b ∈ blk x, b ∉ S) : Grow J' x sz cs := by
 rcases h with ⟨rfl, rfl⟩ | ⟨b, v, n, full, rfl, h1, h2, h3, h4⟩
 ·exact .nil
 ·refine .inr ⟨b, v, n, full, rfl, ?_, h2, h3, h4⟩
  rw [hf.2 b (lt_get h1) (hS b (by simp [blk, blkOf]))]
  exact h1
theorem Grow.app {J : JH} {s y : IV} {sz by' m : Nat} {cs ds : List IV} (h : Grow J s sz cs) (hsz : 0 < sz) (hy : iscells J sz y = some ds) (hm : Go.Proofs.Ytmlhdkamogjbbaa.G.ilen y = some m) (hd : ds.length = m * sz) (ho : ds.all ione = true) (hf : fits (cs.length + m) by' = true) :
  RP (appF sz by' s y J) fun s' J' => Grow J' s' sz (cs ++ ds) ∧ Fr J J' (blk s) ∧ (∀ b ∈ blk s', b ∈ blk s ∨ J.size ≤ b) := by
 have hfm : ∀ k, k ≤ cs.length + m → fits k by' = true := fun k hk => by
  simp only [fits, Bool.and_eq_true, decide_eq_true_eq] at hf ⊢
  refine ⟨by omega, Nat.le_trans (Nat.mul_le_mul_right by' hk) hf.2⟩
 unfold appF
 rw [if_pos hsz]
 unfold iappend
 simp only [hy, hm]
 rcases h with ⟨rfl, rfl⟩ | ⟨b, v, n, full, rfl, h1, h2, h3, h4⟩
 ·by_cases h0 : m = 0
  ·subst h0
   have : ds = [] := List.eq_nil_of_length_eq_zero (by simpa using hd)
   subst this
   simp only [if_true, RP_some]
   exact ⟨.nil, .refl _ _, fun b hb => .inl hb⟩
  ·simp only [if_neg h0, hfm m (by omega), ho, Bool.and_self, if_true, RP_some]
   refine ⟨.inr ⟨J.size, 0, m, ds, rfl, by simp, by omega, ?_, by rw [List.drop_of_length_le (by omega)]; rfl⟩, Fr.push _ _ _, ?_⟩
   ·rw [List.nil_append, List.take_of_length_le (by omega)]
   ·simp [blk, blkOf]
 ·by_cases h0 : m = 0
  ·subst h0
   have : ds = [] := List.eq_nil_of_length_eq_zero (by simpa using hd)
   subst this
   simp only [if_true, RP_some, List.append_nil]
   exact ⟨.inr ⟨b, v, n, full, rfl, h1, h2, h3, h4⟩, .refl _ _, fun b hb => .inl hb⟩
  ·have hcl : cs.length = n * sz := by rw [← h3, List.length_take]; omega
   have hn : n ≤ cs.length := by rw [hcl]; exact Nat.le_mul_of_pos_right n hsz
   simp only [if_neg h0, hfm (n + m) (by omega), ho, Bool.and_self, and_self, if_true, h1, Nat.zero_add, h2, RP_some, Nat.le_add_right, List.drop_zero, h3]
   refine ⟨.inr ⟨b, v + 1, n + m, cs ++ ds, rfl, ?_, ?_, ?_, by rw [List.drop_of_length_le (by rw [List.length_append, hcl, hd, Nat.add_mul]; exact Nat.le_refl _)]; rfl⟩, Fr.set _ _ (by simp [blk, blkOf]), fun b hb => .inl (by simpa [blk, blkOf] using hb)⟩
   ·simp [lt_get h1]
   ·rw [List.length_append, hcl, hd, Nat.add_mul]; exact Nat.le_refl _
   ·rw [List.take_of_length_le]
    rw [List.length_append, hcl, hd, Nat.add_mul]; exact Nat.le_refl _
theorem Grow.one {J : JH} {s : IV} {sz : Nat} {cs : List IV} (h : Grow J s sz cs) : ione s = true := by
 rcases h with ⟨rfl, rfl⟩ | ⟨b, v, n, full, rfl, h1, h2, h3, h4⟩ <;> simp [ione, Go.Proofs.Ytmlhdkamogjbbaa.G.one]
theorem Grow.icells {J : JH} {s : IV} {sz : Nat} {cs : List IV} (h : Grow J s sz cs) : icells s = [s] := by
 rcases h with ⟨rfl, rfl⟩ | ⟨b, v, n, full, rfl, h1, h2, h3, h4⟩ <;> simp [Go.Proofs.Ytmlhdkamogjbbaa.G.icells]
theorem Grow.cells {J : JH} {s : IV} {sz : Nat} {cs : List IV} (h : Grow J s sz cs) : iscells J sz s = some cs := by
 rcases h with ⟨rfl, rfl⟩ | ⟨b, v, n, full, rfl, h1, h2, h3, h4⟩
 ·rfl
 ·simp [iscells, ird, h1, h2, h3]
theorem Grow.lenF {J J' : JH} {s : IV} {sz n : Nat} {cs : List IV} (h : Grow J s sz cs) (hn : cs.length = n * sz) (hsz : 0 < sz) : Go.Proofs.Ytmlhdkamogjbbaa.G.lenF false s J' = some (.int .i64 (n : Nat), J') := by
 rcases h with ⟨rfl, rfl⟩ | ⟨b, v, k, full, rfl, h1, h2, h3, h4⟩
 ·have : n = 0 := by
   rcases Nat.eq_zero_or_pos n with h | h
   ·exact h
   ·have := Nat.mul_pos h hsz; simp at hn; omega
  subst this; rfl
 ·have hcl : cs.length = k * sz := by rw [← h3, List.length_take]; omega
  rw [hn] at hcl
  rw [lenF_sl, Nat.eq_of_mul_eq_mul_right hsz hcl]
def LsR {α : Type} (sz : Nat) (R : IV → α → Prop) (x : IV) (as : List α) : Prop := ∃ xs, Ls sz x xs ∧ xs.length = as.length ∧ ∀ i (h : i < xs.length) (h' : i < as.length), R xs[i] as[i]
theorem LsR.lenF {α : Type} {sz : Nat} {R : IV → α → Prop} {x : IV} {as : List α} (h : LsR sz R x as) {J : JH} : Go.Proofs.Ytmlhdkamogjbbaa.G.lenF false x J = some (.int .i64 (as.length : Nat), J) := by
 obtain ⟨xs, h1, h2, _⟩ := h
 rw [← h2]; exact h1.lenF
theorem LsR.at {α : Type} {sz : Nat} {R : IV → α → Prop} {x : IV} {as : List α} (h : LsR sz R x as) {i : Nat} (hi : i < as.length) : ∃ e, R e as[i] ∧ ∀ J, iaddrF sz x (.int .i64 (i : Int)) J = some (.rptr e 0, J) := by
 obtain ⟨xs, h1, h2, h3⟩ := h
 exact ⟨xs[i]'(by omega), h3 i (by omega) hi, fun J => h1.at (by omega)⟩
theorem LsR.pure {α : Type} {sz : Nat} {R : IV → α → Prop} {x : IV} {as : List α} (h : LsR sz R x as) : ipure x = true := h.choose_spec.1.pure
theorem LsR.nil {α : Type} {sz : Nat} {R : IV → α → Prop} : LsR sz R (.sc (.slice none 0 0)) [] := ⟨[], .nil, rfl, fun i h => by simp at h⟩
noncomputable def thenC (r : Option (IV × JH)) (J : JH) (chk : List (Option (Operand × Bool) × SOp)) (t : Option (List Nat)) (ρ : List IV) (k : L) : Option (Out IV × JH) := match r with
 | some (v, J') => if chk.all (ichk J J' t ρ) then dn BI k (ρ ++ [v]) J' else none
 | none => none
theorem step_chk {ρ : List IV} {J : JH} {p : SOp} {md : Md} {chk} : stepI' BI (ic BI) ρ ⟨none, p, md, chk⟩ J = (match iexec BI (ic BI) md ρ p J with | some (v, J') => if chk.all (ichk J J' (itouch BI md ρ p J) ρ) then some (v, J') else none | none => none) := rfl
def blkF (x : IV) : Option (List Nat) := Go.Proofs.Ytmlhdkamogjbbaa.G.blkOf x
theorem dnW_oca {ρ : List IV} {J : JH} {sz by' : Nat} {s x : Operand} {md : Md} {chk} {k : L} : dn BI (oc none (.append sz by' s x) md chk k) ρ J = thenC (appF sz by' (evI ρ s) (evI ρ x) J) J chk (blkF (evI ρ s)) ρ k := by
 rw [dnW_oc, step_chk, iexec_append]
 have ht : itouch BI md ρ (.append sz by' s x) J = blkOf (evI ρ s) := rfl
 rw [ht]
 unfold thenC blkF
 generalize appF sz by' (evI ρ s) (evI ρ x) J = r
 cases r with
 | none => rfl
 | some q =>
  by_cases hh : chk.all (ichk J q.2 (blkOf (evI ρ s)) ρ) = true
  ·simp only [hh, if_true]; rfl
  ·simp only [hh]; rfl
theorem Grow.blkF {J : JH} {s : IV} {sz : Nat} {cs : List IV} (h : Grow J s sz cs) : blkF s = some (blk s) := by
 rcases h with ⟨rfl, rfl⟩ | ⟨b, v, n, full, rfl, h1, h2, h3, h4⟩ <;> rfl
attribute [go_sem] dnW_ite
end Go.Proofs.Ytmlhdkamogjbbaa.G
namespace Go.Proofs.Ytmlhdkamogjbbaa.G
open Go
attribute [go_sem ↓] dnW_oca iexec_len iexec_iaddr iexec_append iexec_store
attribute [go_sem] rawB allC1 dn_ret dn_goto iexec evI_0 evI_succ evI_int evI_bool evI_nilsl evI_nilp List.cons_append List.nil_append scal2_sc abin aun ilift_some Option.map_some Option.map_none decide_eq_true_eq List.map_cons List.map_nil if_true if_false Bool.false_eq_true inew iload istore iwr ird icells ione one List.getElem?_toArray List.getElem?_cons_zero List.getElem?_cons_succ List.push_toArray List.size_toArray List.length_cons List.length_nil List.setIfInBounds_toArray List.set_cons_zero List.set_cons_succ isplice_cons List.drop_succ_cons List.drop_zero List.take_succ_cons List.take_zero List.drop_nil List.take_nil List.append_nil List.all_cons List.all_nil Bool.and_true Bool.true_and Bool.and_self Nat.zero_add Nat.add_zero Nat.le_refl true_and and_true and_self List.getElem?_nil BI_zc BI_zv BI_co zcT zvT coT not_true_eq_false not_false_eq_true Bool.not_true Bool.not_false stepI' wantsI ifill ievs itup Nat.le_add_left Nat.le_add_right iaggEq List.foldl iminI iminF imin2 min2 iisNil isNil ilen Option.isNone_none Option.isNone_some Nat.zero_le decide_true decide_false ireps List.replicate List.flatten_cons List.flatten_nil ichk itouch ctouch ilooks isame untouched Option.isSome_some Bool.or_true Bool.true_or List.contains_nil blkOf IntKind.bits iasNat asNat Int.toNat_natCast Int.natCast_nonneg List.length_map iscells ibnd islice capOf Option.isSome_none Bool.false_and Bool.and_false Bool.or_false Bool.false_or bne_self_eq_false Nat.not_lt_zero Nat.mul_one Nat.one_mul Nat.zero_mul Nat.mul_zero beq_self_eq_true Nat.sub_zero List.length_set false_implies implies_true forall_const evI_fn Nat.zero_lt_one dnW_o dnW_om dnW_oc dnW_join thenD_some thenD_ite onIfD_bool onJoinD_out onJoinD_ret onJoinD_ite WP_some WP_ite byOut_goto byOut_ret storeF_ptr lenF_nil lenF_lst lenF_sl lenF_str iaddrF_sl iaddrF_lst
attribute [go_sem_proc] reduceIte Nat.reduceAdd Nat.reduceLeDiff Nat.reduceMul Nat.reduceEqDiff Int.reduceLT Int.reduceLE Int.reduceToNat Nat.reduceSub Nat.reduceLT Int.reduceEq BitVec.reduceOfInt BitVec.reduceOfNat Int.reduceGT Int.reduceGE Int.reduceBEq Int.reduceBNe Nat.reduceGT Nat.reduceBEq Nat.reduceBNe Int.reduceAdd Int.reduceSub Int.reduceNeg
section
variable {α : Type} {sz : Nat}
theorem flat_len : ∀ {X : List (List α)}, (∀ x ∈ X, x.length = sz) → X.flatten.length = X.length * sz
 | [], _ => by simp
 | x :: X, h => by
  rw [List.flatten_cons, List.length_append, h x (by simp), flat_len fun y hy => h y (by simp [hy]), List.length_cons, Nat.succ_mul]
  omega
theorem flat_drop : ∀ {X : List (List α)} {rest : List α} {i : Nat}, (∀ x ∈ X, x.length = sz) → i ≤ X.length → (X.flatten ++ rest).drop (i * sz) = (X.drop i).flatten ++ rest
 | _, _, 0, _, _ => by simp
 | [], _, i + 1, _, h => by simp at h
 | x :: X, rest, i + 1, h, hi => by
  have hx := h x (by simp)
  rw [List.flatten_cons, List.append_assoc, Nat.succ_mul, Nat.add_comm, List.drop_append, hx, List.drop_of_length_le (by omega), List.nil_append, Nat.add_sub_cancel_left, List.drop_succ_cons]
  exact flat_drop (fun y hy => h y (by simp [hy])) (by simpa using hi)
theorem flat_at {X : List (List α)} {rest : List α} {i : Nat} (h : ∀ x ∈ X, x.length = sz) (hi : i < X.length) : ((X.flatten ++ rest).drop (i * sz)).take sz = X[i] := by
 rw [flat_drop h (by omega), List.drop_eq_getElem_cons hi, List.flatten_cons, List.append_assoc, List.take_append_of_le_length (by rw [h _ (List.getElem_mem hi)]; exact Nat.le_refl _), List.take_of_length_le (by rw [h _ (List.getElem_mem hi)]; exact Nat.le_refl _)]
theorem flat_take : ∀ {X : List (List α)} {rest : List α} {i : Nat}, (∀ x ∈ X, x.length = sz) → i ≤ X.length → (X.flatten ++ rest).take (i * sz) = (X.take i).flatten
 | _, _, 0, _, _ => by simp
 | [], _, i + 1, _, h => by simp at h
 | x :: X, rest, i + 1, h, hi => by
  have hx := h x (by simp)
  rw [List.flatten_cons, List.append_assoc, Nat.succ_mul, Nat.add_comm, List.take_append, hx, List.take_of_length_le (by omega), Nat.add_sub_cancel_left, List.take_succ_cons, List.flatten_cons]
  rw [flat_take (fun y hy => h y (by simp [hy])) (by simpa using hi)]
end
def SlX (J : JH) (x : IV) (sz : Nat) (X : List (List IV)) : Prop := (∀ e ∈ X, e.length = sz) ∧ ((x = .sc (.slice none 0 0) ∧ X = []) ∨ ∃ b v rest, x = .sl b v 0 X.length (UNK + sz) sz ∧ J[b]? = some (.cells v (X.flatten ++ rest) false) ∧ irefsL rest = [])
theorem SlX.grow {J : JH} {x : IV} {sz : Nat} {X : List (List IV)} (h : SlX J x sz X) : Grow J x sz X.flatten := by
 obtain ⟨h1, ⟨rfl, rfl⟩ | ⟨b, v, rest, rfl, h2, h5⟩⟩ := h
 ·exact .nil
 ·refine .inr ⟨b, v, _, _, rfl, h2, ?_, ?_, by rw [flat_drop h1 (Nat.le_refl _), List.drop_length]; exact h5⟩
  ·rw [List.length_append, flat_len h1]; omega
  ·rw [flat_take h1 (Nat.le_refl _), List.take_length]
end Go.Proofs.Ytmlhdkamogjbbaa.G
namespace Go.Proofs.Ytmlhdkamogjbbaa.G
open Go
theorem ofInt_nat {w : Nat} (x : BitVec w) : BitVec.ofInt w (x.toNat : Int) = x := by
 rw [BitVec.ofInt_natCast]; simp
theorem wrapB8 (x : BitVec 8) : IntKind.u8.wrap (x.toNat : Int) = x.toNat := by
 have := x.isLt
 simp only [IntKind.wrap, IntKind.bits, IntKind.signed]; simp; omega
theorem wrapB16 (x : BitVec 16) : IntKind.u16.wrap (x.toNat : Int) = x.toNat := by
 have := x.isLt
 simp only [IntKind.wrap, IntKind.bits, IntKind.signed]; simp; omega
theorem wrapB32 (x : BitVec 32) : IntKind.u32.wrap (x.toNat : Int) = x.toNat := by
 have := x.isLt
 simp only [IntKind.wrap, IntKind.bits, IntKind.signed]; simp; omega
theorem wrapB64 (x : BitVec 64) : IntKind.u64.wrap (x.toNat : Int) = x.toNat := by
 have := x.isLt
 simp only [IntKind.wrap, IntKind.bits, IntKind.signed]; simp; omega
theorem beqB {w : Nat} (x y : BitVec w) : ((x.toNat : Int) == (y.toNat : Int)) = (x == y) := by
 rw [Bool.eq_iff_iff]; simp only [beq_iff_eq]; exact ⟨fun h => BitVec.eq_of_toNat_eq (by omega), fun h => by rw [h]⟩
theorem bneB {w : Nat} (x y : BitVec w) : ((x.toNat : Int) != (y.toNat : Int)) = (x != y) := by
 simp only [bne, beqB]
theorem beqB0 {w : Nat} (x : BitVec w) : ((x.toNat : Int) == 0) = (x == 0#w) := by
 have := beqB x 0#w; simpa using this
theorem bneB0 {w : Nat} (x : BitVec w) : ((x.toNat : Int) != 0) = (x != 0#w) := by
 simp only [bne, beqB0]
theorem wrapS {i n : Nat} (h : i < n) (hn : n ≤ 9223372036854775807) : IntKind.i64.wrap ((i : Int) + 1) = ((i + 1 : Nat) : Int) := by
 rw [wrap_i64 (by omega) (by omega)]; omega
abbrev m32 (x : BitVec 32) : IV := .int .u32 (x.toNat : Int)
abbrev nI (n : Nat) : IV := .int .i64 (n : Int)
theorem WP_range {f : List IV → JH → Option (Out IV × JH)} {l0 l1 : Nat} {b : L} {K : Out IV → JH → Prop} (hne : l0 ≠ l1) (N : Nat) (S : Nat → List IV → JH → Prop)
  (hs : ∀ i vs J, S i vs J → i ≤ N → ∀ K' : Out IV → JH → Prop, (i < N → ∀ ws J', S (i + 1) ws J' → K' (.goto l1 ws) J') → (∀ ws J', WP (dn BI b ws J') K → K' (.goto l0 ws) J') → (∀ ws J', K (.ret ws) J' → K' (.ret ws) J') → WP (f vs J) K')
  {vs : List IV} {J : JH} (h0 : S 0 vs J) : WP (onJoinD l0 (iter f l1 vs J) b) K :=
 WP_loop hne (fun m vs J => ∃ i, i + m = N ∧ S i vs J) (by
  rintro m vs J ⟨i, hi, h⟩ K' g1 g2 g3
  exact hs i vs J h (by omega) K' (fun hl ws J' h' => g1 ws (m - 1) J' (by omega) ⟨i + 1, by omega, h'⟩) g2 g3) N vs J ⟨0, by omega, h0⟩
theorem WP_rangeT {f : List IV → JH → Option (Out IV × JH)} {l1 : Nat} {K : Out IV → JH → Prop} (N : Nat) (S : Nat → List IV → JH → Prop)
  (hs : ∀ i vs J, S i vs J → i ≤ N → ∀ K' : Out IV → JH → Prop, (i < N → ∀ ws J', S (i + 1) ws J' → K' (.goto l1 ws) J') → (∀ j ws J', j ≠ l1 → K (.goto j ws) J' → K' (.goto j ws) J') → (∀ ws J', K (.ret ws) J' → K' (.ret ws) J') → WP (f vs J) K')
  {vs : List IV} {J : JH} (h0 : S 0 vs J) : WP (iter f l1 vs J) K :=
 WP_iter (fun m vs J => ∃ i, i + m = N ∧ S i vs J) (by
  rintro m vs J ⟨i, hi, h⟩ K' g1 g2 g3
  exact hs i vs J h (by omega) K' (fun hl ws J' h' => g1 ws (m - 1) J' (by omega) ⟨i + 1, by omega, h'⟩) g2 g3) N vs J ⟨0, by omega, h0⟩
theorem pcN (n : Nat) {f : FuncId} {args : List IV} {v u : IV} {J : JH} (h : icall BI n f args #[] = some (v, J)) (hf : frz J DEP v = some u) : pc BI f args = some u := by unfold pc; rw [lim_ic h]; exact hf
theorem convB8 {w : Nat} (x : BitVec w) : IntKind.u8.wrap (x.toNat : Int) = ((x.setWidth 8).toNat : Int) := by
 simp only [IntKind.wrap, IntKind.bits, IntKind.signed, BitVec.toNat_setWidth]; simp
theorem convB16 {w : Nat} (x : BitVec w) : IntKind.u16.wrap (x.toNat : Int) = ((x.setWidth 16).toNat : Int) := by
 simp only [IntKind.wrap, IntKind.bits, IntKind.signed, BitVec.toNat_setWidth]; simp
theorem convB32 {w : Nat} (x : BitVec w) : IntKind.u32.wrap (x.toNat : Int) = ((x.setWidth 32).toNat : Int) := by
 simp only [IntKind.wrap, IntKind.bits, IntKind.signed, BitVec.toNat_setWidth]; simp
theorem convB64 {w : Nat} (x : BitVec w) : IntKind.u64.wrap (x.toNat : Int) = ((x.setWidth 64).toNat : Int) := by
 simp only [IntKind.wrap, IntKind.bits, IntKind.signed, BitVec.toNat_setWidth]; simp
theorem i64B8 (x : BitVec 8) : IntKind.i64.wrap (x.toNat : Int) = (x.toNat : Int) := by have := x.isLt; exact wrap_i64 (by omega) (by omega)
theorem i64B16 (x : BitVec 16) : IntKind.i64.wrap (x.toNat : Int) = (x.toNat : Int) := by have := x.isLt; exact wrap_i64 (by omega) (by omega)
theorem i64B32 (x : BitVec 32) : IntKind.i64.wrap (x.toNat : Int) = (x.toNat : Int) := by have := x.isLt; exact wrap_i64 (by omega) (by omega)
theorem fdivB {w : Nat} (x : BitVec w) (k : Nat) : (x.toNat : Int).fdiv (2 ^ k) = ((x >>> k).toNat : Int) := by
 rw [show ((2 : Int) ^ k) = ((2 ^ k : Nat) : Int) by simp, Int.fdiv_eq_ediv_of_nonneg _ (Int.natCast_nonneg _), BitVec.toNat_ushiftRight, Nat.shiftRight_eq_div_pow]
 simp
theorem addB32 (x y : BitVec 32) : IntKind.u32.wrap ((x.toNat : Int) + (y.toNat : Int)) = ((x + y).toNat : Int) := by
 simp only [IntKind.wrap, IntKind.bits, IntKind.signed, BitVec.toNat_add]; simp
theorem mulB32 (x y : BitVec 32) : IntKind.u32.wrap ((x.toNat : Int) * (y.toNat : Int)) = ((x * y).toNat : Int) := by
 simp only [IntKind.wrap, IntKind.bits, IntKind.signed, BitVec.toNat_mul]; simp
theorem addB32c (x : BitVec 32) (c : Nat) : IntKind.u32.wrap ((x.toNat : Int) + no_index (@OfNat.ofNat Int c instOfNat)) = ((x + BitVec.ofNat 32 c).toNat : Int) := by
 simp only [IntKind.wrap, IntKind.bits, IntKind.signed, BitVec.toNat_add, BitVec.toNat_ofNat]
 show ((x.toNat : Int) + (c : Int)) % _ = _
 simp
theorem mulB32c (x : BitVec 32) (c : Nat) : IntKind.u32.wrap ((x.toNat : Int) * no_index (@OfNat.ofNat Int c instOfNat)) = ((x * BitVec.ofNat 32 c).toNat : Int) := by
 simp only [IntKind.wrap, IntKind.bits, IntKind.signed, BitVec.toNat_mul, BitVec.toNat_ofNat]
 show ((x.toNat : Int) * (c : Int)) % _ = _
 simp [Int.mul_emod]
theorem shlB32 (x : BitVec 32) (k : Nat) : IntKind.u32.wrap ((x.toNat : Int) * 2 ^ k) = ((x <<< k).toNat : Int) := by
 simp only [IntKind.wrap, IntKind.bits, IntKind.signed, BitVec.toNat_shiftLeft, Nat.shiftLeft_eq]; simp
theorem shlB64 (x : BitVec 64) (k : Nat) : IntKind.u64.wrap ((x.toNat : Int) * 2 ^ k) = ((x <<< k).toNat : Int) := by
 simp only [IntKind.wrap, IntKind.bits, IntKind.signed, BitVec.toNat_shiftLeft, Nat.shiftLeft_eq]; simp
theorem shl1B32 (k : Nat) : IntKind.u32.wrap (1 * 2 ^ k) = ((1#32 <<< k).toNat : Int) := shlB32 1#32 k
theorem shl1B64 (k : Nat) : IntKind.u64.wrap (1 * 2 ^ k) = ((1#64 <<< k).toNat : Int) := shlB64 1#64 k
theorem notB32 (x : BitVec 32) : aun .xor (.int .u32 (x.toNat : Int)) = some (.int .u32 ((~~~x).toNat : Int)) := by
 have e : BitVec.ofInt 32 IntKind.u32.max = BitVec.allOnes 32 := by decide
 simp only [aun, IntKind.bits, IntKind.signed, Bool.false_eq_true, if_false, ofInt_nat]
 rw [e]
 have e2 : BitVec.allOnes 32 ^^^ x = ~~~x := BitVec.allOnes_xor
 have e3 := wrapB32 (~~~x)
 rw [← e2] at e3 ⊢
 exact congrArg (fun z => some (Value.int .u32 z)) e3
theorem band8 (x y : BitVec 8) : abin .and (.int .u8 (x.toNat : Int)) (.int .u8 (y.toNat : Int)) = some (.int .u8 ((x &&& y).toNat : Int)) := by
 show some (Value.int .u8 (IntKind.u8.wrap ((BitVec.ofInt 8 (x.toNat : Int) &&& BitVec.ofInt 8 (y.toNat : Int)).toNat : Int))) = _
 rw [ofInt_nat, ofInt_nat, wrapB8]
theorem band8c (x : BitVec 8) (c : Nat) : abin .and (.int .u8 (x.toNat : Int)) (.int .u8 (no_index (@OfNat.ofNat Int c instOfNat))) = some (.int .u8 ((x &&& BitVec.ofNat 8 c).toNat : Int)) := by
 show some (Value.int .u8 (IntKind.u8.wrap ((BitVec.ofInt 8 (x.toNat : Int) &&& BitVec.ofInt 8 ((c : Nat) : Int)).toNat : Int))) = _
 rw [ofInt_nat, BitVec.ofInt_natCast, wrapB8]
theorem bor8 (x y : BitVec 8) : abin .or (.int .u8 (x.toNat : Int)) (.int .u8 (y.toNat : Int)) = some (.int .u8 ((x ||| y).toNat : Int)) := by
 show some (Value.int .u8 (IntKind.u8.wrap ((BitVec.ofInt 8 (x.toNat : Int) ||| BitVec.ofInt 8 (y.toNat : Int)).toNat : Int))) = _
 rw [ofInt_nat, ofInt_nat, wrapB8]
theorem bor8c (x : BitVec 8) (c : Nat) : abin .or (.int .u8 (x.toNat : Int)) (.int .u8 (no_index (@OfNat.ofNat Int c instOfNat))) = some (.int .u8 ((x ||| BitVec.ofNat 8 c).toNat : Int)) := by
 show some (Value.int .u8 (IntKind.u8.wrap ((BitVec.ofInt 8 (x.toNat : Int) ||| BitVec.ofInt 8 ((c : Nat) : Int)).toNat : Int))) = _
 rw [ofInt_nat, BitVec.ofInt_natCast, wrapB8]
theorem bxor8 (x y : BitVec 8) : abin .xor (.int .u8 (x.toNat : Int)) (.int .u8 (y.toNat : Int)) = some (.int .u8 ((x ^^^ y).toNat : Int)) := by
 show some (Value.int .u8 (IntKind.u8.wrap ((BitVec.ofInt 8 (x.toNat : Int) ^^^ BitVec.ofInt 8 (y.toNat : Int)).toNat : Int))) = _
 rw [ofInt_nat, ofInt_nat, wrapB8]
theorem bxor8c (x : BitVec 8) (c : Nat) : abin .xor (.int .u8 (x.toNat : Int)) (.int .u8 (no_index (@OfNat.ofNat Int c instOfNat))) = some (.int .u8 ((x ^^^ BitVec.ofNat 8 c).toNat : Int)) := by
 show some (Value.int .u8 (IntKind.u8.wrap ((BitVec.ofInt 8 (x.toNat : Int) ^^^ BitVec.ofInt 8 ((c : Nat) : Int)).toNat : Int))) = _
 rw [ofInt_nat, BitVec.ofInt_natCast, wrapB8]
theorem bandNot8 (x y : BitVec 8) : abin .andNot (.int .u8 (x.toNat : Int)) (.int .u8 (y.toNat : Int)) = some (.int .u8 ((x &&& ~~~y).toNat : Int)) := by
 show some (Value.int .u8 (IntKind.u8.wrap ((BitVec.ofInt 8 (x.toNat : Int) &&& ~~~ BitVec.ofInt 8 (y.toNat : Int)).toNat : Int))) = _
 rw [ofInt_nat, ofInt_nat, wrapB8]
theorem band16 (x y : BitVec 16) : abin .and (.int .u16 (x.toNat : Int)) (.int .u16 (y.toNat : Int)) = some (.int .u16 ((x &&& y).toNat : Int)) := by
 show some (Value.int .u16 (IntKind.u16.wrap ((BitVec.ofInt 16 (x.toNat : Int) &&& BitVec.ofInt 16 (y.toNat : Int)).toNat : Int))) = _
 rw [ofInt_nat, ofInt_nat, wrapB16]
theorem band16c (x : BitVec 16) (c : Nat) : abin .and (.int .u16 (x.toNat : Int)) (.int .u16 (no_index (@OfNat.ofNat Int c instOfNat))) = some (.int .u16 ((x &&& BitVec.ofNat 16 c).toNat : Int)) := by
 show some (Value.int .u16 (IntKind.u16.wrap ((BitVec.ofInt 16 (x.toNat : Int) &&& BitVec.ofInt 16 ((c : Nat) : Int)).toNat : Int))) = _
 rw [ofInt_nat, BitVec.ofInt_natCast, wrapB16]
theorem bor16 (x y : BitVec 16) : abin .or (.int .u16 (x.toNat : Int)) (.int .u16 (y.toNat : Int)) = some (.int .u16 ((x ||| y).toNat : Int)) := by
 show some (Value.int .u16 (IntKind.u16.wrap ((BitVec.ofInt 16 (x.toNat : Int) ||| BitVec.ofInt 16 (y.toNat : Int)).toNat : Int))) = _
 rw [ofInt_nat, ofInt_nat, wrapB16]
theorem bor16c (x : BitVec 16) (c : Nat) : abin .or (.int .u16 (x.toNat : Int)) (.int .u16 (no_index (@OfNat.ofNat Int c instOfNat))) = some (.int .u16 ((x ||| BitVec.ofNat 16 c).toNat : Int)) := by
 show some (Value.int .u16 (IntKind.u16.wrap ((BitVec.ofInt 16 (x.toNat : Int) ||| BitVec.ofInt 16 ((c : Nat) : Int)).toNat : Int))) = _
 rw [ofInt_nat, BitVec.ofInt_natCast, wrapB16]
theorem bxor16 (x y : BitVec 16) : abin .xor (.int .u16 (x.toNat : Int)) (.int .u16 (y.toNat : Int)) = some (.int .u16 ((x ^^^ y).toNat : Int)) := by
 show some (Value.int .u16 (IntKind.u16.wrap ((BitVec.ofInt 16 (x.toNat : Int) ^^^ BitVec.ofInt 16 (y.toNat : Int)).toNat : Int))) = _
 rw [ofInt_nat, ofInt_nat, wrapB16]
theorem bxor16c (x : BitVec 16) (c : Nat) : abin .xor (.int .u16 (x.toNat : Int)) (.int .u16 (no_index (@OfNat.ofNat Int c instOfNat))) = some (.int .u16 ((x ^^^ BitVec.ofNat 16 c).toNat : Int)) := by
 show some (Value.int .u16 (IntKind.u16.wrap ((BitVec.ofInt 16 (x.toNat : Int) ^^^ BitVec.ofInt 16 ((c : Nat) : Int)).toNat : Int))) = _
 rw [ofInt_nat, BitVec.ofInt_natCast, wrapB16]
theorem bandNot16 (x y : BitVec 16) : abin .andNot (.int .u16 (x.toNat : Int)) (.int .u16 (y.toNat : Int)) = some (.int .u16 ((x &&& ~~~y).toNat : Int)) := by
 show some (Value.int .u16 (IntKind.u16.wrap ((BitVec.ofInt 16 (x.toNat : Int) &&& ~~~ BitVec.ofInt 16 (y.toNat : Int)).toNat : Int))) = _
 rw [ofInt_nat, ofInt_nat, wrapB16]
theorem band32 (x y : BitVec 32) : abin .and (.int .u32 (x.toNat : Int)) (.int .u32 (y.toNat : Int)) = some (.int .u32 ((x &&& y).toNat : Int)) := by
 show some (Value.int .u32 (IntKind.u32.wrap ((BitVec.ofInt 32 (x.toNat : Int) &&& BitVec.ofInt 32 (y.toNat : Int)).toNat : Int))) = _
 rw [ofInt_nat, ofInt_nat, wrapB32]
theorem band32c (x : BitVec 32) (c : Nat) : abin .and (.int .u32 (x.toNat : Int)) (.int .u32 (no_index (@OfNat.ofNat Int c instOfNat))) = some (.int .u32 ((x &&& BitVec.ofNat 32 c).toNat : Int)) := by
 show some (Value.int .u32 (IntKind.u32.wrap ((BitVec.ofInt 32 (x.toNat : Int) &&& BitVec.ofInt 32 ((c : Nat) : Int)).toNat : Int))) = _
 rw [ofInt_nat, BitVec.ofInt_natCast, wrapB32]
theorem bor32 (x y : BitVec 32) : abin .or (.int .u32 (x.toNat : Int)) (.int .u32 (y.toNat : Int)) = some (.int .u32 ((x ||| y).toNat : Int)) := by
 show some (Value.int .u32 (IntKind.u32.wrap ((BitVec.ofInt 32 (x.toNat : Int) ||| BitVec.ofInt 32 (y.toNat : Int)).toNat : Int))) = _
 rw [ofInt_nat, ofInt_nat, wrapB32]
theorem bor32c (x : BitVec 32) (c : Nat) : abin .or (.int .u32 (x.toNat : Int)) (.int .u32 (no_index (@OfNat.ofNat Int c instOfNat))) = some (.int .u32 ((x ||| BitVec.ofNat 32 c).toNat : Int)) := by
 show some (Value.int .u32 (IntKind.u32.wrap ((BitVec.ofInt 32 (x.toNat : Int) ||| BitVec.ofInt 32 ((c : Nat) : Int)).toNat : Int))) = _
 rw [ofInt_nat, BitVec.ofInt_natCast, wrapB32]
theorem bxor32 (x y : BitVec 32) : abin .xor (.int .u32 (x.toNat : Int)) (.int .u32 (y.toNat : Int)) = some (.int .u32 ((x ^^^ y).toNat : Int)) := by
 show some (Value.int .u32 (IntKind.u32.wrap ((BitVec.ofInt 32 (x.toNat : Int) ^^^ BitVec.ofInt 32 (y.toNat : Int)).toNat : Int))) = _
 rw [ofInt_nat, ofInt_nat, wrapB32]
theorem bxor32c (x : BitVec 32) (c : Nat) : abin .xor (.int .u32 (x.toNat : Int)) (.int .u32 (no_index (@OfNat.ofNat Int c instOfNat))) = some (.int .u32 ((x ^^^ BitVec.ofNat 32 c).toNat : Int)) := by
 show some (Value.int .u32 (IntKind.u32.wrap ((BitVec.ofInt 32 (x.toNat : Int) ^^^ BitVec.ofInt 32 ((c : Nat) : Int)).toNat : Int))) = _
 rw [ofInt_nat, BitVec.ofInt_natCast, wrapB32]
theorem bandNot32 (x y : BitVec 32) : abin .andNot (.int .u32 (x.toNat : Int)) (.int .u32 (y.toNat : Int)) = some (.int .u32 ((x &&& ~~~y).toNat : Int)) := by
 show some (Value.int .u32 (IntKind.u32.wrap ((BitVec.ofInt 32 (x.toNat : Int) &&& ~~~ BitVec.ofInt 32 (y.toNat : Int)).toNat : Int))) = _
 rw [ofInt_nat, ofInt_nat, wrapB32]
theorem band64 (x y : BitVec 64) : abin .and (.int .u64 (x.toNat : Int)) (.int .u64 (y.toNat : Int)) = some (.int .u64 ((x &&& y).toNat : Int)) := by
 show some (Value.int .u64 (IntKind.u64.wrap ((BitVec.ofInt 64 (x.toNat : Int) &&& BitVec.ofInt 64 (y.toNat : Int)).toNat : Int))) = _
 rw [ofInt_nat, ofInt_nat, wrapB64]
theorem band64c (x : BitVec 64) (c : Nat) : abin .and (.int .u64 (x.toNat : Int)) (.int .u64 (no_index (@OfNat.ofNat Int c instOfNat))) = some (.int .u64 ((x &&& BitVec.ofNat 64 c).toNat : Int)) := by
 show some (Value.int .u64 (IntKind.u64.wrap ((BitVec.ofInt 64 (x.toNat : Int) &&& BitVec.ofInt 64 ((c : Nat) : Int)).toNat : Int))) = _
 rw [ofInt_nat, BitVec.ofInt_natCast, wrapB64]
theorem bor64 (x y : BitVec 64) : abin .or (.int .u64 (x.toNat : Int)) (.int .u64 (y.toNat : Int)) = some (.int .u64 ((x ||| y).toNat : Int)) := by
 show some (Value.int .u64 (IntKind.u64.wrap ((BitVec.ofInt 64 (x.toNat : Int) ||| BitVec.ofInt 64 (y.toNat : Int)).toNat : Int))) = _
 rw [ofInt_nat, ofInt_nat, wrapB64]
theorem bor64c (x : BitVec 64) (c : Nat) : abin .or (.int .u64 (x.toNat : Int)) (.int .u64 (no_index (@OfNat.ofNat Int c instOfNat))) = some (.int .u64 ((x ||| BitVec.ofNat 64 c).toNat : Int)) := by
 show some (Value.int .u64 (IntKind.u64.wrap ((BitVec.ofInt 64 (x.toNat : Int) ||| BitVec.ofInt 64 ((c : Nat) : Int)).toNat : Int))) = _
 rw [ofInt_nat, BitVec.ofInt_natCast, wrapB64]
theorem bxor64 (x y : BitVec 64) : abin .xor (.int .u64 (x.toNat : Int)) (.int .u64 (y.toNat : Int)) = some (.int .u64 ((x ^^^ y).toNat : Int)) := by
 show some (Value.int .u64 (IntKind.u64.wrap ((BitVec.ofInt 64 (x.toNat : Int) ^^^ BitVec.ofInt 64 (y.toNat : Int)).toNat : Int))) = _
 rw [ofInt_nat, ofInt_nat, wrapB64]
theorem bxor64c (x : BitVec 64) (c : Nat) : abin .xor (.int .u64 (x.toNat : Int)) (.int .u64 (no_index (@OfNat.ofNat Int c instOfNat))) = some (.int .u64 ((x ^^^ BitVec.ofNat 64 c).toNat : Int)) := by
 show some (Value.int .u64 (IntKind.u64.wrap ((BitVec.ofInt 64 (x.toNat : Int) ^^^ BitVec.ofInt 64 ((c : Nat) : Int)).toNat : Int))) = _
 rw [ofInt_nat, BitVec.ofInt_natCast, wrapB64]
theorem bandNot64 (x y : BitVec 64) : abin .andNot (.int .u64 (x.toNat : Int)) (.int .u64 (y.toNat : Int)) = some (.int .u64 ((x &&& ~~~y).toNat : Int)) := by
 show some (Value.int .u64 (IntKind.u64.wrap ((BitVec.ofInt 64 (x.toNat : Int) &&& ~~~ BitVec.ofInt 64 (y.toNat : Int)).toNat : Int))) = _
 rw [ofInt_nat, ofInt_nat, wrapB64]
abbrev by8 (x : BitVec 8) : IV := .int .u8 (x.toNat : Int)
def copyF (sz : Nat) (d s : IV) (J : JH) : Option (IV × JH) := icopy sz d s J
theorem iexec_copy {B : IBook} {C : ICall} {md : Md} {ρ : List IV} {sz : Nat} {d s : Operand} {J : JH} : iexec B C md ρ (.copy sz d s) J = copyF sz (evI ρ d) (evI ρ s) J := rfl
theorem push_set {α : Type} (J : Array α) (X Y : α) : (J.push X).setIfInBounds J.size Y = J.push Y := by
 rcases J with ⟨l⟩
 simp
theorem push_get {α : Type} (J : Array α) (X : α) : (J.push X)[J.size]? = some X := by simp
theorem set_get {α : Type} (J : Array α) {b : Nat} {X : α} (h : b < J.size) : (J.setIfInBounds b X)[b]? = some X := by simp [h]
theorem set_set {α : Type} (J : Array α) {b : Nat} {X Y : α} : (J.setIfInBounds b X).setIfInBounds b Y = J.setIfInBounds b Y := by
 rcases J with ⟨l⟩
 simp
theorem pcK (n : Nat) {f : FuncId} {args : List IV} {u : IV} (h : (match icall BI n f args #[] with | some (v, J) => frz J DEP v | none => none) = some u) : pc BI f args = some u := by
 split at h
 ·rename_i v J hc
  exact pcN n hc h
 ·simp at h
theorem s11 (n : Nat) : n + 1 + 1 = n + 2 := rfl
theorem s12 (n : Nat) : n + 1 + 2 = n + 3 := rfl
theorem s13 (n : Nat) : n + 1 + 3 = n + 4 := rfl
theorem s22 (n : Nat) : n + 2 + 2 = n + 4 := rfl
theorem s23 (n : Nat) : n + 2 + 3 = n + 5 := rfl
theorem s21 (n : Nat) : n + 2 + 1 = n + 3 := rfl
theorem s31 (n : Nat) : n + 3 + 1 = n + 4 := rfl
theorem s41 (n : Nat) : n + 4 + 1 = n + 5 := rfl
theorem s51 (n : Nat) : n + 5 + 1 = n + 6 := rfl
theorem ite_max {a b : Int} : (if b > a then b else a) = max a b := by split <;> omega
theorem ite_min {a b : Int} : (if b < a then b else a) = min a b := by split <;> omega
attribute [go_sem] push_set push_get Array.size_push Array.size_setIfInBounds set_set
attribute [go_sem] s11 s12 s13 s22 s23 s21 s31 s41 s51 Nat.left_eq_add Nat.add_eq_left List.contains_cons
attribute [go_sem ↓] iexec_copy notB32 band8 band8c bor8 bor8c bxor8 bxor8c bandNot8 band16 band16c bor16 bor16c bxor16 bxor16c bandNot16 band32 band32c bor32 bor32c bxor32 bxor32c bandNot32 band64 band64c bor64 bor64c bxor64 bxor64c bandNot64
attribute [go_sem] lt_UNK not_UNK_le UNK_pos one_lt_UNK Nat.min_eq_left Nat.min_eq_right convB8 convB16 convB32 convB64 i64B8 i64B16 i64B32 fdivB addB32 mulB32 addB32c mulB32c shlB32 shlB64 shl1B32 shl1B64 BitVec.setWidth_eq ite_max ite_min ofInt_nat wrapB8 wrapB16 wrapB32 wrapB64 beqB bneB beqB0 bneB0
theorem Fr.mark (J : JH) (l S : List Nat) (h : ∀ d ∈ l, d ∈ S) : Fr J (markA J l) S := ⟨by rw [markA_size]; exact Nat.le_refl _, fun d _ hn => by rw [markA_get, if_neg fun hm => hn (h d hm)]⟩
theorem Grow.shows {J : JH} {s : IV} {sz : Nat} {cs : List IV} (h : Grow J s sz cs) (hp : ipureL cs = true) : ∀ d ∈ Go.Proofs.Ytmlhdkamogjbbaa.G.shows J DEP s, d ∈ blk s := by
 rcases h with ⟨rfl, rfl⟩ | ⟨b, v, n, full, rfl, h1, h2, h3, h4⟩
 ·intro d hd
  rw [shows_pure J DEP rfl] at hd
  cases hd
 ·intro d hd
  rw [frz12, shows_sl (cs := cs) (by simp [ird, h1, h2, h3]) hp] at hd
  exact hd
theorem Grow.fr0 {J J' : JH} {x : IV} {sz : Nat} {cs : List IV} (h : Grow J x sz cs) (hf : Fr J J' []) : Grow J' x sz cs := h.fr hf (by simp)
theorem grp_flat {sz : Nat} : ∀ {X : List (List IV)}, (∀ x ∈ X, x.length = sz) → grp sz X.length X.flatten = X.map (mkE sz)
 | [], _ => rfl
 | x :: X, h => by
  have hx := h x (by simp)
  rw [List.length_cons, grp, List.flatten_cons, List.take_append_of_le_length (by omega), List.take_of_length_le (by omega), List.drop_append_of_le_length (by omega), List.drop_of_length_le (by omega), List.nil_append, grp_flat fun y hy => h y (by simp [hy])]
  rfl
def sliceF (sz : Nat) (x : IV) (lo hi mx : Option IV) (J : JH) : Option (IV × JH) := ilift (islice sz x lo hi mx) J
theorem iexec_slice {B : IBook} {C : ICall} {md : Md} {ρ : List IV} {sz : Nat} {x : Operand} {lo hi mx : Option Operand} {J : JH} : iexec B C md ρ (.slice sz x lo hi mx) J = sliceF sz (evI ρ x) (lo.map (evI ρ)) (hi.map (evI ρ)) (mx.map (evI ρ)) J := rfl
theorem sliceF_sl {sz b v o n c z : Nat} {lo hi mx : Option IV} {J : JH} : sliceF sz (.sl b v o n c z) lo hi mx J = ilift (islice sz (.sl b v o n c z) lo hi mx) J := rfl
attribute [go_sem ↓] iexec_slice
attribute [go_sem] sliceF_sl
theorem Ls.slice {sz : Nat} {x : IV} {xs : List IV} (hx : Ls sz x xs) {h : Nat} (hh : h ≤ xs.length) : ∃ y, (∀ J, sliceF sz x none (some (nI h)) none J = some (y, J)) ∧ Ls sz y (xs.take h) := by
 rcases hx with ⟨rfl, rfl⟩ | ⟨f, rfl⟩
 ·obtain rfl : h = 0 := by simpa using hh
  exact ⟨_, fun J => rfl, .nil⟩
 ·refine ⟨_, fun J => ?_, .lst (f := (f && h == xs.length))⟩
  simp only [sliceF, islice, Option.isSome_none, Option.isNone_some, Bool.and_false, bne_self_eq_false, Bool.or_false, Bool.false_eq_true, if_false, ibnd, iasNat, asNat, Int.natCast_nonneg, if_true, Int.toNat_natCast, Nat.zero_le, hh, Nat.le_refl, true_and, List.drop_zero, Nat.sub_zero, Bool.false_and, Bool.false_or, Option.isNone_none, Bool.and_true, false_implies, and_self, ilift]
def Clip (J J' : JH) (s : IV) (sz : Nat) (X : List (List IV)) : Prop := (X = [] ∧ s = .lst sz true [] ∧ J' = J) ∨ (X ≠ [] ∧ s = .sl J.size 0 0 X.length (UNK + sz) sz ∧ J' = J.push (.cells 0 X.flatten false))
theorem Clip.frz {J J' : JH} {s : IV} {sz : Nat} {X : List (List IV)} (h : Clip J J' s sz X) (hsz : 0 < sz) (hX : ∀ x ∈ X, x.length = sz) (hp : ipureL X.flatten = true) (ho : X.flatten.all ione = true) : ∃ u, (∀ k, frz J' (k + 1) s = some u) ∧ Ls sz u (X.map (mkE sz)) := by
 rcases h with ⟨rfl, rfl, rfl⟩ | ⟨hne, rfl, rfl⟩
 ·exact ⟨_, fun k => frz_pure _ _ rfl, .lst⟩
 ·refine ⟨.lst sz (X.length == UNK + sz && decide (UNK + sz < UNK)) (X.map (mkE sz)), fun k => ?_, .lst⟩
  rw [frz_sl (cs := X.flatten) hsz ?_ hp ho, grp_flat hX]
  simp only [ird, push_get, true_and, Nat.zero_add, List.drop_zero]
  rw [if_pos (by rw [flat_len hX]; exact Nat.le_refl _), List.take_of_length_le (by rw [flat_len hX]; exact Nat.le_refl _)]
theorem Clip.fr {J J' : JH} {s : IV} {sz : Nat} {X : List (List IV)} (h : Clip J J' s sz X) : Fr J J' [] := by
 rcases h with ⟨_, _, rfl⟩ | ⟨_, _, rfl⟩
 ·exact .refl _ _
 ·exact .push _ _ _
theorem Clip.lenF {J J' : JH} {s : IV} {sz : Nat} {X : List (List IV)} (h : Clip J J' s sz X) (J2 : JH) : Go.Proofs.Ytmlhdkamogjbbaa.G.lenF false s J2 = some (nI X.length, J2) := by
 rcases h with ⟨rfl, rfl, _⟩ | ⟨_, rfl, _⟩ <;> rfl
attribute [go_sem] Nat.add_lt_add_iff_left Nat.add_left_cancel_iff Nat.lt_add_right_iff_pos Array.getElem?_push Array.getElem?_setIfInBounds
theorem gsE {J : JH} {b d : Nat} {X : IB} (e : b = d) (h : b < J.size) : (J.setIfInBounds b X)[d]? = some X := by subst e; exact set_get J h
theorem gsN {J : JH} {b d : Nat} {X : IB} {r : Option IB} (h : b ≠ d) (k : J[d]? = r) : (J.setIfInBounds b X)[d]? = r := by rw [Array.getElem?_setIfInBounds, if_neg h]; exact k
theorem gpN {J : JH} {d : Nat} {X : IB} {r : Option IB} (h : d < J.size) (k : J[d]? = r) : (J.push X)[d]? = r := by rw [Array.getElem?_push, if_neg (by omega)]; exact k
theorem gpE {J : JH} {d : Nat} {X : IB} (h : d = J.size) : (J.push X)[d]? = some X := by subst h; exact push_get J X
theorem Fr.psh {J J1 : JH} {S : List Nat} (h : Fr J J1 S) {X : IB} : Fr J (J1.push X) S := h.trans (Fr.push _ _ S) (fun _ _ h => h)
theorem Fr.stn {J J1 : JH} {S : List Nat} (h : Fr J J1 S) {b : Nat} {X : IB} (hb : J.size ≤ b) : Fr J (J1.setIfInBounds b X) S := ⟨by rw [Array.size_setIfInBounds]; exact h.1, fun d hd hn => by rw [Array.getElem?_setIfInBounds, if_neg (by omega)]; exact h.2 d hd hn⟩
theorem Fr.sts {J J1 : JH} {S : List Nat} (h : Fr J J1 S) {b : Nat} {X : IB} (hb : b ∈ S) : Fr J (J1.setIfInBounds b X) S := h.trans (Fr.set _ _ hb) (fun _ _ h => h)
def RawX (J : JH) (s : IV) (sz : Nat) (X : List (List IV)) : Prop := ∃ b v c, s = .sl b v 0 X.length c sz ∧ J[b]? = some (.cells v X.flatten false)
theorem RawX.fr {J J' : JH} {s : IV} {sz : Nat} {X : List (List IV)} {S : List Nat} (h : RawX J s sz X) (hf : Fr J J' S) (hs : ∀ d ∈ blk s, d ∉ S) : RawX J' s sz X := by
 obtain ⟨b, v, c, rfl, hb⟩ := h
 exact ⟨b, v, c, rfl, by rw [hf.2 b (lt_get hb) (hs b (by simp [blk, blkOf]))]; exact hb⟩
theorem RawX.lenF {J : JH} {s : IV} {sz : Nat} {X : List (List IV)} (h : RawX J s sz X) (J2 : JH) : Go.Proofs.Ytmlhdkamogjbbaa.G.lenF false s J2 = some (nI X.length, J2) := by
 obtain ⟨b, v, c, rfl, hb⟩ := h; rfl
theorem RawX.rd {J : JH} {b v c sz : Nat} {X : List (List IV)} (hb : J[b]? = some (.cells v X.flatten false)) (hX : ∀ x ∈ X, x.length = sz) : ird J b v 0 (X.length * sz) = some X.flatten := by
 have hl := flat_len hX
 simp only [ird, hb, true_and, Nat.zero_add, List.drop_zero]
 rw [if_pos (by omega), List.take_of_length_le (by omega)]
theorem RawX.frz {J : JH} {s : IV} {sz : Nat} {X : List (List IV)} (h : RawX J s sz X) (hsz : 0 < sz) (hX : ∀ x ∈ X, x.length = sz) (hp : ipureL X.flatten = true) (ho : X.flatten.all ione = true) : ∃ u, (∀ k, Go.Proofs.Ytmlhdkamogjbbaa.G.frz J (k + 1) s = some u) ∧ Ls sz u (X.map (mkE sz)) := by
 obtain ⟨b, v, c, rfl, hb⟩ := h
 refine ⟨_, fun k => frz_sl hsz (RawX.rd (c := c) hb hX) hp ho, ?_⟩
 rw [grp_flat hX]; exact .lst
theorem RawX.shows {J : JH} {s : IV} {sz : Nat} {X : List (List IV)} (h : RawX J s sz X) (hX : ∀ x ∈ X, x.length = sz) (hp : ipureL X.flatten = true) : ∀ d ∈ Go.Proofs.Ytmlhdkamogjbbaa.G.shows J DEP s, d ∈ blk s := by
 obtain ⟨b, v, c, rfl, hb⟩ := h
 intro d hd
 rw [frz12, shows_sl (RawX.rd (c := c) hb hX) hp] at hd
 exact hd
inductive FA (J : JH) (S : List Nat) : List IV → List IV → Prop where
 | nil : FA J S [] []
 | pure {v : IV} {vs us : List IV} : ipure v = true → FA J S vs us → FA J S (v :: vs) (v :: us)
 | raw {v u : IV} {vs us : List IV} : frz J DEP v = some u → (∀ d ∈ shows J DEP v, d ∈ S) → FA J S vs us → FA J S (v :: vs) (u :: us)
theorem FA.mapM {J : JH} {S : List Nat} {vs us : List IV} (h : FA J S vs us) : vs.mapM (frz J DEP) = some us := by
 induction h with
 | nil => rfl
 | pure hv _ ih => rw [List.mapM_cons, frz_pure J _ hv, ih]; rfl
 | raw hv _ _ ih => rw [List.mapM_cons, hv, ih]; rfl
def KeepC (J J' : JH) : Prop := ∀ (d w : Nat) (cs : List IV) (f : Bool), J[d]? = some (IB.cells w cs f) → ∃ f', J'[d]? = some (IB.cells w cs f')
theorem KeepC.refl (J : JH) : KeepC J J := fun d w cs f h => ⟨f, h⟩
theorem KeepC.mark (J : JH) (l : List Nat) : KeepC J (markA J l) := fun d w cs f h => by
 rw [markA_get]
 by_cases hm : d ∈ l
 ·rw [if_pos hm, h]; exact ⟨true, rfl⟩
 ·rw [if_neg hm, h]; exact ⟨f, rfl⟩
theorem KeepC.rd {J J' : JH} (h : KeepC J J') {b v off n : Nat} {cs : List IV} (hr : ird J b v off n = some cs) : ird J' b v off n = some cs := by
 unfold ird at hr ⊢
 cases hb : J[b]? with
 | none => rw [hb] at hr; simp at hr
 | some X =>
  rw [hb] at hr
  cases X with
  | cells w c f =>
   obtain ⟨f', hf⟩ := h b w c f hb
   rw [hf]; exact hr
  | map _ _ => simp at hr
theorem KeepC.cells {J J' : JH} (h : KeepC J J') {sz : Nat} {x : IV} {cs : List IV} (hr : iscells J sz x = some cs) : iscells J' sz x = some cs := by
 unfold iscells at hr ⊢
 split at hr
 ·exact hr
 ·exact h.rd hr
 ·exact hr
 ·cases hr
def ones (κ : IntKind) (l : List Int) : List (List IV) := l.map fun v => [IV.int κ v]
theorem set_own {α : Type} {J : Array α} {b : Nat} {X : α} (h : J[b]? = some X) : J.setIfInBounds b X = J := by
 apply Array.ext_getElem?
 intro i
 rw [Array.getElem?_setIfInBounds]
 split
 ·rename_i e; subst e
  rw [if_pos (lt_get h), h]
 ·rfl
def uI (t : Int) : IV := .int .u32 t
def uL (X : List Int) : List IV := X.map uI
theorem uL_len (X : List Int) : (uL X).length = X.length := by simp [uL]
theorem uL_one (X : List Int) : (uL X).all ione = true := by simp [uL, uI, ione, one]
theorem uL_at (X : List Int) {j : Nat} (h : j < X.length) : ((uL X).drop j).take 1 = [uI X[j]] := by
 rw [List.drop_eq_getElem_cons (by rw [uL_len]; exact h)]
 simp [uL]
theorem uL_set (X : List Int) (j : Nat) (v : Int) (h : j < X.length) : isplice (uL X) j [uI v] = uL (X.set j v) := by
 rw [isplice_set (by rw [uL_len]; exact h), uL, uL, List.map_set]
structure InsI (X0 X : List Int) (i j : Nat) : Prop where
 perm : X.Perm X0
 cut : ∃ A x B C, X = A ++ x :: (B ++ C) ∧ A.length = j ∧ j + B.length = i ∧ (A ++ B).Pairwise (· ≤ ·) ∧ ∀ y ∈ B, x ≤ y
theorem InsI.start {X0 X : List Int} {i : Nat} (hp : X.Perm X0) (hi : i < X.length) (hs : (X.take i).Pairwise (· ≤ ·)) : InsI X0 X i i := by
 refine ⟨hp, X.take i, X[i], [], X.drop (i + 1), ?_, by simp; omega, by simp, by simpa using hs, by simp⟩
 rw [List.nil_append, ← List.drop_eq_getElem_cons hi, List.take_append_drop]
theorem InsI.lt {X0 X : List Int} {i j : Nat} (h : InsI X0 X i j) : j < X.length := by
 obtain ⟨A, x, B, C, rfl, rfl, _⟩ := h.cut
 simp
theorem InsI.done0 {X0 X : List Int} {i j : Nat} (h : InsI X0 X i j) (hd : ∀ a, 0 < j → X[j - 1]? = some a → ∀ x, X[j]? = some x → a ≤ x) : (X.take (i + 1)).Pairwise (· ≤ ·) := by
 obtain ⟨A, x, B, C, rfl, rfl, hj, hs, hb⟩ := h.cut
 have e : (A ++ x :: (B ++ C)).take (i + 1) = A ++ x :: B := by
  rw [show A ++ x :: (B ++ C) = (A ++ x :: B) ++ C by simp]
  rw [List.take_append_of_le_length (by simp; omega), List.take_of_length_le (by simp; omega)]
 rw [e]
 rw [List.pairwise_append] at hs ⊢
 refine ⟨hs.1, List.pairwise_cons.2 ⟨hb, hs.2.1⟩, ?_⟩
 have hax : ∀ a ∈ A, a ≤ x := by
  intro a ha
  rcases List.eq_nil_or_concat A with rfl | ⟨A', z, rfl⟩
  ·cases ha
  ·rw [List.concat_eq_append] at *
   have hz := hd z (by simp) (by simp) x (by simp)
   rcases List.mem_append.1 ha with ha | ha
   ·have := (List.pairwise_append.1 hs.1).2.2 a ha z (by simp)
    omega
   ·simp at ha; subst ha; exact hz
 intro a ha y hy
 rcases List.mem_cons.1 hy with rfl | hy
 ·exact hax a ha
 ·exact hs.2.2 a ha y hy
theorem InsI.step {X0 X : List Int} {i j : Nat} (h : InsI X0 X i j) (h0 : 0 < j) (a x : Int) (ha : X[j - 1]? = some a) (hx : X[j]? = some x) (hlt : x < a) : InsI X0 ((X.set j a).set (j - 1) x) i (j - 1) := by
 obtain ⟨A, x', B, C, hX, hA, hj, hs, hb⟩ := h.cut
 have hp := h.perm
 subst hX
 rcases List.eq_nil_or_concat A with rfl | ⟨A', z, rfl⟩
 ·simp at hA; omega
 ·rw [List.concat_eq_append] at *
  subst hA
  obtain rfl : x' = x := by simpa using hx
  obtain rfl : z = a := by simpa using ha
  have e : (((A' ++ [z] ++ x' :: (B ++ C)).set (A' ++ [z]).length z).set ((A' ++ [z]).length - 1) x') = A' ++ x' :: (z :: B ++ C) := by
   rw [List.set_append_right _ _ (Nat.le_refl _)]
   simp
  rw [e]
  refine ⟨?_, A', x', z :: B, C, rfl, by simp, by simp at hj ⊢; omega, by simpa using hs, ?_⟩
  ·refine List.Perm.trans ?_ hp
   simp only [List.append_assoc, List.cons_append, List.nil_append]
   exact List.Perm.append_left A' (List.Perm.swap _ _ _)
  ·intro y hy
   rcases List.mem_cons.1 hy with rfl | hy
   ·omega
   ·exact hb y hy
theorem InsI.len {X0 X : List Int} {i j : Nat} (h : InsI X0 X i j) : X.length = X0.length := h.perm.length_eq
theorem Less_ok (a b : Int) : pc BI F_cmp_Less_uint32 [uI a, uI b] = some (.sc (.bool (decide (a < b)))) := by
 have hn : ∀ x : Int, pc BI F_cmp_isNaN_uint32 [uI x] = some (.bool false) := fun x => by
  refine pcE fn_cmp_isNaN_uint32 rfl fun K hK => ?_
  unfold l_cmp_isNaN_uint32 uI
  simp -implicitDefEqProofs only [go_sem, go_sem_proc, show (x != x) = false by simp]
  exact hK _ _ (frzP rfl)
 refine pcE fn_cmp_Less_uint32 rfl fun K hK => ?_
 unfold l_cmp_Less_uint32
 simp -implicitDefEqProofs only [go_sem, go_sem_proc, dcp (hn a) rfl]
 unfold uI
 simp -implicitDefEqProofs only [go_sem, go_sem_proc]
 exact hK _ _ (frzP rfl)
theorem ins_round (X : List Int) (b cap i j n : Nat) (hn : X.length = n) (hj : j < n) (hc : n ≤ 1000000) (J : JH) (hJ : J[b]? = some (.cells 0 (uL X) false)) (K : Out IV → JH → Prop)
  (h1 : (∀ a, 0 < j → X[j - 1]? = some a → ∀ x, X[j]? = some x → a ≤ x) → K (.goto 1 [.sl b 0 0 n cap 1, nI 0, nI n, nI i]) J)
  (h2 : ∀ a x, 0 < j → X[j - 1]? = some a → X[j]? = some x → x < a → K (.goto 2 [.sl b 0 0 n cap 1, nI 0, nI n, nI i, nI (j - 1)]) (J.setIfInBounds b (.cells 0 (uL ((X.set j a).set (j - 1) x)) false))) :
  WP (dn BI l_slices_insertionSortOrdered_uint32_k1 [.sl b 0 0 n cap 1, nI 0, nI n, nI i, nI j] J) K := by
 unfold l_slices_insertionSortOrdered_uint32_k1
 by_cases hj0 : j = 0
 ·subst hj0
  simp -implicitDefEqProofs only [go_sem, go_sem_proc, show ¬ (((0 : Nat) : Int) > ((0 : Nat) : Int)) by omega]
  exact h1 (fun a h => by omega)
 ·have hw : IntKind.i64.wrap ((j : Int) - 1) = ((j - 1 : Nat) : Int) := by rw [wrap_i64 (by omega) (by omega)]; omega
  have e1 : ((uL X).drop j).take 1 = [uI X[j]] := uL_at X (by omega)
  have e2 : ((uL X).drop (j - 1)).take 1 = [uI X[j - 1]] := uL_at X (by omega)
  have g1 : X[j]? = some X[j] := List.getElem?_eq_getElem (by omega)
  have g2 : X[j - 1]? = some X[j - 1] := List.getElem?_eq_getElem (by omega)
  have l1 := uL_len X
  have hb := lt_get hJ
  generalize X[j] = x at *
  generalize X[j - 1] = a at *
  have hle := Less_ok x a
  have s1 := uL_set X j a (by omega)
  have s2 := uL_set (X.set j a) (j - 1) x (by rw [List.length_set]; omega)
  have l2 := uL_len (X.set j a)
  rw [List.length_set] at l2
  have c1 : ((j : Int) > ((0 : Nat) : Int)) := by omega
  have b0 : (b < J.size) = True := by simp [hb]
  have j1 : (0 + j * 1 = j) := by omega
  have j2 : (0 + (j - 1) * 1 = j - 1) := by omega
  have j3 : (j - 1 < n) = True := by simp; omega
  have j4 : (j < n) = True := by simp [hj]
  have u1 : ∀ t, icells (uI t) = [uI t] := fun t => rfl
  have u2 : ∀ t, ione (uI t) = true := fun t => rfl
  have o1 := uL_one X
  have o2 := uL_one (X.set j a)
  have r1 : j + 1 ≤ n := by omega
  have r2 : j - 1 + 1 ≤ n := by omega
  by_cases hlt : x < a
  ·have h2' := h2 a x (by omega) g2 g1 hlt
   have hl : pc BI F_cmp_Less_uint32 [uI x, uI a] = some (.sc (.bool true)) := by rw [hle]; simp [hlt]
   simp -implicitDefEqProofs only [go_sem, go_sem_proc, c1, hw, j1, j2, j3, j4, hJ, l1, hn, r1, r2, e1, e2, dcp hl rfl, l_slices_insertionSortOrdered_uint32_k0, ↓u1, ↓u2, s1, s2, l2, set_get _ hb, set_set, Array.size_setIfInBounds, b0]
   exact h2'
  ·have h1' := h1 (fun a' _ ha x' hx => by rw [g2] at ha; rw [g1] at hx; cases ha; cases hx; omega)
   have hl : pc BI F_cmp_Less_uint32 [uI x, uI a] = some (.sc (.bool false)) := by rw [hle]; simp [hlt]
   simp -implicitDefEqProofs only [go_sem, go_sem_proc, c1, hw, j1, j2, j3, j4, hJ, l1, hn, r1, r2, e1, e2, dcp hl rfl]
   exact h1'
theorem Ins_ok (X0 : List Int) (b cap : Nat) (hc : X0.length ≤ 1000000) (J : JH) (hJ : J[b]? = some (.cells 0 (uL X0) false)) :
  RP (ic BI F_slices_insertionSortOrdered_uint32 [.sl b 0 0 X0.length cap 1, nI 0, nI X0.length] J) fun v J' => v = .tup [] ∧ ∃ Y, Y.Perm X0 ∧ Y.Pairwise (· ≤ ·) ∧ J' = J.setIfInBounds b (.cells 0 (uL Y) false) := by
 refine RP_run fn_slices_insertionSortOrdered_uint32 rfl fun K hK => ?_
 unfold l_slices_insertionSortOrdered_uint32
 have hb := lt_get hJ
 simp -implicitDefEqProofs only [go_sem, go_sem_proc, show IntKind.i64.wrap (((0 : Nat) : Int) + 1) = ((1 : Nat) : Int) by decide, dn_loop]
 refine WP_rangeT X0.length (fun k vs J' => ∃ i X, k + 1 = i ∧ vs = [.sl b 0 0 X0.length cap 1, nI 0, nI X0.length, nI i] ∧ X.Perm X0 ∧ (X.take i).Pairwise (· ≤ ·) ∧ J' = J.setIfInBounds b (.cells 0 (uL X) false)) ?_ ⟨1, X0, rfl, rfl, .refl _, ?_, ?_⟩
 ·rintro k vs J1 ⟨i, X, rfl, rfl, hp, hs, rfl⟩ hk K1 g1 g2 g3
  unfold l_slices_insertionSortOrdered_uint32_k3
  have hlen := hp.length_eq
  by_cases hlt : k + 1 < X0.length
  ·simp -implicitDefEqProofs only [go_sem, go_sem_proc, show (((k + 1 : Nat) : Int) < (X0.length : Int)) by omega, dn_loop]
   refine WP_loop (by decide) (fun m vs J' => ∃ X, vs = [.sl b 0 0 X0.length cap 1, nI 0, nI X0.length, nI (k + 1), nI m] ∧ InsI X0 X (k + 1) m ∧ J' = J.setIfInBounds b (.cells 0 (uL X) false)) ?_ (k + 1) _ _ ⟨X, rfl, .start hp (by omega) hs, rfl⟩
   rintro m vs J2 ⟨X2, rfl, hI, rfl⟩ K2 q1 q2 q3
   have hlen2 := hI.len
   refine ins_round X2 b cap (k + 1) m X0.length hlen2 (by have := hI.lt; omega) hc _ (set_get _ hb) K2 ?_ ?_
   ·intro hd
    refine q2 _ _ ?_
    unfold l_slices_insertionSortOrdered_uint32_k2
    simp -implicitDefEqProofs only [go_sem, go_sem_proc, wrapS hlt (by omega)]
    exact g1 (by omega) _ _ ⟨k + 1 + 1, X2, rfl, rfl, hI.perm, hI.done0 hd, rfl⟩
   ·intro a x h0 ha hx hlt2
    rw [set_set]
    exact q1 _ (m - 1) _ (by omega) ⟨_, rfl, hI.step h0 a x ha hx hlt2, rfl⟩
  ·simp -implicitDefEqProofs only [go_sem, go_sem_proc, show ¬ (((k + 1 : Nat) : Int) < (X0.length : Int)) by omega]
   refine g3 _ _ (hK _ _ ⟨rfl, X, hp, ?_, rfl⟩)
   rw [List.take_of_length_le (by omega)] at hs
   exact hs
 ·cases X0 with
  | nil => simp
  | cons a t => simp
 ·exact (set_own hJ).symm
theorem Sort_ok (X0 : List Int) (b cap : Nat) (hc : X0.length ≤ 12) (J : JH) (hJ : J[b]? = some (.cells 0 (uL X0) false)) :
  RP (ic BI F_slices_Sort_Luint32_uint32 [.sl b 0 0 X0.length cap 1] J) fun v J' => v = .tup [] ∧ ∃ Y, Y.Perm X0 ∧ Y.Pairwise (· ≤ ·) ∧ J' = J.setIfInBounds b (.cells 0 (uL Y) false) := by
 refine RP_run fn_slices_Sort_Luint32_uint32 rfl fun K hK => ?_
 unfold l_slices_Sort_Luint32_uint32
 obtain ⟨q, hq⟩ : ∃ q : Nat, pc BI F_math_bits_Len [.int .u64 (X0.length : Int)] = some (nI q) := by
  have h : ∀ k : Nat, k ≤ 12 → ∃ q : Nat, pc BI F_math_bits_Len [.int .u64 (k : Int)] = some (nI q) := by
   intro k hk
   have hk2 : (k : Nat) = 0 ∨ k = 1 ∨ k = 2 ∨ k = 3 ∨ k = 4 ∨ k = 5 ∨ k = 6 ∨ k = 7 ∨ k = 8 ∨ k = 9 ∨ k = 10 ∨ k = 11 ∨ k = 12 := by omega
   rcases hk2 with rfl | rfl | rfl | rfl | rfl | rfl | rfl | rfl | rfl | rfl | rfl | rfl | rfl
   ·exact ⟨0, pcK 20 (by kernel_rfl)⟩
   ·exact ⟨1, pcK 20 (by kernel_rfl)⟩
   ·exact ⟨2, pcK 20 (by kernel_rfl)⟩
   ·exact ⟨2, pcK 20 (by kernel_rfl)⟩
   ·exact ⟨3, pcK 20 (by kernel_rfl)⟩
   ·exact ⟨3, pcK 20 (by kernel_rfl)⟩
   ·exact ⟨3, pcK 20 (by kernel_rfl)⟩
   ·exact ⟨3, pcK 20 (by kernel_rfl)⟩
   ·exact ⟨4, pcK 20 (by kernel_rfl)⟩
   ·exact ⟨4, pcK 20 (by kernel_rfl)⟩
   ·exact ⟨4, pcK 20 (by kernel_rfl)⟩
   ·exact ⟨4, pcK 20 (by kernel_rfl)⟩
   ·exact ⟨4, pcK 20 (by kernel_rfl)⟩
  exact h _ hc
 have hp : RP (ic BI F_slices_pdqsortOrdered_uint32 [.sl b 0 0 X0.length cap 1, nI 0, nI X0.length, nI q] J) fun v J' => v = .tup [] ∧ ∃ Y, Y.Perm X0 ∧ Y.Pairwise (· ≤ ·) ∧ J' = J.setIfInBounds b (.cells 0 (uL Y) false) := by
  refine RP_run fn_slices_pdqsortOrdered_uint32 rfl fun K hK => ?_
  unfold l_slices_pdqsortOrdered_uint32
  simp -implicitDefEqProofs only [go_sem, go_sem_proc, dn_loop]
  refine WP_rangeT 0 (fun k vs J' => vs = [.sl b 0 0 X0.length cap 1, nI 0, nI X0.length, nI q, .sc (.bool true), .sc (.bool true)] ∧ J' = J) ?_ ⟨rfl, rfl⟩
  rintro k vs J1 ⟨rfl, rfl⟩ hk K1 g1 g2 g3
  unfold l_slices_pdqsortOrdered_uint32_k4
  have hw : IntKind.i64.wrap ((X0.length : Int) - ((0 : Nat) : Int)) = (X0.length : Int) := by rw [wrap_i64 (by omega) (by omega)]; omega
  simp -implicitDefEqProofs only [go_sem, go_sem_proc, hw, show ((X0.length : Int) ≤ 12) by omega]
  refine WP_call (Ins_ok X0 b cap (by omega) J1 hJ) fun v J' hv => ?_
  obtain ⟨rfl, Y, y1, y2, rfl⟩ := hv
  simp -implicitDefEqProofs only [go_sem, go_sem_proc]
  exact g3 _ _ (hK _ _ ⟨rfl, Y, y1, y2, rfl⟩)
 have hw : IntKind.u64.wrap (X0.length : Int) = (X0.length : Int) := by
  simp only [IntKind.wrap, IntKind.bits, IntKind.signed, Bool.false_and, Bool.false_eq_true, if_false]; omega
 simp -implicitDefEqProofs only [go_sem, go_sem_proc, lenF_sl, hw, dcp hq rfl]
 refine WP_call hp fun v J' hv => ?_
 obtain ⟨rfl, Y, y1, y2, rfl⟩ := hv
 simp -implicitDefEqProofs only [go_sem, go_sem_proc]
 exact hK _ _ ⟨rfl, Y, y1, y2, rfl⟩
theorem Sort_nil (J : JH) : RP (ic BI F_slices_Sort_Luint32_uint32 [.sc (.slice none 0 0)] J) fun v J' => v = .tup [] ∧ J' = J := by
 refine RP_run fn_slices_Sort_Luint32_uint32 rfl fun K hK => ?_
 unfold l_slices_Sort_Luint32_uint32
 have hq : pc BI F_math_bits_Len [.int .u64 0] = some (nI 0) := pcK 20 (by kernel_rfl)
 have hi : RP (ic BI F_slices_insertionSortOrdered_uint32 [.sc (.slice none 0 0), nI 0, nI 0] J) fun v J' => v = .tup [] ∧ J' = J := by
  refine RP_run fn_slices_insertionSortOrdered_uint32 rfl fun K hK => ?_
  unfold l_slices_insertionSortOrdered_uint32
  simp -implicitDefEqProofs only [go_sem, go_sem_proc, show IntKind.i64.wrap (((0 : Nat) : Int) + 1) = ((1 : Nat) : Int) by decide, dn_loop]
  refine WP_rangeT 0 (fun k vs J' => vs = [.sc (.slice none 0 0), nI 0, nI 0, nI 1] ∧ J' = J) ?_ ⟨rfl, rfl⟩
  rintro k vs J1 ⟨rfl, rfl⟩ hk K1 g1 g2 g3
  unfold l_slices_insertionSortOrdered_uint32_k3
  simp -implicitDefEqProofs only [go_sem, go_sem_proc, show ¬ (((1 : Nat) : Int) < ((0 : Nat) : Int)) by omega]
  exact g3 _ _ (hK _ _ ⟨rfl, rfl⟩)
 have hp : RP (ic BI F_slices_pdqsortOrdered_uint32 [.sc (.slice none 0 0), nI 0, nI 0, nI 0] J) fun v J' => v = .tup [] ∧ J' = J := by
  refine RP_run fn_slices_pdqsortOrdered_uint32 rfl fun K hK => ?_
  unfold l_slices_pdqsortOrdered_uint32
  simp -implicitDefEqProofs only [go_sem, go_sem_proc, dn_loop]
  refine WP_rangeT 0 (fun k vs J' => vs = [.sc (.slice none 0 0), nI 0, nI 0, nI 0, .sc (.bool true), .sc (.bool true)] ∧ J' = J) ?_ ⟨rfl, rfl⟩
  rintro k vs J1 ⟨rfl, rfl⟩ hk K1 g1 g2 g3
  unfold l_slices_pdqsortOrdered_uint32_k4
  simp -implicitDefEqProofs only [go_sem, go_sem_proc, show IntKind.i64.wrap (((0 : Nat) : Int) - ((0 : Nat) : Int)) = 0 by decide, show ((0 : Int) ≤ 12) by omega]
  refine WP_call hi fun v J' hv => ?_
  obtain ⟨rfl, rfl⟩ := hv
  simp -implicitDefEqProofs only [go_sem, go_sem_proc]
  exact g3 _ _ (hK _ _ ⟨rfl, rfl⟩)
 simp -implicitDefEqProofs only [go_sem, go_sem_proc, lenF_nil, show IntKind.u64.wrap 0 = 0 by decide, dcp hq rfl]
 refine WP_call hp fun v J' hv => ?_
 obtain ⟨rfl, rfl⟩ := hv
 simp -implicitDefEqProofs only [go_sem, go_sem_proc]
 exact hK _ _ ⟨rfl, rfl⟩
def within (m n : BitVec 32) : Bool := m &&& ~~~n == 0#32
theorem Within_ok (m n : BitVec 32) : pc BI F_mask_Mask_Within [m32 m, m32 n] = some (.bool (within m n)) := by
 refine pcE fn_mask_Mask_Within rfl fun K hK => ?_
 unfold l_mask_Mask_Within
 simp -implicitDefEqProofs only [go_sem, go_sem_proc]
 exact hK _ _ (frzE rfl rfl)
def allM (n : Int) : BitVec 32 := BitVec.ofNat 32 (2 ^ (min (max n 0) 32).toNat - 1)
theorem All_ok (n : Int) : pc BI F_mask_All [.int .i64 n] = some (m32 (allM n)) := by
 refine pcE fn_mask_All rfl fun K hK => ?_
 unfold l_mask_All
 simp -implicitDefEqProofs only [go_sem, go_sem_proc, show ¬ (min (max n 0) 32 < 0) by omega]
 refine hK _ _ (frzE rfl ?_)
 obtain ⟨k, hk, hk2⟩ : ∃ k : Nat, min (max n 0) 32 = (k : Int) ∧ k ≤ 32 := ⟨(min (max n 0) 32).toNat, by omega, by omega⟩
 simp only [itup, allM, m32, hk, Int.toNat_natCast, BitVec.toNat_ofNat]
 have h1 : (2 : Nat) ^ k ≤ 2 ^ 32 := Nat.pow_le_pow_right (by omega) hk2
 have h2 : 0 < (2 : Nat) ^ k := Nat.pow_pos (by omega)
 have h3 : (1#64 <<< k).toNat = 2 ^ k := by
  rw [BitVec.toNat_shiftLeft, Nat.shiftLeft_eq]
  simp only [BitVec.toNat_ofNat]
  omega
 simp only [Nat.min_eq_left (show k ≤ 64 by omega), h3]
 generalize (2 : Nat) ^ k = p at *
 simp only [IntKind.wrap, IntKind.bits, IntKind.signed]
 simp
 omega
structure Cl where
 v : Int
 s : BitVec 32
 deriving DecidableEq
def Cl.c (c : Cl) : List IV := [.int .i32 c.v, m32 c.s]
def Cl.z : Cl := ⟨0, 0#32⟩
structure Bd where
 l : List Cl
 h : l.length ≤ 48
theorem Bd.ext {a b : Bd} (h : a.l = b.l) : a = b := by cases a; cases b; cases h; rfl
instance : DecidableEq Bd := fun a b => if h : a.l = b.l then isTrue (Bd.ext h) else isFalse fun e => h (by rw [e])
def Bd.pad (b : Bd) : List (List IV) := (b.l ++ List.replicate (48 - b.l.length) Cl.z).map Cl.c
def bdc (b : Bd) : List IV := b.pad.flatten ++ [nI b.l.length]
def Bd.set (b : Bd) (i : Nat) (c : Cl) : Bd := ⟨b.l.set i c, by rw [List.length_set]; exact b.h⟩
def Bd.map (b : Bd) (f : Cl → Cl) : Bd := ⟨b.l.map f, by rw [List.length_map]; exact b.h⟩
def Bd.z : Bd := ⟨[], by simp⟩
theorem pad2 (b : Bd) : ∀ e ∈ b.pad, e.length = 2 := by
 intro e he
 obtain ⟨y, _, rfl⟩ := List.mem_map.1 he
 rfl
theorem pad_len (b : Bd) : b.pad.length = 48 := by
 have := b.h
 simp [Bd.pad]; omega
theorem bdc_len (b : Bd) : (bdc b).length = 97 := by
 simp only [bdc, List.length_append, flat_len (pad2 b), pad_len, List.length_cons, List.length_nil]
theorem bdc_one (b : Bd) : (bdc b).all ione = true := by
 rw [List.all_eq_true]
 intro x hx
 rcases List.mem_append.1 hx with hx | hx
 ·obtain ⟨e, he, hx⟩ := List.mem_flatten.1 hx
  obtain ⟨y, _, rfl⟩ := List.mem_map.1 he
  simp [Cl.c] at hx
  rcases hx with rfl | rfl <;> rfl
 ·simp at hx; subst hx; rfl
theorem bdc_pure (b : Bd) : ipureL (bdc b) = true := by
 rw [ipureL_iff]
 intro x hx
 rcases List.mem_append.1 hx with hx | hx
 ·obtain ⟨e, he, hx⟩ := List.mem_flatten.1 hx
  obtain ⟨y, _, rfl⟩ := List.mem_map.1 he
  simp [Cl.c] at hx
  rcases hx with rfl | rfl <;> rfl
 ·simp at hx; subst hx; rfl
theorem bdc_take (b : Bd) : (bdc b).take 97 = bdc b := List.take_of_length_le (by rw [bdc_len]; exact Nat.le_refl _)
theorem bdc_n (b : Bd) : ((bdc b).drop 96).take 1 = [nI b.l.length] := by
 have h : b.pad.flatten.length = 96 := by rw [flat_len (pad2 b), pad_len]
 rw [bdc, List.drop_append_of_le_length (by omega), List.drop_of_length_le (by omega)]; rfl
theorem bdc_all (b c : Bd) : isplice (bdc b) 0 (bdc c) = bdc c := by
 simp only [isplice, List.take_zero, List.nil_append, Nat.zero_add]
 rw [List.drop_of_length_le (by rw [bdc_len, bdc_len]; exact Nat.le_refl _), List.append_nil]
theorem zc_bd : (reps 48 [Value.int .i32 0, Value.int .u32 0] ++ [Value.int .i64 0]).map IV.sc = bdc Bd.z := by rfl
theorem cells_eq : ∀ (p q : List Cl) (n m : Nat), p.length = q.length → iaggEq ((p.map Cl.c).flatten ++ [nI n]) ((q.map Cl.c).flatten ++ [nI m]) = some (decide (p = q ∧ n = m))
 | [], [], n, m, _ => by
  simp only [List.map_nil, List.flatten_nil, List.nil_append, iaggEq, if_true, Bool.and_true, true_and]
  congr 1
  rw [Bool.eq_iff_iff]; simp; omega
 | a :: p, b :: q, n, m, h => by
  have ih := cells_eq p q n m (by simpa using h)
  obtain ⟨av, as⟩ := a
  obtain ⟨bv, bs⟩ := b
  simp only [List.map_cons, List.flatten_cons, Cl.c, List.cons_append, List.nil_append, iaggEq, if_true, ih, List.append_eq, beqB]
  congr 1
  rw [Bool.eq_iff_iff]
  simp [and_assoc]
 | [], _ :: _, _, _, h => by simp at h
 | _ :: _, [], _, _, h => by simp at h
theorem bdc_eq (a b : Bd) : iaggEq (bdc a) (bdc b) = some (decide (a = b)) := by
 have ha := a.h
 have hb := b.h
 rw [bdc, bdc, Bd.pad, Bd.pad, cells_eq _ _ _ _ (by simp; omega)]
 congr 1
 rw [decide_eq_decide]
 constructor
 ·rintro ⟨h1, h2⟩
  apply Bd.ext
  rw [h2] at h1
  exact List.append_cancel_right h1
 ·rintro rfl
  exact ⟨rfl, rfl⟩
attribute [go_sem] Cl.c bdc_len bdc_one bdc_pure bdc_take bdc_n bdc_all bdc_eq agg_pure
attribute [go_sem ↓] zc_bd
def Bd.there (b : Bd) (i : Int) : Bool := decide (0 ≤ i ∧ i < (b.l.length : Int))
def Bd.at (b : Bd) (i : Int) : Cl := b.l.getD i.toNat Cl.z
def Bd.put (b : Bd) (i : Int) (c : Cl) : Bd := if b.there i then b.set i.toNat c else b
def Bd.show (b : Bd) (i : Int) (to : BitVec 32) : Bd := if b.there i then b.set i.toNat ⟨(b.at i).v, (b.at i).s ||| to⟩ else b
structure Cd where
 op : Nat
 a : Nat
 b : Nat
 c : Nat
 n : Int
 mask : BitVec 32
 deriving DecidableEq
def Cd.cs (x : Cd) : List IV := [.int .u8 (x.op : Int), .int .u8 (x.a : Int), .int .u8 (x.b : Int), .int .u8 (x.c : Int), .int .i32 x.n, m32 x.mask]
def Cd.e (x : Cd) : IV := .agg x.cs
structure Cd.wf (x : Cd) : Prop where
 op : x.op < 256
 a : x.a < 256
 b : x.b < 256
 c : x.c < 256
 n0 : -2147483648 ≤ x.n
 n1 : x.n < 2147483648
def useOf (op : Nat) : Bool × Bool × Bool × Nat × Bool := match op with
 | 1 => (true, false, false, 1, false)
 | 2 | 3 => (true, false, false, 2, false)
 | 4 | 5 => (true, true, false, 2, false)
 | 6 | 7 | 8 | 9 | 10 | 11 | 12 | 13 | 14 | 15 | 16 | 17 | 18 => (true, true, true, 0, false)
 | 19 => (true, false, false, 3, false)
 | 20 => (false, false, false, 3, false)
 | 21 => (true, false, false, 4, false)
 | 22 => (false, true, false, 2, true)
 | 23 => (true, false, false, 5, false)
 | 24 => (false, false, false, 6, false)
 | 25 => (true, false, false, 0, false)
 | _ => (false, false, false, 0, false)
def useC (u : Bool × Bool × Bool × Nat × Bool) : List IV := [.bool u.1, .bool u.2.1, .bool u.2.2.1, .int .u8 (u.2.2.2.1 : Int), .bool u.2.2.2.2]
def usesL : List IV := ((List.range 26).map fun i => useC (useOf i)).flatten
theorem uses_ok : pc BI F_code_uses [] = some (.agg usesL) := pcK 60 (by kernel_rfl)
theorem uses_len : usesL.length = 130 := by kernel_rfl
theorem uses_one : usesL.all ione = true := by kernel_rfl
theorem uses_pure : ipureL usesL = true := by kernel_rfl
theorem uses_take : usesL.take 130 = usesL := List.take_of_length_le (by rw [uses_len]; exact Nat.le_refl _)
theorem uses_all : isplice usesL 0 usesL = usesL := by kernel_rfl
theorem uses_at {i : Nat} (h : i < 26) : (usesL.drop (i * 5)).take 5 = useC (useOf i) := by
 have := flat_at (rest := []) (X := (List.range 26).map fun i => useC (useOf i)) (sz := 5) (i := i) (fun x hx => by
  obtain ⟨y, _, rfl⟩ := List.mem_map.1 hx; rfl) (by simpa using h)
 rw [List.append_nil] at this
 rw [usesL, this]; simp
attribute [go_sem] uses_len uses_one uses_pure uses_take uses_all
def regOk (used : Bool) (r : Nat) : Bool := r == 0 || used && decide (r < 8)
theorem natBeq (a b : Nat) : ((a : Int) == (b : Int)) = (a == b) := by rw [Bool.eq_iff_iff]; simp; omega
theorem natBeqc (a c : Nat) : ((a : Int) == no_index (@OfNat.ofNat Int c instOfNat)) = (a == c) := natBeq a c
theorem natBeq0 (a : Nat) : ((a : Int) == 0) = (a == 0) := natBeq a 0
theorem register_ok (used : Bool) (r : Nat) : pc BI F_code_register [.bool used, .int .u8 (r : Int)] = some (.bool (regOk used r)) := by
 refine pcE fn_code_register rfl fun K hK => ?_
 unfold l_code_register
 by_cases h0 : r = 0
 ·subst h0
  simp -implicitDefEqProofs only [go_sem, go_sem_proc]
  exact hK _ _ (frzE rfl rfl)
 have h1 : ((r : Int) == 0) = false := by rw [natBeq0]; simpa using h0
 cases used with
 | true =>
  simp -implicitDefEqProofs only [go_sem, go_sem_proc, h1]
  exact hK _ _ (frzE rfl (by simp [itup, regOk, h0, show ((r : Int) < 8) ↔ (r < 8) by omega]))
 | false =>
  simp -implicitDefEqProofs only [go_sem, go_sem_proc, h1]
  exact hK _ _ (frzE rfl (by simp [itup, regOk, h0]))
def nOk (k : Nat) (n : Int) (size cells players : Nat) : Bool := match k with
 | 1 => true
 | 2 => decide (0 ≤ n ∧ n < cells)
 | 3 => decide (0 ≤ n ∧ n ≤ size)
 | 4 => decide (0 ≤ n ∧ n < players)
 | 5 => decide (1 ≤ n)
 | _ => n == 0
def Cd.right (x : Cd) (size cells players : Nat) : Bool :=
 if x.op > 25 then false else
 if (useOf x.op).2.2.2.1 = 6 then (x.a == 0 && x.b == 0) && (decide (1 ≤ x.c) && decide (x.c ≤ 48)) && decide (0 ≤ x.n) && decide (x.n + x.c ≤ cells) && x.mask == 0#32
 else nOk (useOf x.op).2.2.2.1 x.n size cells players && regOk (useOf x.op).1 x.a && regOk (useOf x.op).2.1 x.b && regOk (useOf x.op).2.2.1 x.c && ((useOf x.op).2.2.2.2 || x.mask == 0#32)
theorem use_le (op : Nat) : (useOf op).2.2.2.1 ≤ 6 := by unfold useOf; split <;> simp
theorem right_k1 (J : JH) (p q : Nat) (v1 v2 : Nat) (x : Cd) (u : Bool × Bool × Bool × Nat × Bool) (ok : Bool) (hp : J[p]? = some (.cells v1 x.cs false)) (hq : J[q]? = some (.cells v2 (useC u) false)) (K : Out IV → JH → Prop)
  (h : K (.ret [.bool (ok && regOk u.1 x.a && regOk u.2.1 x.b && regOk u.2.2.1 x.c && (u.2.2.2.2 || x.mask == 0#32))]) J) : WP (dn BI l_code_right_k1 [.ptr p v1 0, .ptr q v2 0, .bool ok] J) K := by
 unfold l_code_right_k1
 obtain ⟨ua, ub, uc, un, um⟩ := u
 simp only [Cd.cs, useC] at hp hq
 cases ok with
 | false => simp -implicitDefEqProofs only [go_sem, go_sem_proc]; exact h
 | true =>
  simp -implicitDefEqProofs only [go_sem, go_sem_proc, hp, hq, dcp (register_ok ua x.a) rfl]
  cases hA : regOk ua x.a with
  | false => simp -implicitDefEqProofs only [go_sem, go_sem_proc, hA]; simp only [hA] at h; exact h
  | true =>
   simp -implicitDefEqProofs only [go_sem, go_sem_proc, hA, hp, hq, dcp (register_ok ub x.b) rfl]
   cases hB : regOk ub x.b with
   | false => simp -implicitDefEqProofs only [go_sem, go_sem_proc, hB]; simp only [hA, hB] at h; exact h
   | true =>
    simp -implicitDefEqProofs only [go_sem, go_sem_proc, hB, hp, hq, dcp (register_ok uc x.c) rfl]
    cases hC : regOk uc x.c with
    | false => simp -implicitDefEqProofs only [go_sem, go_sem_proc, hC]; simp only [hA, hB, hC] at h; exact h
    | true =>
     cases um with
     | true => simp -implicitDefEqProofs only [go_sem, go_sem_proc, hC, hp, hq]; simp only [hA, hB, hC] at h; exact h
     | false => simp -implicitDefEqProofs only [go_sem, go_sem_proc, hC, hp, hq]; simp only [hA, hB, hC] at h; exact h
theorem or8_0 (a b : Nat) (ha : a < 256) (hb : b < 256) : ∃ r : Nat, abin .or (.int .u8 (a : Int)) (.int .u8 (b : Int)) = some (.int .u8 (r : Int)) ∧ r < 256 ∧ (r = 0 ↔ a = 0 ∧ b = 0) := by
 have h := bor8 (BitVec.ofNat 8 a) (BitVec.ofNat 8 b)
 simp only [BitVec.toNat_ofNat, Nat.mod_eq_of_lt (show a < 2 ^ 8 from ha), Nat.mod_eq_of_lt (show b < 2 ^ 8 from hb)] at h
 refine ⟨_, h, (BitVec.ofNat 8 a ||| BitVec.ofNat 8 b).isLt, ?_⟩
 rw [BitVec.toNat_or, Nat.or_eq_zero_iff]
 simp only [BitVec.toNat_ofNat, Nat.mod_eq_of_lt (show a < 2 ^ 8 from ha), Nat.mod_eq_of_lt (show b < 2 ^ 8 from hb)]
theorem right_k0 (x : Cd) (hx : x.wf) (cells : Nat) (many : Bool) (hc : cells ≤ 1000000) (J : JH) (hJ : J[0]? = some (.cells 0 x.cs false)) :
  dn BI l_code_right_k0 [nI cells, .ptr 0 0 0, .int .i64 x.n, .bool many] J = some (.ret [.bool ((x.a == 0 && x.b == 0) && many && decide (0 ≤ x.n) && decide (x.n + x.c ≤ cells) && x.mask == 0#32)], J) := by
 obtain ⟨w1, w2, w3, w4, w5, w6⟩ := hx
 obtain ⟨r, hr, hr1, hr2⟩ := or8_0 x.a x.b w2 w3
 have hreg : regOk false r = (x.a == 0 && x.b == 0) := by
  rw [Bool.eq_iff_iff]; simp [regOk, hr2]
 have e1 : IntKind.i64.wrap (x.c : Int) = x.c := wrap_i64 (by omega) (by omega)
 have e2 : IntKind.i64.wrap (x.n + x.c) = x.n + x.c := wrap_i64 (by omega) (by omega)
 have hrr := register_ok false r
 rw [hreg] at hrr
 unfold l_code_right_k0
 simp only [Cd.cs] at hJ
 cases hA : (x.a == 0 && x.b == 0) with
 | false =>
  rw [hA] at hrr
  simp -implicitDefEqProofs only [go_sem, go_sem_proc, hJ, ↓hr, dcp hrr rfl]
 | true =>
  rw [hA] at hrr
  cases many with
  | false => simp -implicitDefEqProofs only [go_sem, go_sem_proc, hJ, ↓hr, dcp hrr rfl]
  | true =>
   by_cases h0 : x.n ≥ 0
   ·by_cases h1 : x.n + x.c ≤ cells
    ·simp -implicitDefEqProofs only [go_sem, go_sem_proc, hJ, ↓hr, dcp hrr rfl, h0, e1, e2, h1]
    ·simp -implicitDefEqProofs only [go_sem, go_sem_proc, hJ, ↓hr, dcp hrr rfl, h0, e1, e2, h1]
   ·simp -implicitDefEqProofs only [go_sem, go_sem_proc, hJ, ↓hr, dcp hrr rfl, h0]
theorem right_ok (x : Cd) (hx : x.wf) (size cells players : Nat) (hs : size ≤ 1000000) (hc : cells ≤ 1000000) (hp : players ≤ 1000000) :
  pc BI F_code_right [x.e, .agg usesL, nI size, nI cells, nI players] = some (.bool (x.right size cells players)) := by
 refine pcE fn_code_right rfl fun K hK => ?_
 unfold l_code_right Cd.e
 obtain ⟨w1, w2, w3, w4, w5, w6⟩ := hx
 have hxo : x.cs.all ione = true := rfl
 by_cases hop : x.op > 25
 ·have : ((x.op : Int) > 25) := by omega
  simp -implicitDefEqProofs only [go_sem, go_sem_proc, hxo, Cd.cs, this]
  exact hK _ _ (frzE rfl (by simp [itup, Cd.right, hop]))
 have h1 : ¬ ((x.op : Int) > 25) := by omega
 have hu := uses_at (i := x.op) (by omega)
 have hi : IntKind.i64.wrap x.n = x.n := wrap_i64 (by omega) (by omega)
 have hle := use_le x.op
 have hk : ∀ ok : Bool, (useOf x.op).2.2.2.1 ≠ 6 → nOk (useOf x.op).2.2.2.1 x.n size cells players = ok → ∀ J, J[0]? = some (.cells 0 x.cs false) → J[2]? = some (.cells 0 (useC (useOf x.op)) false) → WP (dn BI l_code_right_k1 [.ptr 0 0 0, .ptr 2 0 0, .bool ok] J) K := by
  intro ok hne hok J hJ0 hJ2
  refine right_k1 J 0 2 0 0 x (useOf x.op) ok hJ0 hJ2 K (hK _ _ (frzE rfl ?_))
  simp [itup, Cd.right, hop, hne, hok]
 simp -implicitDefEqProofs only [go_sem, go_sem_proc, hxo, Cd.cs, h1, show x.op < 26 by omega, show x.op * 5 ≤ 125 by omega, hu, useC, hi, natBeqc]
 generalize hun : (useOf x.op).2.2.2.1 = un at *
 rcases (show un = 0 ∨ un = 1 ∨ un = 2 ∨ un = 3 ∨ un = 4 ∨ un = 5 ∨ un = 6 by omega) with rfl | rfl | rfl | rfl | rfl | rfl | rfl
 ·simp -implicitDefEqProofs only [go_sem, go_sem_proc]
  exact hk _ (by decide) rfl _ rfl (by simp [useC, hun])
 ·simp -implicitDefEqProofs only [go_sem, go_sem_proc]
  exact hk _ (by decide) rfl _ rfl (by simp [useC, hun])
 ·by_cases h0 : x.n ≥ 0
  ·simp -implicitDefEqProofs only [go_sem, go_sem_proc, h0]
   exact hk _ (by decide) (by simp [nOk]; omega) _ rfl (by simp [useC, hun])
  ·simp -implicitDefEqProofs only [go_sem, go_sem_proc, h0]
   exact hk _ (by decide) (by simp [nOk]; omega) _ rfl (by simp [useC, hun])
 ·by_cases h0 : x.n ≥ 0
  ·simp -implicitDefEqProofs only [go_sem, go_sem_proc, h0]
   exact hk _ (by decide) (by simp [nOk]; omega) _ rfl (by simp [useC, hun])
  ·simp -implicitDefEqProofs only [go_sem, go_sem_proc, h0]
   exact hk _ (by decide) (by simp [nOk]; omega) _ rfl (by simp [useC, hun])
 ·by_cases h0 : x.n ≥ 0
  ·simp -implicitDefEqProofs only [go_sem, go_sem_proc, h0]
   exact hk _ (by decide) (by simp [nOk]; omega) _ rfl (by simp [useC, hun])
  ·simp -implicitDefEqProofs only [go_sem, go_sem_proc, h0]
   exact hk _ (by decide) (by simp [nOk]; omega) _ rfl (by simp [useC, hun])
 ·simp -implicitDefEqProofs only [go_sem, go_sem_proc]
  exact hk _ (by decide) (by simp [nOk]) _ rfl (by simp [useC, hun])
 ·have h6 : ∀ many, many = (decide (1 ≤ x.c) && decide (x.c ≤ 48)) → ∀ J : JH, J[0]? = some (.cells 0 x.cs false) → WP (onJoinD 0 (dn BI l_code_right_k0 [nI cells, .ptr 0 0 0, .int .i64 x.n, .bool many] J) l_code_right_k1) K := by
   intro many hm J hJ
   rw [right_k0 x ⟨w1, w2, w3, w4, w5, w6⟩ cells many hc J hJ]
   simp -implicitDefEqProofs only [go_sem, go_sem_proc]
   exact hK _ _ (frzE rfl (by simp [itup, Cd.right, hop, hun, hm]))
  by_cases h0 : (x.c : Int) ≥ 1
  ·simp -implicitDefEqProofs only [go_sem, go_sem_proc, h0]
   refine h6 _ ?_ _ rfl
   rw [Bool.eq_iff_iff]; simp; omega
  ·simp -implicitDefEqProofs only [go_sem, go_sem_proc, h0]
   refine h6 _ ?_ _ rfl
   rw [Bool.eq_iff_iff]; simp; omega
def rightL (l : List Cd) (cells players : Nat) : Bool := decide (l.length ≤ 96) && l.all fun x => x.right l.length cells players
theorem Check_ok (x : IV) (l : List Cd) (hx : Ls 6 x (l.map Cd.e)) (hw : ∀ c ∈ l, c.wf) (cells players : Nat) (hc : cells ≤ 1000000) (hp : players ≤ 1000000) :
  ∃ k : Nat, pc BI F_code_Check [x, nI cells, nI players] = some (.tup [nI k, .bool (rightL l cells players)]) := by
 have : ∃ u, pc BI F_code_Check [x, nI cells, nI players] = some u ∧ ∃ k : Nat, u = .tup [nI k, .bool (rightL l cells players)] := by
  refine pcW fn_code_Check rfl fun K hK => ?_
  unfold l_code_Check
  by_cases h96 : l.length > 96
  ·have h' : (l.length : Int) > 96 := by omega
   simp -implicitDefEqProofs only [go_sem, go_sem_proc, hx.lenF, List.length_map, h']
   refine hK _ _ _ (frzP rfl) ⟨96, ?_⟩
   simp [itup, rightL, show ¬ l.length ≤ 96 by omega]
  have h' : ¬ (l.length : Int) > 96 := by omega
  simp -implicitDefEqProofs only [go_sem, go_sem_proc, hx.lenF, List.length_map, h', dcp uses_ok rfl, dn_loop]
  refine WP_range (by decide) l.length (fun i vs J => vs = [x, nI cells, nI players, .ptr 0 0 0, x, nI l.length, nI i] ∧ J[0]? = some (.cells 0 usesL false) ∧ (l.take i).all (fun x => x.right l.length cells players) = true) ?_ ⟨rfl, rfl, rfl⟩
  rintro i vs J ⟨rfl, hJ, ha⟩ hi K1 g1 g2 g3
  unfold l_code_Check_k0
  by_cases h : i < l.length
  ·have hat := fun J => hx.at (i := i) (by simpa using h) (J := J)
   simp only [List.getElem_map, Cd.e, Cd.cs] at hat
   have hr := right_ok l[i] (hw _ (List.getElem_mem h)) l.length cells players (by omega) hc hp
   have hin := inb hJ
   rw [List.take_succ_eq_append_getElem h, List.all_append, ha] at g1
   simp only [Cd.e, Cd.cs] at hr
   have fin : ∀ J', J'[0]? = some (.cells 0 usesL false) → l[i].right l.length cells players = true → K1 (.goto 1 [x, nI cells, nI players, .ptr 0 0 0, x, nI l.length, nI (i + 1)]) J' := fun J' h1 h2 => g1 h _ _ ⟨rfl, h1, by simp [h2]⟩
   cases hv : l[i].right l.length cells players with
   | true =>
    rw [hv] at hr
    simp -implicitDefEqProofs only [go_sem, go_sem_proc, show ((i : Int) < (l.length : Int)) by omega, hat, hJ, hx.lenF, List.length_map, Array.getElem?_push, hin, dcp hr (by simp [ipureL, ipure, uses_pure]), wrapS h (show l.length ≤ 9223372036854775807 by omega)]
    refine fin _ ?_ hv
    rw [Array.getElem?_push, if_neg (by have := lt_get hJ; omega)]
    exact hJ
   | false =>
    rw [hv] at hr
    simp -implicitDefEqProofs only [go_sem, go_sem_proc, show ((i : Int) < (l.length : Int)) by omega, hat, hJ, hx.lenF, List.length_map, Array.getElem?_push, hin, dcp hr (by simp [ipureL, ipure, uses_pure])]
    refine g3 _ _ (hK _ _ _ (frzP rfl) ⟨i, ?_⟩)
    have : ¬ (l.all fun x => x.right l.length cells players) = true := fun hh => by
     rw [List.all_eq_true] at hh
     have := hh _ (List.getElem_mem h)
     rw [hv] at this; cases this
    simp only [Bool.not_eq_true] at this
    simp [itup, rightL, this]
  ·simp -implicitDefEqProofs only [go_sem, go_sem_proc, show ¬ ((i : Int) < (l.length : Int)) by omega]
   refine g2 _ _ ?_
   unfold l_code_Check_k1
   simp -implicitDefEqProofs only [go_sem, go_sem_proc]
   refine hK _ _ _ (frzP rfl) ⟨0, ?_⟩
   rw [List.take_of_length_le (by omega)] at ha
   simp [itup, rightL, ha, show l.length ≤ 96 by omega]
 obtain ⟨u, h1, k, rfl⟩ := this
 exact ⟨k, h1⟩
theorem Right_ok (x : IV) (l : List Cd) (hx : Ls 6 x (l.map Cd.e)) (hw : ∀ c ∈ l, c.wf) (cells players : Nat) (hc : cells ≤ 1000000) (hp : players ≤ 1000000) :
  pc BI F_code_Right [x, nI cells, nI players] = some (.bool (rightL l cells players)) := by
 obtain ⟨k, hk⟩ := Check_ok x l hx hw cells players hc hp
 refine pcE fn_code_Right rfl fun K hK => ?_
 unfold l_code_Right
 simp -implicitDefEqProofs only [go_sem, go_sem_proc, dcp hk (by simp [ipureL, ipure, hx.pure])]
 exact hK _ _ (frzE rfl rfl)
def Upd (b : Nat) (J : JH) (s : IV) (J' : JH) (s' : IV) : Prop := Fr J J' (b :: blk s) ∧ ∀ c ∈ blk s', c ∈ blk s ∨ J.size ≤ c
theorem Upd.refl {b : Nat} {J : JH} {s : IV} : Upd b J s J s := ⟨.refl _ _, fun c h => .inl h⟩
theorem Upd.push {b : Nat} {J : JH} {s : IV} (X : IB) : Upd b J s (J.push X) s := ⟨.push _ _ _, fun c h => .inl h⟩
theorem Upd.trans {b : Nat} {J J1 J2 : JH} {s s1 s2 : IV} (h : Upd b J s J1 s1) (k : Upd b J1 s1 J2 s2) : Upd b J s J2 s2 := by
 refine ⟨h.1.trans k.1 fun d hd hm => ?_, fun c hc => ?_⟩
 ·rcases List.mem_cons.1 hm with rfl | hm
  ·simp
  ·rcases h.2 d hm with h | h
   ·simp [h]
   ·omega
 ·rcases k.2 c hc with h1 | h1
  ·exact h.2 c h1
  ·exact .inr (Nat.le_trans h.1.1 h1)
def PenAt (J : JH) (b : Nat) (s : IV) (l : List (BitVec 8)) : Prop := J[b]? = some (.cells 0 [s] false) ∧ b ∉ blk s ∧ Grow J s 1 (l.map by8)
def tabL (f : Nat → BitVec 32) : List IV := (List.range 256).map fun i => m32 (f i)
theorem tabL_len (f) : (tabL f).length = 256 := by simp [tabL]
theorem tabL_one (f) : (tabL f).all ione = true := by simp [tabL, ione, one]
theorem tabL_pure (f) : ipureL (tabL f) = true := ipureL_iff.2 fun x hx => by
 obtain ⟨y, _, rfl⟩ := List.mem_map.1 hx; rfl
theorem tabL_all (f g) : isplice (tabL f) 0 (tabL g) = tabL g := by
 simp only [isplice, List.take_zero, List.nil_append, Nat.zero_add]
 rw [List.drop_of_length_le (by rw [tabL_len, tabL_len]; exact Nat.le_refl _), List.append_nil]
theorem tabL_take (f) : (tabL f).take 256 = tabL f := List.take_of_length_le (by rw [tabL_len]; exact Nat.le_refl _)
theorem zc_tab : (reps 256 [Value.int .u32 0]).map IV.sc = tabL fun _ => 0#32 := by
 simp only [reps, tabL, List.map_const', List.flatten_replicate_singleton, List.append_nil, List.map_replicate, List.length_range]; rfl
attribute [go_sem] tabL_len tabL_one tabL_pure tabL_all tabL_take
attribute [go_sem ↓] zc_tab
def Cl.e (c : Cl) : IV := .agg c.c
def Bd.new (l : List Cl) : Bd := if h : l.length ≤ 48 then ⟨l, h⟩ else Bd.z
theorem Upd.keep {b d : Nat} {J J' : JH} {s s' : IV} {X : IB} (h : Upd b J s J' s') (hd : J[d]? = some X) (hb : d ≠ b) (hs : d ∉ blk s) : J'[d]? = some X := by
 rw [h.1.2 d (lt_get hd) (by simp [hb, hs])]; exact hd
theorem Upd.out {b d : Nat} {J J' : JH} {s s' : IV} (h : Upd b J s J' s') (hd : d < J.size) (hs : d ∉ blk s) : d ∉ blk s' := fun hm => by
 rcases h.2 d hm with h | h
 ·exact hs h
 ·omega
theorem PenAt.push {J : JH} {b : Nat} {s : IV} {l : List (BitVec 8)} (X : IB) (h : PenAt J b s l) : PenAt (J.push X) b s l :=
 ⟨by rw [Array.getElem?_push, if_neg (Nat.ne_of_lt (lt_get h.1))]; exact h.1, h.2.1, h.2.2.fr (S := []) (.push _ _ _) (by simp)⟩
structure Gm where
 obs : Int
 players : Int
 moves : BitVec 32
 dflt : BitVec 32
 cells : List Cl
 code : List Cd
def gmc (g : Gm) (x y : IV) : List IV := [.int .i64 g.obs, .int .i64 g.players, m32 g.moves, m32 g.dflt, x, y]
structure GR (g : Gm) (x y : IV) : Prop where
 x : Ls 2 x (g.cells.map Cl.e)
 y : Ls 6 y (g.code.map Cd.e)
theorem gm_len (g x y) : (gmc g x y).length = 6 := rfl
theorem gm_take (g x y) : (gmc g x y).take 6 = gmc g x y := rfl
theorem gm_0 (g x y) : ((gmc g x y).drop 0).take 1 = [.int .i64 g.obs] := rfl
theorem gm_00 (g x y) : (gmc g x y).take 1 = [.int .i64 g.obs] := rfl
theorem gm_1 (g x y) : ((gmc g x y).drop 1).take 1 = [.int .i64 g.players] := rfl
theorem gm_2 (g x y) : ((gmc g x y).drop 2).take 1 = [m32 g.moves] := rfl
theorem gm_3 (g x y) : ((gmc g x y).drop 3).take 1 = [m32 g.dflt] := rfl
theorem gm_4 (g x y) : ((gmc g x y).drop 4).take 1 = [x] := rfl
theorem gm_5 (g x y) : ((gmc g x y).drop 5).take 1 = [y] := rfl
attribute [go_sem] gm_len gm_take gm_0 gm_00 gm_1 gm_2 gm_3 gm_4 gm_5
theorem GR.pure {g x y} (h : GR g x y) : ipureL (gmc g x y) = true := by
 simp [ipureL, gmc, ipure, h.x.pure, h.y.pure]
theorem GR.one {g x y} (h : GR g x y) : (gmc g x y).all ione = true := by
 have h1 := h.x.one
 have h2 := h.y.one
 simp only [gmc, List.all_cons, List.all_nil, h1, h2]; rfl
theorem All10_ok (g : Gm) (x y : IV) (h : GR g x y) : pc BI F_rules_Game_All [.agg (gmc g x y)] = some (m32 (allM g.obs)) := by
 refine pcE fn_rules_Game_All rfl fun K hK => ?_
 unfold l_rules_Game_All
 simp -implicitDefEqProofs only [go_sem, go_sem_proc, h.one, dcp (All_ok g.obs) rfl]
 exact hK _ _ (frzE rfl rfl)
def Gm.right (g : Gm) : Bool :=
 decide (1 ≤ g.obs ∧ g.obs ≤ 32) && decide (1 ≤ g.players ∧ g.players ≤ 6 ∧ g.players ≤ g.obs) && decide (g.dflt.toNat < g.moves.toNat) && decide (g.cells.length ≤ 48) &&
 g.cells.all (fun c => within c.s (allM g.obs)) && rightL g.code g.cells.length g.players.toNat
theorem gRight_k (g : Gm) (x y : IV) (h : GR g x y) (hw : ∀ c ∈ g.code, c.wf) (hb : g.code.length ≤ 9223372036854775807) (h48 : g.cells.length ≤ 48) (hp : 0 ≤ g.players ∧ g.players ≤ 6) (J : JH) (h0 : J[0]? = some (.cells 0 (gmc g x y) false)) (K : Out IV → JH → Prop)
  (hK : ∀ J', K (.ret [.bool (g.cells.all (fun c => within c.s (allM g.obs)) && rightL g.code g.cells.length g.players.toNat)]) J') :
  WP (dn BI l_rules_Game_Right_k2 [.ptr 0 0 0] J) K := by
 unfold l_rules_Game_Right_k2
 simp -implicitDefEqProofs only [go_sem, go_sem_proc, h0, h.x.lenF, List.length_map, dn_loop]
 refine WP_range (by decide) g.cells.length (fun i vs J' => vs = [.ptr 0 0 0, x, nI g.cells.length, nI i] ∧ Fr J J' [] ∧ ∀ c ∈ g.cells.take i, within c.s (allM g.obs) = true) ?_ ⟨rfl, .refl _ _, by simp⟩
 rintro i vs J1 ⟨rfl, hf, hn⟩ hi K1 g1 g2 g3
 have h01 : J1[0]? = some (.cells 0 (gmc g x y) false) := by rw [hf.2 0 (lt_get h0) (by simp)]; exact h0
 have hin := inb h01
 unfold l_rules_Game_Right_k0
 by_cases hi2 : i < g.cells.length
 ·have hat := fun J => h.x.at (i := i) (by simpa using hi2) (J := J)
  simp only [List.getElem_map, Cl.e, Cl.c] at hat
  have hwi := Within_ok g.cells[i].s (allM g.obs)
  have hl0 := lt_get h01
  cases hc : within g.cells[i].s (allM g.obs) with
  | false =>
   rw [hc] at hwi
   simp -implicitDefEqProofs only [go_sem, go_sem_proc, show ((i : Int) < (g.cells.length : Int)) by omega, hat, Array.getElem?_push, h01, hin, show ¬ (0 = J1.size) by omega, show ¬ (J1.size = 0) by omega, dcp (All10_ok g x y h) (by simp [ipureL, ipure, h.pure]), dcp hwi rfl]
   refine g3 _ _ ?_
   have e : g.cells.all (fun c => within c.s (allM g.obs)) = false := by
    rw [List.all_eq_false]
    exact ⟨_, List.getElem_mem hi2, by rw [hc]; decide⟩
   have := hK (J1.push (IB.cells 0 [IV.int .i32 g.cells[i].v, m32 g.cells[i].s] false))
   rw [e] at this
   exact this
  | true =>
   rw [hc] at hwi
   simp -implicitDefEqProofs only [go_sem, go_sem_proc, show ((i : Int) < (g.cells.length : Int)) by omega, hat, Array.getElem?_push, h01, hin, show ¬ (0 = J1.size) by omega, show ¬ (J1.size = 0) by omega, dcp (All10_ok g x y h) (by simp [ipureL, ipure, h.pure]), dcp hwi rfl, wrapS hi2 (show g.cells.length ≤ 9223372036854775807 by omega)]
   refine g1 hi2 _ _ ⟨rfl, hf.trans (Fr.push _ _ []) (by simp), ?_⟩
   rw [List.take_succ_eq_append_getElem hi2]
   intro c hcm
   rcases List.mem_append.1 hcm with hcm | hcm
   ·exact hn c hcm
   ·simp at hcm; subst hcm; exact hc
 ·simp -implicitDefEqProofs only [go_sem, go_sem_proc, show ¬ ((i : Int) < (g.cells.length : Int)) by omega]
  refine g2 _ _ ?_
  unfold l_rules_Game_Right_k1
  rw [List.take_of_length_le (by omega)] at hn
  have e : g.cells.all (fun c => within c.s (allM g.obs)) = true := List.all_eq_true.2 hn
  obtain ⟨p, hp2⟩ : ∃ p : Nat, g.players = p := ⟨g.players.toNat, by omega⟩
  have hR := Right_ok y g.code h.y hw g.cells.length p (by omega) (by omega)
  rw [e, hp2] at hK
  simp -implicitDefEqProofs only [go_sem, go_sem_proc, h01, hp2, h.x.lenF, List.length_map, dcp hR (by simp [ipureL, ipure, h.y.pure])]
  exact hK _
theorem gRight_ok (g : Gm) (x y : IV) (h : GR g x y) (hw : ∀ c ∈ g.code, c.wf) (hb : g.code.length ≤ 9223372036854775807) : pc BI F_rules_Game_Right [.agg (gmc g x y)] = some (.bool g.right) := by
 refine pcE fn_rules_Game_Right rfl fun K hK => ?_
 unfold l_rules_Game_Right
 have no : g.right = false → K (.ret [.bool false]) #[.cells 0 (gmc g x y) false] := fun e => hK _ _ (frzE rfl (by rw [e]; rfl))
 by_cases h1 : g.obs < 1
 ·simp -implicitDefEqProofs only [go_sem, go_sem_proc, h.one, h1]
  exact no (by simp [Gm.right]; omega)
 by_cases h2 : g.obs > 32
 ·simp -implicitDefEqProofs only [go_sem, go_sem_proc, h.one, h1, h2]
  exact no (by simp [Gm.right]; omega)
 by_cases h3 : g.players < 1
 ·simp -implicitDefEqProofs only [go_sem, go_sem_proc, h.one, h1, h2, h3]
  exact no (by simp [Gm.right]; omega)
 by_cases h4 : g.players > min 6 g.obs
 ·simp -implicitDefEqProofs only [go_sem, go_sem_proc, h.one, h1, h2, h3, h4]
  exact no (by simp [Gm.right]; omega)
 by_cases h5 : (g.dflt.toNat : Int) ≥ (g.moves.toNat : Int)
 ·simp -implicitDefEqProofs only [go_sem, go_sem_proc, h.one, h1, h2, h3, h4, h5]
  exact no (by simp [Gm.right]; omega)
 by_cases h6 : (g.cells.length : Int) > 48
 ·simp -implicitDefEqProofs only [go_sem, go_sem_proc, h.one, h1, h2, h3, h4, h5, h.x.lenF, List.length_map, h6]
  exact no (by simp [Gm.right]; omega)
 simp -implicitDefEqProofs only [go_sem, go_sem_proc, h.one, h1, h2, h3, h4, h5, h.x.lenF, List.length_map, h6]
 refine gRight_k g x y h hw hb (by omega) (by omega) _ rfl K fun J' => hK _ _ (frzE rfl ?_)
 have e1 : decide (1 ≤ g.obs ∧ g.obs ≤ 32) = true := by simp; omega
 have e2 : decide (1 ≤ g.players ∧ g.players ≤ 6 ∧ g.players ≤ g.obs) = true := by simp; omega
 have e3 : decide (g.dflt.toNat < g.moves.toNat) = true := by simp; omega
 have e4 : decide (g.cells.length ≤ 48) = true := by simp; omega
 simp [Gm.right, e1, e2, e3, e4, itup]
def lookF (z : Option Value) (s : KS) (ok : Bool) (m k : IV) (J : JH) : Option (IV × JH) := match z with | some z => ilookup s (ivV z) ok m k J | none => ilift none J
theorem iexec_lookup {B : IBook} {C : ICall} {md : Md} {ρ : List IV} {t : TypeId} {s : KS} {ok : Bool} {m k : Operand} {J : JH} : iexec B C md ρ (.lookup t s ok m k) J = lookF (B.zv t) s ok (evI ρ m) (evI ρ k) J := rfl
def msetF (s : KS) (m k v : IV) (J : JH) : Option (IV × JH) := imapset s m k v J
theorem iexec_mapset {B : IBook} {C : ICall} {md : Md} {ρ : List IV} {s : KS} {m k v : Operand} {J : JH} : iexec B C md ρ (.mapset s m k v) J = msetF s (evI ρ m) (evI ρ k) (evI ρ v) J := rfl
def mdelF (s : KS) (m k : IV) (J : JH) : Option (IV × JH) := idelete s m k J
theorem iexec_del {B : IBook} {C : ICall} {md : Md} {ρ : List IV} {s : KS} {m k : Operand} {J : JH} : iexec B C md ρ (.del s m k) J = mdelF s (evI ρ m) (evI ρ k) J := rfl
attribute [go_sem ↓] iexec_lookup iexec_mapset iexec_del
structure Mv where
 p : Int
 t : BitVec 32
 m : BitVec 32
 b : Nat
def kkey (p : Int) (t : BitVec 32) : Value := .agg #[.int .i64 p, .int .u32 (t.toNat : Int)]
def Mv.e (x : Mv) : IEnt := ⟨kkey x.p x.t, m32 x.m, x.b⟩
def Mv.is (p : Int) (t : BitVec 32) (x : Mv) : Bool := decide (x.p = p) && decide (x.t = t)
theorem kkey_eq {p q : Int} {t s : BitVec 32} : (kkey p t = kkey q s) ↔ (q = p ∧ s = t) := by
 constructor
 ·intro h
  simp only [kkey, Value.agg.injEq, List.cons.injEq, Value.int.injEq, true_and, and_true, Array.mk.injEq] at h
  refine ⟨h.1.symm, BitVec.eq_of_toNat_eq ?_⟩
  have := h.2
  omega
 ·rintro ⟨rfl, rfl⟩; rfl
theorem is_iff {p : Int} {t : BitVec 32} {x : Mv} : Mv.is p t x = true ↔ kkey p t = x.e.key := by
 simp only [Mv.is, Bool.and_eq_true, decide_eq_true_eq, Mv.e, kkey_eq]
theorem ents_find (p : Int) (t : BitVec 32) : ∀ l : List Mv, ifindE (kkey p t) (l.map Mv.e) = (l.find? (Mv.is p t)).map Mv.e
 | [] => rfl
 | x :: l => by
  simp only [List.map_cons, ifindE, List.find?_cons]
  by_cases h : kkey p t = x.e.key
  ·rw [if_pos h, is_iff.2 h]; rfl
  ·have : Mv.is p t x = false := by rw [Bool.eq_false_iff]; exact fun e => h (is_iff.1 e)
   rw [if_neg h, this, ents_find p t l]
theorem ents_good (p : Int) (t : BitVec 32) (l : List Mv) : igoodKeys (.ints [.i64, .u32]) (kkey p t) (l.map Mv.e) = true := by
 simp only [igoodKeys, Bool.and_eq_true, List.all_map, List.all_eq_true]
 exact ⟨rfl, fun x _ => rfl⟩
theorem ikey_kk (p : Int) (t : BitVec 32) : ikey (.agg [.int .i64 p, m32 t]) = some (kkey p t) := rfl
section
variable {J : JH} {mb c : Nat} {l : List Mv} (h : J[mb]? = some (.map (l.map Mv.e) c)) (p : Int) (t : BitVec 32)
include h
theorem look_yes {x : Mv} (hx : l.find? (Mv.is p t) = some x) (z : Value) : lookF (some z) (.ints [.i64, .u32]) true (.map mb) (.agg [.int .i64 p, m32 t]) J = some (.tup [m32 x.m, .bool true], J) := by
 simp only [lookF, ilookup, ikey_kk, h, ents_good, ents_find, hx, if_true, Option.map_some]; rfl
theorem look_no (hx : l.find? (Mv.is p t) = none) (z : Value) : lookF (some z) (.ints [.i64, .u32]) true (.map mb) (.agg [.int .i64 p, m32 t]) J = some (.tup [ivV z, .bool false], J) := by
 simp only [lookF, ilookup, ikey_kk, h, ents_good, ents_find, hx, if_true, Option.map_none]
theorem mset_new (hx : l.find? (Mv.is p t) = none) (m : BitVec 32) : msetF (.ints [.i64, .u32]) (.map mb) (.agg [.int .i64 p, m32 t]) (m32 m) J = some (.tup [], J.setIfInBounds mb (.map ((l ++ [Mv.mk p t m c]).map Mv.e) (c + 1))) := by
 simp only [msetF, imapset, ikey_kk, h, ents_good, ents_find, hx, if_true, Option.map_none, List.map_append]; rfl
end
structure Dk where
 pl : Int
 mv : BitVec 32
 us : BitVec 32
 tk : BitVec 32
def dkc (d : Dk) (mb : Nat) : List IV := [.int .i64 d.pl, m32 d.mv, m32 d.us, m32 d.tk, .map mb]
theorem dk_len (d mb) : (dkc d mb).length = 5 := rfl
theorem dk_0 (d mb) : ((dkc d mb).drop 0).take 1 = [.int .i64 d.pl] := rfl
theorem dk_00 (d mb) : (dkc d mb).take 1 = [.int .i64 d.pl] := rfl
theorem dk_1 (d mb) : ((dkc d mb).drop 1).take 1 = [m32 d.mv] := rfl
theorem dk_2 (d mb) : ((dkc d mb).drop 2).take 1 = [m32 d.us] := rfl
theorem dk_3 (d mb) : ((dkc d mb).drop 3).take 1 = [m32 d.tk] := rfl
theorem dk_4 (d mb) : ((dkc d mb).drop 4).take 1 = [.map mb] := rfl
theorem dk_take (d mb) : (dkc d mb).take 5 = dkc d mb := rfl
theorem dk_s0 (d : Dk) (mb : Nat) (v : Int) : isplice (dkc d mb) 0 [.int .i64 v] = dkc { d with pl := v } mb := rfl
theorem dk_s3 (d : Dk) (mb : Nat) (v : BitVec 32) : isplice (dkc d mb) 3 [m32 v] = dkc { d with tk := v } mb := rfl
theorem dk_s4 (d : Dk) (mb mb' : Nat) : isplice (dkc d mb) 4 [.map mb'] = dkc d mb' := rfl
theorem dk_all (d d' : Dk) (mb mb' : Nat) : isplice (dkc d mb) 0 (dkc d' mb') = dkc d' mb' := rfl
theorem dk_one (d mb) : (dkc d mb).all ione = true := rfl
attribute [go_sem] dk_len dk_0 dk_00 dk_1 dk_2 dk_3 dk_4 dk_take dk_s0 dk_s3 dk_s4 dk_all dk_one
structure DeskAt (J : JH) (b mb c : Nat) (d : Dk) (l : List Mv) : Prop where
 cells : J[b]? = some (.cells 0 (dkc d mb) false)
 map : J[mb]? = some (.map (l.map Mv.e) c)
 born : (l.map Mv.b).Pairwise (· < ·) ∧ ∀ x ∈ l, x.b < c
theorem DeskAt.ne {J b mb c d l} (h : DeskAt J b mb c d l) : b ≠ mb := by
 rintro rfl
 have := h.cells; rw [h.map] at this; cases this
theorem DeskAt.fr {J J' : JH} {b mb c d l} {S : List Nat} (h : DeskAt J b mb c d l) (hf : Fr J J' S) (h1 : b ∉ S) (h2 : mb ∉ S) : DeskAt J' b mb c d l :=
 ⟨by rw [hf.2 b (lt_get h.cells) h1]; exact h.cells, by rw [hf.2 mb (lt_get h.map) h2]; exact h.map, h.born⟩
end Go.Proofs.Ytmlhdkamogjbbaa.G
namespace Go.Proofs.Ytmlhdkamogjbbaa.G
open Go
def i1 (l : List Int) : List (List IV) := l.map fun v => [IV.int .i32 v]
theorem gm_s4 (g : Gm) (x y v : IV) : isplice (gmc g x y) 4 [v] = gmc g v y := rfl
theorem gm_s5 (g : Gm) (x y v : IV) : isplice (gmc g x y) 5 [v] = gmc g x v := rfl
theorem gm_all (g : Gm) (x y : IV) (g2 : Gm) (x2 y2 : IV) : isplice (gmc g x y) 0 (gmc g2 x2 y2) = gmc g2 x2 y2 := rfl
attribute [go_sem] gm_s4 gm_s5 gm_all
theorem Clip.icells {J J' : JH} {s : IV} {sz : Nat} {X : List (List IV)} (h : Clip J J' s sz X) : Go.Proofs.Ytmlhdkamogjbbaa.G.icells s = [s] := by
 rcases h with ⟨_, rfl, _⟩ | ⟨_, rfl, _⟩ <;> rfl
theorem Clip.one {J J' : JH} {s : IV} {sz : Nat} {X : List (List IV)} (h : Clip J J' s sz X) : ione s = true := by
 rcases h with ⟨_, rfl, _⟩ | ⟨_, rfl, _⟩ <;> rfl
def Gm.dk (g : Gm) : Dk := ⟨if g.right then g.players else 0, g.moves, g.dflt, 0#32⟩
theorem dNew_ok (g : Gm) (x y : IV) (h : GR g x y) (hw : ∀ c ∈ g.code, c.wf) (hb : g.code.length ≤ 9223372036854775807) (J : JH) :
  RP (ic BI F_desk_New [.agg (gmc g x y)] J) fun v J' => ∃ b mb, v = .ptr b 0 0 ∧ J.size ≤ b ∧ J.size ≤ mb ∧ DeskAt J' b mb 0 g.dk [] ∧ Fr J J' [] := by
 refine RP_run fn_desk_New rfl fun K hK => ?_
 unfold l_desk_New
 have hR := gRight_ok g x y h hw hb
 cases hg : g.right with
 | true =>
  rw [hg] at hR
  simp -implicitDefEqProofs only [go_sem, go_sem_proc, h.one, dcp hR (by simp [ipureL, ipure, h.pure])]
  refine hK _ _ ⟨J.size + 2, J.size + 1, rfl, by omega, by omega, ⟨?_, ?_, by simp, by simp⟩, ?_⟩
  ·rw [gsE (b := J.size + 2) rfl (by simp)]; simp only [Gm.dk, dkc, hg, if_true]; rfl
  ·exact gsN (by omega) (gpN (by simp) (gpE (by simp)))
  ·have hf := Fr.refl J []
   (have hsz_ := hf.1; repeat (first | with_reducible exact hf | with_reducible apply Fr.psh | ((with_reducible apply Fr.stn); rotate_left; first | omega | (simp only [Array.size_push, Array.size_setIfInBounds] <;> omega)) | ((with_reducible apply Fr.sts); rotate_left; focus (simp only [List.mem_cons, eq_self, true_or, or_true]; done))))
 | false =>
  rw [hg] at hR
  simp -implicitDefEqProofs only [go_sem, go_sem_proc, h.one, dcp hR (by simp [ipureL, ipure, h.pure])]
  refine hK _ _ ⟨J.size + 2, J.size + 1, rfl, by omega, by omega, ⟨?_, ?_, by simp, by simp⟩, ?_⟩
  ·rw [gpE (by simp)]; simp only [Gm.dk, dkc, hg]; rfl
  ·exact gpN (by simp) (gpE (by simp))
  ·have hf := Fr.refl J []
   (have hsz_ := hf.1; repeat (first | with_reducible exact hf | with_reducible apply Fr.psh | ((with_reducible apply Fr.stn); rotate_left; first | omega | (simp only [Array.size_push, Array.size_setIfInBounds] <;> omega)) | ((with_reducible apply Fr.sts); rotate_left; focus (simp only [List.mem_cons, eq_self, true_or, or_true]; done))))
def dErr (d : Dk) (l : List Mv) (p : Int) (t m : BitVec 32) : Int :=
 if p < 0 ∨ d.pl ≤ p then 3 else if d.mv.toNat ≤ m.toNat then 1 else if t.toNat ≤ d.tk.toNat then 11 else if 8 < t.toNat - d.tk.toNat then 14 else if (l.find? (Mv.is p t)).isSome then 12 else 0
def dPut (d : Dk) (l : List Mv) (p : Int) (t m : BitVec 32) (c : Nat) : List Mv := if dErr d l p t m = 0 then l ++ [Mv.mk p t m c] else l
theorem dPut_ok {J : JH} {b mb c : Nat} {d : Dk} {l : List Mv} (h : DeskAt J b mb c d l) (p : Int) (t m : BitVec 32) :
  RP (ic BI F_desk_Desk_Put [.ptr b 0 0, .int .i64 p, m32 t, m32 m] J) fun v J' => v = .int .i64 (dErr d l p t m) ∧ (∃ c', DeskAt J' b mb c' d (dPut d l p t m c)) ∧ Fr J J' [mb] := by
 refine RP_run fn_desk_Desk_Put rfl fun K hK => ?_
 unfold l_desk_Desk_Put
 have h1 := h.cells
 have no : ∀ e : Int, e ≠ 0 → dErr d l p t m = e → K (.ret [.int .i64 e]) J := fun e h0 he => hK _ _ ⟨by rw [he]; rfl, ⟨c, by rw [dPut, if_neg (by rw [he]; exact h0)]; exact h⟩, .refl _ _⟩
 by_cases c1 : p < 0
 ·simp -implicitDefEqProofs only [go_sem, go_sem_proc, iisNil, c1]
  exact no 3 (by decide) (by simp [dErr, c1])
 by_cases c2 : p ≥ d.pl
 ·simp -implicitDefEqProofs only [go_sem, go_sem_proc, iisNil, c1, h1, inb h1, c2]
  exact no 3 (by decide) (by rw [dErr, if_pos (.inr c2)])
 have e1 : ¬ (p < 0 ∨ d.pl ≤ p) := by omega
 by_cases c3 : (m.toNat : Int) ≥ (d.mv.toNat : Int)
 ·simp -implicitDefEqProofs only [go_sem, go_sem_proc, iisNil, c1, h1, inb h1, c2, c3]
  exact no 1 (by decide) (by rw [dErr, if_neg e1, if_pos (by omega)])
 by_cases c4 : (t.toNat : Int) ≤ (d.tk.toNat : Int)
 ·simp -implicitDefEqProofs only [go_sem, go_sem_proc, iisNil, c1, h1, inb h1, c2, c3, c4]
  exact no 11 (by decide) (by rw [dErr, if_neg e1, if_neg (by omega), if_pos (by omega)])
 have hs : IntKind.u32.wrap ((t.toNat : Int) - (d.tk.toNat : Int)) = ((t.toNat - d.tk.toNat : Nat) : Int) := by
  have := t.isLt
  rw [wrap_u32 (by omega) (by omega)]; omega
 by_cases c5 : ((t.toNat - d.tk.toNat : Nat) : Int) > 8
 ·simp -implicitDefEqProofs only [go_sem, go_sem_proc, iisNil, c1, h1, inb h1, c2, c3, c4, hs, c5]
  exact no 14 (by decide) (by rw [dErr, if_neg e1, if_neg (by omega), if_neg (by omega), if_pos (by omega)])
 cases hf : l.find? (Mv.is p t) with
 | some z =>
  have hl := look_yes h.map p t hf (.int .u32 0)
  simp -implicitDefEqProofs only [go_sem, go_sem_proc, iisNil, c1, h1, inb h1, c2, c3, c4, hs, c5, ↓hl, l_desk_Desk_Put_k0]
  exact no 12 (by decide) (by rw [dErr, if_neg e1, if_neg (by omega), if_neg (by omega), if_neg (by omega), if_pos (by rw [hf]; rfl)])
 | none =>
  have hl := look_no h.map p t hf (.int .u32 0)
  have hm := mset_new h.map p t hf m
  simp -implicitDefEqProofs only [go_sem, go_sem_proc, iisNil, c1, h1, inb h1, c2, c3, c4, hs, c5, ↓hl, ↓hm, l_desk_Desk_Put_k0]
  have he : dErr d l p t m = 0 := by rw [dErr, if_neg e1, if_neg (by omega), if_neg (by omega), if_neg (by omega), if_neg (by rw [hf]; simp)]
  refine hK _ _ ⟨by rw [he]; rfl, ⟨c + 1, ?_, ?_, ?_, ?_⟩, Fr.set _ _ (by simp)⟩
  ·rw [Array.getElem?_setIfInBounds, if_neg (Ne.symm h.ne)]; exact h1
  ·rw [dPut, if_pos he]; exact set_get _ (lt_get h.map)
  ·rw [dPut, if_pos he, List.map_append, List.pairwise_append]
   refine ⟨h.born.1, by simp, ?_⟩
   intro a ha z hz
   simp at hz; subst hz
   obtain ⟨q, hq, rfl⟩ := List.mem_map.1 ha
   exact h.born.2 q hq
  ·rw [dPut, if_pos he]
   intro q hq
   rcases List.mem_append.1 hq with hq | hq
   ·have := h.born.2 q hq; omega
   ·simp at hq; subst hq; simp
def takeL (l : List Mv) (t : BitVec 32) : Nat → List Mv
 | 0 => l
 | n + 1 => (takeL l t n).eraseP (Mv.is n t)
def takeV (l : List Mv) (us t : BitVec 32) (n : Nat) : BitVec 32 := match (takeL l t n).find? (Mv.is n t) with | some x => x.m | none => us
theorem awake14 : pc BI F_law14_awake [] = some (.bool true) := pcK 100 (by kernel_rfl)
def hTicks (l : List Mv) (p : Int) : List Int := (l.filter fun x => decide (x.p = p)).map fun x => (x.t.toNat : Int)
theorem hTicks_eq (l : List Mv) (p : Int) : heldK p ((l.map Mv.e).map (·.key)) = hTicks l p := by
 induction l with
 | nil => rfl
 | cons x l ih =>
  simp only [heldK, List.map_cons, List.filterMap_cons, hTicks, List.filter_cons] at ih ⊢
  simp only [Mv.e, kkey, slotI]
  by_cases h : x.p = p
  ·simp only [h, if_true, decide_true, List.map_cons, ih]
  ·simp only [h, if_false, decide_false, ih, Bool.false_eq_true]
theorem heldOK_desk {J : JH} {b mb c : Nat} {d : Dk} {l : List Mv} (h : DeskAt J b mb c d l) (hl : l.length ≤ 1000000) : heldOK ((l.map Mv.e).map (·.key)) ((l.map Mv.e).map (·.born)) c = true := by
 have e : (l.map Mv.e).map (·.born) = l.map Mv.b := by simp [Mv.e]
 rw [e]
 simp only [heldOK, Bool.and_eq_true, decide_eq_true_eq]
 refine ⟨⟨⟨?_, ?_⟩, ?_⟩, by simpa using hl⟩
 ·rw [List.all_eq_true]
  intro k hk
  obtain ⟨x, hx, rfl⟩ := List.mem_map.1 hk
  obtain ⟨y, hy, rfl⟩ := List.mem_map.1 hx
  rfl
 ·exact h.born.1.imp fun h => Nat.ne_of_lt h
 ·rw [List.all_eq_true]
  intro k hk
  obtain ⟨x, hx, rfl⟩ := List.mem_map.1 hk
  simpa using h.born.2 x hx
theorem dHeld_ok {J : JH} {b mb c : Nat} {d : Dk} {l : List Mv} (h : DeskAt J b mb c d l) (p : Int) (hl : l.length ≤ 1000000) (h12 : (hTicks l p).length ≤ 12) :
  RP (ic BI F_desk_Desk_Held [.ptr b 0 0, .int .i64 p] J) fun v J' => Ls 1 v (uL (sortI (hTicks l p))) ∧ J' = J := by
 have hr : ird J b 0 4 1 = some [.map mb] := by simp only [ird, h.cells]; rfl
 have hok := heldOK_desk h hl
 by_cases hn : hTicks l p = []
 ·rw [ic_given (B := BI) (g := iheld) rfl (r := (.sc (.slice none 0 0), J)) (by
   simp only [iheld, hr, h.map, hTicks_eq]
   rw [if_pos ⟨hok, h12⟩, if_pos hn])]
  refine ⟨?_, rfl⟩
  rw [hn]; exact .inl ⟨rfl, by rw [sortI, List.mergeSort_nil]; rfl⟩
 ·rw [ic_given (B := BI) (g := iheld) rfl (r := (.lst 1 false (uL (sortI (hTicks l p))), J)) (by
   simp only [iheld, hr, h.map, hTicks_eq]
   rw [if_pos ⟨hok, h12⟩, if_neg hn]; rfl)]
  exact ⟨.lst, rfl⟩
theorem take_one (p : Int) (t m us : BitVec 32) (c n i : Nat) (hi : i < n) : takeV [Mv.mk p t m c] us t i = if (i : Int) = p then m else us := by
 have key : ∀ k, (∀ j : Nat, j < k → (j : Int) ≠ p) → takeL [Mv.mk p t m c] t k = [Mv.mk p t m c] := by
  intro k
  induction k with
  | zero => intro _; rfl
  | succ k ih =>
   intro hk
   rw [takeL, ih fun j hj => hk j (by omega)]
   have : Mv.is (k : Int) t (Mv.mk p t m c) = false := by
    simp only [Mv.is]; have := hk k (by omega); simp; omega
   simp [List.eraseP_cons, this]
 have after : ∀ k, (∃ j : Nat, j < k ∧ (j : Int) = p) → takeL [Mv.mk p t m c] t k = [] := by
  intro k
  induction k with
  | zero => rintro ⟨j, hj, _⟩; omega
  | succ k ih =>
   rintro ⟨j, hj, hp⟩
   by_cases hk : ∃ j : Nat, j < k ∧ (j : Int) = p
   ·rw [takeL, ih hk]; rfl
   ·have hjk : j = k := by
     rcases Nat.lt_or_ge j k with h | h
     ·exact absurd ⟨j, h, hp⟩ hk
     ·omega
    subst hjk
    rw [takeL, key j fun i hi e => hk ⟨i, hi, e⟩]
    have : Mv.is (j : Int) t (Mv.mk p t m c) = true := by simp [Mv.is, hp]
    simp [List.eraseP_cons, this]
 by_cases hp : (i : Int) = p
 ·rw [if_pos hp]
  simp only [takeV]
  rw [key i (fun j hj e => by omega)]
  have : Mv.is (i : Int) t (Mv.mk p t m c) = true := by simp [Mv.is, hp]
  simp [List.find?_cons, this]
 ·rw [if_neg hp]
  simp only [takeV]
  by_cases hk : ∃ j : Nat, j < i ∧ (j : Int) = p
  ·rw [after i hk]; rfl
  ·rw [key i fun j hj e => hk ⟨j, hj, e⟩]
   have : Mv.is (i : Int) t (Mv.mk p t m c) = false := by simp [Mv.is]; omega
   simp [List.find?_cons, this]
def gm0 (n : Int) (m d : BitVec 32) : Gm := ⟨n, n, m, d, [], []⟩
abbrev nilS : IV := .sc (.slice none 0 0)
theorem gm0_GR (n : Int) (m d : BitVec 32) : GR (gm0 n m d) nilS nilS := ⟨.nil, .nil⟩
theorem gm0_right {n : Int} {m d : BitVec 32} (h1 : 1 ≤ n) (h6 : n ≤ 6) (hd : d.toNat < m.toNat) : (gm0 n m d).right = true := by
 have e : rightL [] 0 n.toNat = true := by
  have : n = 1 ∨ n = 2 ∨ n = 3 ∨ n = 4 ∨ n = 5 ∨ n = 6 := by omega
  rcases this with rfl | rfl | rfl | rfl | rfl | rfl <;> rfl
 have e1 : (1 ≤ n ∧ n ≤ 32) = True := by simp; omega
 have e2 : (1 ≤ n ∧ n ≤ 6 ∧ n ≤ n) = True := by simp; omega
 simp [Gm.right, gm0, e, hd, h1, h6]; omega
theorem New0_ok (n : Int) (m d : BitVec 32) (h1 : 1 ≤ n) (h6 : n ≤ 6) (hd : d.toNat < m.toNat) (J : JH) :
  RP (ic BI F_desk_New [.agg (gmc (gm0 n m d) nilS nilS)] J) fun v J' => ∃ b mb, v = .ptr b 0 0 ∧ J.size ≤ b ∧ J.size ≤ mb ∧ DeskAt J' b mb 0 ⟨n, m, d, 0#32⟩ [] ∧ Fr J J' [] := by
 have h := dNew_ok (gm0 n m d) nilS nilS (gm0_GR n m d) (by simp [gm0]) (by simp [gm0]) J
 have e : (gm0 n m d).dk = ⟨n, m, d, 0#32⟩ := by rw [Gm.dk, gm0_right h1 h6 hd]; rfl
 rw [e] at h
 exact h
theorem dPut_err {d : Dk} {l : List Mv} {p : Int} {t m : BitVec 32} {c : Nat} (h : dErr d l p t m ≠ 0) : dPut d l p t m c = l := by rw [dPut, if_neg h]
theorem Wrong_ok (p : Int) (m t : BitVec 32) : pc BI F_law14_DeskWrong [.int .i64 p, m32 m, m32 t] = some (.bool true) := by
 refine pcE fn_law14_DeskWrong rfl fun K hK => ?_
 unfold l_law14_DeskWrong
 simp -implicitDefEqProofs only [go_sem, go_sem_proc, dcp awake14 rfl]
 refine WP_call (New0_ok 2 3#32 0#32 (by omega) (by omega) (by decide) _) fun v J1 hv => ?_
 obtain ⟨b, mb, rfl, hb, hm, a1, f1⟩ := hv
 simp -implicitDefEqProofs only [go_sem, go_sem_proc]
 refine WP_call (dPut_ok a1 p t m) fun v J2 hv => ?_
 obtain ⟨rfl, ⟨c2, a2⟩, f2⟩ := hv
 generalize hD : (⟨2, 3#32, 0#32, 0#32⟩ : Dk) = D at *
 have hpl : D.pl = 2 := by rw [← hD]
 have hmv : D.mv.toNat = 3 := by rw [← hD]; rfl
 have held : ∀ e : Int, e ≠ 0 → dErr D [] p t m = e → RP (ic BI F_desk_Desk_Held [.ptr b 0 0, .int .i64 p] J2) fun v J' => lenF false v J' = some (nI 0, J') := fun e he h => by
  rw [dPut_err (by rw [h]; exact he)] at a2
  refine RP_mono (dHeld_ok a2 p (by simp) (by simp [hTicks])) fun v J' hv => ?_
  have := hv.1.lenF (J := J')
  rw [uL_len, sortI_len] at this; exact this
 by_cases c1 : p < 0
 ·have he : dErr D [] p t m = 3 := by rw [dErr, if_pos (.inl c1)]
  rw [he]
  simp -implicitDefEqProofs only [go_sem, go_sem_proc, c1]
  refine WP_join fun K1 g1 g2 g3 => ?_
  refine WP_call (held 3 (by decide) he) fun v J' hv => ?_
  simp -implicitDefEqProofs only [go_sem, go_sem_proc, hv]
  exact g3 _ _ (hK _ _ (frzP rfl))
 by_cases c2 : p > 1
 ·have he : dErr D [] p t m = 3 := by rw [dErr, if_pos (.inr (by omega))]
  rw [he]
  simp -implicitDefEqProofs only [go_sem, go_sem_proc, c1, c2]
  refine WP_join fun K1 g1 g2 g3 => ?_
  refine WP_call (held 3 (by decide) he) fun v J' hv => ?_
  simp -implicitDefEqProofs only [go_sem, go_sem_proc, hv]
  exact g3 _ _ (hK _ _ (frzP rfl))
 have e1 : ¬ (p < 0 ∨ D.pl ≤ p) := by omega
 by_cases c3 : (m.toNat : Int) > 2
 ·have he : dErr D [] p t m = 1 := by rw [dErr, if_neg e1, if_pos (by omega)]
  rw [he]
  simp -implicitDefEqProofs only [go_sem, go_sem_proc, c1, c2, c3]
  refine WP_join fun K1 g1 g2 g3 => ?_
  refine WP_call (held 1 (by decide) he) fun v J' hv => ?_
  simp -implicitDefEqProofs only [go_sem, go_sem_proc, hv]
  exact g3 _ _ (hK _ _ (frzP rfl))
 ·have he : (dErr D [] p t m != 3) = true ∧ (dErr D [] p t m != 1) = true := by
   rw [dErr, if_neg e1, if_neg (by omega)]
   split
   ·exact ⟨rfl, rfl⟩
   ·split
    ·exact ⟨rfl, rfl⟩
    ·exact ⟨rfl, rfl⟩
  simp -implicitDefEqProofs only [go_sem, go_sem_proc, c1, c2, c3, l_law14_DeskWrong_k0, he.1, he.2]
  exact hK _ _ (frzP rfl)
end Go.Proofs.Ytmlhdkamogjbbaa.G
