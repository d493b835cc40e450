/- Joined: V6 to W9. -/
import Derived.Test.YtcdlipdeemlibaaXF
import Derived.KernelRfl
set_option linter.unusedVariables false
set_option linter.unusedSimpArgs false
namespace Go.Proofs.Ytcdlipdeemlibaa.G
open Go
set_option linter.unusedSimpArgs false
set_option linter.unusedVariables false
set_option maxRecDepth 20000
variable {E : Me} {J : JH} {b : Nat} {sh : IV} {m : Mc}
structure Me.ok (E : Me) : Prop where
  mv : Ls 1 E.mv (E.moves.map (IV.int .i32))
  rng : ∀ v ∈ E.moves, -2147483648 ≤ v ∧ v < 2147483648
  len : E.moves.length ≤ 1000000
def reachF (E : Me) (m : Mc) (x : Cd) : Mc :=
  match x.op with
  | 4 => if (named E m x).2.1 then { m with r := m.r.set x.a (m.bd.at (named E m x).1) } else { m with err := (named E m x).2.2 }
  | 5 => if (named E m x).2.1 then { m with bd := m.bd.put (named E m x).1 (m.r.at x.a), touched := m.touched ||| bit (named E m x).1 } else { m with err := (named E m x).2.2 }
  | 22 => revealF E m x
  | 24 => shuffleF m x.n.toNat x.c
  | _ => m
theorem right_ab {x : Cd} {size cells players : Nat} (h : x.right size cells players = true) : x.op ≤ 25 ∧ x.a < 8 ∧ x.b < 8 := by
  unfold Cd.right at h
  split at h
  · simp at h
  · refine ⟨by omega, ?_⟩
    split at h
    · simp at h; omega
    · simp [regOk] at h; omega
theorem reach_ok (h : MAt E J b sh m) (x : Cd) (hx : x.wf) (size : Nat) (hr : x.right size m.bd.l.length E.moves.length = true) (hok : m.r.ok) (h0 : m.err = 0) (hs : m.shows.length ≤ 1000) (hop : x.op = 4 ∨ x.op = 5 ∨ x.op = 22 ∨ x.op = 24) :
    RP (ic BI F_vm_machine_reach [.ptr b 0 0, x.e] J) fun v J' => MOut E b J sh J' (reachF E m x) := by
  refine RP_run fn_vm_machine_reach rfl fun K hK => ?_
  have hb := h.1
  have hin := inb hb
  obtain ⟨_, ha8, hb8⟩ := right_ab hr
  unfold l_vm_machine_reach Cd.e Cd.cs
  have hcs : x.cs = [.int .u8 (x.op : Int), .int .u8 (x.a : Int), .int .u8 (x.b : Int), .int .u8 (x.c : Int), .int .i32 x.n, m32 x.mask] := rfl
  have e0 : ({ m with err := 0 } : Mc) = m := by cases m; simp_all
  rcases hop with hop | hop | hop | hop
  · have q4 : (x.op == 4) = true := by simp [hop]
    have hR : reachF E m x = if (named E m x).2.1 then { m with r := m.r.set x.a (m.bd.at (named E m x).1) } else { m with err := (named E m x).2.2 } := by simp [reachF, hop]
    rw [hR] at hK
    simp -implicitDefEqProofs only [go_sem, dnW_ite, reduceIte, Nat.reduceAdd, Nat.reduceLeDiff, Nat.reduceMul, Nat.reduceEqDiff, Int.reduceLT, Int.reduceLE, Int.reduceToNat, Nat.reduceSub, Nat.reduceLT, Int.reduceEq, BitVec.reduceOfInt, BitVec.reduceOfNat, Int.reduceGT, Int.reduceGE, Int.reduceBEq, Int.reduceBNe, Nat.reduceGT, Nat.reduceBEq, Nat.reduceBNe, Int.reduceAdd, Int.reduceSub, Int.reduceNeg, natBeqc, q4, Array.getElem?_push, hin]
    refine WP_call (index_ok (h.push (IB.cells 0 x.cs false)) x hx hb8 hok h0) fun v J1 hv => ?_
    obtain ⟨rfl, sh1, h1, u1⟩ := hv
    have hbx := u1.keep (push_get J _) (by have := lt_get hb; omega) (fun hm => by have := (h.2.2.low _ hm); omega)
    simp only [hcs] at hbx
    cases hn : (named E m x).2.1 with
    | false =>
      simp -implicitDefEqProofs only [go_sem, dnW_ite, reduceIte, Nat.reduceAdd, Nat.reduceLeDiff, Nat.reduceMul, Nat.reduceEqDiff, Int.reduceLT, Int.reduceLE, Int.reduceToNat, Nat.reduceSub, Nat.reduceLT, Int.reduceEq, BitVec.reduceOfInt, BitVec.reduceOfNat, Int.reduceGT, Int.reduceGE, Int.reduceBEq, Int.reduceBNe, Nat.reduceGT, Nat.reduceBEq, Nat.reduceBNe, Int.reduceAdd, Int.reduceSub, Int.reduceNeg, hn]
      rw [hn] at hK
      exact hK _ _ (MOut.trans (.push _) ⟨sh1, h1, u1⟩)
    | true =>
      obtain ⟨ht, he⟩ := named_ok hn
      rw [he, e0] at h1
      simp -implicitDefEqProofs only [go_sem, dnW_ite, reduceIte, Nat.reduceAdd, Nat.reduceLeDiff, Nat.reduceMul, Nat.reduceEqDiff, Int.reduceLT, Int.reduceLE, Int.reduceToNat, Nat.reduceSub, Nat.reduceLT, Int.reduceEq, BitVec.reduceOfInt, BitVec.reduceOfNat, Int.reduceGT, Int.reduceGE, Int.reduceBEq, Int.reduceBNe, Nat.reduceGT, Nat.reduceBEq, Nat.reduceBNe, Int.reduceAdd, Int.reduceSub, Int.reduceNeg, hn, hbx]
      refine WP_call (load_ok h1 x.a ha8 _ ht) fun v J2 hv => ?_
      simp -implicitDefEqProofs only [go_sem, dnW_ite, reduceIte, Nat.reduceAdd, Nat.reduceLeDiff, Nat.reduceMul, Nat.reduceEqDiff, Int.reduceLT, Int.reduceLE, Int.reduceToNat, Nat.reduceSub, Nat.reduceLT, Int.reduceEq, BitVec.reduceOfInt, BitVec.reduceOfNat, Int.reduceGT, Int.reduceGE, Int.reduceBEq, Int.reduceBNe, Nat.reduceGT, Nat.reduceBEq, Nat.reduceBNe, Int.reduceAdd, Int.reduceSub, Int.reduceNeg]
      rw [hn] at hK
      exact hK _ _ (MOut.trans (.push _) (MOut.trans u1 hv))
  · have q4 : (x.op == 4) = false := by simp [hop]
    have q5 : (x.op == 5) = true := by simp [hop]
    have hR : reachF E m x = if (named E m x).2.1 then { m with bd := m.bd.put (named E m x).1 (m.r.at x.a), touched := m.touched ||| bit (named E m x).1 } else { m with err := (named E m x).2.2 } := by simp [reachF, hop]
    rw [hR] at hK
    simp -implicitDefEqProofs only [go_sem, dnW_ite, reduceIte, Nat.reduceAdd, Nat.reduceLeDiff, Nat.reduceMul, Nat.reduceEqDiff, Int.reduceLT, Int.reduceLE, Int.reduceToNat, Nat.reduceSub, Nat.reduceLT, Int.reduceEq, BitVec.reduceOfInt, BitVec.reduceOfNat, Int.reduceGT, Int.reduceGE, Int.reduceBEq, Int.reduceBNe, Nat.reduceGT, Nat.reduceBEq, Nat.reduceBNe, Int.reduceAdd, Int.reduceSub, Int.reduceNeg, natBeqc, q4, q5, Array.getElem?_push, hin]
    refine WP_call (index_ok (h.push (IB.cells 0 x.cs false)) x hx hb8 hok h0) fun v J1 hv => ?_
    obtain ⟨rfl, sh1, h1, u1⟩ := hv
    have hbx := u1.keep (push_get J _) (by have := lt_get hb; omega) (fun hm => by have := (h.2.2.low _ hm); omega)
    simp only [hcs] at hbx
    cases hn : (named E m x).2.1 with
    | false =>
      simp -implicitDefEqProofs only [go_sem, dnW_ite, reduceIte, Nat.reduceAdd, Nat.reduceLeDiff, Nat.reduceMul, Nat.reduceEqDiff, Int.reduceLT, Int.reduceLE, Int.reduceToNat, Nat.reduceSub, Nat.reduceLT, Int.reduceEq, BitVec.reduceOfInt, BitVec.reduceOfNat, Int.reduceGT, Int.reduceGE, Int.reduceBEq, Int.reduceBNe, Nat.reduceGT, Nat.reduceBEq, Nat.reduceBNe, Int.reduceAdd, Int.reduceSub, Int.reduceNeg, hn]
      rw [hn] at hK
      exact hK _ _ (MOut.trans (.push _) ⟨sh1, h1, u1⟩)
    | true =>
      obtain ⟨ht, he⟩ := named_ok hn
      rw [he, e0] at h1
      have hb1 := h1.1
      simp -implicitDefEqProofs only [go_sem, dnW_ite, reduceIte, Nat.reduceAdd, Nat.reduceLeDiff, Nat.reduceMul, Nat.reduceEqDiff, Int.reduceLT, Int.reduceLE, Int.reduceToNat, Nat.reduceSub, Nat.reduceLT, Int.reduceEq, BitVec.reduceOfInt, BitVec.reduceOfNat, Int.reduceGT, Int.reduceGE, Int.reduceBEq, Int.reduceBNe, Nat.reduceGT, Nat.reduceBEq, Nat.reduceBNe, Int.reduceAdd, Int.reduceSub, Int.reduceNeg, hn, hbx, hb1, b8 ha8, ld_r E m sh1 ha8]
      refine WP_call (store_ok h1 _ (m.r.at x.a) ht) fun v J2 hv => ?_
      simp -implicitDefEqProofs only [go_sem, dnW_ite, reduceIte, Nat.reduceAdd, Nat.reduceLeDiff, Nat.reduceMul, Nat.reduceEqDiff, Int.reduceLT, Int.reduceLE, Int.reduceToNat, Nat.reduceSub, Nat.reduceLT, Int.reduceEq, BitVec.reduceOfInt, BitVec.reduceOfNat, Int.reduceGT, Int.reduceGE, Int.reduceBEq, Int.reduceBNe, Nat.reduceGT, Nat.reduceBEq, Nat.reduceBNe, Int.reduceAdd, Int.reduceSub, Int.reduceNeg]
      rw [hn] at hK
      exact hK _ _ (MOut.trans (.push _) (MOut.trans u1 hv))
  · have q4 : (x.op == 4) = false := by simp [hop]
    have q5 : (x.op == 5) = false := by simp [hop]
    have q22 : (x.op == 22) = true := by simp [hop]
    have hR : reachF E m x = revealF E m x := by simp [reachF, hop]
    rw [hR] at hK
    simp -implicitDefEqProofs only [go_sem, dnW_ite, reduceIte, Nat.reduceAdd, Nat.reduceLeDiff, Nat.reduceMul, Nat.reduceEqDiff, Int.reduceLT, Int.reduceLE, Int.reduceToNat, Nat.reduceSub, Nat.reduceLT, Int.reduceEq, BitVec.reduceOfInt, BitVec.reduceOfNat, Int.reduceGT, Int.reduceGE, Int.reduceBEq, Int.reduceBNe, Nat.reduceGT, Nat.reduceBEq, Nat.reduceBNe, Int.reduceAdd, Int.reduceSub, Int.reduceNeg, natBeqc, q4, q5, q22, Array.getElem?_push, hin]
    refine WP_call (reveal_ok (h.push (IB.cells 0 x.cs false)) x hx hb8 hok h0 hs) fun v J1 hv => ?_
    simp -implicitDefEqProofs only [go_sem, dnW_ite, reduceIte, Nat.reduceAdd, Nat.reduceLeDiff, Nat.reduceMul, Nat.reduceEqDiff, Int.reduceLT, Int.reduceLE, Int.reduceToNat, Nat.reduceSub, Nat.reduceLT, Int.reduceEq, BitVec.reduceOfInt, BitVec.reduceOfNat, Int.reduceGT, Int.reduceGE, Int.reduceBEq, Int.reduceBNe, Nat.reduceGT, Nat.reduceBEq, Nat.reduceBNe, Int.reduceAdd, Int.reduceSub, Int.reduceNeg]
    exact hK _ _ (MOut.trans (.push _) hv)
  · have q4 : (x.op == 4) = false := by simp [hop]
    have q5 : (x.op == 5) = false := by simp [hop]
    have q22 : (x.op == 22) = false := by simp [hop]
    have q24 : (x.op == 24) = true := by simp [hop]
    have hR : reachF E m x = shuffleF m x.n.toNat x.c := by simp [reachF, hop]
    rw [hR] at hK
    simp [Cd.right, hop, useOf] at hr
    obtain ⟨⟨⟨⟨_, hr1⟩, hr2⟩, hr3⟩, hr4⟩ := hr
    obtain ⟨w1, w2, w3, w4, w5, w6⟩ := hx
    have e1 : IntKind.i64.wrap x.n = (x.n.toNat : Int) := by rw [wrap_i64 (by omega) (by omega)]; omega
    have e2 : IntKind.i64.wrap (x.c : Int) = x.c := wrap_i64 (by omega) (by omega)
    simp -implicitDefEqProofs only [go_sem, dnW_ite, reduceIte, Nat.reduceAdd, Nat.reduceLeDiff, Nat.reduceMul, Nat.reduceEqDiff, Int.reduceLT, Int.reduceLE, Int.reduceToNat, Nat.reduceSub, Nat.reduceLT, Int.reduceEq, BitVec.reduceOfInt, BitVec.reduceOfNat, Int.reduceGT, Int.reduceGE, Int.reduceBEq, Int.reduceBNe, Nat.reduceGT, Nat.reduceBEq, Nat.reduceBNe, Int.reduceAdd, Int.reduceSub, Int.reduceNeg, natBeqc, q4, q5, q22, q24, Array.getElem?_push, hin, e1, e2]
    refine WP_call (shuffle_ok (h.push (IB.cells 0 x.cs false)) x.n.toNat x.c hr1.1 (by omega)) fun v J1 hv => ?_
    simp -implicitDefEqProofs only [go_sem, dnW_ite, reduceIte, Nat.reduceAdd, Nat.reduceLeDiff, Nat.reduceMul, Nat.reduceEqDiff, Int.reduceLT, Int.reduceLE, Int.reduceToNat, Nat.reduceSub, Nat.reduceLT, Int.reduceEq, BitVec.reduceOfInt, BitVec.reduceOfNat, Int.reduceGT, Int.reduceGE, Int.reduceBEq, Int.reduceBNe, Nat.reduceGT, Nat.reduceBEq, Nat.reduceBNe, Int.reduceAdd, Int.reduceSub, Int.reduceNeg]
    exact hK _ _ (MOut.trans (.push _) hv)
end Go.Proofs.Ytcdlipdeemlibaa.G
namespace Go.Proofs.Ytcdlipdeemlibaa.G
open Go
set_option linter.unusedSimpArgs false
set_option linter.unusedVariables false
set_option maxRecDepth 20000
set_option maxHeartbeats 2000000
variable {E : Me} {J : JH} {b : Nat} {sh : IV} {m : Mc}
theorem pre_use {l : L} {ρ : List IV} {K : Out IV → JH → Prop} {C A B Y Z1 Z2 Z3 : IB} {m1 : Mc} (h : MAt E J b sh m) (hs : m1.shows = m.shows)
    (hk : ∀ J1, MAt E J1 b sh m1 → Upd b J sh J1 sh → J1[J.size]? = some C → J1[J.size + 1]? = some A → J1[J.size + 2]? = some B → J1[J.size + 3]? = some Y → WP (dn BI l ρ J1) K) :
    WP (dn BI l ρ (((((((((J.push C).setIfInBounds b (IB.cells 0 (mc E m1 sh) false)).push Z1).push Z2).push Z3).setIfInBounds (J.size + 1) A).setIfInBounds (J.size + 2) B).setIfInBounds (J.size + 3) Y))) K := by
  have hlt := lt_get h.1
  have hg : ∀ d, d < J.size → d ≠ b → ((((((((J.push C).setIfInBounds b (IB.cells 0 (mc E m1 sh) false)).push Z1).push Z2).push Z3).setIfInBounds (J.size + 1) A).setIfInBounds (J.size + 2) B).setIfInBounds (J.size + 3) Y)[d]? = J[d]? := by
    intro d hd hne
    simp only [Array.getElem?_setIfInBounds, Array.getElem?_push, Array.size_push, Array.size_setIfInBounds]
    rw [if_neg (by omega), if_neg (by omega), if_neg (by omega), if_neg (by omega), if_neg (by omega), if_neg (by omega), if_neg (fun e => hne e.symm), if_neg (by omega)]
  have hf : Fr J ((((((((J.push C).setIfInBounds b (IB.cells 0 (mc E m1 sh) false)).push Z1).push Z2).push Z3).setIfInBounds (J.size + 1) A).setIfInBounds (J.size + 2) B).setIfInBounds (J.size + 3) Y) [b] :=
    ⟨by simp; omega, fun d hd hn => hg d hd (by simpa using hn)⟩
  refine hk _ ⟨?_, h.2.1, ?_⟩ ⟨⟨hf.1, fun d hd hn => hf.2 d hd (by simp at hn ⊢; exact hn.1)⟩, fun c hc => .inl hc⟩ ?_ ?_ ?_ ?_
  · simp only [Array.getElem?_setIfInBounds, Array.getElem?_push, Array.size_push, Array.size_setIfInBounds]
    rw [if_neg (by omega), if_neg (by omega), if_neg (by omega), if_neg (by omega), if_neg (by omega), if_neg (by omega), if_true, if_pos (by omega)]
  · rw [hs]
    exact h.2.2.fr hf fun c hc hm => by simp at hm; exact h.2.1 (hm ▸ hc)
  · simp only [Array.getElem?_setIfInBounds, Array.getElem?_push, Array.size_push, Array.size_setIfInBounds]
    rw [if_neg (by omega), if_neg (by omega), if_neg (by omega), if_neg (by omega), if_neg (by omega), if_neg (by omega), if_neg (by omega), if_true]
  · simp [Array.size_push, Array.size_setIfInBounds]
  · simp [Array.size_push, Array.size_setIfInBounds]
  · simp [Array.size_push, Array.size_setIfInBounds]
def Mc.go (m : Mc) : Mc := { m with pc := m.pc + 1 }
def followF (E : Me) (m0 : Mc) (x : Cd) : Mc :=
  let m := m0.go
  match x.op with
  | 1 => { m with r := m.r.set x.a ⟨x.n, E.all⟩ }
  | 2 => { m with r := m.r.set x.a (m.bd.at x.n) }
  | 3 => { m with bd := m.bd.put x.n (m.r.at x.a), touched := m.touched ||| bit x.n }
  | 18 => { m with r := m.r.set x.a ⟨if (m.r.at x.a).v = 0 then (m.r.at (x.c % 8)).v else (m.r.at x.b).v, (m.r.at x.a).s &&& (m.r.at x.b).s &&& (m.r.at (x.c % 8)).s⟩ }
  | 19 => if within E.all (m.r.at x.a).s then (if (m.r.at x.a).v = 0 then { m with pc := x.n.toNat } else m) else { m with err := 8 }
  | 20 => { m with pc := x.n.toNat }
  | 21 => { m with r := m.r.set x.a ⟨E.moves.getD x.n.toNat 0, oneM x.n⟩ }
  | 23 => { m with dice := sn m.dice, r := m.r.set x.a ⟨below m.dice x.n, 0#32⟩ }
  | 25 => { m with r := m.r.set x.a ⟨w32 E.tick, E.all⟩ }
  | 4 | 5 | 22 | 24 => reachF E m x
  | op => { m with r := m.r.set x.a ⟨computeF op (m.r.at x.b).v (m.r.at (x.c % 8)).v, (m.r.at x.b).s &&& (m.r.at (x.c % 8)).s⟩ }
theorem MAt.setO {d : Nat} (h : MAt E J b sh m) (hb : d ≠ b) (hs : d ∉ blk sh) (X : IB) : MAt E (J.setIfInBounds d X) b sh m :=
  h.fr (Fr.set J X (S := [d]) (by simp)) (by simpa using fun e => hb e.symm) (fun c hc hm => by simp at hm; exact hs (hm ▸ hc))
theorem Upd.setO {d : Nat} {J1 : JH} {s s1 : IV} (h : Upd b J s J1 s1) (hd : J.size ≤ d) (X : IB) : Upd b J s (J1.setIfInBounds d X) s1 :=
  ⟨⟨by rw [Array.size_setIfInBounds]; exact h.1.1, fun c hc hn => by rw [Array.getElem?_setIfInBounds, if_neg (by omega)]; exact h.1.2 c hc hn⟩, h.2⟩
def dropO : Nat → L → L
  | 0, l => l
  | n + 1, .op _ k => dropO n k
  | _, l => l
theorem dropO_o (n : Nat) (p : SOp) (k : L) : dropO (n + 1) (o p k) = dropO n k := rfl
theorem dropO_om (n : Nat) (md : Md) (p : SOp) (k : L) : dropO (n + 1) (om md p k) = dropO n k := rfl
theorem dropO_oc (n : Nat) (g : Option (Operand × Bool)) (p : SOp) (md : Md) (chk : List (Option (Operand × Bool) × SOp)) (k : L) : dropO (n + 1) (oc g p md chk k) = dropO n k := rfl
theorem dropO_0 (l : L) : dropO 0 l = l := by cases l <;> rfl
def folRho (b k : Nat) (m : Mc) (x : Cd) : List IV := [IV.ptr b 0 0, x.e, IV.ptr k 0 0, IV.ptr b 0 0, IV.ptr b 0 118, nI m.pc, IV.sc (Value.int IntKind.i64 ((m.pc + 1 : Nat) : Int)),
        IV.ptr b 0 0, IV.ptr b 0 118, IV.tup [], IV.ptr k 0 1, IV.int IntKind.u8 (x.a : Int), IV.ptr b 0 0,
        IV.ptr b 0 102, IV.ptr b 0 (102 + x.a * 2), IV.agg [IV.int IntKind.i32 (m.r.at x.a).v, m32 (m.r.at x.a).s],
        IV.ptr k 0 2, IV.int IntKind.u8 (x.b : Int), IV.ptr b 0 0, IV.ptr b 0 102, IV.ptr b 0 (102 + x.b * 2),
        IV.agg [IV.int IntKind.i32 (m.r.at x.b).v, m32 (m.r.at x.b).s], IV.ptr k 0 3,
        IV.int IntKind.u8 (x.c : Int), IV.sc (Value.int IntKind.u8 ((x.c % 8 : Nat) : Int)), IV.ptr b 0 0, IV.ptr b 0 102,
        IV.ptr b 0 (102 + x.c % 8 * 2), IV.agg [IV.int IntKind.i32 (m.r.at (x.c % 8)).v, m32 (m.r.at (x.c % 8)).s],
        IV.ptr (k + 1) 0 0, IV.ptr (k + 2) 0 0, IV.ptr (k + 3) 0 0, IV.tup [],
        IV.tup [], IV.tup [], IV.ptr k 0 0, IV.int IntKind.u8 (x.op : Int),
        IV.sc (Value.bool (decide (x.op = 1)))]
structure Fol (E : Me) (b : Nat) (J : JH) (sh : IV) (m : Mc) (x : Cd) (J1 : JH) : Prop where
  at' : MAt E J1 b sh m.go
  upd : Upd b J sh J1 sh
  C : J1[J.size]? = some (IB.cells 0 x.cs false)
  A : J1[J.size + 1]? = some (IB.cells 0 [IV.int .i32 (m.r.at x.a).v, m32 (m.r.at x.a).s] false)
  B : J1[J.size + 2]? = some (IB.cells 0 [IV.int .i32 (m.r.at x.b).v, m32 (m.r.at x.b).s] false)
  Y : J1[J.size + 3]? = some (IB.cells 0 [IV.int .i32 (m.r.at (x.c % 8)).v, m32 (m.r.at (x.c % 8)).s] false)
theorem follow_pre (h : MAt E J b sh m) (x : Cd) (size : Nat) (hr : x.right size m.bd.l.length E.moves.length = true) (hpc : m.pc ≤ 1000) (K : Out IV → JH → Prop)
    (hk : ∀ J1, Fol E b J sh m x J1 → WP (dn BI (dropO 36 l_vm_machine_follow.body) (folRho b J.size m x) J1) K) : WP (dn BI l_vm_machine_follow.body [.ptr b 0 0, x.e] J) K := by
  have hb := h.1
  have hin := inb hb
  obtain ⟨hop25, ha8, hb8⟩ := right_ab hr
  have hc8 : x.c % 8 < 8 := by omega
  have hrem : Int.tmod (x.c : Int) 8 = ((x.c % 8 : Nat) : Int) := rfl
  unfold folRho at hk
  simp only [l_vm_machine_follow, dropO_o, dropO_om, dropO_oc, dropO_0] at hk
  unfold l_vm_machine_follow
  unfold Cd.e Cd.cs at *
  simp -implicitDefEqProofs only [go_sem, reduceIte, Nat.reduceAdd, Nat.reduceLeDiff, Nat.reduceMul, Nat.reduceEqDiff, Int.reduceLT, Int.reduceLE, Int.reduceToNat, Nat.reduceSub, Nat.reduceLT, Int.reduceEq, BitVec.reduceOfInt, BitVec.reduceOfNat, Int.reduceGT, Int.reduceGE, Int.reduceBEq, Int.reduceBNe, Nat.reduceGT, Nat.reduceBEq, Nat.reduceBNe, Int.reduceAdd, Int.reduceSub, Int.reduceNeg, natBeqc, hb, Array.getElem?_push, Array.getElem?_setIfInBounds, hin, b8 ha8, b8 hb8, b8 hc8, ld_r E { m with pc := m.pc + 1 } sh ha8, ld_r E { m with pc := m.pc + 1 } sh hb8, ld_r E { m with pc := m.pc + 1 } sh hc8, hrem, wrapS (show m.pc < 1001 by omega) (by omega), natBeqD]
  refine pre_use (m1 := m.go) h rfl fun J1 h1 u1 hC hA hB hY => ?_
  exact hk J1 ⟨h1, u1, hC, hA, hB, hY⟩
end Go.Proofs.Ytcdlipdeemlibaa.G
namespace Go.Proofs.Ytcdlipdeemlibaa.G
open Go
set_option linter.unusedSimpArgs false
set_option linter.unusedVariables false
set_option maxRecDepth 20000
set_option maxHeartbeats 2000000
variable {E : Me} {J : JH} {b : Nat} {sh : IV} {m : Mc}
theorem fol_1 (h : MAt E J b sh m) (x : Cd) (hx : x.wf) (size : Nat) (hr : x.right size m.bd.l.length E.moves.length = true) (hop : x.op = 1) {J1 : JH} (f : Fol E b J sh m x J1) (K : Out IV → JH → Prop)
    (hK : ∀ J', MOut E b J sh J' (followF E m x) → K (.ret []) J') : WP (dn BI (dropO 36 l_vm_machine_follow.body) (folRho b J.size m x) J1) K := by
  have hb := h.1
  have hin := inb hb
  obtain ⟨hop25, ha8, hb8⟩ := right_ab hr
  have hc8 : x.c % 8 < 8 := by omega
  have w := hx
  obtain ⟨w1, w2, w3, w4, w5, w6⟩ := hx
  obtain ⟨h1, u1, hC, hA, hB, hY⟩ := f
  have hb1 := h1.1
  have hin1 := inb hb1
  have iC := inb hC
  have iA := inb hA
  have iB := inb hB
  have iY := inb hY
  have tt : ∀ j, (x.op = j) = (1 = j) := fun j => by rw [hop]
  simp only [followF, hop] at hK
  simp only [Cd.right, hop, useOf, nOk] at hr
  simp at hr
  unfold folRho
  simp only [l_vm_machine_follow, dropO_o, dropO_om, dropO_oc, dropO_0]
  unfold Cd.e
  unfold Cd.cs at *
  simp -implicitDefEqProofs only [go_sem, dnW_ite, reduceIte, Nat.reduceAdd, Nat.reduceLeDiff, Nat.reduceMul, Nat.reduceEqDiff, Int.reduceLT, Int.reduceLE, Int.reduceToNat, Nat.reduceSub, Nat.reduceLT, Int.reduceEq, BitVec.reduceOfInt, BitVec.reduceOfNat, Int.reduceGT, Int.reduceGE, Int.reduceBEq, Int.reduceBNe, Nat.reduceGT, Nat.reduceBEq, Nat.reduceBNe, Int.reduceAdd, Int.reduceSub, Int.reduceNeg, natBeqc, natBeqD, tt, hb1, hC, hA, hB, hY, Array.getElem?_setIfInBounds, Array.getElem?_push, hin, hin1, iC, iA, iB, iY, b8 ha8, st_r E m.go sh ha8]
  exact hK _ (MOut.trans u1 (MOut.set h1 _ rfl))
theorem fol_25 (h : MAt E J b sh m) (x : Cd) (hx : x.wf) (size : Nat) (hr : x.right size m.bd.l.length E.moves.length = true) (hop : x.op = 25) {J1 : JH} (f : Fol E b J sh m x J1) (K : Out IV → JH → Prop)
    (hK : ∀ J', MOut E b J sh J' (followF E m x) → K (.ret []) J') : WP (dn BI (dropO 36 l_vm_machine_follow.body) (folRho b J.size m x) J1) K := by
  have hb := h.1
  have hin := inb hb
  obtain ⟨hop25, ha8, hb8⟩ := right_ab hr
  have hc8 : x.c % 8 < 8 := by omega
  have w := hx
  obtain ⟨w1, w2, w3, w4, w5, w6⟩ := hx
  obtain ⟨h1, u1, hC, hA, hB, hY⟩ := f
  have hb1 := h1.1
  have hin1 := inb hb1
  have iC := inb hC
  have iA := inb hA
  have iB := inb hB
  have iY := inb hY
  have tt : ∀ j, (x.op = j) = (25 = j) := fun j => by rw [hop]
  simp only [followF, hop] at hK
  simp only [Cd.right, hop, useOf, nOk] at hr
  simp at hr
  unfold folRho
  simp only [l_vm_machine_follow, dropO_o, dropO_om, dropO_oc, dropO_0]
  unfold Cd.e
  unfold Cd.cs at *
  simp -implicitDefEqProofs only [go_sem, dnW_ite, reduceIte, Nat.reduceAdd, Nat.reduceLeDiff, Nat.reduceMul, Nat.reduceEqDiff, Int.reduceLT, Int.reduceLE, Int.reduceToNat, Nat.reduceSub, Nat.reduceLT, Int.reduceEq, BitVec.reduceOfInt, BitVec.reduceOfNat, Int.reduceGT, Int.reduceGE, Int.reduceBEq, Int.reduceBNe, Nat.reduceGT, Nat.reduceBEq, Nat.reduceBNe, Int.reduceAdd, Int.reduceSub, Int.reduceNeg, natBeqc, natBeqD, tt, hb1, hC, hA, hB, hY, Array.getElem?_setIfInBounds, Array.getElem?_push, hin, hin1, iC, iA, iB, iY, b8 ha8, st_r E m.go sh ha8]
  exact hK _ (MOut.trans u1 (MOut.set h1 _ rfl))
theorem fol_2 (h : MAt E J b sh m) (x : Cd) (hx : x.wf) (size : Nat) (hr : x.right size m.bd.l.length E.moves.length = true) (hop : x.op = 2) {J1 : JH} (f : Fol E b J sh m x J1) (K : Out IV → JH → Prop)
    (hK : ∀ J', MOut E b J sh J' (followF E m x) → K (.ret []) J') : WP (dn BI (dropO 36 l_vm_machine_follow.body) (folRho b J.size m x) J1) K := by
  have hb := h.1
  have hin := inb hb
  obtain ⟨hop25, ha8, hb8⟩ := right_ab hr
  have hc8 : x.c % 8 < 8 := by omega
  have w := hx
  obtain ⟨w1, w2, w3, w4, w5, w6⟩ := hx
  obtain ⟨h1, u1, hC, hA, hB, hY⟩ := f
  have hb1 := h1.1
  have hin1 := inb hb1
  have iC := inb hC
  have iA := inb hA
  have iB := inb hB
  have iY := inb hY
  have tt : ∀ j, (x.op = j) = (2 = j) := fun j => by rw [hop]
  simp only [followF, hop] at hK
  simp only [Cd.right, hop, useOf, nOk] at hr
  simp at hr
  unfold folRho
  simp only [l_vm_machine_follow, dropO_o, dropO_om, dropO_oc, dropO_0]
  unfold Cd.e
  unfold Cd.cs at *
  have e1 : IntKind.i64.wrap x.n = x.n := wrap_i64 (by omega) (by omega)
  have hth : m.go.bd.there x.n = true := decide_eq_true hr.1.1.1.1
  simp -implicitDefEqProofs only [go_sem, dnW_ite, reduceIte, Nat.reduceAdd, Nat.reduceLeDiff, Nat.reduceMul, Nat.reduceEqDiff, Int.reduceLT, Int.reduceLE, Int.reduceToNat, Nat.reduceSub, Nat.reduceLT, Int.reduceEq, BitVec.reduceOfInt, BitVec.reduceOfNat, Int.reduceGT, Int.reduceGE, Int.reduceBEq, Int.reduceBNe, Nat.reduceGT, Nat.reduceBEq, Nat.reduceBNe, Int.reduceAdd, Int.reduceSub, Int.reduceNeg, natBeqc, natBeqD, tt, hb1, hC, hA, hB, hY, Array.getElem?_setIfInBounds, Array.getElem?_push, hin, hin1, iC, iA, iB, iY, e1]
  refine WP_call (load_ok h1 x.a ha8 x.n hth) fun v J2 hv => ?_
  simp -implicitDefEqProofs only [go_sem, dnW_ite, reduceIte, Nat.reduceAdd, Nat.reduceLeDiff, Nat.reduceMul, Nat.reduceEqDiff, Int.reduceLT, Int.reduceLE, Int.reduceToNat, Nat.reduceSub, Nat.reduceLT, Int.reduceEq, BitVec.reduceOfInt, BitVec.reduceOfNat, Int.reduceGT, Int.reduceGE, Int.reduceBEq, Int.reduceBNe, Nat.reduceGT, Nat.reduceBEq, Nat.reduceBNe, Int.reduceAdd, Int.reduceSub, Int.reduceNeg]
  exact hK _ (MOut.trans u1 hv)
theorem fol_3 (h : MAt E J b sh m) (x : Cd) (hx : x.wf) (size : Nat) (hr : x.right size m.bd.l.length E.moves.length = true) (hop : x.op = 3) {J1 : JH} (f : Fol E b J sh m x J1) (K : Out IV → JH → Prop)
    (hK : ∀ J', MOut E b J sh J' (followF E m x) → K (.ret []) J') : WP (dn BI (dropO 36 l_vm_machine_follow.body) (folRho b J.size m x) J1) K := by
  have hb := h.1
  have hin := inb hb
  obtain ⟨hop25, ha8, hb8⟩ := right_ab hr
  have hc8 : x.c % 8 < 8 := by omega
  have w := hx
  obtain ⟨w1, w2, w3, w4, w5, w6⟩ := hx
  obtain ⟨h1, u1, hC, hA, hB, hY⟩ := f
  have hb1 := h1.1
  have hin1 := inb hb1
  have iC := inb hC
  have iA := inb hA
  have iB := inb hB
  have iY := inb hY
  have tt : ∀ j, (x.op = j) = (3 = j) := fun j => by rw [hop]
  simp only [followF, hop] at hK
  simp only [Cd.right, hop, useOf, nOk] at hr
  simp at hr
  unfold folRho
  simp only [l_vm_machine_follow, dropO_o, dropO_om, dropO_oc, dropO_0]
  unfold Cd.e
  unfold Cd.cs at *
  have e1 : IntKind.i64.wrap x.n = x.n := wrap_i64 (by omega) (by omega)
  have hth : m.go.bd.there x.n = true := decide_eq_true hr.1.1.1.1
  simp -implicitDefEqProofs only [go_sem, dnW_ite, reduceIte, Nat.reduceAdd, Nat.reduceLeDiff, Nat.reduceMul, Nat.reduceEqDiff, Int.reduceLT, Int.reduceLE, Int.reduceToNat, Nat.reduceSub, Nat.reduceLT, Int.reduceEq, BitVec.reduceOfInt, BitVec.reduceOfNat, Int.reduceGT, Int.reduceGE, Int.reduceBEq, Int.reduceBNe, Nat.reduceGT, Nat.reduceBEq, Nat.reduceBNe, Int.reduceAdd, Int.reduceSub, Int.reduceNeg, natBeqc, natBeqD, tt, hb1, hC, hA, hB, hY, Array.getElem?_setIfInBounds, Array.getElem?_push, hin, hin1, iC, iA, iB, iY, e1]
  refine WP_call (store_ok h1 x.n (m.r.at x.a) hth) fun v J2 hv => ?_
  simp -implicitDefEqProofs only [go_sem, dnW_ite, reduceIte, Nat.reduceAdd, Nat.reduceLeDiff, Nat.reduceMul, Nat.reduceEqDiff, Int.reduceLT, Int.reduceLE, Int.reduceToNat, Nat.reduceSub, Nat.reduceLT, Int.reduceEq, BitVec.reduceOfInt, BitVec.reduceOfNat, Int.reduceGT, Int.reduceGE, Int.reduceBEq, Int.reduceBNe, Nat.reduceGT, Nat.reduceBEq, Nat.reduceBNe, Int.reduceAdd, Int.reduceSub, Int.reduceNeg]
  exact hK _ (MOut.trans u1 hv)
end Go.Proofs.Ytcdlipdeemlibaa.G
namespace Go.Proofs.Ytcdlipdeemlibaa.G
open Go
set_option linter.unusedSimpArgs false
set_option linter.unusedVariables false
set_option maxRecDepth 20000
set_option maxHeartbeats 2000000
variable {E : Me} {J : JH} {b : Nat} {sh : IV} {m : Mc}
theorem fol_18 (h : MAt E J b sh m) (x : Cd) (hx : x.wf) (size : Nat) (hr : x.right size m.bd.l.length E.moves.length = true) (hop : x.op = 18) {J1 : JH} (f : Fol E b J sh m x J1) (K : Out IV → JH → Prop)
    (hK : ∀ J', MOut E b J sh J' (followF E m x) → K (.ret []) J') : WP (dn BI (dropO 36 l_vm_machine_follow.body) (folRho b J.size m x) J1) K := by
  have hb := h.1
  have hin := inb hb
  obtain ⟨hop25, ha8, hb8⟩ := right_ab hr
  have hc8 : x.c % 8 < 8 := by omega
  have w := hx
  obtain ⟨w1, w2, w3, w4, w5, w6⟩ := hx
  obtain ⟨h1, u1, hC, hA, hB, hY⟩ := f
  have hb1 := h1.1
  have hin1 := inb hb1
  have iC := inb hC
  have iA := inb hA
  have iB := inb hB
  have iY := inb hY
  have tt : ∀ j, (x.op = j) = (18 = j) := fun j => by rw [hop]
  simp only [followF, hop] at hK
  simp only [Cd.right, hop, useOf, nOk] at hr
  simp at hr
  unfold folRho
  simp only [l_vm_machine_follow, dropO_o, dropO_om, dropO_oc, dropO_0]
  unfold Cd.e
  unfold Cd.cs at *
  have hmeet := fun f s => Meet_ok (m.r.at x.a).s (.lst 1 f [m32 s, m32 (m.r.at (x.c % 8)).s]) [s, (m.r.at (x.c % 8)).s] .lst (by simp)
  simp only [List.foldl] at hmeet
  have e : m.go.r.at x.a = m.r.at x.a := rfl
  by_cases hz : (m.r.at x.a).v = 0
  · have hz' : ((m.r.at x.a).v == 0) = true := by simp [hz]
    simp -implicitDefEqProofs only [go_sem, dnW_ite, reduceIte, Nat.reduceAdd, Nat.reduceLeDiff, Nat.reduceMul, Nat.reduceEqDiff, Int.reduceLT, Int.reduceLE, Int.reduceToNat, Nat.reduceSub, Nat.reduceLT, Int.reduceEq, BitVec.reduceOfInt, BitVec.reduceOfNat, Int.reduceGT, Int.reduceGE, Int.reduceBEq, Int.reduceBNe, Nat.reduceGT, Nat.reduceBEq, Nat.reduceBNe, Int.reduceAdd, Int.reduceSub, Int.reduceNeg, natBeqc, natBeqD, tt, hb1, hC, hA, hB, hY, Array.getElem?_setIfInBounds, Array.getElem?_push, hin, hin1, iC, iA, iB, iY, hz', l_vm_machine_follow_k0, ipureL, ipure, grp, mkE, List.headD, b8 ha8, st_r E m.go sh ha8, dcp (hmeet _ _) rfl]
    rw [e, if_pos hz] at hK
    exact hK _ (MOut.trans (u1.setO (by omega) _) (MOut.set (h1.setO (d := J.size + 2) (by have := lt_get hb; omega) (fun hm => by have := h.2.2.low _ hm; omega) _) _ rfl))
  · have hz' : ((m.r.at x.a).v == 0) = false := by simp [hz]
    simp -implicitDefEqProofs only [go_sem, dnW_ite, reduceIte, Nat.reduceAdd, Nat.reduceLeDiff, Nat.reduceMul, Nat.reduceEqDiff, Int.reduceLT, Int.reduceLE, Int.reduceToNat, Nat.reduceSub, Nat.reduceLT, Int.reduceEq, BitVec.reduceOfInt, BitVec.reduceOfNat, Int.reduceGT, Int.reduceGE, Int.reduceBEq, Int.reduceBNe, Nat.reduceGT, Nat.reduceBEq, Nat.reduceBNe, Int.reduceAdd, Int.reduceSub, Int.reduceNeg, natBeqc, natBeqD, tt, hb1, hC, hA, hB, hY, Array.getElem?_setIfInBounds, Array.getElem?_push, hin, hin1, iC, iA, iB, iY, hz', l_vm_machine_follow_k0, ipureL, ipure, grp, mkE, List.headD, b8 ha8, st_r E m.go sh ha8, dcp (hmeet _ _) rfl]
    rw [e, if_neg hz] at hK
    exact hK _ (MOut.trans u1 (MOut.set h1 _ rfl))
theorem fol_19 (h : MAt E J b sh m) (x : Cd) (hx : x.wf) (size : Nat) (hr : x.right size m.bd.l.length E.moves.length = true) (he0 : m.err = 0) (hop : x.op = 19) {J1 : JH} (f : Fol E b J sh m x J1) (K : Out IV → JH → Prop)
    (hK : ∀ J', MOut E b J sh J' (followF E m x) → K (.ret []) J') : WP (dn BI (dropO 36 l_vm_machine_follow.body) (folRho b J.size m x) J1) K := by
  have hb := h.1
  have hin := inb hb
  obtain ⟨hop25, ha8, hb8⟩ := right_ab hr
  have hc8 : x.c % 8 < 8 := by omega
  have w := hx
  obtain ⟨w1, w2, w3, w4, w5, w6⟩ := hx
  obtain ⟨h1, u1, hC, hA, hB, hY⟩ := f
  have hb1 := h1.1
  have hin1 := inb hb1
  have iC := inb hC
  have iA := inb hA
  have iB := inb hB
  have iY := inb hY
  have tt : ∀ j, (x.op = j) = (19 = j) := fun j => by rw [hop]
  simp only [followF, hop] at hK
  simp only [Cd.right, hop, useOf, nOk] at hr
  simp at hr
  unfold folRho
  simp only [l_vm_machine_follow, dropO_o, dropO_om, dropO_oc, dropO_0]
  unfold Cd.e
  unfold Cd.cs at *
  have e1 : IntKind.i64.wrap x.n = (x.n.toNat : Int) := by rw [wrap_i64 (by omega) (by omega)]; omega
  simp -implicitDefEqProofs only [go_sem, dnW_ite, reduceIte, Nat.reduceAdd, Nat.reduceLeDiff, Nat.reduceMul, Nat.reduceEqDiff, Int.reduceLT, Int.reduceLE, Int.reduceToNat, Nat.reduceSub, Nat.reduceLT, Int.reduceEq, BitVec.reduceOfInt, BitVec.reduceOfNat, Int.reduceGT, Int.reduceGE, Int.reduceBEq, Int.reduceBNe, Nat.reduceGT, Nat.reduceBEq, Nat.reduceBNe, Int.reduceAdd, Int.reduceSub, Int.reduceNeg, natBeqc, natBeqD, tt, hb1, hC, hA, hB, hY, Array.getElem?_setIfInBounds, Array.getElem?_push, hin, hin1, iC, iA, iB, iY]
  refine WP_call (open_ok h1 x.a ha8) fun v J2 hv => ?_
  obtain ⟨rfl, rfl⟩ := hv
  cases hw : within E.all (m.go.r.at x.a).s with
  | false =>
    rw [hw] at hK
    simp -implicitDefEqProofs only [go_sem, dnW_ite, reduceIte, Nat.reduceAdd, Nat.reduceLeDiff, Nat.reduceMul, Nat.reduceEqDiff, Int.reduceLT, Int.reduceLE, Int.reduceToNat, Nat.reduceSub, Nat.reduceLT, Int.reduceEq, BitVec.reduceOfInt, BitVec.reduceOfNat, Int.reduceGT, Int.reduceGE, Int.reduceBEq, Int.reduceBNe, Nat.reduceGT, Nat.reduceBEq, Nat.reduceBNe, Int.reduceAdd, Int.reduceSub, Int.reduceNeg]
    refine WP_call (fail_ok h1 8) fun v J2 hv => ?_
    simp -implicitDefEqProofs only [go_sem, dnW_ite, reduceIte, Nat.reduceAdd, Nat.reduceLeDiff, Nat.reduceMul, Nat.reduceEqDiff, Int.reduceLT, Int.reduceLE, Int.reduceToNat, Nat.reduceSub, Nat.reduceLT, Int.reduceEq, BitVec.reduceOfInt, BitVec.reduceOfNat, Int.reduceGT, Int.reduceGE, Int.reduceBEq, Int.reduceBNe, Nat.reduceGT, Nat.reduceBEq, Nat.reduceBNe, Int.reduceAdd, Int.reduceSub, Int.reduceNeg]
    rw [if_pos (show m.go.err = 0 from he0)] at hv
    exact hK _ (MOut.trans u1 hv)
  | true =>
    rw [hw] at hK
    have e : m.go.r.at x.a = m.r.at x.a := rfl
    by_cases hz : (m.r.at x.a).v = 0
    · have hz' : ((m.r.at x.a).v == 0) = true := by simp [hz]
      rw [e, if_pos hz] at hK
      simp -implicitDefEqProofs only [go_sem, dnW_ite, reduceIte, Nat.reduceAdd, Nat.reduceLeDiff, Nat.reduceMul, Nat.reduceEqDiff, Int.reduceLT, Int.reduceLE, Int.reduceToNat, Nat.reduceSub, Nat.reduceLT, Int.reduceEq, BitVec.reduceOfInt, BitVec.reduceOfNat, Int.reduceGT, Int.reduceGE, Int.reduceBEq, Int.reduceBNe, Nat.reduceGT, Nat.reduceBEq, Nat.reduceBNe, Int.reduceAdd, Int.reduceSub, Int.reduceNeg, natBeqc, natBeqD, tt, hb1, hC, hA, hB, hY, Array.getElem?_setIfInBounds, Array.getElem?_push, hin, hin1, iC, iA, iB, iY, hz', e1]
      exact hK _ (MOut.trans u1 (MOut.set h1 _ rfl))
    · have hz' : ((m.r.at x.a).v == 0) = false := by simp [hz]
      rw [e, if_neg hz] at hK
      simp -implicitDefEqProofs only [go_sem, dnW_ite, reduceIte, Nat.reduceAdd, Nat.reduceLeDiff, Nat.reduceMul, Nat.reduceEqDiff, Int.reduceLT, Int.reduceLE, Int.reduceToNat, Nat.reduceSub, Nat.reduceLT, Int.reduceEq, BitVec.reduceOfInt, BitVec.reduceOfNat, Int.reduceGT, Int.reduceGE, Int.reduceBEq, Int.reduceBNe, Nat.reduceGT, Nat.reduceBEq, Nat.reduceBNe, Int.reduceAdd, Int.reduceSub, Int.reduceNeg, natBeqc, natBeqD, tt, hb1, hC, hA, hB, hY, Array.getElem?_setIfInBounds, Array.getElem?_push, hin, hin1, iC, iA, iB, iY, hz']
      exact hK _ (MOut.trans u1 (MOut.refl h1))
theorem fol_20 (h : MAt E J b sh m) (x : Cd) (hx : x.wf) (size : Nat) (hr : x.right size m.bd.l.length E.moves.length = true) (hop : x.op = 20) {J1 : JH} (f : Fol E b J sh m x J1) (K : Out IV → JH → Prop)
    (hK : ∀ J', MOut E b J sh J' (followF E m x) → K (.ret []) J') : WP (dn BI (dropO 36 l_vm_machine_follow.body) (folRho b J.size m x) J1) K := by
  have hb := h.1
  have hin := inb hb
  obtain ⟨hop25, ha8, hb8⟩ := right_ab hr
  have hc8 : x.c % 8 < 8 := by omega
  have w := hx
  obtain ⟨w1, w2, w3, w4, w5, w6⟩ := hx
  obtain ⟨h1, u1, hC, hA, hB, hY⟩ := f
  have hb1 := h1.1
  have hin1 := inb hb1
  have iC := inb hC
  have iA := inb hA
  have iB := inb hB
  have iY := inb hY
  have tt : ∀ j, (x.op = j) = (20 = j) := fun j => by rw [hop]
  simp only [followF, hop] at hK
  simp only [Cd.right, hop, useOf, nOk] at hr
  simp at hr
  unfold folRho
  simp only [l_vm_machine_follow, dropO_o, dropO_om, dropO_oc, dropO_0]
  unfold Cd.e
  unfold Cd.cs at *
  have e1 : IntKind.i64.wrap x.n = (x.n.toNat : Int) := by rw [wrap_i64 (by omega) (by omega)]; omega
  simp -implicitDefEqProofs only [go_sem, dnW_ite, reduceIte, Nat.reduceAdd, Nat.reduceLeDiff, Nat.reduceMul, Nat.reduceEqDiff, Int.reduceLT, Int.reduceLE, Int.reduceToNat, Nat.reduceSub, Nat.reduceLT, Int.reduceEq, BitVec.reduceOfInt, BitVec.reduceOfNat, Int.reduceGT, Int.reduceGE, Int.reduceBEq, Int.reduceBNe, Nat.reduceGT, Nat.reduceBEq, Nat.reduceBNe, Int.reduceAdd, Int.reduceSub, Int.reduceNeg, natBeqc, natBeqD, tt, hb1, hC, hA, hB, hY, Array.getElem?_setIfInBounds, Array.getElem?_push, hin, hin1, iC, iA, iB, iY, e1]
  exact hK _ (MOut.trans u1 (MOut.set h1 _ rfl))
end Go.Proofs.Ytcdlipdeemlibaa.G
namespace Go.Proofs.Ytcdlipdeemlibaa.G
open Go
set_option linter.unusedSimpArgs false
set_option linter.unusedVariables false
set_option maxRecDepth 20000
set_option maxHeartbeats 2000000
variable {E : Me} {J : JH} {b : Nat} {sh : IV} {m : Mc}
theorem roll_ex (s n : Int) (h0 : 0 < n) (h1 : n < 4294967296) : ∃ bv sv : Int, bv = below s n ∧ sv = sn s ∧ 0 ≤ bv ∧ bv < n := ⟨_, _, rfl, rfl, below_rng s n h0 h1⟩
theorem fol_21 (h : MAt E J b sh m) (x : Cd) (hx : x.wf) (size : Nat) (hr : x.right size m.bd.l.length E.moves.length = true) (hE : E.ok) (hop : x.op = 21) {J1 : JH} (f : Fol E b J sh m x J1) (K : Out IV → JH → Prop)
    (hK : ∀ J', MOut E b J sh J' (followF E m x) → K (.ret []) J') : WP (dn BI (dropO 36 l_vm_machine_follow.body) (folRho b J.size m x) J1) K := by
  have hb := h.1
  have hin := inb hb
  obtain ⟨hop25, ha8, hb8⟩ := right_ab hr
  have hc8 : x.c % 8 < 8 := by omega
  have w := hx
  obtain ⟨w1, w2, w3, w4, w5, w6⟩ := hx
  obtain ⟨h1, u1, hC, hA, hB, hY⟩ := f
  have hb1 := h1.1
  have hin1 := inb hb1
  have iC := inb hC
  have iA := inb hA
  have iB := inb hB
  have iY := inb hY
  have tt : ∀ j, (x.op = j) = (21 = j) := fun j => by rw [hop]
  simp only [followF, hop] at hK
  simp only [Cd.right, hop, useOf, nOk] at hr
  simp at hr
  unfold folRho
  simp only [l_vm_machine_follow, dropO_o, dropO_om, dropO_oc, dropO_0]
  unfold Cd.e
  unfold Cd.cs at *
  have e1 : IntKind.i64.wrap x.n = x.n := wrap_i64 (by omega) (by omega)
  have hmv : ∀ J, iaddrF 1 E.mv (.int .i32 x.n) J = some (.rptr (.int .i32 (E.moves.getD x.n.toNat 0)) 0, J) := fun J => by
    have hl : x.n.toNat < E.moves.length := by omega
    obtain ⟨f, hf⟩ := hE.mv.get (i := x.n.toNat) (by simpa using hl)
    rw [hf, iaddrF_lst]
    simp [iasNat, asNat, hr.1.1.1.1.1, hl]
  have hof := fun f => Of_ok (.lst 1 f [.int .i64 x.n]) [x.n] .lst (by simp)
  simp only [List.foldl, BitVec.zero_or] at hof
  simp -implicitDefEqProofs only [go_sem, dnW_ite, reduceIte, Nat.reduceAdd, Nat.reduceLeDiff, Nat.reduceMul, Nat.reduceEqDiff, Int.reduceLT, Int.reduceLE, Int.reduceToNat, Nat.reduceSub, Nat.reduceLT, Int.reduceEq, BitVec.reduceOfInt, BitVec.reduceOfNat, Int.reduceGT, Int.reduceGE, Int.reduceBEq, Int.reduceBNe, Nat.reduceGT, Nat.reduceBEq, Nat.reduceBNe, Int.reduceAdd, Int.reduceSub, Int.reduceNeg, natBeqc, natBeqD, tt, hb1, hC, hA, hB, hY, Array.getElem?_setIfInBounds, Array.getElem?_push, hin, hin1, iC, iA, iB, iY, hmv, e1, ipureL, ipure, grp, mkE, List.headD, b8 ha8, st_r E m.go sh ha8, dcp (hof _) rfl]
  exact hK _ (MOut.trans u1 (MOut.set h1 _ rfl))
theorem fol_23 (h : MAt E J b sh m) (x : Cd) (hx : x.wf) (size : Nat) (hr : x.right size m.bd.l.length E.moves.length = true) (hop : x.op = 23) {J1 : JH} (f : Fol E b J sh m x J1) (K : Out IV → JH → Prop)
    (hK : ∀ J', MOut E b J sh J' (followF E m x) → K (.ret []) J') : WP (dn BI (dropO 36 l_vm_machine_follow.body) (folRho b J.size m x) J1) K := by
  have hb := h.1
  have hin := inb hb
  obtain ⟨hop25, ha8, hb8⟩ := right_ab hr
  have hc8 : x.c % 8 < 8 := by omega
  have w := hx
  obtain ⟨w1, w2, w3, w4, w5, w6⟩ := hx
  obtain ⟨h1, u1, hC, hA, hB, hY⟩ := f
  have hb1 := h1.1
  have hin1 := inb hb1
  have iC := inb hC
  have iA := inb hA
  have iB := inb hB
  have iY := inb hY
  have tt : ∀ j, (x.op = j) = (23 = j) := fun j => by rw [hop]
  simp only [followF, hop] at hK
  simp only [Cd.right, hop, useOf, nOk] at hr
  simp at hr
  unfold folRho
  simp only [l_vm_machine_follow, dropO_o, dropO_om, dropO_oc, dropO_0]
  unfold Cd.e
  unfold Cd.cs at *
  have e1 : IntKind.u32.wrap x.n = x.n := wrap_u32 (by omega) (by omega)
  have hbl := Below_ok m.dice x.n
  have hgd : m.go.dice = m.dice := rfl
  rw [hgd] at hK
  obtain ⟨bv, sv, hbv, hsv, hb0, hb2⟩ := roll_ex m.dice x.n (by omega) (by omega)
  rw [← hbv, ← hsv] at hbl hK
  clear hbv hsv
  unfold dice at hbl
  have e2 : IntKind.i32.wrap bv = bv := wrap_i32 (by omega) (by omega)
  simp -implicitDefEqProofs only [go_sem, dnW_ite, reduceIte, Nat.reduceAdd, Nat.reduceLeDiff, Nat.reduceMul, Nat.reduceEqDiff, Int.reduceLT, Int.reduceLE, Int.reduceToNat, Nat.reduceSub, Nat.reduceLT, Int.reduceEq, BitVec.reduceOfInt, BitVec.reduceOfNat, Int.reduceGT, Int.reduceGE, Int.reduceBEq, Int.reduceBNe, Nat.reduceGT, Nat.reduceBEq, Nat.reduceBNe, Int.reduceAdd, Int.reduceSub, Int.reduceNeg, natBeqc, natBeqD, tt, hb1, hC, hA, hB, hY, Array.getElem?_setIfInBounds, Array.getElem?_push, hin, hin1, iC, iA, iB, iY, hgd, e1, e2, b8 ha8, dcp hbl rfl]
  have e3 : isplice (mc E { m.go with dice := sv } sh) (102 + x.a * 2) [IV.int .i32 bv, IV.sc (.int .u32 0)] = _ := st_r E { m.go with dice := sv } sh ha8 bv 0#32
  rw [e3]
  exact hK _ (MOut.trans u1 (MOut.set h1 _ rfl))
end Go.Proofs.Ytcdlipdeemlibaa.G
namespace Go.Proofs.Ytcdlipdeemlibaa.G
open Go
set_option linter.unusedSimpArgs false
set_option linter.unusedVariables false
set_option maxRecDepth 20000
set_option maxHeartbeats 2000000
variable {E : Me} {J : JH} {b : Nat} {sh : IV} {m : Mc}
theorem fol_4 (h : MAt E J b sh m) (x : Cd) (hx : x.wf) (size : Nat) (hr : x.right size m.bd.l.length E.moves.length = true) (he0 : m.err = 0) (hok : m.r.ok) (hs : m.shows.length ≤ 1000) (hop : x.op = 4) {J1 : JH} (f : Fol E b J sh m x J1) (K : Out IV → JH → Prop)
    (hK : ∀ J', MOut E b J sh J' (followF E m x) → K (.ret []) J') : WP (dn BI (dropO 36 l_vm_machine_follow.body) (folRho b J.size m x) J1) K := by
  have hb := h.1
  have hin := inb hb
  obtain ⟨hop25, ha8, hb8⟩ := right_ab hr
  have hc8 : x.c % 8 < 8 := by omega
  have w := hx
  obtain ⟨w1, w2, w3, w4, w5, w6⟩ := hx
  obtain ⟨h1, u1, hC, hA, hB, hY⟩ := f
  have hb1 := h1.1
  have hin1 := inb hb1
  have iC := inb hC
  have iA := inb hA
  have iB := inb hB
  have iY := inb hY
  have tt : ∀ j, (x.op = j) = (4 = j) := fun j => by rw [hop]
  simp only [followF, hop] at hK
  have hr0 := hr
  simp only [Cd.right, hop, useOf, nOk] at hr
  simp at hr
  unfold folRho
  simp only [l_vm_machine_follow, dropO_o, dropO_om, dropO_oc, dropO_0]
  unfold Cd.e
  unfold Cd.cs at *
  simp -implicitDefEqProofs only [go_sem, dnW_ite, reduceIte, Nat.reduceAdd, Nat.reduceLeDiff, Nat.reduceMul, Nat.reduceEqDiff, Int.reduceLT, Int.reduceLE, Int.reduceToNat, Nat.reduceSub, Nat.reduceLT, Int.reduceEq, BitVec.reduceOfInt, BitVec.reduceOfNat, Int.reduceGT, Int.reduceGE, Int.reduceBEq, Int.reduceBNe, Nat.reduceGT, Nat.reduceBEq, Nat.reduceBNe, Int.reduceAdd, Int.reduceSub, Int.reduceNeg, natBeqc, natBeqD, tt, hb1, hC, hA, hB, hY, Array.getElem?_setIfInBounds, Array.getElem?_push, hin, hin1, iC, iA, iB, iY, l_vm_machine_follow_k1]
  refine WP_call (reach_ok h1 x w size hr0 hok he0 hs (by omega)) fun v J2 hv => ?_
  simp -implicitDefEqProofs only [go_sem, dnW_ite, reduceIte, Nat.reduceAdd, Nat.reduceLeDiff, Nat.reduceMul, Nat.reduceEqDiff, Int.reduceLT, Int.reduceLE, Int.reduceToNat, Nat.reduceSub, Nat.reduceLT, Int.reduceEq, BitVec.reduceOfInt, BitVec.reduceOfNat, Int.reduceGT, Int.reduceGE, Int.reduceBEq, Int.reduceBNe, Nat.reduceGT, Nat.reduceBEq, Nat.reduceBNe, Int.reduceAdd, Int.reduceSub, Int.reduceNeg]
  exact hK _ (MOut.trans u1 hv)
theorem fol_5 (h : MAt E J b sh m) (x : Cd) (hx : x.wf) (size : Nat) (hr : x.right size m.bd.l.length E.moves.length = true) (he0 : m.err = 0) (hok : m.r.ok) (hs : m.shows.length ≤ 1000) (hop : x.op = 5) {J1 : JH} (f : Fol E b J sh m x J1) (K : Out IV → JH → Prop)
    (hK : ∀ J', MOut E b J sh J' (followF E m x) → K (.ret []) J') : WP (dn BI (dropO 36 l_vm_machine_follow.body) (folRho b J.size m x) J1) K := by
  have hb := h.1
  have hin := inb hb
  obtain ⟨hop25, ha8, hb8⟩ := right_ab hr
  have hc8 : x.c % 8 < 8 := by omega
  have w := hx
  obtain ⟨w1, w2, w3, w4, w5, w6⟩ := hx
  obtain ⟨h1, u1, hC, hA, hB, hY⟩ := f
  have hb1 := h1.1
  have hin1 := inb hb1
  have iC := inb hC
  have iA := inb hA
  have iB := inb hB
  have iY := inb hY
  have tt : ∀ j, (x.op = j) = (5 = j) := fun j => by rw [hop]
  simp only [followF, hop] at hK
  have hr0 := hr
  simp only [Cd.right, hop, useOf, nOk] at hr
  simp at hr
  unfold folRho
  simp only [l_vm_machine_follow, dropO_o, dropO_om, dropO_oc, dropO_0]
  unfold Cd.e
  unfold Cd.cs at *
  simp -implicitDefEqProofs only [go_sem, dnW_ite, reduceIte, Nat.reduceAdd, Nat.reduceLeDiff, Nat.reduceMul, Nat.reduceEqDiff, Int.reduceLT, Int.reduceLE, Int.reduceToNat, Nat.reduceSub, Nat.reduceLT, Int.reduceEq, BitVec.reduceOfInt, BitVec.reduceOfNat, Int.reduceGT, Int.reduceGE, Int.reduceBEq, Int.reduceBNe, Nat.reduceGT, Nat.reduceBEq, Nat.reduceBNe, Int.reduceAdd, Int.reduceSub, Int.reduceNeg, natBeqc, natBeqD, tt, hb1, hC, hA, hB, hY, Array.getElem?_setIfInBounds, Array.getElem?_push, hin, hin1, iC, iA, iB, iY, l_vm_machine_follow_k1]
  refine WP_call (reach_ok h1 x w size hr0 hok he0 hs (by omega)) fun v J2 hv => ?_
  simp -implicitDefEqProofs only [go_sem, dnW_ite, reduceIte, Nat.reduceAdd, Nat.reduceLeDiff, Nat.reduceMul, Nat.reduceEqDiff, Int.reduceLT, Int.reduceLE, Int.reduceToNat, Nat.reduceSub, Nat.reduceLT, Int.reduceEq, BitVec.reduceOfInt, BitVec.reduceOfNat, Int.reduceGT, Int.reduceGE, Int.reduceBEq, Int.reduceBNe, Nat.reduceGT, Nat.reduceBEq, Nat.reduceBNe, Int.reduceAdd, Int.reduceSub, Int.reduceNeg]
  exact hK _ (MOut.trans u1 hv)
theorem fol_22 (h : MAt E J b sh m) (x : Cd) (hx : x.wf) (size : Nat) (hr : x.right size m.bd.l.length E.moves.length = true) (he0 : m.err = 0) (hok : m.r.ok) (hs : m.shows.length ≤ 1000) (hop : x.op = 22) {J1 : JH} (f : Fol E b J sh m x J1) (K : Out IV → JH → Prop)
    (hK : ∀ J', MOut E b J sh J' (followF E m x) → K (.ret []) J') : WP (dn BI (dropO 36 l_vm_machine_follow.body) (folRho b J.size m x) J1) K := by
  have hb := h.1
  have hin := inb hb
  obtain ⟨hop25, ha8, hb8⟩ := right_ab hr
  have hc8 : x.c % 8 < 8 := by omega
  have w := hx
  obtain ⟨w1, w2, w3, w4, w5, w6⟩ := hx
  obtain ⟨h1, u1, hC, hA, hB, hY⟩ := f
  have hb1 := h1.1
  have hin1 := inb hb1
  have iC := inb hC
  have iA := inb hA
  have iB := inb hB
  have iY := inb hY
  have tt : ∀ j, (x.op = j) = (22 = j) := fun j => by rw [hop]
  simp only [followF, hop] at hK
  have hr0 := hr
  simp only [Cd.right, hop, useOf, nOk] at hr
  simp at hr
  unfold folRho
  simp only [l_vm_machine_follow, dropO_o, dropO_om, dropO_oc, dropO_0]
  unfold Cd.e
  unfold Cd.cs at *
  simp -implicitDefEqProofs only [go_sem, dnW_ite, reduceIte, Nat.reduceAdd, Nat.reduceLeDiff, Nat.reduceMul, Nat.reduceEqDiff, Int.reduceLT, Int.reduceLE, Int.reduceToNat, Nat.reduceSub, Nat.reduceLT, Int.reduceEq, BitVec.reduceOfInt, BitVec.reduceOfNat, Int.reduceGT, Int.reduceGE, Int.reduceBEq, Int.reduceBNe, Nat.reduceGT, Nat.reduceBEq, Nat.reduceBNe, Int.reduceAdd, Int.reduceSub, Int.reduceNeg, natBeqc, natBeqD, tt, hb1, hC, hA, hB, hY, Array.getElem?_setIfInBounds, Array.getElem?_push, hin, hin1, iC, iA, iB, iY, l_vm_machine_follow_k1]
  refine WP_call (reach_ok h1 x w size hr0 hok he0 hs (by omega)) fun v J2 hv => ?_
  simp -implicitDefEqProofs only [go_sem, dnW_ite, reduceIte, Nat.reduceAdd, Nat.reduceLeDiff, Nat.reduceMul, Nat.reduceEqDiff, Int.reduceLT, Int.reduceLE, Int.reduceToNat, Nat.reduceSub, Nat.reduceLT, Int.reduceEq, BitVec.reduceOfInt, BitVec.reduceOfNat, Int.reduceGT, Int.reduceGE, Int.reduceBEq, Int.reduceBNe, Nat.reduceGT, Nat.reduceBEq, Nat.reduceBNe, Int.reduceAdd, Int.reduceSub, Int.reduceNeg]
  exact hK _ (MOut.trans u1 hv)
theorem fol_24 (h : MAt E J b sh m) (x : Cd) (hx : x.wf) (size : Nat) (hr : x.right size m.bd.l.length E.moves.length = true) (he0 : m.err = 0) (hok : m.r.ok) (hs : m.shows.length ≤ 1000) (hop : x.op = 24) {J1 : JH} (f : Fol E b J sh m x J1) (K : Out IV → JH → Prop)
    (hK : ∀ J', MOut E b J sh J' (followF E m x) → K (.ret []) J') : WP (dn BI (dropO 36 l_vm_machine_follow.body) (folRho b J.size m x) J1) K := by
  have hb := h.1
  have hin := inb hb
  obtain ⟨hop25, ha8, hb8⟩ := right_ab hr
  have hc8 : x.c % 8 < 8 := by omega
  have w := hx
  obtain ⟨w1, w2, w3, w4, w5, w6⟩ := hx
  obtain ⟨h1, u1, hC, hA, hB, hY⟩ := f
  have hb1 := h1.1
  have hin1 := inb hb1
  have iC := inb hC
  have iA := inb hA
  have iB := inb hB
  have iY := inb hY
  have tt : ∀ j, (x.op = j) = (24 = j) := fun j => by rw [hop]
  simp only [followF, hop] at hK
  have hr0 := hr
  simp only [Cd.right, hop, useOf, nOk] at hr
  simp at hr
  unfold folRho
  simp only [l_vm_machine_follow, dropO_o, dropO_om, dropO_oc, dropO_0]
  unfold Cd.e
  unfold Cd.cs at *
  simp -implicitDefEqProofs only [go_sem, dnW_ite, reduceIte, Nat.reduceAdd, Nat.reduceLeDiff, Nat.reduceMul, Nat.reduceEqDiff, Int.reduceLT, Int.reduceLE, Int.reduceToNat, Nat.reduceSub, Nat.reduceLT, Int.reduceEq, BitVec.reduceOfInt, BitVec.reduceOfNat, Int.reduceGT, Int.reduceGE, Int.reduceBEq, Int.reduceBNe, Nat.reduceGT, Nat.reduceBEq, Nat.reduceBNe, Int.reduceAdd, Int.reduceSub, Int.reduceNeg, natBeqc, natBeqD, tt, hb1, hC, hA, hB, hY, Array.getElem?_setIfInBounds, Array.getElem?_push, hin, hin1, iC, iA, iB, iY, l_vm_machine_follow_k1]
  refine WP_call (reach_ok h1 x w size hr0 hok he0 hs (by omega)) fun v J2 hv => ?_
  simp -implicitDefEqProofs only [go_sem, dnW_ite, reduceIte, Nat.reduceAdd, Nat.reduceLeDiff, Nat.reduceMul, Nat.reduceEqDiff, Int.reduceLT, Int.reduceLE, Int.reduceToNat, Nat.reduceSub, Nat.reduceLT, Int.reduceEq, BitVec.reduceOfInt, BitVec.reduceOfNat, Int.reduceGT, Int.reduceGE, Int.reduceBEq, Int.reduceBNe, Nat.reduceGT, Nat.reduceBEq, Nat.reduceBNe, Int.reduceAdd, Int.reduceSub, Int.reduceNeg]
  exact hK _ (MOut.trans u1 hv)
end Go.Proofs.Ytcdlipdeemlibaa.G
namespace Go.Proofs.Ytcdlipdeemlibaa.G
open Go
set_option linter.unusedSimpArgs false
set_option linter.unusedVariables false
set_option maxRecDepth 20000
set_option maxHeartbeats 2000000
variable {E : Me} {J : JH} {b : Nat} {sh : IV} {m : Mc}
theorem fol_c (h : MAt E J b sh m) (x : Cd) (hx : x.wf) (size : Nat) (hr : x.right size m.bd.l.length E.moves.length = true) (hop : 6 ≤ x.op ∧ x.op ≤ 17) {J1 : JH} (f : Fol E b J sh m x J1) (K : Out IV → JH → Prop)
    (hK : ∀ J', MOut E b J sh J' (followF E m x) → K (.ret []) J') : WP (dn BI (dropO 36 l_vm_machine_follow.body) (folRho b J.size m x) J1) K := by
  have hb := h.1
  have hin := inb hb
  obtain ⟨hop25, ha8, hb8⟩ := right_ab hr
  have hc8 : x.c % 8 < 8 := by omega
  obtain ⟨w1, w2, w3, w4, w5, w6⟩ := hx
  obtain ⟨h1, u1, hC, hA, hB, hY⟩ := f
  have hb1 := h1.1
  have hin1 := inb hb1
  have iC := inb hC
  have iA := inb hA
  have iB := inb hB
  have iY := inb hY
  have hF : followF E m x = { m.go with r := m.go.r.set x.a ⟨computeF x.op (m.r.at x.b).v (m.r.at (x.c % 8)).v, (m.r.at x.b).s &&& (m.r.at (x.c % 8)).s⟩ } := by
    obtain ⟨o1, o2⟩ := hop
    unfold followF
    generalize hq : x.op = q at *
    clear hop25 w1
    split <;> first | (exfalso; omega) | rfl
  rw [hF] at hK
  have tt : ∀ j, (j < 6 ∨ 17 < j) → (x.op = j) = False := fun j hj => by simp; omega
  have t := fun j hj => tt j (by simpa using hj)
  unfold folRho
  simp only [l_vm_machine_follow, dropO_o, dropO_om, dropO_oc, dropO_0]
  unfold Cd.e
  unfold Cd.cs at *
  have hcm := Compute_ok x.op (by omega) (m.r.at x.b).v (m.r.at (x.c % 8)).v
  have hmd : BI.md F_vm_Compute = .pure := rfl
  have hmeet := fun f => Meet_ok (m.r.at x.b).s (.lst 1 f [m32 (m.r.at (x.c % 8)).s]) [(m.r.at (x.c % 8)).s] .lst (by simp)
  simp only [List.foldl] at hmeet
  have tl := And.intro (tt 1 (by omega)) (And.intro (tt 25 (by omega)) (And.intro (tt 2 (by omega)) (And.intro (tt 3 (by omega)) (And.intro (tt 18 (by omega)) (And.intro (tt 19 (by omega)) (And.intro (tt 20 (by omega)) (And.intro (tt 21 (by omega)) (And.intro (tt 23 (by omega)) (And.intro (tt 4 (by omega)) (And.intro (tt 5 (by omega)) (And.intro (tt 22 (by omega)) (tt 24 (by omega)))))))))))))
  simp -implicitDefEqProofs only [go_sem, dnW_ite, reduceIte, Nat.reduceAdd, Nat.reduceLeDiff, Nat.reduceMul, Nat.reduceEqDiff, Int.reduceLT, Int.reduceLE, Int.reduceToNat, Nat.reduceSub, Nat.reduceLT, Int.reduceEq, BitVec.reduceOfInt, BitVec.reduceOfNat, Int.reduceGT, Int.reduceGE, Int.reduceBEq, Int.reduceBNe, Nat.reduceGT, Nat.reduceBEq, Nat.reduceBNe, Int.reduceAdd, Int.reduceSub, Int.reduceNeg, natBeqc, natBeqD, tl, hb1, hC, hA, hB, hY, Array.getElem?_setIfInBounds, Array.getElem?_push, hin, hin1, iC, iA, iB, iY, l_vm_machine_follow_k1, ipureL, ipure, grp, mkE, List.headD, b8 ha8, st_r E m.go sh ha8, hmd, dcp hcm rfl, dcp (hmeet _) rfl]
  exact hK _ (MOut.trans u1 (MOut.set h1 _ rfl))
end Go.Proofs.Ytcdlipdeemlibaa.G
namespace Go.Proofs.Ytcdlipdeemlibaa.G
open Go
set_option linter.unusedSimpArgs false
set_option linter.unusedVariables false
set_option maxRecDepth 20000
variable {E : Me} {J : JH} {b : Nat} {sh : IV} {m : Mc}
theorem ops_of {x : Cd} (h : x.op ≤ 25) (h0 : x.op ≠ 0) : x.op = 1 ∨ x.op = 25 ∨ x.op = 2 ∨ x.op = 3 ∨ x.op = 18 ∨ x.op = 19 ∨ x.op = 20 ∨ x.op = 21 ∨ x.op = 23 ∨ (x.op = 4 ∨ x.op = 5 ∨ x.op = 22 ∨ x.op = 24) ∨ (6 ≤ x.op ∧ x.op ≤ 17) := by omega
theorem follow_ok (hE : E.ok) (h : MAt E J b sh m) (x : Cd) (hx : x.wf) (size : Nat) (hr : x.right size m.bd.l.length E.moves.length = true) (hpc : m.pc ≤ 1000) (h0 : x.op ≠ 0) (hok : m.r.ok) (he0 : m.err = 0) (hs : m.shows.length ≤ 1000) :
    RP (ic BI F_vm_machine_follow [.ptr b 0 0, x.e] J) fun v J' => MOut E b J sh J' (followF E m x) := by
  refine RP_run fn_vm_machine_follow rfl fun K hK => ?_
  refine follow_pre h x size hr hpc K fun J1 f => ?_
  have hk : ∀ J', MOut E b J sh J' (followF E m x) → K (.ret []) J' := fun J' h => hK [] J' h
  rcases ops_of (right_ab hr).1 h0 with hop | hop | hop | hop | hop | hop | hop | hop | hop | hop | hop
  · exact fol_1 h x hx size hr hop f K hk
  · exact fol_25 h x hx size hr hop f K hk
  · exact fol_2 h x hx size hr hop f K hk
  · exact fol_3 h x hx size hr hop f K hk
  · exact fol_18 h x hx size hr hop f K hk
  · exact fol_19 h x hx size hr he0 hop f K hk
  · exact fol_20 h x hx size hr hop f K hk
  · exact fol_21 h x hx size hr hE hop f K hk
  · exact fol_23 h x hx size hr hop f K hk
  · rcases hop with hop | hop | hop | hop
    · exact fol_4 h x hx size hr he0 hok hs hop f K hk
    · exact fol_5 h x hx size hr he0 hok hs hop f K hk
    · exact fol_22 h x hx size hr he0 hok hs hop f K hk
    · exact fol_24 h x hx size hr he0 hok hs hop f K hk
  · exact fol_c h x hx size hr hop f K hk
def I32 (v : Int) : Prop := -2147483648 ≤ v ∧ v < 2147483648
theorem w32_rng (z : Int) : I32 (w32 z) := by
  simp only [I32, w32, IntKind.wrap, IntKind.bits, IntKind.signed]; simp; omega
theorem I32_0 : I32 0 := ⟨by decide, by decide⟩
theorem I32_1 : I32 1 := ⟨by decide, by decide⟩
theorem fdiv_rng {x : Int} (h : I32 x) (k : Nat) : I32 (x.fdiv (2 ^ k)) := by
  obtain ⟨h1, h2⟩ := h
  have hp : (1 : Int) ≤ 2 ^ k := by
    have : 0 < (2 : Nat) ^ k := Nat.pow_pos (by omega)
    have e : ((2 : Int) ^ k) = ((2 ^ k : Nat) : Int) := by simp
    omega
  generalize (2 : Int) ^ k = p at hp
  rw [Int.fdiv_eq_ediv_of_nonneg _ (by omega)]
  constructor
  · refine (Int.le_ediv_iff_mul_le (by omega)).2 ?_
    have : -2147483648 * p ≤ -2147483648 * 1 := by omega
    omega
  · refine (Int.ediv_lt_iff_lt_mul (by omega)).2 ?_
    have : 2147483648 * 1 ≤ 2147483648 * p := by omega
    omega
theorem tmod_rng {x : Int} (h : I32 x) (y : Int) : I32 (x.tmod y) := by
  obtain ⟨h1, h2⟩ := h
  have h3 : (x.tmod y).natAbs ≤ x.natAbs := by
    rw [Int.natAbs_tmod]; exact Nat.mod_le _ _
  constructor <;> first | skip | skip
  · by_cases hx : 0 ≤ x
    · have := Int.tmod_nonneg y hx; omega
    · omega
  · by_cases hx : 0 ≤ x
    · omega
    · have := Int.tmod_nonneg y (a := -x) (by omega)
      rw [Int.neg_tmod] at this
      omega
theorem computeF_rng (op : Nat) {x y : Int} (hx : I32 x) : I32 (computeF op x y) := by
  unfold computeF
  split <;> first | exact w32_rng _ | exact I32_0 | exact fdiv_rng hx _ | (split <;> first | exact I32_0 | exact w32_rng _ | exact tmod_rng hx _ | exact I32_1)
def Bd.ok (b : Bd) : Prop := ∀ c ∈ b.l, I32 c.v
theorem Bd.ok_at {b : Bd} (h : b.ok) (i : Int) : I32 (b.at i).v := by
  unfold Bd.at
  by_cases hl : i.toNat < b.l.length
  · simp only [List.getD_eq_getElem?_getD, hl, List.getElem?_eq_getElem, Option.getD_some]
    exact h _ (List.getElem_mem hl)
  · simp only [List.getD_eq_getElem?_getD, List.getElem?_eq_none (Nat.le_of_not_lt hl), Option.getD_none]
    exact I32_0
theorem Bd.ok_put {b : Bd} (h : b.ok) (i : Int) {c : Cl} (hc : I32 c.v) : (b.put i c).ok := by
  unfold Bd.put; split
  · intro x hx
    rcases List.mem_or_eq_of_mem_set hx with hx | rfl
    · exact h _ hx
    · exact hc
  · exact h
theorem Bd.ok_show {b : Bd} (h : b.ok) (i : Int) (to : BitVec 32) : (b.show i to).ok := by
  unfold Bd.show; split
  · intro x hx
    rcases List.mem_or_eq_of_mem_set hx with hx | rfl
    · exact h _ hx
    · exact Bd.ok_at h i
  · exact h
theorem show_len (b : Bd) (i : Int) (to : BitVec 32) : (b.show i to).l.length = b.l.length := by
  unfold Bd.show; split
  · simp [Bd.set]
  · rfl
theorem Rg.at_set (r : Rg) {i : Nat} (j : Nat) (c : Cl) (hi : i < 8) : (r.set i c).at j = if j = i then c else r.at j := by
  simp only [Rg.at, Rg.set, List.getD_eq_getElem?_getD, List.getElem?_set, r.h, hi, if_true]
  by_cases h : i = j
  · subst h; simp
  · simp [h, Ne.symm h]
theorem Rg.ok_set {r : Rg} (h : r.ok) {i : Nat} (hi : i < 8) {c : Cl} (hc : I32 c.v) : (r.set i c).ok := by
  intro j hj
  rw [Rg.at_set r j c hi]
  split
  · exact hc
  · exact h j hj
structure Mc.ok (n s : Nat) (m : Mc) : Prop where
  r : m.r.ok
  bd : m.bd.ok
  len : m.bd.l.length = n
  pc : m.pc ≤ s
theorem fillN_ok {out : List Int} (ho : ∀ v ∈ out, I32 v) (start : Nat) : ∀ (k : Nat) (m : Mc), m.bd.ok → (fillN m start out k).bd.ok
  | 0, m, h => h
  | k + 1, m, h => by
    simp only [fillN]
    refine Bd.ok_put (fillN_ok ho start k m h) _ ?_
    by_cases hk : k < out.length
    · simp only [List.getD_eq_getElem?_getD, hk, List.getElem?_eq_getElem, Option.getD_some]; exact ho _ (List.getElem_mem hk)
    · simp only [List.getD_eq_getElem?_getD, List.getElem?_eq_none (Nat.le_of_not_lt hk), Option.getD_none]; exact I32_0
theorem fillN_same (start : Nat) (out : List Int) : ∀ (k : Nat) (m : Mc), (fillN m start out k).r = m.r ∧ (fillN m start out k).pc = m.pc ∧ (fillN m start out k).shows = m.shows ∧ (fillN m start out k).used = m.used ∧ (fillN m start out k).err = m.err ∧ (fillN m start out k).dice = m.dice
  | 0, m => ⟨rfl, rfl, rfl, rfl, rfl, rfl⟩
  | k + 1, m => fillN_same start out k m
theorem shufL_mem' : ∀ (i : Nat) (s : Int) (ys : List Int), ∀ x ∈ (shufL s i ys).1, x ∈ ys ∨ x = 0
  | 0, s, ys, x, h => .inl h
  | i + 1, s, ys, x, h => by
    rw [shufL] at h
    rcases shufL_mem' i _ _ x h with h | h
    · have key : ∀ k : Nat, ys.getD k 0 ∈ ys ∨ ys.getD k 0 = 0 := fun k => by
        by_cases hk : k < ys.length
        · left; simp only [List.getD_eq_getElem?_getD, hk, List.getElem?_eq_getElem, Option.getD_some]; exact List.getElem_mem hk
        · right; simp [List.getD_eq_getElem?_getD, List.getElem?_eq_none (Nat.le_of_not_lt hk)]
      rcases List.mem_or_eq_of_mem_set h with h | rfl
      · rcases List.mem_or_eq_of_mem_set h with h | rfl
        · exact .inl h
        · exact key _
      · exact key _
    · exact .inr h
theorem shuffleF_ok {n s : Nat} (h : m.ok n s) (start many : Nat) : (shuffleF m start many).ok n s := by
  obtain ⟨h1, h2, h3, h4⟩ := h
  have hs := fillN_same start (shufL m.dice (many - 1) (rowV m start many)).1 many { m with dice := (shufL m.dice (many - 1) (rowV m start many)).2 }
  refine ⟨?_, ?_, ?_, ?_⟩
  · rw [shuffleF, hs.1]; exact h1
  · refine fillN_ok (fun v hv => ?_) start many _ h2
    rcases shufL_mem' _ _ _ v hv with hv | rfl
    · obtain ⟨k, _, rfl⟩ := List.mem_map.1 hv
      exact Bd.ok_at h2 _
    · exact I32_0
  · rw [shuffleF, fillN_len]; exact h3
  · rw [shuffleF, hs.2.1]; exact h4
end Go.Proofs.Ytcdlipdeemlibaa.G
namespace Go.Proofs.Ytcdlipdeemlibaa.G
open Go
set_option linter.unusedSimpArgs false
set_option linter.unusedVariables false
set_option maxRecDepth 20000
variable {E : Me} {m : Mc}
structure Nice (n s : Nat) (m m' : Mc) : Prop where
  ok : m'.ok n s
  shows : m'.shows.length ≤ m.shows.length + 1
  used : m'.used = m.used
theorem Mc.ok.go {n s : Nat} (h : m.ok n s) (hp : m.pc < s) : m.go.ok n s := ⟨h.r, h.bd, h.len, hp⟩
theorem Nice.set {n s : Nat} (h : m.ok n s) {i : Nat} (hi : i < 8) {c : Cl} (hc : I32 c.v) : Nice n s m { m with r := m.r.set i c } := ⟨⟨Rg.ok_set h.r hi hc, h.bd, h.len, h.pc⟩, Nat.le_succ _, rfl⟩
theorem Nice.put {n s : Nat} (h : m.ok n s) (i : Int) {c : Cl} (hc : I32 c.v) (t : BitVec 64) : Nice n s m { m with bd := m.bd.put i c, touched := t } := ⟨⟨h.r, Bd.ok_put h.bd i hc, by rw [put_len]; exact h.len, h.pc⟩, Nat.le_succ _, rfl⟩
theorem Nice.err {n s : Nat} (h : m.ok n s) (e : Nat) : Nice n s m { m with err := e } := ⟨⟨h.r, h.bd, h.len, h.pc⟩, Nat.le_succ _, rfl⟩
theorem Nice.pc {n s : Nat} (h : m.ok n s) {p : Nat} (hp : p ≤ s) : Nice n s m { m with pc := p } := ⟨⟨h.r, h.bd, h.len, hp⟩, Nat.le_succ _, rfl⟩
theorem revealF_nice {n s : Nat} (h : m.ok n s) (x : Cd) : Nice n s m (revealF E m x) := by
  unfold revealF
  split
  · exact Nice.err h _
  · refine ⟨⟨h.r, Bd.ok_show h.bd _ _, by rw [show_len]; exact h.len, h.pc⟩, ?_, rfl⟩
    simp only [List.length_append]
    split <;> simp
theorem reachF_nice {n s : Nat} (h : m.ok n s) (x : Cd) (ha : x.a < 8) : Nice n s m (reachF E m x) := by
  unfold reachF
  split
  · split
    · exact Nice.set h ha (Bd.ok_at h.bd _)
    · exact Nice.err h _
  · split
    · exact Nice.put h _ (h.r _ ha) _
    · exact Nice.err h _
  · exact revealF_nice h x
  · have := fillN_same x.n.toNat (shufL m.dice (x.c - 1) (rowV m x.n.toNat x.c)).1 x.c { m with dice := (shufL m.dice (x.c - 1) (rowV m x.n.toNat x.c)).2 }
    exact ⟨shuffleF_ok h _ _, by rw [shuffleF, this.2.2.1]; exact Nat.le_succ _, by rw [shuffleF, this.2.2.2.1]⟩
  · exact ⟨h, Nat.le_succ _, rfl⟩
theorem followF_nice (hE : E.ok) {n s : Nat} (h : m.ok n s) (hp : m.pc < s) (x : Cd) (hx : x.wf) (hr : x.right s n E.moves.length = true) : Nice n s m (followF E m x) := by
  have hg := h.go hp
  obtain ⟨hop25, ha8, hb8⟩ := right_ab hr
  obtain ⟨w1, w2, w3, w4, w5, w6⟩ := hx
  have up : ∀ m', Nice n s m.go m' → Nice n s m m' := fun m' k => ⟨k.ok, k.shows, k.used⟩
  refine up _ ?_
  unfold followF
  simp only
  split
  · exact Nice.set hg ha8 ⟨w5, w6⟩
  · exact Nice.set hg ha8 (Bd.ok_at hg.bd _)
  · exact Nice.put hg _ (hg.r _ ha8) _
  · refine Nice.set hg ha8 ?_
    show I32 (if _ then _ else _)
    split
    · exact hg.r _ (Nat.mod_lt _ (by decide))
    · exact hg.r _ hb8
  · rename_i hop
    simp [Cd.right, hop, useOf, nOk] at hr
    split
    · split
      · exact Nice.pc hg (by omega)
      · exact ⟨hg, Nat.le_succ _, rfl⟩
    · exact Nice.err hg _
  · rename_i hop
    simp [Cd.right, hop, useOf, nOk] at hr
    exact Nice.pc hg (by omega)
  · refine Nice.set hg ha8 ?_
    show I32 (E.moves.getD x.n.toNat 0)
    by_cases hl : x.n.toNat < E.moves.length
    · simp only [List.getD_eq_getElem?_getD, hl, List.getElem?_eq_getElem, Option.getD_some]; exact hE.rng _ (List.getElem_mem hl)
    · simp only [List.getD_eq_getElem?_getD, List.getElem?_eq_none (Nat.le_of_not_lt hl), Option.getD_none]; exact I32_0
  · rename_i hop
    simp [Cd.right, hop, useOf, nOk] at hr
    obtain ⟨bv, sv, hbv, hsv, hb0, hb2⟩ := roll_ex m.go.dice x.n (by omega) (by omega)
    rw [← hbv, ← hsv]
    have := Nice.set hg ha8 (c := ⟨bv, 0#32⟩) ⟨by show -2147483648 ≤ bv; omega, by show bv < 2147483648; omega⟩
    exact ⟨⟨this.ok.r, this.ok.bd, this.ok.len, this.ok.pc⟩, this.shows, this.used⟩
  · exact Nice.set hg ha8 (w32_rng _)
  · exact reachF_nice hg x ha8
  · exact reachF_nice hg x ha8
  · exact reachF_nice hg x ha8
  · exact reachF_nice hg x ha8
  · exact Nice.set hg ha8 (computeF_rng _ (hg.r _ hb8))
def loopF (E : Me) (l : List Cd) : Nat → Mc → Mc
  | 0, m => if m.err = 0 ∧ m.pc < l.length then { m with err := 9 } else m
  | k + 1, m => if m.err = 0 ∧ m.pc < l.length then
      (if (l.getD m.pc ⟨0, 0, 0, 0, 0, 0⟩).op = 0 then { m with used := m.used + 1 }
       else loopF E l k (followF E { m with used := m.used + 1 } (l.getD m.pc ⟨0, 0, 0, 0, 0, 0⟩)))
    else m
structure Rs where
  bd : Bd
  dice : Int
  touched : BitVec 64
  shows : List Sh
  used : Nat
  err : Nat
def regs0 (all : BitVec 32) : Rg := ⟨List.replicate 8 ⟨0, all⟩, rfl⟩
def start (E : Me) (bd : Bd) (d : Int) : Mc := ⟨bd, d, 0#64, [], 0, 0, regs0 E.all, 0⟩
def runF (E : Me) (l : List Cd) (bd : Bd) (d : Int) : Rs :=
  if rightL l bd.l.length E.moves.length = false then ⟨bd, d, 0#64, [], 0, 2⟩ else
  if (loopF E l 400 (start E bd d)).err ≠ 0 then ⟨bd, d, 0#64, (loopF E l 400 (start E bd d)).shows, (loopF E l 400 (start E bd d)).used, (loopF E l 400 (start E bd d)).err⟩
  else ⟨(loopF E l 400 (start E bd d)).bd, (loopF E l 400 (start E bd d)).dice, (loopF E l 400 (start E bd d)).touched, (loopF E l 400 (start E bd d)).shows, (loopF E l 400 (start E bd d)).used, 0⟩
end Go.Proofs.Ytcdlipdeemlibaa.G
namespace Go.Proofs.Ytcdlipdeemlibaa.G
open Go
set_option linter.unusedSimpArgs false
set_option linter.unusedVariables false
set_option maxRecDepth 20000
set_option maxHeartbeats 2000000
def Sh.e (s : Sh) : IV := .agg s.c
def resB (r : Rs) (s : IV) : List IV := [.int .u64 r.dice, .int .u64 (r.touched.toNat : Int), s, nI r.used, nI r.err]
def resC (r : Rs) (s : IV) : List IV := bdc r.bd ++ resB r s
def ResR (u : IV) (r : Rs) : Prop := ∃ s, Ls 3 s (r.shows.map Sh.e) ∧ u = .agg (resC r s)
theorem sh3 (l : List Sh) : ∀ x ∈ l.map Sh.c, x.length = 3 := by
  intro e he
  obtain ⟨y, _, rfl⟩ := List.mem_map.1 he
  rfl
theorem sh_pure (l : List Sh) : ipureL (l.map Sh.c).flatten = true := ipureL_iff.2 fun x hx => by
  obtain ⟨e, he, hx⟩ := List.mem_flatten.1 hx
  obtain ⟨y, _, rfl⟩ := List.mem_map.1 he
  simp [Sh.c] at hx
  rcases hx with rfl | rfl | rfl <;> rfl
theorem sh_one (l : List Sh) : (l.map Sh.c).flatten.all ione = true := by
  rw [List.all_eq_true]
  intro x hx
  obtain ⟨e, he, hx⟩ := List.mem_flatten.1 hx
  obtain ⟨y, _, rfl⟩ := List.mem_map.1 he
  simp [Sh.c] at hx
  rcases hx with rfl | rfl | rfl <;> rfl
theorem frz_res {J : JH} {r : Rs} {s : IV} (hg : Grow J s 3 (r.shows.map Sh.c).flatten) : ∃ u, frz J DEP (.agg (resC r s)) = some u ∧ ResR u r := by
  obtain ⟨u, hu, hl⟩ := hg.frzX (sh3 _) (by omega) (sh_pure _) (sh_one _)
  refine ⟨.agg (resC r u), ?_, u, ?_, rfl⟩
  · rw [frz12]
    refine frz_aggL ?_
    rw [resC, List.mapM_append, frzL_pure J 11 (bdc_pure r.bd)]
    simp only [resB, List.mapM_cons, List.mapM_nil, hu, frz_pure J 11 (v := IV.int .u64 r.dice) rfl, frz_pure J 11 (v := IV.int .u64 (r.touched.toNat : Int)) rfl, frz_pure J 11 (v := nI r.used) rfl, frz_pure J 11 (v := nI r.err) rfl]
    rfl
  · rw [List.map_map] at hl
    exact hl
def Rs.z : Rs := ⟨Bd.z, 0, 0#64, [], 0, 0⟩
theorem zc_res : List.map IV.sc (reps 48 [Value.int .i32 0, Value.int .u32 0] ++ [Value.int .i64 0, Value.int .u64 0, Value.int .u64 0, Value.slice none 0 0, Value.int .i64 0, Value.int .i64 0]) = resC Rs.z (.sc (.slice none 0 0)) := by
  show _ = bdc Bd.z ++ resB Rs.z (.sc (.slice none 0 0))
  rw [← zc_bd, List.map_append, List.map_append, List.append_assoc]; rfl
theorem rs_len (r s) : (resC r s).length = 102 := by simp [resC, bdc_len, resB]
theorem rs_one (r s) (h : ione s = true) : (resC r s).all ione = true := by
  rw [resC, List.all_append, bdc_one, resB]; simp only [List.all_cons, h]; rfl
theorem rs_take (r s) : (resC r s).take 102 = resC r s := List.take_of_length_le (by rw [rs_len]; exact Nat.le_refl _)
theorem rs_all (r s q t) : isplice (resC r s) 0 (resC q t) = resC q t := by
  simp only [isplice, List.take_zero, List.nil_append, Nat.zero_add]
  rw [List.drop_of_length_le (by rw [rs_len, rs_len]; exact Nat.le_refl _), List.append_nil]
theorem rs_0 (r s) (b : Bd) : isplice (resC r s) 0 (bdc b) = resC { r with bd := b } s := by
  rw [resC, app_sp0 (by rw [bdc_len, bdc_len]; exact Nat.le_refl _), bdc_all]; rfl
theorem rs_97 (r s) (d : Int) : isplice (resC r s) 97 [.int .u64 d] = resC { r with dice := d } s := by rw [resC, app_sp (bdc_len r.bd) 0]; rfl
theorem rs_99 (r s) (d : IV) : isplice (resC r s) 99 [d] = resC r d := by rw [resC, app_sp (bdc_len r.bd) 2]; rfl
theorem rs_100 (r s) (d : Nat) : isplice (resC r s) 100 [nI d] = resC { r with used := d } s := by rw [resC, app_sp (bdc_len r.bd) 3]; rfl
theorem rs_101 (r s) (d : Nat) : isplice (resC r s) 101 [nI d] = resC { r with err := d } s := by rw [resC, app_sp (bdc_len r.bd) 4]; rfl
theorem rs_pure (r) : ipureL (resC r (.sc (.slice none 0 0))) = true := by
  rw [resC, ipureL_iff]
  intro x hx
  rcases List.mem_append.1 hx with hx | hx
  · exact ipureL_iff.1 (bdc_pure r.bd) x hx
  · simp [resB] at hx
    rcases hx with rfl | rfl | rfl | rfl | rfl <;> rfl
attribute [go_sem] rs_len rs_take rs_all rs_0 rs_97 rs_99 rs_100 rs_101
attribute [go_sem ↓] zc_res
def mcz : List IV := bdc Bd.z ++ ([.int .u64 0, .int .u64 0, .sc (.slice none 0 0), nI 0, nI 0] ++ (rgc ⟨List.replicate 8 Cl.z, rfl⟩ ++ [nI 0, .sc (.slice none 0 0), .int .u32 0, .int .u32 0, .sc .nilFunc]))
theorem zc_mc : List.map IV.sc (reps 48 [Value.int .i32 0, Value.int .u32 0] ++ (Value.int .i64 0 :: Value.int .u64 0 :: Value.int .u64 0 :: Value.slice none 0 0 :: Value.int .i64 0 :: Value.int .i64 0 :: (reps 8 [Value.int .i32 0, Value.int .u32 0] ++ [Value.int .i64 0, Value.slice none 0 0, Value.int .u32 0, Value.int .u32 0, Value.nilFunc]))) = mcz := by
  rw [mcz, ← zc_bd]
  simp only [List.map_append, List.append_assoc, List.map_cons, List.map_nil, List.cons_append, List.nil_append]
  rfl
attribute [go_sem ↓] zc_mc
theorem mcz_fill (mv : IV) (t : Int) (all : BitVec 32) (h : icells mv = [mv]) (ho : ione mv = true) : ifill mcz [(119, 1, mv), (120, 1, .int .u32 t), (121, 1, m32 all), (122, 1, .fn F_vm_Compute [] [])] = some (mc ⟨mv, [], t, all⟩ ⟨Bd.z, 0, 0#64, [], 0, 0, ⟨List.replicate 8 Cl.z, rfl⟩, 0⟩ (.sc (.slice none 0 0))) := by
  have hl : mcz.length = 123 := by simp [mcz, bdc_len, rgc_len]
  have sp : ∀ (D vs : List IV) (k : Nat), isplice (bdc Bd.z ++ ([.int .u64 0, .int .u64 0, .sc (.slice none 0 0), nI 0, nI 0] ++ (rgc ⟨List.replicate 8 Cl.z, rfl⟩ ++ D))) (118 + k) vs = bdc Bd.z ++ ([.int .u64 0, .int .u64 0, .sc (.slice none 0 0), nI 0, nI 0] ++ (rgc ⟨List.replicate 8 Cl.z, rfl⟩ ++ isplice D k vs)) := fun D vs k => by
    rw [show 118 + k = 97 + (5 + (16 + k)) by omega, app_sp (bdc_len _), app_sp (n := 5) rfl, app_sp (rgc_len _)]
  have ln : ∀ D : List IV, (bdc Bd.z ++ ([.int .u64 0, .int .u64 0, .sc (.slice none 0 0), nI 0, nI 0] ++ (rgc ⟨List.replicate 8 Cl.z, rfl⟩ ++ D))).length = 118 + D.length := fun D => by simp [bdc_len, rgc_len]; omega
  unfold mcz
  simp only [ifill, h, List.length_cons, List.length_nil, List.all_cons, ho, List.all_nil, Bool.and_true, ln, true_and, and_true, sp _ _ 1, sp _ _ 2, sp _ _ 3, sp _ _ 4, show (119 : Nat) = 118 + 1 from rfl, show (120 : Nat) = 118 + 2 from rfl, show (121 : Nat) = 118 + 3 from rfl, show (122 : Nat) = 118 + 4 from rfl]
  simp [icells, ione, isplice, mc, mcB, mcD, one]
end Go.Proofs.Ytcdlipdeemlibaa.G
namespace Go.Proofs.Ytcdlipdeemlibaa.G
open Go
set_option linter.unusedSimpArgs false
set_option linter.unusedVariables false
set_option maxRecDepth 20000
set_option maxHeartbeats 2000000
def endF (bd : Bd) (d : Int) (m : Mc) : Rs :=
  if m.err ≠ 0 then ⟨bd, d, 0#64, m.shows, m.used, m.err⟩ else ⟨m.bd, m.dice, m.touched, m.shows, m.used, m.err⟩
theorem MAt.res {E : Me} {J : JH} {b : Nat} {sh : IV} {m : Mc} (h : MAt E J b sh m) : (mc E m sh).take 102 = resC ⟨m.bd, m.dice, m.touched, m.shows, m.used, m.err⟩ sh := ld_res E m sh
theorem run_end {E : Me} {J : JH} {sh : IV} {m : Mc} (bd : Bd) (d : Int) (h : MAt E J 3 sh m) (h0 : J[0]? = some (.cells 0 (bdc bd) false)) (h1 : J[1]? = some (.cells 0 [.int .u64 d] false)) (r0 : Rs) (h2 : J[2]? = some (.cells 0 (resC r0 (.sc (.slice none 0 0))) false)) (hs : 2 ∉ blk sh) (K : Out IV → JH → Prop)
    (hK : ∀ vs J' u, frz J' DEP (itup vs) = some u → ResR u (endF bd d m) → K (.ret vs) J') : WP (dn BI l_vm_Run_k3 [.ptr 0 0 0, .ptr 1 0 0, .ptr 2 0 0, .ptr 3 0 0] J) K := by
  have hb := h.1
  have hin := inb hb
  have i0 := inb h0
  have i1 := inb h1
  have i2 := inb h2
  have ho := h.2.2.one
  have hi := h.2.2.icells
  have hgr : ∀ X : IB, Grow (J.setIfInBounds 2 X) sh 3 (m.shows.map Sh.c).flatten := fun X => h.2.2.fr (Fr.set J X (S := [2]) (by simp)) fun c hc hm => by simp at hm; exact hs (hm ▸ hc)
  unfold l_vm_Run_k3
  by_cases he : m.err = 0
  · have he' : ((m.err : Int) != 0) = false := by simp [he]
    have hone := rs_one ⟨m.bd, m.dice, m.touched, m.shows, m.used, m.err⟩ sh ho
    simp -implicitDefEqProofs only [go_sem, dnW_ite, reduceIte, Nat.reduceAdd, Nat.reduceLeDiff, Nat.reduceMul, Nat.reduceEqDiff, Int.reduceLT, Int.reduceLE, Int.reduceToNat, Nat.reduceSub, Nat.reduceLT, Int.reduceEq, BitVec.reduceOfInt, BitVec.reduceOfNat, Int.reduceGT, Int.reduceGE, Int.reduceBEq, Int.reduceBNe, Nat.reduceGT, Nat.reduceBEq, Nat.reduceBNe, Int.reduceAdd, Int.reduceSub, Int.reduceNeg, hb, he', h0, h1, h2, h.res, hone, Array.getElem?_setIfInBounds, i2]
    obtain ⟨u, hu, hr⟩ := frz_res (J := J.setIfInBounds 2 (.cells 0 (resC ⟨m.bd, m.dice, m.touched, m.shows, m.used, m.err⟩ sh) false)) (r := ⟨m.bd, m.dice, m.touched, m.shows, m.used, m.err⟩) (hgr _)
    exact hK _ _ u hu (by rw [endF, if_neg (by simpa using he)]; exact hr)
  · have he' : ((m.err : Int) != 0) = true := by simp; omega
    simp -implicitDefEqProofs only [go_sem, dnW_ite, reduceIte, Nat.reduceAdd, Nat.reduceLeDiff, Nat.reduceMul, Nat.reduceEqDiff, Int.reduceLT, Int.reduceLE, Int.reduceToNat, Nat.reduceSub, Nat.reduceLT, Int.reduceEq, BitVec.reduceOfInt, BitVec.reduceOfNat, Int.reduceGT, Int.reduceGE, Int.reduceBEq, Int.reduceBNe, Nat.reduceGT, Nat.reduceBEq, Nat.reduceBNe, Int.reduceAdd, Int.reduceSub, Int.reduceNeg, hb, he', h0, h1, h2, Array.getElem?_setIfInBounds, i2, ↓ho, ↓hi, rs_one _ sh ho]
    obtain ⟨u, hu, hr⟩ := frz_res (J := J.setIfInBounds 2 (.cells 0 (resC ⟨bd, d, 0#64, m.shows, m.used, m.err⟩ sh) false)) (r := ⟨bd, d, 0#64, m.shows, m.used, m.err⟩) (hgr _)
    exact hK _ _ u hu (by rw [endF, if_pos he]; exact hr)
structure Sur (J : JH) (bd : Bd) (d : Int) (sh : IV) : Prop where
  c0 : J[0]? = some (.cells 0 (bdc bd) false)
  c1 : J[1]? = some (.cells 0 [.int .u64 d] false)
  c2 : J[2]? = some (.cells 0 (resC Rs.z (.sc (.slice none 0 0))) false)
  n0 : 0 ∉ blk sh
  n1 : 1 ∉ blk sh
  n2 : 2 ∉ blk sh
theorem Sur.upd {J J' : JH} {bd : Bd} {d : Int} {sh sh' : IV} (h : Sur J bd d sh) (u : Upd 3 J sh J' sh') : Sur J' bd d sh' :=
  ⟨u.keep h.c0 (by decide) h.n0, u.keep h.c1 (by decide) h.n1, u.keep h.c2 (by decide) h.n2, u.out (lt_get h.c0) h.n0, u.out (lt_get h.c1) h.n1, u.out (lt_get h.c2) h.n2⟩
theorem run_loop {E : Me} (hE : E.ok) (xl : IV) (l : List Cd) (hl : Ls 6 xl (l.map Cd.e)) (hw : ∀ c ∈ l, c.wf) (hl96 : l.length ≤ 96) (bd : Bd) (d : Int) (hr : ∀ x ∈ l, x.right l.length bd.l.length E.moves.length = true) (K : Out IV → JH → Prop)
    (m0 : Mc) (hK : ∀ vs J' u, frz J' DEP (itup vs) = some u → ResR u (endF bd d (loopF E l 400 m0)) → K (.ret vs) J')
    {J : JH} {sh : IV} (h : MAt E J 3 sh m0) (hs : Sur J bd d sh) (hok : m0.ok bd.l.length l.length) (h0 : m0.used = 0) (h1 : m0.shows.length = 0) :
    WP (dn BI l_vm_Run_k4 [xl, .ptr 0 0 0, .ptr 1 0 0, .ptr 2 0 0, .ptr 3 0 0] J) K := by
  unfold l_vm_Run_k4
  simp -implicitDefEqProofs only [go_sem, dnW_ite, reduceIte, Nat.reduceAdd, Nat.reduceLeDiff, Nat.reduceMul, Nat.reduceEqDiff, Int.reduceLT, Int.reduceLE, Int.reduceToNat, Nat.reduceSub, Nat.reduceLT, Int.reduceEq, BitVec.reduceOfInt, BitVec.reduceOfNat, Int.reduceGT, Int.reduceGE, Int.reduceBEq, Int.reduceBNe, Nat.reduceGT, Nat.reduceBEq, Nat.reduceBNe, Int.reduceAdd, Int.reduceSub, Int.reduceNeg, dn_loop]
  refine WP_loop (by decide) (fun n vs J => ∃ m sh, vs = [xl, .ptr 0 0 0, .ptr 1 0 0, .ptr 2 0 0, .ptr 3 0 0] ∧ MAt E J 3 sh m ∧ Sur J bd d sh ∧ m.ok bd.l.length l.length ∧ m.shows.length ≤ m.used ∧ m.used + n = 400 ∧ loopF E l n m = loopF E l 400 m0) ?_ 400 _ _ ⟨m0, sh, rfl, h, hs, hok, by omega, by omega, rfl⟩
  rintro n vs J ⟨m, sh, rfl, h, hs, hok, hsh, hu, hf⟩ K1 g1 g2 g3
  have hb := h.1
  have hpc := hok.pc
  have fin : loopF E l 400 m0 = m → K1 (.goto 1 [.ptr 0 0 0, .ptr 1 0 0, .ptr 2 0 0, .ptr 3 0 0]) J := fun e => by
    refine g2 _ _ ?_
    rw [e] at hK
    exact run_end bd d h hs.c0 hs.c1 _ hs.c2 hs.n2 K hK
  unfold l_vm_Run_k2
  by_cases he : m.err = 0
  · have he' : ((m.err : Int) == 0) = true := by simp [he]
    by_cases hp : m.pc < l.length
    · simp -implicitDefEqProofs only [go_sem, dnW_ite, reduceIte, Nat.reduceAdd, Nat.reduceLeDiff, Nat.reduceMul, Nat.reduceEqDiff, Int.reduceLT, Int.reduceLE, Int.reduceToNat, Nat.reduceSub, Nat.reduceLT, Int.reduceEq, BitVec.reduceOfInt, BitVec.reduceOfNat, Int.reduceGT, Int.reduceGE, Int.reduceBEq, Int.reduceBNe, Nat.reduceGT, Nat.reduceBEq, Nat.reduceBNe, Int.reduceAdd, Int.reduceSub, Int.reduceNeg, hb, he', hl.lenF, List.length_map, show ((m.pc : Int) < (l.length : Int)) by omega]
      unfold l_vm_Run_k1
      by_cases hn : n = 0
      · subst hn
        have hu4 : ((m.used : Int) == 400) = true := by rw [beq_iff_eq]; omega
        simp -implicitDefEqProofs only [go_sem, dnW_ite, reduceIte, Nat.reduceAdd, Nat.reduceLeDiff, Nat.reduceMul, Nat.reduceEqDiff, Int.reduceLT, Int.reduceLE, Int.reduceToNat, Nat.reduceSub, Nat.reduceLT, Int.reduceEq, BitVec.reduceOfInt, BitVec.reduceOfNat, Int.reduceGT, Int.reduceGE, Int.reduceBEq, Int.reduceBNe, Nat.reduceGT, Nat.reduceBEq, Nat.reduceBNe, Int.reduceAdd, Int.reduceSub, Int.reduceNeg, hb, hu4]
        refine WP_call (fail_ok h 9) fun v J2 hv => ?_
        simp -implicitDefEqProofs only [go_sem, dnW_ite, reduceIte, Nat.reduceAdd, Nat.reduceLeDiff, Nat.reduceMul, Nat.reduceEqDiff, Int.reduceLT, Int.reduceLE, Int.reduceToNat, Nat.reduceSub, Nat.reduceLT, Int.reduceEq, BitVec.reduceOfInt, BitVec.reduceOfNat, Int.reduceGT, Int.reduceGE, Int.reduceBEq, Int.reduceBNe, Nat.reduceGT, Nat.reduceBEq, Nat.reduceBNe, Int.reduceAdd, Int.reduceSub, Int.reduceNeg]
        refine g2 _ _ ?_
        obtain ⟨sh2, k1, u1⟩ := hv
        have hs2 := hs.upd u1
        rw [if_pos he] at k1
        refine run_end bd d k1 hs2.c0 hs2.c1 _ hs2.c2 hs2.n2 K ?_
        rw [← hf, loopF, if_pos ⟨he, hp⟩] at hK
        exact hK
      · obtain ⟨k, rfl⟩ : ∃ k, n = k + 1 := ⟨n - 1, by omega⟩
        have hu4 : ((m.used : Int) == 400) = false := by rw [beq_eq_false_iff_ne]; omega
        have hat := fun J => hl.at (i := m.pc) (by simpa using hp) (J := J)
        simp only [List.getElem_map, Cd.e, Cd.cs] at hat
        have hx : l.getD m.pc ⟨0, 0, 0, 0, 0, 0⟩ = l[m.pc] := by simp [hp]
        have hin := inb hb
        have h' := h.set { m with used := m.used + 1 } rfl
        have u' : Upd 3 J sh (J.setIfInBounds 3 (.cells 0 (mc E { m with used := m.used + 1 } sh) false)) sh := .set _
        have hs' := hs.upd u'
        rw [loopF, if_pos ⟨he, hp⟩, hx] at hf
        by_cases h00 : l[m.pc].op = 0
        · have ho : ((l[m.pc].op : Int) == 0) = true := by simp [h00]
          simp -implicitDefEqProofs only [go_sem, dnW_ite, reduceIte, Nat.reduceAdd, Nat.reduceLeDiff, Nat.reduceMul, Nat.reduceEqDiff, Int.reduceLT, Int.reduceLE, Int.reduceToNat, Nat.reduceSub, Nat.reduceLT, Int.reduceEq, BitVec.reduceOfInt, BitVec.reduceOfNat, Int.reduceGT, Int.reduceGE, Int.reduceBEq, Int.reduceBNe, Nat.reduceGT, Nat.reduceBEq, Nat.reduceBNe, Int.reduceAdd, Int.reduceSub, Int.reduceNeg, hb, hu4, wrapS (show m.used < 401 by omega) (by omega), hat, ho, Array.getElem?_setIfInBounds, hin]
          refine g2 _ _ ?_
          rw [if_pos h00] at hf
          refine run_end bd d h' hs'.c0 hs'.c1 _ hs'.c2 hs'.n2 K ?_
          rw [hf]; exact hK
        · have ho : ((l[m.pc].op : Int) == 0) = false := by rw [beq_eq_false_iff_ne]; omega
          rw [if_neg h00] at hf
          simp -implicitDefEqProofs only [go_sem, dnW_ite, reduceIte, Nat.reduceAdd, Nat.reduceLeDiff, Nat.reduceMul, Nat.reduceEqDiff, Int.reduceLT, Int.reduceLE, Int.reduceToNat, Nat.reduceSub, Nat.reduceLT, Int.reduceEq, BitVec.reduceOfInt, BitVec.reduceOfNat, Int.reduceGT, Int.reduceGE, Int.reduceBEq, Int.reduceBNe, Nat.reduceGT, Nat.reduceBEq, Nat.reduceBNe, Int.reduceAdd, Int.reduceSub, Int.reduceNeg, hb, hu4, wrapS (show m.used < 401 by omega) (by omega), hat, ho, Array.getElem?_setIfInBounds, hin]
          have hrx := hr _ (List.getElem_mem hp)
          have hwx := hw _ (List.getElem_mem hp)
          have hok' : ({ m with used := m.used + 1 } : Mc).ok bd.l.length l.length := ⟨hok.r, hok.bd, hok.len, hok.pc⟩
          refine WP_call (follow_ok hE h' l[m.pc] hwx l.length (by show l[m.pc].right l.length m.bd.l.length _ = true; rw [hok.len]; exact hrx) (by show m.pc ≤ 1000; omega) h00 hok.r he (by show m.shows.length ≤ 1000; omega)) fun v J2 hv => ?_
          obtain ⟨sh2, k1, u1⟩ := hv
          have hnice := followF_nice hE hok' hp l[m.pc] hwx hrx
          simp -implicitDefEqProofs only [go_sem, dnW_ite, reduceIte, Nat.reduceAdd, Nat.reduceLeDiff, Nat.reduceMul, Nat.reduceEqDiff, Int.reduceLT, Int.reduceLE, Int.reduceToNat, Nat.reduceSub, Nat.reduceLT, Int.reduceEq, BitVec.reduceOfInt, BitVec.reduceOfNat, Int.reduceGT, Int.reduceGE, Int.reduceBEq, Int.reduceBNe, Nat.reduceGT, Nat.reduceBEq, Nat.reduceBNe, Int.reduceAdd, Int.reduceSub, Int.reduceNeg]
          refine g1 _ k _ (by omega) ⟨_, sh2, rfl, k1, hs'.upd u1, hnice.ok, ?_, ?_, hf⟩
          · have a := hnice.shows; have b := hnice.used; rw [b]; show _ ≤ m.used + 1; have : ({ m with used := m.used + 1 } : Mc).shows.length = m.shows.length := rfl; omega
          · rw [hnice.used]; show m.used + 1 + k = 400; omega
    · simp -implicitDefEqProofs only [go_sem, dnW_ite, reduceIte, Nat.reduceAdd, Nat.reduceLeDiff, Nat.reduceMul, Nat.reduceEqDiff, Int.reduceLT, Int.reduceLE, Int.reduceToNat, Nat.reduceSub, Nat.reduceLT, Int.reduceEq, BitVec.reduceOfInt, BitVec.reduceOfNat, Int.reduceGT, Int.reduceGE, Int.reduceBEq, Int.reduceBNe, Nat.reduceGT, Nat.reduceBEq, Nat.reduceBNe, Int.reduceAdd, Int.reduceSub, Int.reduceNeg, hb, he', hl.lenF, List.length_map, show ¬ ((m.pc : Int) < (l.length : Int)) by omega]
      refine fin ?_
      rw [← hf]; cases n <;> simp [loopF, hp]
  · have he' : ((m.err : Int) == 0) = false := by rw [beq_eq_false_iff_ne]; omega
    simp -implicitDefEqProofs only [go_sem, dnW_ite, reduceIte, Nat.reduceAdd, Nat.reduceLeDiff, Nat.reduceMul, Nat.reduceEqDiff, Int.reduceLT, Int.reduceLE, Int.reduceToNat, Nat.reduceSub, Nat.reduceLT, Int.reduceEq, BitVec.reduceOfInt, BitVec.reduceOfNat, Int.reduceGT, Int.reduceGE, Int.reduceBEq, Int.reduceBNe, Nat.reduceGT, Nat.reduceBEq, Nat.reduceBNe, Int.reduceAdd, Int.reduceSub, Int.reduceNeg, hb, he']
    refine fin ?_
    rw [← hf]; cases n <;> simp [loopF, he]
end Go.Proofs.Ytcdlipdeemlibaa.G
namespace Go.Proofs.Ytcdlipdeemlibaa.G
open Go
set_option linter.unusedSimpArgs false
set_option linter.unusedVariables false
set_option maxRecDepth 20000
set_option maxHeartbeats 2000000
def regsN (all : BitVec 32) (i : Nat) : Rg := ⟨(List.replicate (min i 8) ⟨0, all⟩ ++ List.replicate (8 - min i 8) Cl.z), by simp; omega⟩
theorem regsN_set (all : BitVec 32) {i : Nat} (h : i < 8) : (regsN all i).set i ⟨((regsN all i).at i).v, all⟩ = regsN all (i + 1) := by
  have e : ((regsN all i).at i).v = 0 := by
    rw [rg_at _ h]
    simp [regsN, show min i 8 = i by omega, Cl.z, List.getElem_append]
  rw [e]
  unfold Rg.set regsN
  congr 1
  rw [List.set_append_right _ _ (by simp; omega)]
  simp only [List.length_replicate, show min i 8 = i by omega, Nat.sub_self, show min (i + 1) 8 = i + 1 by omega]
  rw [show 8 - i = (8 - (i + 1)) + 1 by omega, List.replicate_succ (n := 8 - (i + 1)), List.set_cons_zero, List.replicate_succ' (n := i)]
  simp
theorem mc_one (m : Mc) (E : Me) (sh : IV) (h : ione E.mv = true) (hs : ione sh = true := by rfl) : (mc E m sh).all ione = true := by
  have hr : (rgc m.r).all ione = true := flat_one _
  rw [mc, List.all_append, bdc_one, List.all_append, List.all_append, hr, mcB, mcD]
  simp only [List.all_cons, h, hs]; rfl
theorem Run_ok (xl : IV) (l : List Cd) (hl : Ls 6 xl (l.map Cd.e)) (hw : ∀ c ∈ l, c.wf) (hlen : l.length ≤ 9223372036854775807) (bd : Bd) (hbd : bd.ok) (d : Int) (E : Me) (hE : E.ok) :
    ∃ u, pc BI F_vm_Run [xl, .agg (bdc bd), .agg [.int .u64 d], E.mv, .int .u32 E.tick, m32 E.all] = some u ∧ ResR u (runF E l bd d) := by
  refine pcW fn_vm_Run rfl fun K hK => ?_
  have hbl := bd.h
  have hR := Right_ok xl l hl hw bd.l.length E.moves.length (by omega) hE.len
  have hml := fun J => hE.mv.lenF (J := J)
  simp only [List.length_map] at hml
  have hmp := hE.mv.pure
  have hmo := hE.mv.one
  have hmi := hE.mv.icells
  unfold l_vm_Run
  cases hr : rightL l bd.l.length E.moves.length with
  | false =>
    rw [hr] at hR
    simp -implicitDefEqProofs only [go_sem, dnW_ite, reduceIte, Nat.reduceAdd, Nat.reduceLeDiff, Nat.reduceMul, Nat.reduceEqDiff, Int.reduceLT, Int.reduceLE, Int.reduceToNat, Nat.reduceSub, Nat.reduceLT, Int.reduceEq, BitVec.reduceOfInt, BitVec.reduceOfNat, Int.reduceGT, Int.reduceGE, Int.reduceBEq, Int.reduceBNe, Nat.reduceGT, Nat.reduceBEq, Nat.reduceBNe, Int.reduceAdd, Int.reduceSub, Int.reduceNeg, dcp (Len_ok bd) (by simp [ipureL, ipure, bdc_pure]), hml, dcp hR (by simp [ipureL, ipure, hl.pure]), rs_one _ (.sc (.slice none 0 0)) rfl, show ∀ r s, isplice (resC r s) 101 [IV.int .i64 2] = resC { r with err := 2 } s from fun r s => rs_101 r s 2]
    refine hK _ _ _ (frzP (by simp [itup, ipure, rs_pure])) ?_
    simp only [runF, hr, if_true]; exact ⟨_, .nil, rfl⟩
  | true =>
    rw [hr] at hR
    have hfill := mcz_fill E.mv E.tick E.all hmi hmo
    simp -implicitDefEqProofs only [go_sem, dnW_ite, reduceIte, Nat.reduceAdd, Nat.reduceLeDiff, Nat.reduceMul, Nat.reduceEqDiff, Int.reduceLT, Int.reduceLE, Int.reduceToNat, Nat.reduceSub, Nat.reduceLT, Int.reduceEq, BitVec.reduceOfInt, BitVec.reduceOfNat, Int.reduceGT, Int.reduceGE, Int.reduceBEq, Int.reduceBNe, Nat.reduceGT, Nat.reduceBEq, Nat.reduceBNe, Int.reduceAdd, Int.reduceSub, Int.reduceNeg, dcp (Len_ok bd) (by simp [ipureL, ipure, bdc_pure]), hml, dcp hR (by simp [ipureL, ipure, hl.pure]), rs_one _ (.sc (.slice none 0 0)) rfl, ↓hmi, ↓hmo, hfill, mc_one _ ⟨E.mv, [], E.tick, E.all⟩ (.sc (.slice none 0 0)) hmo, dn_loop]
    have hall : l.length ≤ 96 ∧ ∀ x ∈ l, x.right l.length bd.l.length E.moves.length = true := by
      simpa [rightL] using hr
    refine WP_range (by decide) 8 (fun i vs J => vs = [xl, m32 E.all, .ptr 0 0 0, .ptr 1 0 0, .ptr 2 0 0, .ptr 3 0 0, nI i] ∧ J = [IB.cells 0 (bdc bd) false, IB.cells 0 [.int .u64 d] false, IB.cells 0 (resC Rs.z (.sc (.slice none 0 0))) false, IB.cells 0 (mc E ⟨bd, d, 0#64, [], 0, 0, regsN E.all i, 0⟩ (.sc (.slice none 0 0))) false].toArray) ?_ ⟨rfl, rfl⟩
    rintro i vs J ⟨rfl, rfl⟩ hi K1 g1 g2 g3
    unfold l_vm_Run_k0
    by_cases h : i < 8
    · simp -implicitDefEqProofs only [go_sem, dnW_ite, reduceIte, Nat.reduceAdd, Nat.reduceLeDiff, Nat.reduceMul, Nat.reduceEqDiff, Int.reduceLT, Int.reduceLE, Int.reduceToNat, Nat.reduceSub, Nat.reduceLT, Int.reduceEq, BitVec.reduceOfInt, BitVec.reduceOfNat, Int.reduceGT, Int.reduceGE, Int.reduceBEq, Int.reduceBNe, Nat.reduceGT, Nat.reduceBEq, Nat.reduceBNe, Int.reduceAdd, Int.reduceSub, Int.reduceNeg, show ((i : Int) < 8) by omega, b8 h, st_rs E ⟨bd, d, 0#64, [], 0, 0, regsN E.all i, 0⟩ (.sc (.slice none 0 0)) h, wrapS h (by omega)]
      refine g1 h _ _ ⟨rfl, ?_⟩
      rw [← regsN_set E.all h]
    · simp -implicitDefEqProofs only [go_sem, dnW_ite, reduceIte, Nat.reduceAdd, Nat.reduceLeDiff, Nat.reduceMul, Nat.reduceEqDiff, Int.reduceLT, Int.reduceLE, Int.reduceToNat, Nat.reduceSub, Nat.reduceLT, Int.reduceEq, BitVec.reduceOfInt, BitVec.reduceOfNat, Int.reduceGT, Int.reduceGE, Int.reduceBEq, Int.reduceBNe, Nat.reduceGT, Nat.reduceBEq, Nat.reduceBNe, Int.reduceAdd, Int.reduceSub, Int.reduceNeg, show ¬ ((i : Int) < 8) by omega]
      obtain rfl : i = 8 := by omega
      refine g2 _ _ ?_
      have hm : MAt E ([IB.cells 0 (bdc bd) false, IB.cells 0 [.int .u64 d] false, IB.cells 0 (resC Rs.z (.sc (.slice none 0 0))) false, IB.cells 0 (mc E ⟨bd, d, 0#64, [], 0, 0, regsN E.all 8, 0⟩ (.sc (.slice none 0 0))) false].toArray) 3 (.sc (.slice none 0 0)) (start E bd d) := ⟨rfl, by simp [blk, blkOf], .nil⟩
      refine run_loop hE xl l hl hw hall.1 bd d hall.2 K (start E bd d) ?_ hm ⟨rfl, rfl, rfl, by simp [blk, blkOf], by simp [blk, blkOf], by simp [blk, blkOf]⟩ ⟨?_, hbd, rfl, Nat.zero_le _⟩ rfl rfl
      · intro vs J' u h1 h2
        refine hK vs J' u h1 ?_
        rw [runF, if_neg (by rw [hr]; decide)]
        unfold endF at h2
        by_cases he : (loopF E l 400 (start E bd d)).err = 0
        · rw [if_neg (by simpa using he)] at h2 ⊢
          rw [he] at h2; exact h2
        · rw [if_pos he] at h2 ⊢; exact h2
      · intro i hi
        have : ((start E bd d).r.at i).v = 0 := by
          show ((regs0 E.all).at i).v = 0
          rw [rg_at _ hi]; simp only [regs0, List.getElem_replicate]
        rw [this]; exact I32_0
end Go.Proofs.Ytcdlipdeemlibaa.G
namespace Go.Proofs.Ytcdlipdeemlibaa.G
open Go
set_option linter.unusedSimpArgs false
set_option linter.unusedVariables false
set_option maxRecDepth 20000
theorem rl_bd (r s) : (resC r s).take 97 = bdc r.bd := by rw [resC, List.take_append_of_le_length (by rw [bdc_len]; exact Nat.le_refl _), bdc_take]
theorem rl_97 (r s) : ((resC r s).drop 97).take 1 = [.int .u64 r.dice] := by rw [resC, app_ld (bdc_len r.bd) 0]; rfl
theorem rl_98 (r s) : ((resC r s).drop 98).take 1 = [.int .u64 (r.touched.toNat : Int)] := by rw [resC, app_ld (bdc_len r.bd) 1]; rfl
theorem rl_99 (r s) : ((resC r s).drop 99).take 1 = [s] := by rw [resC, app_ld (bdc_len r.bd) 2]; rfl
theorem rl_100 (r s) : ((resC r s).drop 100).take 1 = [nI r.used] := by rw [resC, app_ld (bdc_len r.bd) 3]; rfl
theorem rl_101 (r s) : ((resC r s).drop 101).take 1 = [nI r.err] := by rw [resC, app_ld (bdc_len r.bd) 4]; rfl
theorem rsz_one (r) : (resC r (.sc (.slice none 0 0))).all ione = true := rs_one _ _ rfl
attribute [go_sem] rsz_one rl_bd rl_97 rl_98 rl_99 rl_100 rl_101
end Go.Proofs.Ytcdlipdeemlibaa.G
namespace Go.Proofs.Ytcdlipdeemlibaa.G
open Go
set_option linter.unusedSimpArgs false
set_option linter.unusedVariables false
theorem wrap4 (z : Int) : IntKind.i32.wrap (IntKind.u32.wrap (IntKind.u64.wrap (IntKind.i64.wrap z))) = w32 z := by
  simp only [w32, IntKind.wrap, IntKind.bits, IntKind.signed]; simp; omega
theorem wrap3 (z : Int) : IntKind.i32.wrap (IntKind.u32.wrap (IntKind.u64.wrap z)) = w32 z := by
  simp only [w32, IntKind.wrap, IntKind.bits, IntKind.signed]; simp
theorem wrap_mul (x p : Int) : IntKind.i32.wrap (IntKind.u32.wrap (IntKind.u64.wrap (IntKind.u64.wrap x * p))) = w32 (x * p) := by
  rw [wrap3]
  have e : IntKind.u64.wrap x * p = x * p - 18446744073709551616 * ((x / 18446744073709551616) * p) := by
    rw [wrap_u64_eq, Int.emod_def, Int.sub_mul, Int.mul_assoc]
  rw [e]
  generalize x * p = z
  generalize (x / 18446744073709551616) * p = q
  simp only [w32, IntKind.wrap, IntKind.bits, IntKind.signed]; simp; omega
theorem w32_id {z : Int} (h : I32 z) : IntKind.i32.wrap z = z := wrap_i32 h.1 (by have := h.2; omega)
theorem i64_id {z : Int} (h : I32 z) : IntKind.i64.wrap z = z := wrap_i64 (by have := h.1; omega) (by have := h.2; omega)
theorem sh5_eq (y : Int) : Int.tmod (IntKind.u32.wrap y) 32 = (sh5 y : Int) := by
  have h : (31 : Nat) = 2 ^ 5 - 1 := rfl
  have e : sh5 y = (b32 y).toNat % 32 := by
    unfold sh5
    rw [BitVec.toNat_and]
    show (b32 y).toNat &&& 31 = _
    rw [h, Nat.and_two_pow_sub_one_eq_mod]
  rw [convI32', e]
  rfl
theorem xor_eq (x y : Int) : IntKind.i32.wrap (IntKind.i32.wrap (b32 x ||| b32 y).toNat - IntKind.i32.wrap (b32 x &&& b32 y).toNat) = w32 (b32 x ^^^ b32 y).toNat := by
  have h : (b32 x ^^^ b32 y) + (b32 x &&& b32 y) = b32 x ||| b32 y := by
    have h0 : (b32 x ^^^ b32 y) &&& (b32 x &&& b32 y) = 0#32 := by
      apply BitVec.eq_of_getLsbD_eq
      intro i hi
      simp only [BitVec.getLsbD_and, BitVec.getLsbD_xor, BitVec.getLsbD_zero]
      cases (b32 x).getLsbD i <;> cases (b32 y).getLsbD i <;> rfl
    rw [BitVec.add_eq_or_of_and_eq_zero _ _ h0]
    apply BitVec.eq_of_getLsbD_eq
    intro i hi
    simp only [BitVec.getLsbD_and, BitVec.getLsbD_xor, BitVec.getLsbD_or]
    cases (b32 x).getLsbD i <;> cases (b32 y).getLsbD i <;> rfl
  have h := congrArg BitVec.toNat h
  rw [BitVec.toNat_add] at h
  generalize (b32 x ^^^ b32 y).toNat = a at *
  generalize (b32 x &&& b32 y).toNat = b at *
  generalize (b32 x ||| b32 y).toNat = c at *
  simp only [w32, IntKind.wrap, IntKind.bits, IntKind.signed]; simp; omega
theorem rtruth_ok (c : Bool) : pc BI F_ref09_truth [.bool c] = some (.int .i32 (if c then 1 else 0)) := by
  refine pcE fn_ref09_truth rfl fun K hK => ?_
  unfold l_ref09_truth
  cases c with
  | true => simp -implicitDefEqProofs only [go_sem, dnW_ite, reduceIte, Nat.reduceAdd, Nat.reduceLeDiff, Nat.reduceMul, Nat.reduceEqDiff, Int.reduceLT, Int.reduceLE, Int.reduceToNat, Nat.reduceSub, Nat.reduceLT, Int.reduceEq, BitVec.reduceOfInt, BitVec.reduceOfNat, Int.reduceGT, Int.reduceGE, Int.reduceBEq, Int.reduceBNe, Nat.reduceGT, Nat.reduceBEq, Nat.reduceBNe, Int.reduceAdd, Int.reduceSub, Int.reduceNeg]; exact hK _ _ (frzE rfl rfl)
  | false => simp -implicitDefEqProofs only [go_sem, dnW_ite, reduceIte, Nat.reduceAdd, Nat.reduceLeDiff, Nat.reduceMul, Nat.reduceEqDiff, Int.reduceLT, Int.reduceLE, Int.reduceToNat, Nat.reduceSub, Nat.reduceLT, Int.reduceEq, BitVec.reduceOfInt, BitVec.reduceOfNat, Int.reduceGT, Int.reduceGE, Int.reduceBEq, Int.reduceBNe, Nat.reduceGT, Nat.reduceBEq, Nat.reduceBNe, Int.reduceAdd, Int.reduceSub, Int.reduceNeg]; exact hK _ _ (frzE rfl rfl)
theorem rCompute_ok (op : Nat) (hop : op < 256) (x y : Int) (hx : I32 x) (hy : I32 y) : pc BI F_ref09_Compute [.int .u8 (op : Int), .int .i32 x, .int .i32 y] = some (.int .i32 (computeF op x y)) := by
  refine pcE fn_ref09_Compute rfl fun K hK => ?_
  unfold l_ref09_Compute
  have ex := i64_id hx
  have ey := i64_id hy
  by_cases h6 : op = 6
  · subst h6
    simp -implicitDefEqProofs only [go_sem, dnW_ite, reduceIte, Nat.reduceAdd, Nat.reduceLeDiff, Nat.reduceMul, Nat.reduceEqDiff, Int.reduceLT, Int.reduceLE, Int.reduceToNat, Nat.reduceSub, Nat.reduceLT, Int.reduceEq, BitVec.reduceOfInt, BitVec.reduceOfNat, Int.reduceGT, Int.reduceGE, Int.reduceBEq, Int.reduceBNe, Nat.reduceGT, Nat.reduceBEq, Nat.reduceBNe, Int.reduceAdd, Int.reduceSub, Int.reduceNeg, ex, ey]
    exact hK _ _ (frzE rfl (by simp only [itup, wrap4, computeF]))
  have g6 : (op == 6) = false := by simpa using h6
  by_cases h7 : op = 7
  · subst h7
    simp -implicitDefEqProofs only [go_sem, dnW_ite, reduceIte, Nat.reduceAdd, Nat.reduceLeDiff, Nat.reduceMul, Nat.reduceEqDiff, Int.reduceLT, Int.reduceLE, Int.reduceToNat, Nat.reduceSub, Nat.reduceLT, Int.reduceEq, BitVec.reduceOfInt, BitVec.reduceOfNat, Int.reduceGT, Int.reduceGE, Int.reduceBEq, Int.reduceBNe, Nat.reduceGT, Nat.reduceBEq, Nat.reduceBNe, Int.reduceAdd, Int.reduceSub, Int.reduceNeg, ex, ey]
    exact hK _ _ (frzE rfl (by simp only [itup, wrap4, computeF]))
  have g7 : (op == 7) = false := by simpa using h7
  by_cases h8 : op = 8
  · subst h8
    simp -implicitDefEqProofs only [go_sem, dnW_ite, reduceIte, Nat.reduceAdd, Nat.reduceLeDiff, Nat.reduceMul, Nat.reduceEqDiff, Int.reduceLT, Int.reduceLE, Int.reduceToNat, Nat.reduceSub, Nat.reduceLT, Int.reduceEq, BitVec.reduceOfInt, BitVec.reduceOfNat, Int.reduceGT, Int.reduceGE, Int.reduceBEq, Int.reduceBNe, Nat.reduceGT, Nat.reduceBEq, Nat.reduceBNe, Int.reduceAdd, Int.reduceSub, Int.reduceNeg, ex, ey]
    exact hK _ _ (frzE rfl (by simp only [itup, wrap4, computeF]))
  have g8 : (op == 8) = false := by simpa using h8
  by_cases h9 : op = 9
  · subst h9
    by_cases h0 : y = 0
    · have h0' : (y == 0) = true := by simp [h0]
      simp -implicitDefEqProofs only [go_sem, dnW_ite, reduceIte, Nat.reduceAdd, Nat.reduceLeDiff, Nat.reduceMul, Nat.reduceEqDiff, Int.reduceLT, Int.reduceLE, Int.reduceToNat, Nat.reduceSub, Nat.reduceLT, Int.reduceEq, BitVec.reduceOfInt, BitVec.reduceOfNat, Int.reduceGT, Int.reduceGE, Int.reduceBEq, Int.reduceBNe, Nat.reduceGT, Nat.reduceBEq, Nat.reduceBNe, Int.reduceAdd, Int.reduceSub, Int.reduceNeg, ex, ey, h0']
      exact hK _ _ (frzE rfl (by simp only [itup, computeF, if_pos h0]))
    · have h0' : (y == 0) = false := by simpa using h0
      simp -implicitDefEqProofs only [go_sem, dnW_ite, reduceIte, Nat.reduceAdd, Nat.reduceLeDiff, Nat.reduceMul, Nat.reduceEqDiff, Int.reduceLT, Int.reduceLE, Int.reduceToNat, Nat.reduceSub, Nat.reduceLT, Int.reduceEq, BitVec.reduceOfInt, BitVec.reduceOfNat, Int.reduceGT, Int.reduceGE, Int.reduceBEq, Int.reduceBNe, Nat.reduceGT, Nat.reduceBEq, Nat.reduceBNe, Int.reduceAdd, Int.reduceSub, Int.reduceNeg, ex, ey, h0', h0]
      exact hK _ _ (frzE rfl (by simp only [itup, wrap4, computeF, if_neg h0]))
  have g9 : (op == 9) = false := by simpa using h9
  by_cases h10 : op = 10
  · subst h10
    by_cases h0 : y = 0
    · have h0' : (y == 0) = true := by simp [h0]
      simp -implicitDefEqProofs only [go_sem, dnW_ite, reduceIte, Nat.reduceAdd, Nat.reduceLeDiff, Nat.reduceMul, Nat.reduceEqDiff, Int.reduceLT, Int.reduceLE, Int.reduceToNat, Nat.reduceSub, Nat.reduceLT, Int.reduceEq, BitVec.reduceOfInt, BitVec.reduceOfNat, Int.reduceGT, Int.reduceGE, Int.reduceBEq, Int.reduceBNe, Nat.reduceGT, Nat.reduceBEq, Nat.reduceBNe, Int.reduceAdd, Int.reduceSub, Int.reduceNeg, ex, ey, h0']
      exact hK _ _ (frzE rfl (by simp only [itup, computeF, if_pos h0]))
    · have h0' : (y == 0) = false := by simpa using h0
      simp -implicitDefEqProofs only [go_sem, dnW_ite, reduceIte, Nat.reduceAdd, Nat.reduceLeDiff, Nat.reduceMul, Nat.reduceEqDiff, Int.reduceLT, Int.reduceLE, Int.reduceToNat, Nat.reduceSub, Nat.reduceLT, Int.reduceEq, BitVec.reduceOfInt, BitVec.reduceOfNat, Int.reduceGT, Int.reduceGE, Int.reduceBEq, Int.reduceBNe, Nat.reduceGT, Nat.reduceBEq, Nat.reduceBNe, Int.reduceAdd, Int.reduceSub, Int.reduceNeg, ex, ey, h0', h0]
      exact hK _ _ (frzE rfl (by simp only [itup, computeF, if_neg h0, w32_id (tmod_rng hx y)]))
  have g10 : (op == 10) = false := by simpa using h10
  by_cases h11 : op = 11
  · subst h11
    simp -implicitDefEqProofs only [go_sem, dnW_ite, reduceIte, Nat.reduceAdd, Nat.reduceLeDiff, Nat.reduceMul, Nat.reduceEqDiff, Int.reduceLT, Int.reduceLE, Int.reduceToNat, Nat.reduceSub, Nat.reduceLT, Int.reduceEq, BitVec.reduceOfInt, BitVec.reduceOfNat, Int.reduceGT, Int.reduceGE, Int.reduceBEq, Int.reduceBNe, Nat.reduceGT, Nat.reduceBEq, Nat.reduceBNe, Int.reduceAdd, Int.reduceSub, Int.reduceNeg, ex, ey]
    exact hK _ _ (frzE rfl rfl)
  have g11 : (op == 11) = false := by simpa using h11
  by_cases h12 : op = 12
  · subst h12
    simp -implicitDefEqProofs only [go_sem, dnW_ite, reduceIte, Nat.reduceAdd, Nat.reduceLeDiff, Nat.reduceMul, Nat.reduceEqDiff, Int.reduceLT, Int.reduceLE, Int.reduceToNat, Nat.reduceSub, Nat.reduceLT, Int.reduceEq, BitVec.reduceOfInt, BitVec.reduceOfNat, Int.reduceGT, Int.reduceGE, Int.reduceBEq, Int.reduceBNe, Nat.reduceGT, Nat.reduceBEq, Nat.reduceBNe, Int.reduceAdd, Int.reduceSub, Int.reduceNeg, ex, ey]
    exact hK _ _ (frzE rfl rfl)
  have g12 : (op == 12) = false := by simpa using h12
  by_cases h13 : op = 13
  · subst h13
    simp -implicitDefEqProofs only [go_sem, dnW_ite, reduceIte, Nat.reduceAdd, Nat.reduceLeDiff, Nat.reduceMul, Nat.reduceEqDiff, Int.reduceLT, Int.reduceLE, Int.reduceToNat, Nat.reduceSub, Nat.reduceLT, Int.reduceEq, BitVec.reduceOfInt, BitVec.reduceOfNat, Int.reduceGT, Int.reduceGE, Int.reduceBEq, Int.reduceBNe, Nat.reduceGT, Nat.reduceBEq, Nat.reduceBNe, Int.reduceAdd, Int.reduceSub, Int.reduceNeg, ex, ey]
    exact hK _ _ (frzE rfl (by simp only [itup]; exact congrArg (IV.int .i32) (xor_eq x y)))
  have g13 : (op == 13) = false := by simpa using h13
  by_cases h14 : op = 14
  · subst h14
    have e0 := sh5_lt y
    simp -implicitDefEqProofs only [go_sem, dnW_ite, reduceIte, Nat.reduceAdd, Nat.reduceLeDiff, Nat.reduceMul, Nat.reduceEqDiff, Int.reduceLT, Int.reduceLE, Int.reduceToNat, Nat.reduceSub, Nat.reduceLT, Int.reduceEq, BitVec.reduceOfInt, BitVec.reduceOfNat, Int.reduceGT, Int.reduceGE, Int.reduceBEq, Int.reduceBNe, Nat.reduceGT, Nat.reduceBEq, Nat.reduceBNe, Int.reduceAdd, Int.reduceSub, Int.reduceNeg, ex, ey, sh5_eq, show ¬ ((sh5 y : Int) < 0) by omega, show min (sh5 y) 64 = sh5 y by omega, show ¬ ((32 : Int) = 0) by decide]
    exact hK _ _ (frzE rfl (by simp only [itup, wrap_mul, computeF]))
  have g14 : (op == 14) = false := by simpa using h14
  by_cases h15 : op = 15
  · subst h15
    have e0 := sh5_lt y
    simp -implicitDefEqProofs only [go_sem, dnW_ite, reduceIte, Nat.reduceAdd, Nat.reduceLeDiff, Nat.reduceMul, Nat.reduceEqDiff, Int.reduceLT, Int.reduceLE, Int.reduceToNat, Nat.reduceSub, Nat.reduceLT, Int.reduceEq, BitVec.reduceOfInt, BitVec.reduceOfNat, Int.reduceGT, Int.reduceGE, Int.reduceBEq, Int.reduceBNe, Nat.reduceGT, Nat.reduceBEq, Nat.reduceBNe, Int.reduceAdd, Int.reduceSub, Int.reduceNeg, ex, ey, sh5_eq, show ¬ ((sh5 y : Int) < 0) by omega, show min (sh5 y) 64 = sh5 y by omega, show ¬ ((32 : Int) = 0) by decide]
    exact hK _ _ (frzE rfl (by simp only [itup, computeF, w32_id (fdiv_rng hx _)]))
  have g15 : (op == 15) = false := by simpa using h15
  by_cases h16 : op = 16
  · subst h16
    simp -implicitDefEqProofs only [go_sem, dnW_ite, reduceIte, Nat.reduceAdd, Nat.reduceLeDiff, Nat.reduceMul, Nat.reduceEqDiff, Int.reduceLT, Int.reduceLE, Int.reduceToNat, Nat.reduceSub, Nat.reduceLT, Int.reduceEq, BitVec.reduceOfInt, BitVec.reduceOfNat, Int.reduceGT, Int.reduceGE, Int.reduceBEq, Int.reduceBNe, Nat.reduceGT, Nat.reduceBEq, Nat.reduceBNe, Int.reduceAdd, Int.reduceSub, Int.reduceNeg, ex, ey, dcp (rtruth_ok (decide (x < y))) rfl]
    exact hK _ _ (frzE rfl (by simp [itup, computeF]))
  have g16 : (op == 16) = false := by simpa using h16
  by_cases h17 : op = 17
  · subst h17
    simp -implicitDefEqProofs only [go_sem, dnW_ite, reduceIte, Nat.reduceAdd, Nat.reduceLeDiff, Nat.reduceMul, Nat.reduceEqDiff, Int.reduceLT, Int.reduceLE, Int.reduceToNat, Nat.reduceSub, Nat.reduceLT, Int.reduceEq, BitVec.reduceOfInt, BitVec.reduceOfNat, Int.reduceGT, Int.reduceGE, Int.reduceBEq, Int.reduceBNe, Nat.reduceGT, Nat.reduceBEq, Nat.reduceBNe, Int.reduceAdd, Int.reduceSub, Int.reduceNeg, ex, ey, dcp (rtruth_ok (x == y)) rfl]
    exact hK _ _ (frzE rfl (by simp [itup, computeF]))
  have g17 : (op == 17) = false := by simpa using h17
  simp -implicitDefEqProofs only [go_sem, dnW_ite, reduceIte, Nat.reduceAdd, Nat.reduceLeDiff, Nat.reduceMul, Nat.reduceEqDiff, Int.reduceLT, Int.reduceLE, Int.reduceToNat, Nat.reduceSub, Nat.reduceLT, Int.reduceEq, BitVec.reduceOfInt, BitVec.reduceOfNat, Int.reduceGT, Int.reduceGE, Int.reduceBEq, Int.reduceBNe, Nat.reduceGT, Nat.reduceBEq, Nat.reduceBNe, Int.reduceAdd, Int.reduceSub, Int.reduceNeg, ex, ey, natBeqc, g6, g7, g8, g9, g10, g11, g12, g13, g14, g15, g16, g17]
  refine hK _ _ (frzE rfl ?_)
  have : computeF op x y = 0 := by unfold computeF; split <;> first | rfl | contradiction
  rw [this]; rfl
end Go.Proofs.Ytcdlipdeemlibaa.G
namespace Go.Proofs.Ytcdlipdeemlibaa.G
open Go
set_option linter.unusedSimpArgs false
set_option linter.unusedVariables false
set_option maxRecDepth 20000
theorem fits8 {n : Nat} (h : n ≤ 1000000) : fits n 8 = true := by
  simp only [fits, Bool.and_eq_true, decide_eq_true_eq]; omega
theorem fits12 {n : Nat} (h : n ≤ 1000000) : fits n 12 = true := by
  simp only [fits, Bool.and_eq_true, decide_eq_true_eq]; omega
theorem cl2 (l : List Cl) : ∀ x ∈ l.map Cl.c, x.length = 2 := by
  intro e he
  obtain ⟨y, _, rfl⟩ := List.mem_map.1 he
  rfl
theorem cl_pure (l : List Cl) : ipureL (l.map Cl.c).flatten = true := ipureL_iff.2 fun x hx => by
  obtain ⟨e, he, hx⟩ := List.mem_flatten.1 hx
  obtain ⟨y, _, rfl⟩ := List.mem_map.1 he
  simp [Cl.c] at hx
  rcases hx with rfl | rfl <;> rfl
theorem cl_mk (l : List Cl) : (l.map Cl.c).map (mkE 2) = l.map Cl.e := by rw [List.map_map]; rfl
def i1 (l : List Int) : List (List IV) := l.map fun v => [IV.int .i32 v]
theorem cd6 (l : List Cd) : ∀ x ∈ l.map Cd.cs, x.length = 6 := by
  intro e he
  obtain ⟨y, _, rfl⟩ := List.mem_map.1 he
  rfl
theorem cd_pure (l : List Cd) : ipureL (l.map Cd.cs).flatten = true := ipureL_iff.2 fun x hx => by
  obtain ⟨e, he, hx⟩ := List.mem_flatten.1 hx
  obtain ⟨y, _, rfl⟩ := List.mem_map.1 he
  simp [Cd.cs] at hx
  rcases hx with rfl | rfl | rfl | rfl | rfl | rfl <;> rfl
theorem cd_one (l : List Cd) : (l.map Cd.cs).flatten.all ione = true := by
  rw [List.all_eq_true]
  intro x hx
  obtain ⟨e, he, hx⟩ := List.mem_flatten.1 hx
  obtain ⟨y, _, rfl⟩ := List.mem_map.1 he
  simp [Cd.cs] at hx
  rcases hx with rfl | rfl | rfl | rfl | rfl | rfl <;> rfl
theorem cd_mk (l : List Cd) : (l.map Cd.cs).map (mkE 6) = l.map Cd.e := by rw [List.map_map]; rfl
end Go.Proofs.Ytcdlipdeemlibaa.G
namespace Go.Proofs.Ytcdlipdeemlibaa.G
open Go
set_option linter.unusedSimpArgs false
set_option linter.unusedVariables false
set_option maxRecDepth 20000
set_option maxHeartbeats 2000000
theorem gm_s4 (g : Gm) (x y v : IV) : isplice (gmc g x y) 4 [v] = gmc g v y := rfl
theorem gm_s5 (g : Gm) (x y v : IV) : isplice (gmc g x y) 5 [v] = gmc g x v := rfl
theorem gm_all (g : Gm) (x y : IV) (g2 : Gm) (x2 y2 : IV) : isplice (gmc g x y) 0 (gmc g2 x2 y2) = gmc g2 x2 y2 := rfl
attribute [go_sem] gm_s4 gm_s5 gm_all
theorem Clip.icells {J J' : JH} {s : IV} {sz : Nat} {X : List (List IV)} (h : Clip J J' s sz X) : Go.Proofs.Ytcdlipdeemlibaa.G.icells s = [s] := by
  rcases h with ⟨_, rfl, _⟩ | ⟨_, rfl, _⟩ <;> rfl
theorem Clip.one {J J' : JH} {s : IV} {sz : Nat} {X : List (List IV)} (h : Clip J J' s sz X) : ione s = true := by
  rcases h with ⟨_, rfl, _⟩ | ⟨_, rfl, _⟩ <;> rfl
theorem Clip.frzL {J J' J2 : JH} {s : IV} {sz : Nat} {X : List (List IV)} (h : Clip J J' s sz X) (hf : ∀ d, J.size ≤ d → d < J'.size → J2[d]? = J'[d]?) (hsz : 0 < sz) (hX : ∀ x ∈ X, x.length = sz) (hp : ipureL X.flatten = true) (ho : X.flatten.all ione = true) : ∃ u, (∀ k, Go.Proofs.Ytcdlipdeemlibaa.G.frz J2 (k + 1) s = some u) ∧ Ls sz u (X.map (mkE sz)) := by
  rcases h with ⟨rfl, rfl, rfl⟩ | ⟨hne, rfl, rfl⟩
  · exact ⟨_, fun k => frz_pure _ _ rfl, .lst⟩
  · have hb : J2[J.size]? = some (.cells 0 X.flatten false) := by rw [hf J.size (Nat.le_refl _) (by simp), push_get]
    refine ⟨.lst sz (X.length == UNK + sz && decide (UNK + sz < UNK)) (X.map (mkE sz)), fun k => ?_, .lst⟩
    rw [frz_sl (cs := X.flatten) hsz ?_ hp ho, grp_flat hX]
    simp only [ird, hb, true_and, Nat.zero_add, List.drop_zero]
    rw [if_pos (by rw [flat_len hX]; exact Nat.le_refl _), List.take_of_length_le (by rw [flat_len hX]; exact Nat.le_refl _)]
def Gm.few (g : Gm) : Gm := { g with cells := g.cells.take 55, code := g.code.take 100 }
theorem gfew_ok (g : Gm) (x y : IV) (h : GR g x y) (hb : g.cells.length ≤ 9223372036854775807) (hb2 : g.code.length ≤ 9223372036854775807) :
    ∃ u, pc BI F_law10_few [.agg (gmc g x y)] = some u ∧ ∃ x2 y2, u = .agg (gmc g.few x2 y2) ∧ GR g.few x2 y2 := by
  refine pcW fn_law10_few rfl fun K hK => ?_
  obtain ⟨a, ha, hal⟩ := h.x.slice (h := min g.cells.length 55) (by simp; omega)
  obtain ⟨c, hc, hcl⟩ := h.y.slice (h := min g.code.length 100) (by simp; omega)
  have hm : min (g.cells.length : Int) 55 = ((min g.cells.length 55 : Nat) : Int) := by omega
  have hm2 : min (g.code.length : Int) 100 = ((min g.code.length 100 : Nat) : Int) := by omega
  unfold l_law10_few
  simp -implicitDefEqProofs only [go_sem, dnW_ite, reduceIte, Nat.reduceAdd, Nat.reduceLeDiff, Nat.reduceMul, Nat.reduceEqDiff, Int.reduceLT, Int.reduceLE, Int.reduceToNat, Nat.reduceSub, Nat.reduceLT, Int.reduceEq, BitVec.reduceOfInt, BitVec.reduceOfNat, Int.reduceGT, Int.reduceGE, Int.reduceBEq, Int.reduceBNe, Nat.reduceGT, Nat.reduceBEq, Nat.reduceBNe, Int.reduceAdd, Int.reduceSub, Int.reduceNeg, h.one, h.x.lenF, List.length_map, ipureL, grp, hm, ha]
  have tk : ∀ {α : Type} (l : List α) (n : Nat), l.take (min l.length n) = l.take n := fun l n => by rw [Nat.min_comm, ← List.take_eq_take_min]
  have hal' : Ls 2 a (((g.cells.take 55).map Cl.c).map (mkE 2)) := by
    rw [cl_mk, List.map_take, ← tk, List.length_map]; exact hal
  have hcl' : Ls 6 c (((g.code.take 100).map Cd.cs).map (mkE 6)) := by
    rw [cd_mk, List.map_take, ← tk, List.length_map]; exact hcl
  refine WP_bind (app_clip hal' (by decide) (cl2 _) (flat_one _) (fits8 (by simp; omega))) fun s1 J1 k1 => ?_
  have f1 := k1.fr
  have h0 : J1[0]? = some (.cells 0 (gmc g x y) false) := by rw [f1.2 0 (by simp) (by simp)]; rfl
  have hin := inb h0
  simp -implicitDefEqProofs only [go_sem, dnW_ite, reduceIte, Nat.reduceAdd, Nat.reduceLeDiff, Nat.reduceMul, Nat.reduceEqDiff, Int.reduceLT, Int.reduceLE, Int.reduceToNat, Nat.reduceSub, Nat.reduceLT, Int.reduceEq, BitVec.reduceOfInt, BitVec.reduceOfNat, Int.reduceGT, Int.reduceGE, Int.reduceBEq, Int.reduceBNe, Nat.reduceGT, Nat.reduceBEq, Nat.reduceBNe, Int.reduceAdd, Int.reduceSub, Int.reduceNeg, h0, hin, ↓k1.icells, ↓k1.one, h.y.lenF, List.length_map, hm2, hc, set_get _ (lt_get h0), ipureL, grp]
  have hz1 := f1.1
  have hl0 := lt_get h0
  refine WP_bind (app_clip hcl' (by decide) (cd6 _) (cd_one _) (fits12 (by simp; omega))) fun s2 J2 k2 => ?_
  have f2 := k2.fr
  have h02 : J2[0]? = some (.cells 0 (gmc g s1 y) false) := by rw [f2.2 0 (by simpa using hl0) (by simp)]; exact set_get _ hl0
  have hb1 : J1[1]? = some (.cells 0 (gmc ⟨0, 0, 0#32, 0#32, [], []⟩ (.sc (.slice none 0 0)) (.sc (.slice none 0 0))) false) := by rw [f1.2 1 (by simp) (by simp)]; rfl
  have hb2' : J2[1]? = some (.cells 0 (gmc ⟨0, 0, 0#32, 0#32, [], []⟩ (.sc (.slice none 0 0)) (.sc (.slice none 0 0))) false) := by
    rw [f2.2 1 (by have := lt_get hb1; simpa using this) (by simp), Array.getElem?_setIfInBounds, if_neg (by decide)]; exact hb1
  have hin2 := inb h02
  have ho2 : (gmc g s1 s2).all ione = true := by
    have a1 := k1.one
    have a2 := k2.one
    simp only [gmc, List.all_cons, List.all_nil, a1, a2]; rfl
  have hb3 : (J2.setIfInBounds 0 (.cells 0 (gmc g s1 s2) false))[1]? = some (.cells 0 (gmc ⟨0, 0, 0#32, 0#32, [], []⟩ (.sc (.slice none 0 0)) (.sc (.slice none 0 0))) false) := by
    rw [Array.getElem?_setIfInBounds, if_neg (by decide)]; exact hb2'
  have hl3 := lt_get hb3
  simp -implicitDefEqProofs only [go_sem, dnW_ite, reduceIte, Nat.reduceAdd, Nat.reduceLeDiff, Nat.reduceMul, Nat.reduceEqDiff, Int.reduceLT, Int.reduceLE, Int.reduceToNat, Nat.reduceSub, Nat.reduceLT, Int.reduceEq, BitVec.reduceOfInt, BitVec.reduceOfNat, Int.reduceGT, Int.reduceGE, Int.reduceBEq, Int.reduceBNe, Nat.reduceGT, Nat.reduceBEq, Nat.reduceBNe, Int.reduceAdd, Int.reduceSub, Int.reduceNeg, h02, hin2, ↓k2.icells, ↓k2.one, set_get _ (lt_get h02), hb3, inb hb3, ho2, set_get _ hl3]
  have hsz : (2 : Nat) ≤ J1.size := by simpa using hz1
  obtain ⟨u1, hu1, hl1⟩ := k1.frzL (J2 := (J2.setIfInBounds 0 (.cells 0 (gmc g s1 s2) false)).setIfInBounds 1 (.cells 0 (gmc g s1 s2) false)) (fun d hd hd2 => by
    have hd' : 2 ≤ d := by simpa using hd
    rw [Array.getElem?_setIfInBounds, if_neg (by omega), Array.getElem?_setIfInBounds, if_neg (by omega), f2.2 d (by simpa using hd2) (by simp), Array.getElem?_setIfInBounds, if_neg (by omega)]) (by decide) (cl2 _) (cl_pure _) (flat_one _)
  obtain ⟨u2, hu2, hl2⟩ := k2.frzL (J2 := (J2.setIfInBounds 0 (.cells 0 (gmc g s1 s2) false)).setIfInBounds 1 (.cells 0 (gmc g s1 s2) false)) (fun d hd hd2 => by
    have hd' : 2 ≤ d := by have : J1.size ≤ d := by simpa using hd
                           omega
    rw [Array.getElem?_setIfInBounds, if_neg (by omega), Array.getElem?_setIfInBounds, if_neg (by omega)]) (by decide) (cd6 _) (cd_pure _) (cd_one _)
  rw [cl_mk] at hl1
  rw [cd_mk] at hl2
  generalize (J2.setIfInBounds 0 (.cells 0 (gmc g s1 s2) false)).setIfInBounds 1 (.cells 0 (gmc g s1 s2) false) = JF at *
  have fp : ∀ {v : IV}, ipure v = true → frz JF 11 v = some v := fun h => frz_pure _ _ h
  refine hK _ _ (.agg (gmc g u1 u2)) (frz_aggL (k := 11) ?_) ⟨u1, u2, rfl, hl1, hl2⟩
  simp only [gmc]
  rw [List.mapM_cons, List.mapM_cons, List.mapM_cons, List.mapM_cons, List.mapM_cons, List.mapM_cons, fp (v := .int .i64 g.obs) rfl, fp (v := .int .i64 g.players) rfl, fp (v := m32 g.moves) rfl, fp (v := m32 g.dflt) rfl, hu1 10, hu2 10]
  rfl
end Go.Proofs.Ytcdlipdeemlibaa.G
namespace Go.Proofs.Ytcdlipdeemlibaa.G
open Go
set_option linter.unusedSimpArgs false
set_option linter.unusedVariables false
set_option maxRecDepth 20000
set_option maxHeartbeats 2000000
def Gm.mv (g : Gm) (ms : List (BitVec 32)) (j : Nat) : BitVec 32 := if h : j < ms.length then (if g.legal ms[j] then ms[j] else g.dflt) else g.dflt
def Gm.allF (g : Gm) (ms : List (BitVec 32)) (n : Nat) : List Int := (List.range n).map fun j => IntKind.i32.wrap ((g.mv ms j).toNat : Int)
theorem allF_succ (g ms n) : Gm.allF g ms (n + 1) = Gm.allF g ms n ++ [IntKind.i32.wrap ((g.mv ms n).toNat : Int)] := by
  simp [Gm.allF, List.range_succ]
theorem allF_len (g ms n) : (Gm.allF g ms n).length = n := by simp [Gm.allF]
theorem fits4r {n : Nat} (h : n ≤ 1000000) : fits n 4 = true := by
  simp only [fits, Bool.and_eq_true, decide_eq_true_eq]; omega
theorem gall_ok (g : Gm) (x y : IV) (h : GR g x y) (p : Nat) (hp : g.players = p) (hp6 : p ≤ 1000) (mv : IV) (ms : List (BitVec 32)) (hm : Ls 1 mv (ms.map m32)) : ∃ u, pc BI F_rules_Game_all [.agg (gmc g x y), mv] = some u ∧ Ls 1 u ((g.allF ms p).map (IV.int .i32)) := by
  refine pcW fn_rules_Game_all rfl fun K hK => ?_
  unfold l_rules_Game_all
  simp -implicitDefEqProofs only [go_sem, dnW_ite, reduceIte, Nat.reduceAdd, Nat.reduceLeDiff, Nat.reduceMul, Nat.reduceEqDiff, Int.reduceLT, Int.reduceLE, Int.reduceToNat, Nat.reduceSub, Nat.reduceLT, Int.reduceEq, BitVec.reduceOfInt, BitVec.reduceOfNat, Int.reduceGT, Int.reduceGE, Int.reduceBEq, Int.reduceBNe, Nat.reduceGT, Nat.reduceBEq, Nat.reduceBNe, Int.reduceAdd, Int.reduceSub, Int.reduceNeg, h.one, hp, dn_loop]
  refine WP_range (by decide) p (fun i vs J' => ∃ out, vs = [mv, .ptr 0 0 0, out, nI p, nI i] ∧ J'[0]? = some (.cells 0 (gmc g x y) false) ∧ 0 ∉ blk out ∧ Grow J' out 1 ((g.allF ms i).map (IV.int .i32))) ?_ ⟨_, rfl, rfl, by simp [blk, blkOf], .nil⟩
  rintro i vs J ⟨out, rfl, h0, hb, hg⟩ hi K1 g1 g2 g3
  have hin := inb h0
  unfold l_rules_Game_all_k1
  by_cases hlt : i < p
  · have hw1 := wrapS hlt (show p ≤ 9223372036854775807 by omega)
    have fin : WP (dn BI l_rules_Game_all_k0 [mv, .ptr 0 0 0, out, m32 (g.mv ms i), nI p, nI i] J) K1 := by
      unfold l_rules_Game_all_k0
      simp -implicitDefEqProofs only [go_sem, dnW_ite, reduceIte, Nat.reduceAdd, Nat.reduceLeDiff, Nat.reduceMul, Nat.reduceEqDiff, Int.reduceLT, Int.reduceLE, Int.reduceToNat, Nat.reduceSub, Nat.reduceLT, Int.reduceEq, BitVec.reduceOfInt, BitVec.reduceOfNat, Int.reduceGT, Int.reduceGE, Int.reduceBEq, Int.reduceBNe, Nat.reduceGT, Nat.reduceBEq, Nat.reduceBNe, Int.reduceAdd, Int.reduceSub, Int.reduceNeg, ipureL, ipure, grp, mkE, List.headD]
      refine WP_bind (hg.app (m := 1) (ds := [.int .i32 (IntKind.i32.wrap ((g.mv ms i).toNat : Int))]) (by omega) rfl rfl rfl rfl (fits4r ?_)) fun out' J2 hs2 => ?_
      · simp [Gm.allF]; omega
      obtain ⟨k1, k2, k3⟩ := hs2
      simp -implicitDefEqProofs only [go_sem, dnW_ite, reduceIte, Nat.reduceAdd, Nat.reduceLeDiff, Nat.reduceMul, Nat.reduceEqDiff, Int.reduceLT, Int.reduceLE, Int.reduceToNat, Nat.reduceSub, Nat.reduceLT, Int.reduceEq, BitVec.reduceOfInt, BitVec.reduceOfNat, Int.reduceGT, Int.reduceGE, Int.reduceBEq, Int.reduceBNe, Nat.reduceGT, Nat.reduceBEq, Nat.reduceBNe, Int.reduceAdd, Int.reduceSub, Int.reduceNeg, hw1]
      refine g1 hlt _ _ ⟨out', rfl, by rw [k2.2 0 (lt_get h0) hb]; exact h0, fun hm0 => ?_, ?_⟩
      · rcases k3 0 hm0 with hc | hc
        · exact hb hc
        · have := lt_get h0; omega
      · rw [allF_succ, List.map_append]; exact k1
    by_cases hv : i < ms.length
    · have hat := fun J => hm.at (i := i) (by simpa using hv) (J := J)
      simp only [List.getElem_map] at hat
      have hL := Legal_ok g x y h ms[i]
      cases hc : g.legal ms[i] with
      | true =>
        rw [hc] at hL
        have e : g.mv ms i = ms[i] := by simp [Gm.mv, hv, hc]
        rw [e] at fin
        simp -implicitDefEqProofs only [go_sem, dnW_ite, reduceIte, Nat.reduceAdd, Nat.reduceLeDiff, Nat.reduceMul, Nat.reduceEqDiff, Int.reduceLT, Int.reduceLE, Int.reduceToNat, Nat.reduceSub, Nat.reduceLT, Int.reduceEq, BitVec.reduceOfInt, BitVec.reduceOfNat, Int.reduceGT, Int.reduceGE, Int.reduceBEq, Int.reduceBNe, Nat.reduceGT, Nat.reduceBEq, Nat.reduceBNe, Int.reduceAdd, Int.reduceSub, Int.reduceNeg, show ((i : Int) < (p : Int)) by omega, h0, hm.lenF, List.length_map, show ((i : Int) < (ms.length : Int)) by omega, hat, dcp hL (by simp [ipureL, ipure, h.pure])]
        exact fin
      | false =>
        rw [hc] at hL
        have e : g.mv ms i = g.dflt := by simp [Gm.mv, hv, hc]
        rw [e] at fin
        simp -implicitDefEqProofs only [go_sem, dnW_ite, reduceIte, Nat.reduceAdd, Nat.reduceLeDiff, Nat.reduceMul, Nat.reduceEqDiff, Int.reduceLT, Int.reduceLE, Int.reduceToNat, Nat.reduceSub, Nat.reduceLT, Int.reduceEq, BitVec.reduceOfInt, BitVec.reduceOfNat, Int.reduceGT, Int.reduceGE, Int.reduceBEq, Int.reduceBNe, Nat.reduceGT, Nat.reduceBEq, Nat.reduceBNe, Int.reduceAdd, Int.reduceSub, Int.reduceNeg, show ((i : Int) < (p : Int)) by omega, h0, hm.lenF, List.length_map, show ((i : Int) < (ms.length : Int)) by omega, hat, dcp hL (by simp [ipureL, ipure, h.pure])]
        exact fin
    · have e : g.mv ms i = g.dflt := by simp [Gm.mv, hv]
      rw [e] at fin
      simp -implicitDefEqProofs only [go_sem, dnW_ite, reduceIte, Nat.reduceAdd, Nat.reduceLeDiff, Nat.reduceMul, Nat.reduceEqDiff, Int.reduceLT, Int.reduceLE, Int.reduceToNat, Nat.reduceSub, Nat.reduceLT, Int.reduceEq, BitVec.reduceOfInt, BitVec.reduceOfNat, Int.reduceGT, Int.reduceGE, Int.reduceBEq, Int.reduceBNe, Nat.reduceGT, Nat.reduceBEq, Nat.reduceBNe, Int.reduceAdd, Int.reduceSub, Int.reduceNeg, show ((i : Int) < (p : Int)) by omega, h0, hm.lenF, List.length_map, show ¬ ((i : Int) < (ms.length : Int)) by omega]
      exact fin
  · simp -implicitDefEqProofs only [go_sem, dnW_ite, reduceIte, Nat.reduceAdd, Nat.reduceLeDiff, Nat.reduceMul, Nat.reduceEqDiff, Int.reduceLT, Int.reduceLE, Int.reduceToNat, Nat.reduceSub, Nat.reduceLT, Int.reduceEq, BitVec.reduceOfInt, BitVec.reduceOfNat, Int.reduceGT, Int.reduceGE, Int.reduceBEq, Int.reduceBNe, Nat.reduceGT, Nat.reduceBEq, Nat.reduceBNe, Int.reduceAdd, Int.reduceSub, Int.reduceNeg, show ¬ ((i : Int) < (p : Int)) by omega]
    refine g2 _ _ ?_
    unfold l_rules_Game_all_k2
    simp -implicitDefEqProofs only [go_sem, dnW_ite, reduceIte, Nat.reduceAdd, Nat.reduceLeDiff, Nat.reduceMul, Nat.reduceEqDiff, Int.reduceLT, Int.reduceLE, Int.reduceToNat, Nat.reduceSub, Nat.reduceLT, Int.reduceEq, BitVec.reduceOfInt, BitVec.reduceOfNat, Int.reduceGT, Int.reduceGE, Int.reduceBEq, Int.reduceBNe, Nat.reduceGT, Nat.reduceBEq, Nat.reduceBNe, Int.reduceAdd, Int.reduceSub, Int.reduceNeg]
    obtain rfl : i = p := by omega
    obtain ⟨u, hu, hul⟩ := hg.frzE1 ints_pure ints_ione
    exact hK _ _ u (hu 11) hul
end Go.Proofs.Ytcdlipdeemlibaa.G
namespace Go.Proofs.Ytcdlipdeemlibaa.G
open Go
set_option linter.unusedSimpArgs false
set_option linter.unusedVariables false
set_option maxRecDepth 20000
set_option maxHeartbeats 2000000
def stc (b : Bd) (d t : Int) : List IV := bdc b ++ [.int .u64 d, .int .u32 t]
theorem sta_len (b d t) : (stc b d t).length = 99 := by simp [stc, bdc_len]
theorem sta_take (b d t) : (stc b d t).take 99 = stc b d t := List.take_of_length_le (by rw [sta_len]; exact Nat.le_refl _)
theorem sta_bd (b d t) : (stc b d t).take 97 = bdc b := by rw [stc, List.take_append_of_le_length (by rw [bdc_len]; exact Nat.le_refl _), bdc_take]
theorem sta_97 (b d t) : ((stc b d t).drop 97).take 1 = [.int .u64 d] := by rw [stc, app_ld (bdc_len b) 0]; rfl
theorem sta_98 (b d t) : ((stc b d t).drop 98).take 1 = [.int .u32 t] := by rw [stc, app_ld (bdc_len b) 1]; rfl
theorem sta_one (b d t) : (stc b d t).all ione = true := by
  have := bdc_one b
  rw [stc, List.all_append, this]; rfl
theorem sta_pure (b d t) : ipureL (stc b d t) = true := by
  rw [stc, ipureL_iff]
  intro x hx
  rcases List.mem_append.1 hx with hx | hx
  · exact ipureL_iff.1 (bdc_pure b) x hx
  · simp at hx; rcases hx with rfl | rfl <;> rfl
attribute [go_sem] sta_len sta_take sta_bd sta_97 sta_98 sta_one
theorem sta_z : List.map IV.sc (reps 48 [Value.int IntKind.i32 0, Value.int IntKind.u32 0] ++ [Value.int IntKind.i64 0, Value.int IntKind.u64 0, Value.int IntKind.u32 0]) = stc Bd.z 0 0 := by kernel_rfl
theorem sta_all (b d t b2 d2 t2) : isplice (stc b d t) 0 (stc b2 d2 t2) = stc b2 d2 t2 := by
  simp only [isplice, List.take_zero, List.nil_append, Nat.zero_add]
  rw [List.drop_of_length_le (by rw [sta_len, sta_len]; exact Nat.le_refl _), List.append_nil]
theorem sta_sbd (b d t b2) : isplice (stc b d t) 0 (bdc b2) = stc b2 d t := by
  simp only [isplice, List.take_zero, List.nil_append, Nat.zero_add, stc]
  rw [bdc_len, List.drop_append_of_le_length (by rw [bdc_len]; exact Nat.le_refl _), List.drop_of_length_le (by rw [bdc_len]; exact Nat.le_refl _), List.nil_append]
theorem sta_s98 (b d t t2) : isplice (stc b d t) 98 [.int .u32 t2] = stc b d t2 := by
  have h := bdc_len b
  simp only [isplice, stc]
  rw [List.take_append, List.drop_append, List.take_of_length_le (by omega), List.drop_of_length_le (by rw [h]; simp only [List.length_cons, List.length_nil]; omega), h]; simp
theorem sta_s97 (b d t d2) : isplice (stc b d t) 97 [.int .u64 d2] = stc b d2 t := by
  have h := bdc_len b
  simp only [isplice, stc]
  rw [List.take_append, List.drop_append, List.take_of_length_le (by omega), List.drop_of_length_le (by rw [h]; simp only [List.length_cons, List.length_nil]; omega), h]; simp
attribute [go_sem] sta_all sta_sbd sta_s98 sta_s97
theorem SView_ok (b : Bd) (d t p : Int) : pc BI F_rules_State_View [.agg (stc b d t), .int .i64 p] = some (.agg (stc (b.view p) 0 t)) := by
  refine pcE fn_rules_State_View rfl fun K hK => ?_
  unfold l_rules_State_View
  have hm : BI.md F_board_Board_View = .pure := rfl
  simp -implicitDefEqProofs only [go_sem, dnW_ite, reduceIte, Nat.reduceAdd, Nat.reduceLeDiff, Nat.reduceMul, Nat.reduceEqDiff, Int.reduceLT, Int.reduceLE, Int.reduceToNat, Nat.reduceSub, Nat.reduceLT, Int.reduceEq, BitVec.reduceOfInt, BitVec.reduceOfNat, Int.reduceGT, Int.reduceGE, Int.reduceBEq, Int.reduceBNe, Nat.reduceGT, Nat.reduceBEq, Nat.reduceBNe, Int.reduceAdd, Int.reduceSub, Int.reduceNeg, sta_z, hm, dcp (View_ok b p) (by simp [ipureL, ipure, bdc_pure])]
  exact hK _ _ (frzE (by simp [ipure, itup, sta_pure]) rfl)
end Go.Proofs.Ytcdlipdeemlibaa.G
namespace Go.Proofs.Ytcdlipdeemlibaa.G
open Go
set_option linter.unusedSimpArgs false
set_option linter.unusedVariables false
set_option maxRecDepth 20000
set_option maxHeartbeats 2000000
theorem i32_rng (v : Int) : I32 (IntKind.i32.wrap v) := by
  unfold I32
  simp only [IntKind.wrap, IntKind.bits, IntKind.signed]
  simp; split <;> omega
theorem allF_rng (g : Gm) (ms) (n : Nat) : ∀ v ∈ g.allF ms n, I32 v := by
  intro v hv
  simp only [Gm.allF, List.mem_map] at hv
  obtain ⟨j, _, rfl⟩ := hv
  exact i32_rng _
def Gm.env (g : Gm) (ms : List (BitVec 32)) (t : Int) (q : IV) : Me := ⟨q, g.allF ms g.players.toNat, IntKind.u32.wrap (t + 1), allM g.obs⟩
theorem right_players {g : Gm} (h : g.right = true) : 1 ≤ g.players ∧ g.players ≤ 6 ∧ rightL g.code g.cells.length g.players.toNat = true := by
  simp only [Gm.right, Bool.and_eq_true, decide_eq_true_eq] at h
  exact ⟨h.1.1.1.1.2.1, h.1.1.1.1.2.2.1, h.2⟩
theorem Step_ok (g : Gm) (x y : IV) (h : GR g x y) (hr : g.right = true) (hw : ∀ c ∈ g.code, c.wf) (hb : g.code.length ≤ 9223372036854775807) (b : Bd) (hbk : b.ok) (d t : Int) (mv : IV) (ms : List (BitVec 32)) (hm : Ls 1 mv (ms.map m32)) :
    ∃ u, pc BI F_rules_Game_Step [.agg (gmc g x y), .agg (stc b d t), mv] = some u ∧ ∃ q s, Ls 1 q ((g.env ms t q).moves.map (IV.int .i32)) ∧ Ls 3 s ((runF (g.env ms t q) g.code b d).shows.map Sh.e) ∧
      u = .tup [.agg (stc (runF (g.env ms t q) g.code b d).bd (runF (g.env ms t q) g.code b d).dice (IntKind.u32.wrap (t + 1))), .agg [.int .u64 ((runF (g.env ms t q) g.code b d).touched.toNat : Int), s, nI (runF (g.env ms t q) g.code b d).err]] := by
  refine pcW fn_rules_Game_Step rfl fun K hK => ?_
  obtain ⟨h1, h6, hR⟩ := right_players hr
  obtain ⟨p, hp⟩ : ∃ p : Nat, g.players = p := ⟨g.players.toNat, by omega⟩
  have hpn : g.players.toNat = p := by omega
  obtain ⟨q, hq, hql⟩ := gall_ok g x y h p hp (by omega) mv ms hm
  rw [← hpn] at hql
  have hE : (g.env ms t q).ok := ⟨hql, allF_rng _ _ _, by show (g.allF ms g.players.toNat).length ≤ _; rw [allF_len]; omega⟩
  have hcl : g.code.length ≤ 96 := by
    have : g.code.length ≤ 96 ∧ ∀ x ∈ g.code, x.right g.code.length g.cells.length g.players.toNat = true := by simpa [rightL] using hR
    exact this.1
  obtain ⟨_, hr1, s, hs, rfl⟩ := Run_ok y g.code h.y hw (by omega) b hbk d (g.env ms t q) hE
  have hr1' : pc BI F_vm_Run [y, .agg (bdc b), .agg [.int .u64 d], q, .int .u32 (IntKind.u32.wrap (t + 1)), m32 (allM g.obs)] = _ := hr1
  have hg := gRight_ok g x y h hw hb
  rw [hr] at hg
  have hcon : ∀ J', K (.ret [.agg (stc (runF (g.env ms t q) g.code b d).bd (runF (g.env ms t q) g.code b d).dice (IntKind.u32.wrap (t + 1))), .agg [.int .u64 ((runF (g.env ms t q) g.code b d).touched.toNat : Int), s, nI (runF (g.env ms t q) g.code b d).err]]) J' := fun J' => by
    have hpu : ipure (itup [.agg (stc (runF (g.env ms t q) g.code b d).bd (runF (g.env ms t q) g.code b d).dice (IntKind.u32.wrap (t + 1))), .agg [.int .u64 ((runF (g.env ms t q) g.code b d).touched.toNat : Int), s, nI (runF (g.env ms t q) g.code b d).err]]) = true := by
      simp [itup, ipure, ipureL, sta_pure, hs.pure]
    exact hK _ _ _ (frzP hpu) ⟨q, s, hql, hs, rfl⟩
  generalize runF (g.env ms t q) g.code b d = R at *
  unfold l_rules_Game_Step
  simp -implicitDefEqProofs only [go_sem, dnW_ite, reduceIte, Nat.reduceAdd, Nat.reduceLeDiff, Nat.reduceMul, Nat.reduceEqDiff, Int.reduceLT, Int.reduceLE, Int.reduceToNat, Nat.reduceSub, Nat.reduceLT, Int.reduceEq, BitVec.reduceOfInt, BitVec.reduceOfNat, Int.reduceGT, Int.reduceGE, Int.reduceBEq, Int.reduceBNe, Nat.reduceGT, Nat.reduceBEq, Nat.reduceBNe, Int.reduceAdd, Int.reduceSub, Int.reduceNeg, h.one, sta_z, dcp hg (by simp [ipureL, ipure, h.pure]), dcp hq (by simp [ipureL, ipure, h.pure, hm.pure]), dcp (All10_ok g x y h) (by simp [ipureL, ipure, h.pure]), dcp hr1' (by simp [ipureL, ipure, h.y.pure, hql.pure, bdc_pure]), rs_one _ _ hs.one, ↓h.y.icells, ↓hs.icells, ↓hs.one, castN]
  exact hcon _
end Go.Proofs.Ytcdlipdeemlibaa.G
namespace Go.Proofs.Ytcdlipdeemlibaa.G
open Go
set_option linter.unusedSimpArgs false
set_option linter.unusedVariables false
set_option maxRecDepth 20000
set_option maxHeartbeats 2000000
theorem foldl_take_succ' {α β : Type} (f : β → α → β) (l : List α) (i : Nat) (h : i < l.length) (z : β) : (l.take (i + 1)).foldl f z = f ((l.take i).foldl f z) l[i] := by
  rw [List.take_succ_eq_append_getElem h, List.foldl_append]; rfl
def hidS (p : List Cl × List Int) (c : Cl) : List Cl × List Int := if c.s = 0#32 then (match p.2 with | [] => (p.1 ++ [c], []) | h :: r => (p.1 ++ [⟨h, 0#32⟩], r)) else (p.1 ++ [c], p.2)
def hid (C : List Cl) (H : List Int) : List Cl × List Int := C.foldl hidS ([], H)
theorem hidS_len (p c) : (hidS p c).1.length = p.1.length + 1 := by
  unfold hidS
  split
  · split <;> simp
  · simp
theorem hid_len (C : List Cl) : ∀ p, (C.foldl hidS p).1.length = p.1.length + C.length := by
  induction C with
  | nil => intro p; rfl
  | cons c C ih => intro p; rw [List.foldl_cons, ih, hidS_len, List.length_cons]; omega
theorem hidS_suf (p c) : (hidS p c).2.length ≤ p.2.length := by
  unfold hidS
  split
  · split <;> simp_all
  · simp
theorem hid_suf (C : List Cl) : ∀ p, (C.foldl hidS p).2.length ≤ p.2.length := by
  induction C with
  | nil => intro p; exact Nat.le_refl _
  | cons c C ih => intro p; rw [List.foldl_cons]; exact Nat.le_trans (ih _) (hidS_suf p c)
def hidB (C : List Cl) (h : C.length ≤ 48) (H : List Int) (i : Nat) : Bd := ⟨(hid (C.take i) H).1 ++ C.drop i, by
  have := hid_len (C.take i) ([], H)
  simp only [hid, List.length_append, this, List.length_take, List.length_drop, List.length_nil]; omega⟩
theorem hidB_len (C h H i) : (hidB C h H i).l.length = C.length := by
  have := hid_len (C.take i) ([], H)
  simp only [hidB, hid, List.length_append, this, List.length_take, List.length_drop, List.length_nil]; omega
theorem hidB_succ (C h H) {i : Nat} (hi : i < C.length) (c : Cl) (r : List Int) (he : hidS (hid (C.take i) H) C[i] = ((hid (C.take i) H).1 ++ [c], r)) : (hidB C h H i).set i c = hidB C h H (i + 1) ∧ (hid (C.take (i + 1)) H).2 = r := by
  have hs : hid (C.take (i + 1)) H = hidS (hid (C.take i) H) C[i] := foldl_take_succ' _ _ _ hi _
  have hl : (hid (C.take i) H).1.length = i := by
    have := hid_len (C.take i) ([], H)
    simp only [hid, this, List.length_take, List.length_nil]; omega
  refine ⟨?_, by rw [hs, he]⟩
  apply Bd.ext
  simp only [Bd.set, hidB]
  rw [hs, he, List.drop_eq_getElem_cons hi, List.set_append_right _ _ (by omega), hl, Nat.sub_self, List.set_cons_zero, List.append_assoc]; rfl
theorem hidB_same (C h H) {i : Nat} (hi : i < C.length) (r : List Int) (he : hidS (hid (C.take i) H) C[i] = ((hid (C.take i) H).1 ++ [C[i]], r)) : hidB C h H i = hidB C h H (i + 1) ∧ (hid (C.take (i + 1)) H).2 = r := by
  obtain ⟨h1, h2⟩ := hidB_succ C h H hi C[i] r he
  refine ⟨?_, h2⟩
  rw [← h1]
  have hl : (hid (C.take i) H).1.length = i := by
    have := hid_len (C.take i) ([], H)
    simp only [hid, this, List.length_take, List.length_nil]; omega
  apply Bd.ext
  simp only [Bd.set, hidB]
  rw [List.drop_eq_getElem_cons hi, List.set_append_right _ _ (by omega), hl, Nat.sub_self, List.set_cons_zero]
theorem start_loop (g : Gm) (x y : IV) (h : GR g x y) (h48 : g.cells.length ≤ 48) (hv : IV) (H : List Int) (hh : Ls 1 hv (H.map (IV.int .i32))) (hb : H.length ≤ 9223372036854775807) (sd : IV) (st : IV) (J : JH) (hJ : J[2]? = some (.cells 0 (bdc (hidB g.cells h48 H 0)) false)) (K : Out IV → JH → Prop)
    (hK : ∀ J', Fr J J' [2] → J'[2]? = some (.cells 0 (bdc (hidB g.cells h48 H g.cells.length)) false) → WP (dn BI l_rules_Game_Start_k1 [sd, st, .ptr 2 0 0] J') K) :
    WP (onJoinD 0 (iter (dn BI l_rules_Game_Start_k0) 1 [sd, hv, st, .ptr 2 0 0, x, nI g.cells.length, nI 0] J) l_rules_Game_Start_k1) K := by
  refine WP_range (by decide) g.cells.length (fun i vs J' => ∃ hw, vs = [sd, hw, st, .ptr 2 0 0, x, nI g.cells.length, nI i] ∧ Fr J J' [2] ∧ J'[2]? = some (.cells 0 (bdc (hidB g.cells h48 H i)) false) ∧ Ls 1 hw ((hid (g.cells.take i) H).2.map (IV.int .i32))) ?_ ⟨hv, rfl, .refl _ _, hJ, hh⟩
  rintro i vs J1 ⟨hw, rfl, hf, h2, hwl⟩ hi K1 g1 g2 g3
  have hin := inb h2
  have hl2 := lt_get h2
  unfold l_rules_Game_Start_k0
  by_cases hi2 : i < g.cells.length
  · have hat := fun J => h.x.at (i := i) (by simpa using hi2) (J := J)
    simp only [List.getElem_map, Cl.e, Cl.c] at hat
    have hsuf := hid_suf (g.cells.take i) ([], H)
    have hw1 := wrapS hi2 (show g.cells.length ≤ 9223372036854775807 by omega)
    have hp2 : ∀ X : IB, (J1.push X)[2]? = J1[2]? := fun X => by rw [Array.getElem?_push, if_neg (by omega)]
    have hp3 : ∀ X : IB, (J1.push X)[J1.size]? = some X := fun X => by simp
    have fr2 : ∀ X : IB, Fr J (J1.push X) [2] := fun X => hf.trans (Fr.push _ _ [2]) (fun _ _ h => h)
    by_cases hc : g.cells[i].s = 0#32
    · cases hr : (hid (g.cells.take i) H).2 with
      | nil =>
        obtain ⟨e1, e2⟩ := hidB_same g.cells h48 H hi2 [] (by simp [hidS, hc, hr])
        rw [hr] at hwl
        simp -implicitDefEqProofs only [go_sem, dnW_ite, reduceIte, Nat.reduceAdd, Nat.reduceLeDiff, Nat.reduceMul, Nat.reduceEqDiff, Int.reduceLT, Int.reduceLE, Int.reduceToNat, Nat.reduceSub, Nat.reduceLT, Int.reduceEq, BitVec.reduceOfInt, BitVec.reduceOfNat, Int.reduceGT, Int.reduceGE, Int.reduceBEq, Int.reduceBNe, Nat.reduceGT, Nat.reduceBEq, Nat.reduceBNe, Int.reduceAdd, Int.reduceSub, Int.reduceNeg, show ((i : Int) < (g.cells.length : Int)) by omega, hat, hp3, hp2, hc, hwl.lenF, List.length_map, hw1, BitVec.toNat_ofNat, show ((((0 % 2 ^ 32 : Nat)) : Int) == 0) = true from rfl]
        refine g1 hi2 _ _ ⟨hw, rfl, fr2 _, ?_, ?_⟩
        · rw [hp2, ← e1]; exact h2
        · rw [e2]; exact hwl
      | cons v r =>
        obtain ⟨e1, e2⟩ := hidB_succ g.cells h48 H hi2 ⟨v, 0#32⟩ r (by simp [hidS, hc, hr])
        rw [hr] at hwl
        have hat0 := fun J => hwl.at (i := 0) (by simp) (J := J)
        simp only [List.map_cons, List.getElem_cons_zero, Int.natCast_zero] at hat0
        obtain ⟨hw', hsl0, hwl'⟩ := hwl.sliceLo (l := 1) (by simp)
        have hsl : ∀ J, sliceF 1 hw (some (.int .i64 1)) none none J = some (hw', J) := hsl0
        have hP : pc BI F_board_Board_Put [.agg (bdc (hidB g.cells h48 H i)), .int .i64 (i : Int), .agg [.int .i32 v, .sc (.int .u32 0)]] = _ := Put_ok (hidB g.cells h48 H i) i ⟨v, 0#32⟩
        have hth : (hidB g.cells h48 H i).there i = true := by simp [Bd.there, hidB_len]; omega
        rw [hth, Bd.put, if_pos hth, if_pos rfl, Int.toNat_natCast, e1] at hP
        simp -implicitDefEqProofs only [go_sem, dnW_ite, reduceIte, Nat.reduceAdd, Nat.reduceLeDiff, Nat.reduceMul, Nat.reduceEqDiff, Int.reduceLT, Int.reduceLE, Int.reduceToNat, Nat.reduceSub, Nat.reduceLT, Int.reduceEq, BitVec.reduceOfInt, BitVec.reduceOfNat, Int.reduceGT, Int.reduceGE, Int.reduceBEq, Int.reduceBNe, Nat.reduceGT, Nat.reduceBEq, Nat.reduceBNe, Int.reduceAdd, Int.reduceSub, Int.reduceNeg, show ((i : Int) < (g.cells.length : Int)) by omega, hat, hp3, hp2, h2, hc, hwl.lenF, List.length_map, hw1, BitVec.toNat_ofNat, show ((((0 % 2 ^ 32 : Nat)) : Int) == 0) = true from rfl, show ((r.length + 1 : Nat) : Int) > 0 by omega, hat0, dcp hP (by simp [ipureL, ipure, bdc_pure]), hin, hsl, show ∀ k, 2 < J1.size + k by omega]
        refine g1 hi2 _ _ ⟨hw', rfl, (fr2 _).trans (Fr.set _ (b := 2) _ (S := [2]) (by simp)) (fun _ _ h => h), ?_, ?_⟩
        · exact set_get _ (by simp; omega)
        · rw [e2]; simpa using hwl'
    · obtain ⟨e1, e2⟩ := hidB_same g.cells h48 H hi2 (hid (g.cells.take i) H).2 (by simp [hidS, hc])
      have hc' : (((g.cells[i].s).toNat : Int) == 0) = false := by rw [beqB0]; simp [hc]
      simp -implicitDefEqProofs only [go_sem, dnW_ite, reduceIte, Nat.reduceAdd, Nat.reduceLeDiff, Nat.reduceMul, Nat.reduceEqDiff, Int.reduceLT, Int.reduceLE, Int.reduceToNat, Nat.reduceSub, Nat.reduceLT, Int.reduceEq, BitVec.reduceOfInt, BitVec.reduceOfNat, Int.reduceGT, Int.reduceGE, Int.reduceBEq, Int.reduceBNe, Nat.reduceGT, Nat.reduceBEq, Nat.reduceBNe, Int.reduceAdd, Int.reduceSub, Int.reduceNeg, show ((i : Int) < (g.cells.length : Int)) by omega, hat, hp3, hp2, ↓hc', hw1]
      refine g1 hi2 _ _ ⟨hw, rfl, fr2 _, ?_, ?_⟩
      · rw [hp2, ← e1]; exact h2
      · rw [e2]; exact hwl
  · simp -implicitDefEqProofs only [go_sem, dnW_ite, reduceIte, Nat.reduceAdd, Nat.reduceLeDiff, Nat.reduceMul, Nat.reduceEqDiff, Int.reduceLT, Int.reduceLE, Int.reduceToNat, Nat.reduceSub, Nat.reduceLT, Int.reduceEq, BitVec.reduceOfInt, BitVec.reduceOfNat, Int.reduceGT, Int.reduceGE, Int.reduceBEq, Int.reduceBNe, Nat.reduceGT, Nat.reduceBEq, Nat.reduceBNe, Int.reduceAdd, Int.reduceSub, Int.reduceNeg, show ¬ ((i : Int) < (g.cells.length : Int)) by omega]
    obtain rfl : i = g.cells.length := by omega
    exact g2 _ _ (hK _ hf h2)
theorem right_48 {g : Gm} (h : g.right = true) : g.cells.length ≤ 48 ∧ (1 ≤ g.obs ∧ g.obs ≤ 32) ∧ g.players ≤ g.obs ∧ g.dflt.toNat < g.moves.toNat ∧ g.code.length ≤ 96 := by
  have h2 := (right_players h).2.2
  have h3 : g.code.length ≤ 96 ∧ ∀ x ∈ g.code, x.right g.code.length g.cells.length g.players.toNat = true := by simpa [rightL] using h2
  simp only [Gm.right, Bool.and_eq_true, decide_eq_true_eq] at h
  exact ⟨h.1.1.2, h.1.1.1.1.1, h.1.1.1.1.2.2.2, h.1.1.1.2, h3.1⟩
def Gm.bd0 (g : Gm) (h : g.cells.length ≤ 48) (H : List Int) : Bd := hidB g.cells h H g.cells.length
theorem Start_ok (g : Gm) (x y : IV) (h : GR g x y) (hr : g.right = true) (hw : ∀ c ∈ g.code, c.wf) (hv : IV) (H : List Int) (hh : Ls 1 hv (H.map (IV.int .i32))) (hb : H.length ≤ 9223372036854775807) (sd : Int) :
    pc BI F_rules_Game_Start [.agg (gmc g x y), .int .u64 sd, hv] = some (.tup [.agg (stc (g.bd0 (right_48 hr).1 H) sd 0), nI 0]) := by
  refine pcE fn_rules_Game_Start rfl fun K hK => ?_
  obtain ⟨h48, _, _, _, h96⟩ := right_48 hr
  have hg := gRight_ok g x y h hw (by omega)
  rw [hr] at hg
  have hN := New_ok x g.cells h.x (by omega)
  have hz : Bd.new g.cells = hidB g.cells h48 H 0 := by
    unfold Bd.new
    rw [dif_pos h48]
    apply Bd.ext; simp [hidB, hid]
  rw [hz, if_pos h48] at hN
  unfold l_rules_Game_Start
  simp -implicitDefEqProofs only [go_sem, dnW_ite, reduceIte, Nat.reduceAdd, Nat.reduceLeDiff, Nat.reduceMul, Nat.reduceEqDiff, Int.reduceLT, Int.reduceLE, Int.reduceToNat, Nat.reduceSub, Nat.reduceLT, Int.reduceEq, BitVec.reduceOfInt, BitVec.reduceOfNat, Int.reduceGT, Int.reduceGE, Int.reduceBEq, Int.reduceBNe, Nat.reduceGT, Nat.reduceBEq, Nat.reduceBNe, Int.reduceAdd, Int.reduceSub, Int.reduceNeg, h.one, sta_z, dcp hg (by simp [ipureL, ipure, h.pure]), dcp hN (by simp [ipureL, h.x.pure]), h.x.lenF, List.length_map, dn_loop]
  refine start_loop g x y h h48 hv H hh hb _ _ _ rfl K fun J' hf h2 => ?_
  have h1 : J'[1]? = some (.cells 0 (stc Bd.z 0 0) false) := by rw [hf.2 1 (by simp) (by simp)]; rfl
  have hl := lt_get h1
  unfold l_rules_Game_Start_k1
  simp -implicitDefEqProofs only [go_sem, dnW_ite, reduceIte, Nat.reduceAdd, Nat.reduceLeDiff, Nat.reduceMul, Nat.reduceEqDiff, Int.reduceLT, Int.reduceLE, Int.reduceToNat, Nat.reduceSub, Nat.reduceLT, Int.reduceEq, BitVec.reduceOfInt, BitVec.reduceOfNat, Int.reduceGT, Int.reduceGE, Int.reduceBEq, Int.reduceBNe, Nat.reduceGT, Nat.reduceBEq, Nat.reduceBNe, Int.reduceAdd, Int.reduceSub, Int.reduceNeg, h1, h2, inb h1, sta_z, show isplice (isplice (stc Bd.z 0 0) 0 (bdc (hidB g.cells h48 H g.cells.length))) 97 [.int .u64 sd] = stc (g.bd0 h48 H) sd 0 from by rw [sta_sbd, sta_s97]; rfl]
  exact hK _ _ (frzE (by simp [ipure, ipureL, itup, sta_pure]) rfl)
theorem Start0_ok (g : Gm) (x y : IV) (h : GR g x y) (hr : g.right = false) (hw : ∀ c ∈ g.code, c.wf) (hb : g.code.length ≤ 9223372036854775807) (hv : IV) (sd : Int) :
    pc BI F_rules_Game_Start [.agg (gmc g x y), .int .u64 sd, hv] = some (.tup [.agg (stc Bd.z 0 0), nI 2]) := by
  refine pcE fn_rules_Game_Start rfl fun K hK => ?_
  have hg := gRight_ok g x y h hw hb
  rw [hr] at hg
  unfold l_rules_Game_Start
  simp -implicitDefEqProofs only [go_sem, dnW_ite, reduceIte, Nat.reduceAdd, Nat.reduceLeDiff, Nat.reduceMul, Nat.reduceEqDiff, Int.reduceLT, Int.reduceLE, Int.reduceToNat, Nat.reduceSub, Nat.reduceLT, Int.reduceEq, BitVec.reduceOfInt, BitVec.reduceOfNat, Int.reduceGT, Int.reduceGE, Int.reduceBEq, Int.reduceBNe, Nat.reduceGT, Nat.reduceBEq, Nat.reduceBNe, Int.reduceAdd, Int.reduceSub, Int.reduceNeg, h.one, sta_z, dcp hg (by simp [ipureL, ipure, h.pure])]
  exact hK _ _ (frzE (by simp [ipure, ipureL, itup, sta_pure]) rfl)
end Go.Proofs.Ytcdlipdeemlibaa.G
namespace Go.Proofs.Ytcdlipdeemlibaa.G
open Go
set_option linter.unusedSimpArgs false
set_option linter.unusedVariables false
attribute [go_sem] Nat.add_lt_add_iff_left Nat.add_left_cancel_iff Nat.lt_add_right_iff_pos Array.getElem?_push Array.getElem?_setIfInBounds
theorem gsE {J : JH} {b d : Nat} {X : IB} (e : b = d) (h : b < J.size) : (J.setIfInBounds b X)[d]? = some X := by subst e; exact set_get J h
theorem gsN {J : JH} {b d : Nat} {X : IB} {r : Option IB} (h : b ≠ d) (k : J[d]? = r) : (J.setIfInBounds b X)[d]? = r := by rw [Array.getElem?_setIfInBounds, if_neg h]; exact k
theorem gpN {J : JH} {d : Nat} {X : IB} {r : Option IB} (h : d < J.size) (k : J[d]? = r) : (J.push X)[d]? = r := by rw [Array.getElem?_push, if_neg (by omega)]; exact k
theorem gpE {J : JH} {d : Nat} {X : IB} (h : d = J.size) : (J.push X)[d]? = some X := by subst h; exact push_get J X
theorem Fr.psh {J J1 : JH} {S : List Nat} (h : Fr J J1 S) {X : IB} : Fr J (J1.push X) S := h.trans (Fr.push _ _ S) (fun _ _ h => h)
theorem Fr.stn {J J1 : JH} {S : List Nat} (h : Fr J J1 S) {b : Nat} {X : IB} (hb : J.size ≤ b) : Fr J (J1.setIfInBounds b X) S := ⟨by rw [Array.size_setIfInBounds]; exact h.1, fun d hd hn => by rw [Array.getElem?_setIfInBounds, if_neg (by omega)]; exact h.2 d hd hn⟩
theorem Fr.sts {J J1 : JH} {S : List Nat} (h : Fr J J1 S) {b : Nat} {X : IB} (hb : b ∈ S) : Fr J (J1.setIfInBounds b X) S := h.trans (Fr.set _ _ hb) (fun _ _ h => h)
def RawX (J : JH) (s : IV) (sz : Nat) (X : List (List IV)) : Prop := ∃ b v c, s = .sl b v 0 X.length c sz ∧ J[b]? = some (.cells v X.flatten false)
theorem RawX.fr {J J' : JH} {s : IV} {sz : Nat} {X : List (List IV)} {S : List Nat} (h : RawX J s sz X) (hf : Fr J J' S) (hs : ∀ d ∈ blk s, d ∉ S) : RawX J' s sz X := by
  obtain ⟨b, v, c, rfl, hb⟩ := h
  exact ⟨b, v, c, rfl, by rw [hf.2 b (lt_get hb) (hs b (by simp [blk, blkOf]))]; exact hb⟩
theorem RawX.low {J : JH} {s : IV} {sz : Nat} {X : List (List IV)} (h : RawX J s sz X) : ∀ d ∈ blk s, d < J.size := by
  obtain ⟨b, v, c, rfl, hb⟩ := h
  intro d hd; simp [blk, blkOf] at hd; subst hd; exact lt_get hb
theorem RawX.lenF {J : JH} {s : IV} {sz : Nat} {X : List (List IV)} (h : RawX J s sz X) (J2 : JH) : Go.Proofs.Ytcdlipdeemlibaa.G.lenF false s J2 = some (nI X.length, J2) := by
  obtain ⟨b, v, c, rfl, hb⟩ := h; rfl
theorem RawX.rd {J : JH} {b v c sz : Nat} {X : List (List IV)} (hb : J[b]? = some (.cells v X.flatten false)) (hX : ∀ x ∈ X, x.length = sz) : ird J b v 0 (X.length * sz) = some X.flatten := by
  have hl := flat_len hX
  simp only [ird, hb, true_and, Nat.zero_add, List.drop_zero]
  rw [if_pos (by omega), List.take_of_length_le (by omega)]
theorem RawX.frz {J : JH} {s : IV} {sz : Nat} {X : List (List IV)} (h : RawX J s sz X) (hsz : 0 < sz) (hX : ∀ x ∈ X, x.length = sz) (hp : ipureL X.flatten = true) (ho : X.flatten.all ione = true) : ∃ u, (∀ k, Go.Proofs.Ytcdlipdeemlibaa.G.frz J (k + 1) s = some u) ∧ Ls sz u (X.map (mkE sz)) := by
  obtain ⟨b, v, c, rfl, hb⟩ := h
  refine ⟨_, fun k => frz_sl hsz (RawX.rd (c := c) hb hX) hp ho, ?_⟩
  rw [grp_flat hX]; exact .lst
theorem RawX.shows {J : JH} {s : IV} {sz : Nat} {X : List (List IV)} (h : RawX J s sz X) (hX : ∀ x ∈ X, x.length = sz) (hp : ipureL X.flatten = true) : ∀ d ∈ Go.Proofs.Ytcdlipdeemlibaa.G.shows J DEP s, d ∈ blk s := by
  obtain ⟨b, v, c, rfl, hb⟩ := h
  intro d hd
  rw [frz12, shows_sl (RawX.rd (c := c) hb hX) hp] at hd
  exact hd
inductive FA (J : JH) (S : List Nat) : List IV → List IV → Prop where
  | nil : FA J S [] []
  | pure {v : IV} {vs us : List IV} : ipure v = true → FA J S vs us → FA J S (v :: vs) (v :: us)
  | raw {v u : IV} {vs us : List IV} : frz J DEP v = some u → (∀ d ∈ shows J DEP v, d ∈ S) → FA J S vs us → FA J S (v :: vs) (u :: us)
theorem FA.mapM {J : JH} {S : List Nat} {vs us : List IV} (h : FA J S vs us) : vs.mapM (frz J DEP) = some us := by
  induction h with
  | nil => rfl
  | pure hv _ ih => rw [List.mapM_cons, frz_pure J _ hv, ih]; rfl
  | raw hv _ _ ih => rw [List.mapM_cons, hv, ih]; rfl
theorem FA.shown {J : JH} {S : List Nat} {vs us : List IV} (h : FA J S vs us) : ∀ d ∈ vs.flatMap (shows J DEP), d ∈ S := by
  induction h with
  | nil => simp
  | pure hv _ ih => rw [List.flatMap_cons, shows_pure J _ hv]; exact ih
  | raw _ hs _ ih =>
    intro d hd
    rw [List.flatMap_cons] at hd
    rcases List.mem_append.1 hd with hd | hd
    · exact hs d hd
    · exact ih d hd
theorem WP_callG {f : FuncId} {args as : List IV} {u : IV} {J : JH} {k : L} {ρ : List IV} {P} {S : List Nat} (ha : FA J S args as) (hp : pc BI f as = some u) (hk : ∀ J', Fr J J' S → J'.size = J.size → WP (dn BI k (ρ ++ [u]) J') P) : WP (thenD (doCall (ic BI) .pure f args J) k ρ) P :=
  WP_callF S ha.mapM hp ha.shown hk
def KeepC (J J' : JH) : Prop := ∀ (d w : Nat) (cs : List IV) (f : Bool), J[d]? = some (IB.cells w cs f) → ∃ f', J'[d]? = some (IB.cells w cs f')
theorem KeepC.refl (J : JH) : KeepC J J := fun d w cs f h => ⟨f, h⟩
theorem KeepC.mark (J : JH) (l : List Nat) : KeepC J (markA J l) := fun d w cs f h => by
  rw [markA_get]
  by_cases hm : d ∈ l
  · rw [if_pos hm, h]; exact ⟨true, rfl⟩
  · rw [if_neg hm, h]; exact ⟨f, rfl⟩
theorem KeepC.rd {J J' : JH} (h : KeepC J J') {b v off n : Nat} {cs : List IV} (hr : ird J b v off n = some cs) : ird J' b v off n = some cs := by
  unfold ird at hr ⊢
  cases hb : J[b]? with
  | none => rw [hb] at hr; simp at hr
  | some X =>
    rw [hb] at hr
    cases X with
    | cells w c f =>
      obtain ⟨f', hf⟩ := h b w c f hb
      rw [hf]; exact hr
    | map _ _ => simp at hr
theorem KeepC.cells {J J' : JH} (h : KeepC J J') {sz : Nat} {x : IV} {cs : List IV} (hr : iscells J sz x = some cs) : iscells J' sz x = some cs := by
  unfold iscells at hr ⊢
  split at hr
  · exact hr
  · exact h.rd hr
  · exact hr
  · cases hr
theorem WP_callK {f : FuncId} {args as : List IV} {u : IV} {J : JH} {k : L} {ρ : List IV} {P} {S : List Nat} (ha : FA J S args as) (hp : pc BI f as = some u) (hk : ∀ J', Fr J J' S → J'.size = J.size → KeepC J J' → WP (dn BI k (ρ ++ [u]) J') P) : WP (thenD (doCall (ic BI) .pure f args J) k ρ) P := by
  rw [dcf ha.mapM hp]
  by_cases h : iscal u = true
  · rw [if_pos h]; exact hk J (.refl _ _) rfl (.refl _)
  · rw [if_neg h]; exact hk _ (.mark _ _ _ ha.shown) (markA_size _ _) (.mark _ _)
def ones (κ : IntKind) (l : List Int) : List (List IV) := l.map fun v => [IV.int κ v]
theorem ones_len (κ l) : (ones κ l).length = l.length := by simp [ones]
theorem ones_1 (κ l) : ∀ x ∈ ones κ l, x.length = 1 := by
  intro x hx; obtain ⟨v, _, rfl⟩ := List.mem_map.1 hx; rfl
theorem ones_flat (κ l) : (ones κ l).flatten = l.map (IV.int κ) := by
  induction l with
  | nil => rfl
  | cons a l ih => simp only [ones, List.map_cons, List.flatten_cons] at ih ⊢; rw [ih]; rfl
theorem ones_mk (κ l) : (ones κ l).map (mkE 1) = l.map (IV.int κ) := by rw [ones, List.map_map]; rfl
end Go.Proofs.Ytcdlipdeemlibaa.G
namespace Go.Proofs.Ytcdlipdeemlibaa.G
open Go
set_option linter.unusedSimpArgs false
set_option linter.unusedVariables false
set_option maxRecDepth 20000
set_option maxHeartbeats 2000000
theorem hid_succ (C : List Cl) (H : List Int) {i : Nat} (h : i < C.length) : hid (C.take (i + 1)) H = hidS (hid (C.take i) H) C[i] := foldl_take_succ' _ _ _ h _
theorem agg2_eq (a : Int) (s : BitVec 32) : iaggEq [.int .i32 a, m32 s] [.int .i32 a, m32 s] = some true := by simp [iaggEq]
theorem few_len (g : Gm) : g.few.cells.length ≤ 55 ∧ g.few.code.length ≤ 100 := by simp [Gm.few]; omega
theorem few_wf {g : Gm} (h : ∀ c ∈ g.code, c.wf) : ∀ c ∈ g.few.code, c.wf := fun c hc => h c (List.mem_of_mem_take hc)
theorem few_I32 {g : Gm} (h : ∀ c ∈ g.cells, I32 c.v) : ∀ c ∈ g.few.cells, I32 c.v := fun c hc => h c (List.mem_of_mem_take hc)
end Go.Proofs.Ytcdlipdeemlibaa.G
namespace Go.Proofs.Ytcdlipdeemlibaa.G
open Go
set_option linter.unusedSimpArgs false
set_option linter.unusedVariables false
set_option maxRecDepth 20000
set_option maxHeartbeats 2000000
theorem evI_str {ρ : List IV} {s : ByteArray} : evI ρ (.const (.string s)) = .sc (.string s) := rfl
attribute [go_sem] evI_str
def letF (k c : Nat) : Bool := match c with
  | 65 => (useOf k).1
  | 66 => (useOf k).2.1
  | 67 => (useOf k).2.2.1
  | 75 => (useOf k).2.2.2.2
  | 114 => (useOf k).2.2.2.1 == 6
  | 110 => (useOf k).2.2.2.1 == 1
  | 99 => (useOf k).2.2.2.1 == 2
  | 112 => (useOf k).2.2.2.1 == 3
  | 109 => (useOf k).2.2.2.1 == 4
  | _ => (useOf k).2.2.2.1 == 5
noncomputable def evPc (n : Nat) (f : FuncId) (args : List IV) : Option IV := match icall BI n f args #[] with | some (v, J) => frz J DEP v | none => none
theorem pc_ev {n : Nat} {f : FuncId} {args : List IV} {u : IV} (h : evPc n f args = some u) : pc BI f args = some u := pcK n h
def letters : List Nat := [65, 66, 67, 75, 114, 110, 99, 112, 109, 115]
noncomputable def checkHas (u : ByteArray) (k c : Nat) : Bool := match evPc 40 F_ref08_has [.sc (.string u), .int .u8 (c : Int)] with | some (.sc (.bool b)) => b == letF k c | _ => false
noncomputable def checkOp (k : Nat) : Bool := match evPc 40 F_ref08_Parts [.int .u8 (k : Int)] with
  | some (.tup [.sc (.string w), .sc (.string u)]) => !(w.toList == (⟨#[]⟩ : ByteArray).toList) && letters.all (checkHas u k)
  | _ => false
theorem ops_ok : (List.range 26).all checkOp = true := by kernel_rfl
theorem checkHas_ok {u : ByteArray} {k c : Nat} (h : checkHas u k c = true) : pc BI F_ref08_has [.sc (.string u), .int .u8 (c : Int)] = some (.bool (letF k c)) := by
  unfold checkHas at h
  split at h
  · rename_i b hb
    rw [pc_ev hb]
    simp only [beq_iff_eq] at h
    rw [h]
  · cases h
theorem parts_ok (k : Nat) (h : k < 26) : ∃ w u : ByteArray, pc BI F_ref08_Parts [.int .u8 (k : Int)] = some (.tup [.sc (.string w), .sc (.string u)]) ∧ (w.toList == (⟨#[]⟩ : ByteArray).toList) = false ∧ ∀ c ∈ letters, pc BI F_ref08_has [.sc (.string u), .int .u8 (c : Int)] = some (.bool (letF k c)) := by
  have h1 := List.all_eq_true.1 ops_ok k (by simpa using h)
  unfold checkOp at h1
  split at h1
  · rename_i w u he
    simp only [Bool.and_eq_true, Bool.not_eq_true', List.all_eq_true] at h1
    exact ⟨w, u, pc_ev he, h1.1, fun c hc => checkHas_ok (h1.2 c hc)⟩
  · cases h1
noncomputable def checkTab : Bool := match evPc 20 F_ref08_Table [] with | some (.lst 1 true xs) => xs.length == 26 | _ => false
theorem parts_out (k : Nat) (h : 25 < k) (h2 : k < 256) : pc BI F_ref08_Parts [.int .u8 (k : Int)] = some (.tup [.sc (.string ⟨#[]⟩), .sc (.string ⟨#[]⟩)]) := by
  have ht : ∃ xs, pc BI F_ref08_Table [] = some (.lst 1 true xs) ∧ xs.length = 26 := by
    have h1 : checkTab = true := by kernel_rfl
    unfold checkTab at h1
    split at h1
    · rename_i xs he
      exact ⟨xs, pc_ev he, by simpa using h1⟩
    · cases h1
  obtain ⟨xs, hx, hl⟩ := ht
  refine pcE fn_ref08_Parts rfl fun K hK => ?_
  unfold l_ref08_Parts
  simp -implicitDefEqProofs only [go_sem, dnW_ite, reduceIte, Nat.reduceAdd, Nat.reduceLeDiff, Nat.reduceMul, Nat.reduceEqDiff, Int.reduceLT, Int.reduceLE, Int.reduceToNat, Nat.reduceSub, Nat.reduceLT, Int.reduceEq, BitVec.reduceOfInt, BitVec.reduceOfNat, Int.reduceGT, Int.reduceGE, Int.reduceBEq, Int.reduceBNe, Nat.reduceGT, Nat.reduceBEq, Nat.reduceBNe, Int.reduceAdd, Int.reduceSub, Int.reduceNeg, dcp hx rfl, wrap_i64 (x := (k : Int)) (by omega) (by omega), hl, show (k : Int) ≥ ((26 : Nat) : Int) by omega]
  exact hK _ _ (frzE rfl rfl)
theorem gt0 (a : Nat) : ((a : Int) > 0) = (0 < a) := by simp
theorem gt7 (a : Nat) : ((a : Int) > 7) = (7 < a) := by simp; omega
theorem mgt0 (m : BitVec 32) : ((m.toNat : Int) > 0) = (m ≠ 0#32) := by
  simp only [eq_iff_iff]
  constructor
  · intro h e; subst e; simp at h
  · intro h
    have : m.toNat ≠ 0 := fun e => h (BitVec.eq_of_toNat_eq (by simpa using e))
    omega
theorem rRight_k0 (x : Cd) (u : ByteArray) (size cells players : Nat) (hL : ∀ c ∈ letters, pc BI F_ref08_has [.sc (.string u), .int .u8 (c : Int)] = some (.bool (letF x.op c))) (h6 : (useOf x.op).2.2.2.1 ≠ 6) (J : JH) :
    dn BI l_ref08_Right_k0 [nI size, nI cells, nI players, .sc (.string u), .int .i64 x.n] J = some (.ret [.bool (nOk (useOf x.op).2.2.2.1 x.n size cells players)], J) := by
  have q1 : pc BI F_ref08_has [.sc (.string u), .int .u8 110] = _ := hL 110 (by decide)
  have q2 : pc BI F_ref08_has [.sc (.string u), .int .u8 99] = _ := hL 99 (by decide)
  have q3 : pc BI F_ref08_has [.sc (.string u), .int .u8 112] = _ := hL 112 (by decide)
  have q4 : pc BI F_ref08_has [.sc (.string u), .int .u8 109] = _ := hL 109 (by decide)
  have q5 : pc BI F_ref08_has [.sc (.string u), .int .u8 115] = _ := hL 115 (by decide)
  simp only [letF] at q1 q2 q3 q4 q5
  have hle := use_le x.op
  generalize (useOf x.op).2.2.2.1 = k at *
  unfold l_ref08_Right_k0
  rcases (show k = 0 ∨ k = 1 ∨ k = 2 ∨ k = 3 ∨ k = 4 ∨ k = 5 by omega) with rfl | rfl | rfl | rfl | rfl | rfl
  · simp -implicitDefEqProofs only [go_sem, dnW_ite, reduceIte, Nat.reduceAdd, Nat.reduceLeDiff, Nat.reduceMul, Nat.reduceEqDiff, Int.reduceLT, Int.reduceLE, Int.reduceToNat, Nat.reduceSub, Nat.reduceLT, Int.reduceEq, BitVec.reduceOfInt, BitVec.reduceOfNat, Int.reduceGT, Int.reduceGE, Int.reduceBEq, Int.reduceBNe, Nat.reduceGT, Nat.reduceBEq, Nat.reduceBNe, Int.reduceAdd, Int.reduceSub, Int.reduceNeg, dcp q1 rfl, dcp q2 rfl, dcp q3 rfl, dcp q4 rfl, dcp q5 rfl]
    rfl
  · simp -implicitDefEqProofs only [go_sem, dnW_ite, reduceIte, Nat.reduceAdd, Nat.reduceLeDiff, Nat.reduceMul, Nat.reduceEqDiff, Int.reduceLT, Int.reduceLE, Int.reduceToNat, Nat.reduceSub, Nat.reduceLT, Int.reduceEq, BitVec.reduceOfInt, BitVec.reduceOfNat, Int.reduceGT, Int.reduceGE, Int.reduceBEq, Int.reduceBNe, Nat.reduceGT, Nat.reduceBEq, Nat.reduceBNe, Int.reduceAdd, Int.reduceSub, Int.reduceNeg, dcp q1 rfl, dcp q2 rfl, dcp q3 rfl, dcp q4 rfl, dcp q5 rfl]
    rfl
  · by_cases h0 : x.n ≥ 0
    · simp -implicitDefEqProofs only [go_sem, dnW_ite, reduceIte, Nat.reduceAdd, Nat.reduceLeDiff, Nat.reduceMul, Nat.reduceEqDiff, Int.reduceLT, Int.reduceLE, Int.reduceToNat, Nat.reduceSub, Nat.reduceLT, Int.reduceEq, BitVec.reduceOfInt, BitVec.reduceOfNat, Int.reduceGT, Int.reduceGE, Int.reduceBEq, Int.reduceBNe, Nat.reduceGT, Nat.reduceBEq, Nat.reduceBNe, Int.reduceAdd, Int.reduceSub, Int.reduceNeg, dcp q1 rfl, dcp q2 rfl, dcp q3 rfl, dcp q4 rfl, dcp q5 rfl, h0]
      simp [nOk, show 0 ≤ x.n by omega]
    · simp -implicitDefEqProofs only [go_sem, dnW_ite, reduceIte, Nat.reduceAdd, Nat.reduceLeDiff, Nat.reduceMul, Nat.reduceEqDiff, Int.reduceLT, Int.reduceLE, Int.reduceToNat, Nat.reduceSub, Nat.reduceLT, Int.reduceEq, BitVec.reduceOfInt, BitVec.reduceOfNat, Int.reduceGT, Int.reduceGE, Int.reduceBEq, Int.reduceBNe, Nat.reduceGT, Nat.reduceBEq, Nat.reduceBNe, Int.reduceAdd, Int.reduceSub, Int.reduceNeg, dcp q1 rfl, dcp q2 rfl, dcp q3 rfl, dcp q4 rfl, dcp q5 rfl, h0]
      simp [nOk, show ¬ 0 ≤ x.n by omega]
  · by_cases h0 : x.n ≥ 0
    · simp -implicitDefEqProofs only [go_sem, dnW_ite, reduceIte, Nat.reduceAdd, Nat.reduceLeDiff, Nat.reduceMul, Nat.reduceEqDiff, Int.reduceLT, Int.reduceLE, Int.reduceToNat, Nat.reduceSub, Nat.reduceLT, Int.reduceEq, BitVec.reduceOfInt, BitVec.reduceOfNat, Int.reduceGT, Int.reduceGE, Int.reduceBEq, Int.reduceBNe, Nat.reduceGT, Nat.reduceBEq, Nat.reduceBNe, Int.reduceAdd, Int.reduceSub, Int.reduceNeg, dcp q1 rfl, dcp q2 rfl, dcp q3 rfl, dcp q4 rfl, dcp q5 rfl, h0]
      simp [nOk, show 0 ≤ x.n by omega]
    · simp -implicitDefEqProofs only [go_sem, dnW_ite, reduceIte, Nat.reduceAdd, Nat.reduceLeDiff, Nat.reduceMul, Nat.reduceEqDiff, Int.reduceLT, Int.reduceLE, Int.reduceToNat, Nat.reduceSub, Nat.reduceLT, Int.reduceEq, BitVec.reduceOfInt, BitVec.reduceOfNat, Int.reduceGT, Int.reduceGE, Int.reduceBEq, Int.reduceBNe, Nat.reduceGT, Nat.reduceBEq, Nat.reduceBNe, Int.reduceAdd, Int.reduceSub, Int.reduceNeg, dcp q1 rfl, dcp q2 rfl, dcp q3 rfl, dcp q4 rfl, dcp q5 rfl, h0]
      simp [nOk, show ¬ 0 ≤ x.n by omega]
  · by_cases h0 : x.n ≥ 0
    · simp -implicitDefEqProofs only [go_sem, dnW_ite, reduceIte, Nat.reduceAdd, Nat.reduceLeDiff, Nat.reduceMul, Nat.reduceEqDiff, Int.reduceLT, Int.reduceLE, Int.reduceToNat, Nat.reduceSub, Nat.reduceLT, Int.reduceEq, BitVec.reduceOfInt, BitVec.reduceOfNat, Int.reduceGT, Int.reduceGE, Int.reduceBEq, Int.reduceBNe, Nat.reduceGT, Nat.reduceBEq, Nat.reduceBNe, Int.reduceAdd, Int.reduceSub, Int.reduceNeg, dcp q1 rfl, dcp q2 rfl, dcp q3 rfl, dcp q4 rfl, dcp q5 rfl, h0]
      simp [nOk, show 0 ≤ x.n by omega]
    · simp -implicitDefEqProofs only [go_sem, dnW_ite, reduceIte, Nat.reduceAdd, Nat.reduceLeDiff, Nat.reduceMul, Nat.reduceEqDiff, Int.reduceLT, Int.reduceLE, Int.reduceToNat, Nat.reduceSub, Nat.reduceLT, Int.reduceEq, BitVec.reduceOfInt, BitVec.reduceOfNat, Int.reduceGT, Int.reduceGE, Int.reduceBEq, Int.reduceBNe, Nat.reduceGT, Nat.reduceBEq, Nat.reduceBNe, Int.reduceAdd, Int.reduceSub, Int.reduceNeg, dcp q1 rfl, dcp q2 rfl, dcp q3 rfl, dcp q4 rfl, dcp q5 rfl, h0]
      simp [nOk, show ¬ 0 ≤ x.n by omega]
  · simp -implicitDefEqProofs only [go_sem, dnW_ite, reduceIte, Nat.reduceAdd, Nat.reduceLeDiff, Nat.reduceMul, Nat.reduceEqDiff, Int.reduceLT, Int.reduceLE, Int.reduceToNat, Nat.reduceSub, Nat.reduceLT, Int.reduceEq, BitVec.reduceOfInt, BitVec.reduceOfNat, Int.reduceGT, Int.reduceGE, Int.reduceBEq, Int.reduceBNe, Nat.reduceGT, Nat.reduceBEq, Nat.reduceBNe, Int.reduceAdd, Int.reduceSub, Int.reduceNeg, dcp q1 rfl, dcp q2 rfl, dcp q3 rfl, dcp q4 rfl, dcp q5 rfl]
    simp only [nOk]; congr 5
theorem rRight_k2 (x : Cd) (hx : x.wf) (u : ByteArray) (size cells players : Nat) (hc : cells ≤ 1000000) (hL : ∀ c ∈ letters, pc BI F_ref08_has [.sc (.string u), .int .u8 (c : Int)] = some (.bool (letF x.op c))) (v : Nat) (p : Nat) (J : JH) (hJ : J[p]? = some (.cells v x.cs false)) (hop : x.op ≤ 25) :
    dn BI l_ref08_Right_k2 [nI size, nI cells, nI players, .ptr p v 0, .sc (.string u)] J = some (.ret [.bool (if (useOf x.op).2.2.2.1 = 6 then (decide (1 ≤ x.c) && decide (x.c ≤ 48)) && decide (0 ≤ x.n) && decide (x.n + x.c ≤ cells) else regOk (useOf x.op).2.2.1 x.c && nOk (useOf x.op).2.2.2.1 x.n size cells players)], J) := by
  have q1 : pc BI F_ref08_has [.sc (.string u), .int .u8 114] = _ := hL 114 (by decide)
  have q2 : pc BI F_ref08_has [.sc (.string u), .int .u8 67] = _ := hL 67 (by decide)
  simp only [letF] at q1 q2
  obtain ⟨w1, w2, w3, w4, w5, w6⟩ := hx
  have e1 : IntKind.i64.wrap x.n = x.n := wrap_i64 (by omega) (by omega)
  have e2 : IntKind.i64.wrap (x.c : Int) = x.c := wrap_i64 (by omega) (by omega)
  have e3 : IntKind.i64.wrap (x.n + x.c) = x.n + x.c := wrap_i64 (by omega) (by omega)
  simp only [Cd.cs] at hJ
  unfold l_ref08_Right_k2
  by_cases h6 : (useOf x.op).2.2.2.1 = 6
  · have h6' : ((useOf x.op).2.2.2.1 == 6) = true := by simpa using h6
    rw [h6'] at q1
    rw [if_pos h6]
    by_cases a0 : 0 < x.c
    · by_cases a1 : (x.c : Int) < 49
      · by_cases a2 : x.n ≥ 0
        · by_cases a3 : x.n < (cells : Int)
          · simp -implicitDefEqProofs only [go_sem, dnW_ite, reduceIte, Nat.reduceAdd, Nat.reduceLeDiff, Nat.reduceMul, Nat.reduceEqDiff, Int.reduceLT, Int.reduceLE, Int.reduceToNat, Nat.reduceSub, Nat.reduceLT, Int.reduceEq, BitVec.reduceOfInt, BitVec.reduceOfNat, Int.reduceGT, Int.reduceGE, Int.reduceBEq, Int.reduceBNe, Nat.reduceGT, Nat.reduceBEq, Nat.reduceBNe, Int.reduceAdd, Int.reduceSub, Int.reduceNeg, hJ, e1, e2, e3, dcp q1 rfl, gt0, a0, a1, a2, a3]
            all_goals simp [show 1 ≤ x.c by omega, show x.c ≤ 48 by omega, show 0 ≤ x.n by omega]
          · simp -implicitDefEqProofs only [go_sem, dnW_ite, reduceIte, Nat.reduceAdd, Nat.reduceLeDiff, Nat.reduceMul, Nat.reduceEqDiff, Int.reduceLT, Int.reduceLE, Int.reduceToNat, Nat.reduceSub, Nat.reduceLT, Int.reduceEq, BitVec.reduceOfInt, BitVec.reduceOfNat, Int.reduceGT, Int.reduceGE, Int.reduceBEq, Int.reduceBNe, Nat.reduceGT, Nat.reduceBEq, Nat.reduceBNe, Int.reduceAdd, Int.reduceSub, Int.reduceNeg, hJ, e1, e2, e3, dcp q1 rfl, gt0, a0, a1, a2, a3]
            all_goals simp [show ¬ (x.n + x.c ≤ (cells : Int)) by omega]
        · simp -implicitDefEqProofs only [go_sem, dnW_ite, reduceIte, Nat.reduceAdd, Nat.reduceLeDiff, Nat.reduceMul, Nat.reduceEqDiff, Int.reduceLT, Int.reduceLE, Int.reduceToNat, Nat.reduceSub, Nat.reduceLT, Int.reduceEq, BitVec.reduceOfInt, BitVec.reduceOfNat, Int.reduceGT, Int.reduceGE, Int.reduceBEq, Int.reduceBNe, Nat.reduceGT, Nat.reduceBEq, Nat.reduceBNe, Int.reduceAdd, Int.reduceSub, Int.reduceNeg, hJ, e1, e2, e3, dcp q1 rfl, gt0, a0, a1, a2]
          all_goals simp [show ¬ (0 ≤ x.n) by omega]
      · simp -implicitDefEqProofs only [go_sem, dnW_ite, reduceIte, Nat.reduceAdd, Nat.reduceLeDiff, Nat.reduceMul, Nat.reduceEqDiff, Int.reduceLT, Int.reduceLE, Int.reduceToNat, Nat.reduceSub, Nat.reduceLT, Int.reduceEq, BitVec.reduceOfInt, BitVec.reduceOfNat, Int.reduceGT, Int.reduceGE, Int.reduceBEq, Int.reduceBNe, Nat.reduceGT, Nat.reduceBEq, Nat.reduceBNe, Int.reduceAdd, Int.reduceSub, Int.reduceNeg, hJ, e1, e2, e3, dcp q1 rfl, gt0, a0, a1]
        all_goals simp [show ¬ (x.c ≤ 48) by omega]
    · simp -implicitDefEqProofs only [go_sem, dnW_ite, reduceIte, Nat.reduceAdd, Nat.reduceLeDiff, Nat.reduceMul, Nat.reduceEqDiff, Int.reduceLT, Int.reduceLE, Int.reduceToNat, Nat.reduceSub, Nat.reduceLT, Int.reduceEq, BitVec.reduceOfInt, BitVec.reduceOfNat, Int.reduceGT, Int.reduceGE, Int.reduceBEq, Int.reduceBNe, Nat.reduceGT, Nat.reduceBEq, Nat.reduceBNe, Int.reduceAdd, Int.reduceSub, Int.reduceNeg, hJ, e1, e2, e3, dcp q1 rfl, gt0, a0]
      all_goals simp [show ¬ (1 ≤ x.c) by omega]
  · have h6' : ((useOf x.op).2.2.2.1 == 6) = false := by simpa using h6
    rw [h6'] at q1
    rw [if_neg h6]
    have hk := rRight_k0 x u size cells players hL h6 J
    unfold l_ref08_Right_k1
    by_cases a0 : 0 < x.c
    · cases hu : (useOf x.op).2.2.1 with
      | false =>
        rw [hu] at q2
        simp -implicitDefEqProofs only [go_sem, dnW_ite, reduceIte, Nat.reduceAdd, Nat.reduceLeDiff, Nat.reduceMul, Nat.reduceEqDiff, Int.reduceLT, Int.reduceLE, Int.reduceToNat, Nat.reduceSub, Nat.reduceLT, Int.reduceEq, BitVec.reduceOfInt, BitVec.reduceOfNat, Int.reduceGT, Int.reduceGE, Int.reduceBEq, Int.reduceBNe, Nat.reduceGT, Nat.reduceBEq, Nat.reduceBNe, Int.reduceAdd, Int.reduceSub, Int.reduceNeg, hJ, e1, e2, dcp q1 rfl, dcp q2 rfl, gt0, a0]
        all_goals simp [regOk, show ¬ (x.c = 0) by omega]
      | true =>
        rw [hu] at q2
        by_cases a1 : 7 < x.c
        · simp -implicitDefEqProofs only [go_sem, dnW_ite, reduceIte, Nat.reduceAdd, Nat.reduceLeDiff, Nat.reduceMul, Nat.reduceEqDiff, Int.reduceLT, Int.reduceLE, Int.reduceToNat, Nat.reduceSub, Nat.reduceLT, Int.reduceEq, BitVec.reduceOfInt, BitVec.reduceOfNat, Int.reduceGT, Int.reduceGE, Int.reduceBEq, Int.reduceBNe, Nat.reduceGT, Nat.reduceBEq, Nat.reduceBNe, Int.reduceAdd, Int.reduceSub, Int.reduceNeg, hJ, e1, e2, dcp q1 rfl, dcp q2 rfl, gt0, gt7, a0, a1]
          all_goals simp [regOk, show ¬ (x.c = 0) by omega, show ¬ (x.c < 8) by omega]
        · simp -implicitDefEqProofs only [go_sem, dnW_ite, reduceIte, Nat.reduceAdd, Nat.reduceLeDiff, Nat.reduceMul, Nat.reduceEqDiff, Int.reduceLT, Int.reduceLE, Int.reduceToNat, Nat.reduceSub, Nat.reduceLT, Int.reduceEq, BitVec.reduceOfInt, BitVec.reduceOfNat, Int.reduceGT, Int.reduceGE, Int.reduceBEq, Int.reduceBNe, Nat.reduceGT, Nat.reduceBEq, Nat.reduceBNe, Int.reduceAdd, Int.reduceSub, Int.reduceNeg, hJ, e1, e2, dcp q1 rfl, dcp q2 rfl, gt0, gt7, a0, a1, hk]
          all_goals simp [regOk, show (x.c < 8) by omega]
    · simp -implicitDefEqProofs only [go_sem, dnW_ite, reduceIte, Nat.reduceAdd, Nat.reduceLeDiff, Nat.reduceMul, Nat.reduceEqDiff, Int.reduceLT, Int.reduceLE, Int.reduceToNat, Nat.reduceSub, Nat.reduceLT, Int.reduceEq, BitVec.reduceOfInt, BitVec.reduceOfNat, Int.reduceGT, Int.reduceGE, Int.reduceBEq, Int.reduceBNe, Nat.reduceGT, Nat.reduceBEq, Nat.reduceBNe, Int.reduceAdd, Int.reduceSub, Int.reduceNeg, hJ, e1, e2, dcp q1 rfl, dcp q2 rfl, gt0, a0, hk]
      all_goals simp [regOk, show x.c = 0 by omega]
theorem rRight_ok (x : Cd) (hx : x.wf) (size cells players : Nat) (hs : size ≤ 1000000) (hc : cells ≤ 1000000) (hp : players ≤ 1000000) :
    pc BI F_ref08_Right [x.e, nI size, nI cells, nI players] = some (.bool (x.right size cells players)) := by
  refine pcE fn_ref08_Right rfl fun K hK => ?_
  have hx' := hx
  obtain ⟨w1, w2, w3, w4, w5, w6⟩ := hx
  unfold l_ref08_Right Cd.e
  by_cases hop : x.op ≤ 25
  · obtain ⟨w, u, hpt, hw, hL⟩ := parts_ok x.op (by omega)
    have qA : pc BI F_ref08_has [.sc (.string u), .int .u8 65] = _ := hL 65 (by decide)
    have qB : pc BI F_ref08_has [.sc (.string u), .int .u8 66] = _ := hL 66 (by decide)
    have qK : pc BI F_ref08_has [.sc (.string u), .int .u8 75] = _ := hL 75 (by decide)
    simp only [letF] at qA qB qK
    have hk := rRight_k2 x hx' u size cells players hc hL 0 0 (#[IB.cells 0 x.cs false]) rfl hop
    simp only [Cd.cs] at hk
    have hR : x.right size cells players = ((regOk (useOf x.op).1 x.a && regOk (useOf x.op).2.1 x.b && ((useOf x.op).2.2.2.2 || x.mask == 0#32)) && (if (useOf x.op).2.2.2.1 = 6 then (decide (1 ≤ x.c) && decide (x.c ≤ 48)) && decide (0 ≤ x.n) && decide (x.n + x.c ≤ cells) else regOk (useOf x.op).2.2.1 x.c && nOk (useOf x.op).2.2.2.1 x.n size cells players)) := by
      unfold Cd.right
      rw [if_neg (by omega)]
      by_cases h6 : (useOf x.op).2.2.2.1 = 6
      · have : x.op = 24 := by
          revert h6
          have : ∀ k < 26, (useOf k).2.2.2.1 = 6 → k = 24 := by decide
          exact this x.op (by omega)
        rw [if_pos h6, if_pos h6, this]
        simp only [useOf, regOk, Bool.false_and, Bool.or_false, Bool.false_or]
        cases (x.a == 0) <;> cases (x.b == 0) <;> cases (x.mask == 0#32) <;> simp
      · rw [if_neg h6, if_neg h6]
        cases regOk (useOf x.op).1 x.a <;> cases regOk (useOf x.op).2.1 x.b <;> cases regOk (useOf x.op).2.2.1 x.c <;> cases ((useOf x.op).2.2.2.2 || x.mask == 0#32) <;> cases nOk (useOf x.op).2.2.2.1 x.n size cells players <;> rfl
    generalize (if (useOf x.op).2.2.2.1 = 6 then (decide (1 ≤ x.c) && decide (x.c ≤ 48)) && decide (0 ≤ x.n) && decide (x.n + x.c ≤ cells) else regOk (useOf x.op).2.2.1 x.c && nOk (useOf x.op).2.2.2.1 x.n size cells players) = rest at hR hk
    rw [hR] at hK
    generalize (useOf x.op).1 = ua at *
    generalize (useOf x.op).2.1 = ub at *
    generalize (useOf x.op).2.2.2.2 = um at *
    have fin : ∀ b J', b = ((regOk ua x.a && regOk ub x.b && (um || x.mask == 0#32)) && rest) → K (.ret [.bool b]) J' := fun b J' h => hK _ _ (frzE rfl (by rw [h]; rfl))
    by_cases a0 : 0 < x.a
    · cases hua : ua with
      | false =>
        rw [hua] at qA
        simp -implicitDefEqProofs only [go_sem, dnW_ite, reduceIte, Nat.reduceAdd, Nat.reduceLeDiff, Nat.reduceMul, Nat.reduceEqDiff, Int.reduceLT, Int.reduceLE, Int.reduceToNat, Nat.reduceSub, Nat.reduceLT, Int.reduceEq, BitVec.reduceOfInt, BitVec.reduceOfNat, Int.reduceGT, Int.reduceGE, Int.reduceBEq, Int.reduceBNe, Nat.reduceGT, Nat.reduceBEq, Nat.reduceBNe, Int.reduceAdd, Int.reduceSub, Int.reduceNeg, Cd.cs, dcp hpt rfl, hw, gt0, gt7, dcp qA rfl, dcp qB rfl, dcp qK rfl, hk, a0]
        refine fin _ _ ?_; simp [regOk, show ¬ (x.a = 0) by omega, hua]
      | true =>
        rw [hua] at qA
        by_cases a7 : 7 < x.a
        · simp -implicitDefEqProofs only [go_sem, dnW_ite, reduceIte, Nat.reduceAdd, Nat.reduceLeDiff, Nat.reduceMul, Nat.reduceEqDiff, Int.reduceLT, Int.reduceLE, Int.reduceToNat, Nat.reduceSub, Nat.reduceLT, Int.reduceEq, BitVec.reduceOfInt, BitVec.reduceOfNat, Int.reduceGT, Int.reduceGE, Int.reduceBEq, Int.reduceBNe, Nat.reduceGT, Nat.reduceBEq, Nat.reduceBNe, Int.reduceAdd, Int.reduceSub, Int.reduceNeg, Cd.cs, dcp hpt rfl, hw, gt0, gt7, dcp qA rfl, dcp qB rfl, dcp qK rfl, hk, a0, a7]
          refine fin _ _ ?_; simp [regOk, show ¬ (x.a = 0) by omega, show ¬ (x.a < 8) by omega]
        · skip
          by_cases b0 : 0 < x.b
          · cases hub : ub with
            | false =>
              rw [hub] at qB
              simp -implicitDefEqProofs only [go_sem, dnW_ite, reduceIte, Nat.reduceAdd, Nat.reduceLeDiff, Nat.reduceMul, Nat.reduceEqDiff, Int.reduceLT, Int.reduceLE, Int.reduceToNat, Nat.reduceSub, Nat.reduceLT, Int.reduceEq, BitVec.reduceOfInt, BitVec.reduceOfNat, Int.reduceGT, Int.reduceGE, Int.reduceBEq, Int.reduceBNe, Nat.reduceGT, Nat.reduceBEq, Nat.reduceBNe, Int.reduceAdd, Int.reduceSub, Int.reduceNeg, Cd.cs, dcp hpt rfl, hw, gt0, gt7, dcp qA rfl, dcp qB rfl, dcp qK rfl, hk, a0, a7, b0]
              refine fin _ _ ?_; simp [regOk, show (x.a < 8) by omega, hua, show ¬ (x.b = 0) by omega, hub]
            | true =>
              rw [hub] at qB
              by_cases b7 : 7 < x.b
              · simp -implicitDefEqProofs only [go_sem, dnW_ite, reduceIte, Nat.reduceAdd, Nat.reduceLeDiff, Nat.reduceMul, Nat.reduceEqDiff, Int.reduceLT, Int.reduceLE, Int.reduceToNat, Nat.reduceSub, Nat.reduceLT, Int.reduceEq, BitVec.reduceOfInt, BitVec.reduceOfNat, Int.reduceGT, Int.reduceGE, Int.reduceBEq, Int.reduceBNe, Nat.reduceGT, Nat.reduceBEq, Nat.reduceBNe, Int.reduceAdd, Int.reduceSub, Int.reduceNeg, Cd.cs, dcp hpt rfl, hw, gt0, gt7, dcp qA rfl, dcp qB rfl, dcp qK rfl, hk, a0, a7, b0, b7]
                refine fin _ _ ?_; simp [regOk, show (x.a < 8) by omega, hua, show ¬ (x.b = 0) by omega, show ¬ (x.b < 8) by omega]
              · skip
                have mp : (0 < x.mask.toNat) = (x.mask ≠ 0#32) := by have := mgt0 x.mask; rwa [gt0] at this
                by_cases m0 : x.mask = 0#32
                · simp -implicitDefEqProofs only [go_sem, dnW_ite, reduceIte, Nat.reduceAdd, Nat.reduceLeDiff, Nat.reduceMul, Nat.reduceEqDiff, Int.reduceLT, Int.reduceLE, Int.reduceToNat, Nat.reduceSub, Nat.reduceLT, Int.reduceEq, BitVec.reduceOfInt, BitVec.reduceOfNat, Int.reduceGT, Int.reduceGE, Int.reduceBEq, Int.reduceBNe, Nat.reduceGT, Nat.reduceBEq, Nat.reduceBNe, Int.reduceAdd, Int.reduceSub, Int.reduceNeg, Cd.cs, dcp hpt rfl, hw, gt0, gt7, dcp qA rfl, dcp qB rfl, dcp qK rfl, hk, a0, a7, b0, b7, show (0 < x.mask.toNat) = False from by rw [mp]; simp [m0]]
                  refine fin _ _ ?_; simp [regOk, show (x.a < 8) by omega, hua, show (x.b < 8) by omega, hub, m0]
                · cases hum : um with
                  | false =>
                    rw [hum] at qK
                    simp -implicitDefEqProofs only [go_sem, dnW_ite, reduceIte, Nat.reduceAdd, Nat.reduceLeDiff, Nat.reduceMul, Nat.reduceEqDiff, Int.reduceLT, Int.reduceLE, Int.reduceToNat, Nat.reduceSub, Nat.reduceLT, Int.reduceEq, BitVec.reduceOfInt, BitVec.reduceOfNat, Int.reduceGT, Int.reduceGE, Int.reduceBEq, Int.reduceBNe, Nat.reduceGT, Nat.reduceBEq, Nat.reduceBNe, Int.reduceAdd, Int.reduceSub, Int.reduceNeg, Cd.cs, dcp hpt rfl, hw, gt0, gt7, dcp qA rfl, dcp qB rfl, dcp qK rfl, hk, a0, a7, b0, b7, show (0 < x.mask.toNat) = True from by rw [mp]; simp [m0]]
                    refine fin _ _ ?_; simp [regOk, show (x.a < 8) by omega, hua, show (x.b < 8) by omega, hub, m0, hum]
                  | true =>
                    rw [hum] at qK
                    simp -implicitDefEqProofs only [go_sem, dnW_ite, reduceIte, Nat.reduceAdd, Nat.reduceLeDiff, Nat.reduceMul, Nat.reduceEqDiff, Int.reduceLT, Int.reduceLE, Int.reduceToNat, Nat.reduceSub, Nat.reduceLT, Int.reduceEq, BitVec.reduceOfInt, BitVec.reduceOfNat, Int.reduceGT, Int.reduceGE, Int.reduceBEq, Int.reduceBNe, Nat.reduceGT, Nat.reduceBEq, Nat.reduceBNe, Int.reduceAdd, Int.reduceSub, Int.reduceNeg, Cd.cs, dcp hpt rfl, hw, gt0, gt7, dcp qA rfl, dcp qB rfl, dcp qK rfl, hk, a0, a7, b0, b7, show (0 < x.mask.toNat) = True from by rw [mp]; simp [m0]]
                    refine fin _ _ ?_; simp [regOk, show (x.a < 8) by omega, hua, show (x.b < 8) by omega, hub, m0, hum]
          · skip
            have mp : (0 < x.mask.toNat) = (x.mask ≠ 0#32) := by have := mgt0 x.mask; rwa [gt0] at this
            by_cases m0 : x.mask = 0#32
            · simp -implicitDefEqProofs only [go_sem, dnW_ite, reduceIte, Nat.reduceAdd, Nat.reduceLeDiff, Nat.reduceMul, Nat.reduceEqDiff, Int.reduceLT, Int.reduceLE, Int.reduceToNat, Nat.reduceSub, Nat.reduceLT, Int.reduceEq, BitVec.reduceOfInt, BitVec.reduceOfNat, Int.reduceGT, Int.reduceGE, Int.reduceBEq, Int.reduceBNe, Nat.reduceGT, Nat.reduceBEq, Nat.reduceBNe, Int.reduceAdd, Int.reduceSub, Int.reduceNeg, Cd.cs, dcp hpt rfl, hw, gt0, gt7, dcp qA rfl, dcp qB rfl, dcp qK rfl, hk, a0, a7, b0, show (0 < x.mask.toNat) = False from by rw [mp]; simp [m0]]
              refine fin _ _ ?_; simp [regOk, show (x.a < 8) by omega, hua, show x.b = 0 by omega, m0]
            · cases hum : um with
              | false =>
                rw [hum] at qK
                simp -implicitDefEqProofs only [go_sem, dnW_ite, reduceIte, Nat.reduceAdd, Nat.reduceLeDiff, Nat.reduceMul, Nat.reduceEqDiff, Int.reduceLT, Int.reduceLE, Int.reduceToNat, Nat.reduceSub, Nat.reduceLT, Int.reduceEq, BitVec.reduceOfInt, BitVec.reduceOfNat, Int.reduceGT, Int.reduceGE, Int.reduceBEq, Int.reduceBNe, Nat.reduceGT, Nat.reduceBEq, Nat.reduceBNe, Int.reduceAdd, Int.reduceSub, Int.reduceNeg, Cd.cs, dcp hpt rfl, hw, gt0, gt7, dcp qA rfl, dcp qB rfl, dcp qK rfl, hk, a0, a7, b0, show (0 < x.mask.toNat) = True from by rw [mp]; simp [m0]]
                refine fin _ _ ?_; simp [regOk, show (x.a < 8) by omega, hua, show x.b = 0 by omega, m0, hum]
              | true =>
                rw [hum] at qK
                simp -implicitDefEqProofs only [go_sem, dnW_ite, reduceIte, Nat.reduceAdd, Nat.reduceLeDiff, Nat.reduceMul, Nat.reduceEqDiff, Int.reduceLT, Int.reduceLE, Int.reduceToNat, Nat.reduceSub, Nat.reduceLT, Int.reduceEq, BitVec.reduceOfInt, BitVec.reduceOfNat, Int.reduceGT, Int.reduceGE, Int.reduceBEq, Int.reduceBNe, Nat.reduceGT, Nat.reduceBEq, Nat.reduceBNe, Int.reduceAdd, Int.reduceSub, Int.reduceNeg, Cd.cs, dcp hpt rfl, hw, gt0, gt7, dcp qA rfl, dcp qB rfl, dcp qK rfl, hk, a0, a7, b0, show (0 < x.mask.toNat) = True from by rw [mp]; simp [m0]]
                refine fin _ _ ?_; simp [regOk, show (x.a < 8) by omega, hua, show x.b = 0 by omega, m0, hum]
    · skip
      by_cases b0 : 0 < x.b
      · cases hub : ub with
        | false =>
          rw [hub] at qB
          simp -implicitDefEqProofs only [go_sem, dnW_ite, reduceIte, Nat.reduceAdd, Nat.reduceLeDiff, Nat.reduceMul, Nat.reduceEqDiff, Int.reduceLT, Int.reduceLE, Int.reduceToNat, Nat.reduceSub, Nat.reduceLT, Int.reduceEq, BitVec.reduceOfInt, BitVec.reduceOfNat, Int.reduceGT, Int.reduceGE, Int.reduceBEq, Int.reduceBNe, Nat.reduceGT, Nat.reduceBEq, Nat.reduceBNe, Int.reduceAdd, Int.reduceSub, Int.reduceNeg, Cd.cs, dcp hpt rfl, hw, gt0, gt7, dcp qA rfl, dcp qB rfl, dcp qK rfl, hk, a0, b0]
          refine fin _ _ ?_; simp [regOk, show x.a = 0 by omega, show ¬ (x.b = 0) by omega, hub]
        | true =>
          rw [hub] at qB
          by_cases b7 : 7 < x.b
          · simp -implicitDefEqProofs only [go_sem, dnW_ite, reduceIte, Nat.reduceAdd, Nat.reduceLeDiff, Nat.reduceMul, Nat.reduceEqDiff, Int.reduceLT, Int.reduceLE, Int.reduceToNat, Nat.reduceSub, Nat.reduceLT, Int.reduceEq, BitVec.reduceOfInt, BitVec.reduceOfNat, Int.reduceGT, Int.reduceGE, Int.reduceBEq, Int.reduceBNe, Nat.reduceGT, Nat.reduceBEq, Nat.reduceBNe, Int.reduceAdd, Int.reduceSub, Int.reduceNeg, Cd.cs, dcp hpt rfl, hw, gt0, gt7, dcp qA rfl, dcp qB rfl, dcp qK rfl, hk, a0, b0, b7]
            refine fin _ _ ?_; simp [regOk, show x.a = 0 by omega, show ¬ (x.b = 0) by omega, show ¬ (x.b < 8) by omega]
          · skip
            have mp : (0 < x.mask.toNat) = (x.mask ≠ 0#32) := by have := mgt0 x.mask; rwa [gt0] at this
            by_cases m0 : x.mask = 0#32
            · simp -implicitDefEqProofs only [go_sem, dnW_ite, reduceIte, Nat.reduceAdd, Nat.reduceLeDiff, Nat.reduceMul, Nat.reduceEqDiff, Int.reduceLT, Int.reduceLE, Int.reduceToNat, Nat.reduceSub, Nat.reduceLT, Int.reduceEq, BitVec.reduceOfInt, BitVec.reduceOfNat, Int.reduceGT, Int.reduceGE, Int.reduceBEq, Int.reduceBNe, Nat.reduceGT, Nat.reduceBEq, Nat.reduceBNe, Int.reduceAdd, Int.reduceSub, Int.reduceNeg, Cd.cs, dcp hpt rfl, hw, gt0, gt7, dcp qA rfl, dcp qB rfl, dcp qK rfl, hk, a0, b0, b7, show (0 < x.mask.toNat) = False from by rw [mp]; simp [m0]]
              refine fin _ _ ?_; simp [regOk, show x.a = 0 by omega, show (x.b < 8) by omega, hub, m0]
            · cases hum : um with
              | false =>
                rw [hum] at qK
                simp -implicitDefEqProofs only [go_sem, dnW_ite, reduceIte, Nat.reduceAdd, Nat.reduceLeDiff, Nat.reduceMul, Nat.reduceEqDiff, Int.reduceLT, Int.reduceLE, Int.reduceToNat, Nat.reduceSub, Nat.reduceLT, Int.reduceEq, BitVec.reduceOfInt, BitVec.reduceOfNat, Int.reduceGT, Int.reduceGE, Int.reduceBEq, Int.reduceBNe, Nat.reduceGT, Nat.reduceBEq, Nat.reduceBNe, Int.reduceAdd, Int.reduceSub, Int.reduceNeg, Cd.cs, dcp hpt rfl, hw, gt0, gt7, dcp qA rfl, dcp qB rfl, dcp qK rfl, hk, a0, b0, b7, show (0 < x.mask.toNat) = True from by rw [mp]; simp [m0]]
                refine fin _ _ ?_; simp [regOk, show x.a = 0 by omega, show (x.b < 8) by omega, hub, m0, hum]
              | true =>
                rw [hum] at qK
                simp -implicitDefEqProofs only [go_sem, dnW_ite, reduceIte, Nat.reduceAdd, Nat.reduceLeDiff, Nat.reduceMul, Nat.reduceEqDiff, Int.reduceLT, Int.reduceLE, Int.reduceToNat, Nat.reduceSub, Nat.reduceLT, Int.reduceEq, BitVec.reduceOfInt, BitVec.reduceOfNat, Int.reduceGT, Int.reduceGE, Int.reduceBEq, Int.reduceBNe, Nat.reduceGT, Nat.reduceBEq, Nat.reduceBNe, Int.reduceAdd, Int.reduceSub, Int.reduceNeg, Cd.cs, dcp hpt rfl, hw, gt0, gt7, dcp qA rfl, dcp qB rfl, dcp qK rfl, hk, a0, b0, b7, show (0 < x.mask.toNat) = True from by rw [mp]; simp [m0]]
                refine fin _ _ ?_; simp [regOk, show x.a = 0 by omega, show (x.b < 8) by omega, hub, m0, hum]
      · skip
        have mp : (0 < x.mask.toNat) = (x.mask ≠ 0#32) := by have := mgt0 x.mask; rwa [gt0] at this
        by_cases m0 : x.mask = 0#32
        · simp -implicitDefEqProofs only [go_sem, dnW_ite, reduceIte, Nat.reduceAdd, Nat.reduceLeDiff, Nat.reduceMul, Nat.reduceEqDiff, Int.reduceLT, Int.reduceLE, Int.reduceToNat, Nat.reduceSub, Nat.reduceLT, Int.reduceEq, BitVec.reduceOfInt, BitVec.reduceOfNat, Int.reduceGT, Int.reduceGE, Int.reduceBEq, Int.reduceBNe, Nat.reduceGT, Nat.reduceBEq, Nat.reduceBNe, Int.reduceAdd, Int.reduceSub, Int.reduceNeg, Cd.cs, dcp hpt rfl, hw, gt0, gt7, dcp qA rfl, dcp qB rfl, dcp qK rfl, hk, a0, b0, show (0 < x.mask.toNat) = False from by rw [mp]; simp [m0]]
          refine fin _ _ ?_; simp [regOk, show x.a = 0 by omega, show x.b = 0 by omega, m0]
        · cases hum : um with
          | false =>
            rw [hum] at qK
            simp -implicitDefEqProofs only [go_sem, dnW_ite, reduceIte, Nat.reduceAdd, Nat.reduceLeDiff, Nat.reduceMul, Nat.reduceEqDiff, Int.reduceLT, Int.reduceLE, Int.reduceToNat, Nat.reduceSub, Nat.reduceLT, Int.reduceEq, BitVec.reduceOfInt, BitVec.reduceOfNat, Int.reduceGT, Int.reduceGE, Int.reduceBEq, Int.reduceBNe, Nat.reduceGT, Nat.reduceBEq, Nat.reduceBNe, Int.reduceAdd, Int.reduceSub, Int.reduceNeg, Cd.cs, dcp hpt rfl, hw, gt0, gt7, dcp qA rfl, dcp qB rfl, dcp qK rfl, hk, a0, b0, show (0 < x.mask.toNat) = True from by rw [mp]; simp [m0]]
            refine fin _ _ ?_; simp [regOk, show x.a = 0 by omega, show x.b = 0 by omega, m0, hum]
          | true =>
            rw [hum] at qK
            simp -implicitDefEqProofs only [go_sem, dnW_ite, reduceIte, Nat.reduceAdd, Nat.reduceLeDiff, Nat.reduceMul, Nat.reduceEqDiff, Int.reduceLT, Int.reduceLE, Int.reduceToNat, Nat.reduceSub, Nat.reduceLT, Int.reduceEq, BitVec.reduceOfInt, BitVec.reduceOfNat, Int.reduceGT, Int.reduceGE, Int.reduceBEq, Int.reduceBNe, Nat.reduceGT, Nat.reduceBEq, Nat.reduceBNe, Int.reduceAdd, Int.reduceSub, Int.reduceNeg, Cd.cs, dcp hpt rfl, hw, gt0, gt7, dcp qA rfl, dcp qB rfl, dcp qK rfl, hk, a0, b0, show (0 < x.mask.toNat) = True from by rw [mp]; simp [m0]]
            refine fin _ _ ?_; simp [regOk, show x.a = 0 by omega, show x.b = 0 by omega, m0, hum]
  · have hpt := parts_out x.op (by omega) w1
    have hs : ((⟨#[]⟩ : ByteArray).toList == (⟨#[]⟩ : ByteArray).toList) = true := by simp
    simp -implicitDefEqProofs only [go_sem, dnW_ite, reduceIte, Nat.reduceAdd, Nat.reduceLeDiff, Nat.reduceMul, Nat.reduceEqDiff, Int.reduceLT, Int.reduceLE, Int.reduceToNat, Nat.reduceSub, Nat.reduceLT, Int.reduceEq, BitVec.reduceOfInt, BitVec.reduceOfNat, Int.reduceGT, Int.reduceGE, Int.reduceBEq, Int.reduceBNe, Nat.reduceGT, Nat.reduceBEq, Nat.reduceBNe, Int.reduceAdd, Int.reduceSub, Int.reduceNeg, Cd.cs, dcp hpt rfl, hs]
    exact hK _ _ (frzE rfl (by simp [itup, Cd.right, hop]))
end Go.Proofs.Ytcdlipdeemlibaa.G
namespace Go.Proofs.Ytcdlipdeemlibaa.G
open Go
set_option linter.unusedSimpArgs false
set_option linter.unusedVariables false
set_option maxRecDepth 20000
theorem rCheck_ok (x : IV) (l : List Cd) (hx : Ls 6 x (l.map Cd.e)) (hw : ∀ c ∈ l, c.wf) (cells players : Nat) (hc : cells ≤ 1000000) (hp : players ≤ 1000000) :
    ∃ k : Int, pc BI F_ref08_Check [x, nI cells, nI players] = some (.int .i64 k) ∧ (k ≥ 0 ↔ rightL l cells players = false) := by
  have : ∃ u, pc BI F_ref08_Check [x, nI cells, nI players] = some u ∧ ∃ k : Int, u = .int .i64 k ∧ (k ≥ 0 ↔ rightL l cells players = false) := by
    refine pcW fn_ref08_Check rfl fun K hK => ?_
    unfold l_ref08_Check
    by_cases h96 : l.length > 96
    · have h' : (l.length : Int) > 96 := by omega
      simp -implicitDefEqProofs only [go_sem, dnW_ite, reduceIte, Nat.reduceAdd, Nat.reduceLeDiff, Nat.reduceMul, Nat.reduceEqDiff, Int.reduceLT, Int.reduceLE, Int.reduceToNat, Nat.reduceSub, Nat.reduceLT, Int.reduceEq, BitVec.reduceOfInt, BitVec.reduceOfNat, Int.reduceGT, Int.reduceGE, Int.reduceBEq, Int.reduceBNe, Nat.reduceGT, Nat.reduceBEq, Nat.reduceBNe, Int.reduceAdd, Int.reduceSub, Int.reduceNeg, hx.lenF, List.length_map, h']
      exact hK _ _ _ (frzP rfl) ⟨96, rfl, by simp [rightL, show ¬ l.length ≤ 96 by omega]⟩
    have h' : ¬ (l.length : Int) > 96 := by omega
    simp -implicitDefEqProofs only [go_sem, dnW_ite, reduceIte, Nat.reduceAdd, Nat.reduceLeDiff, Nat.reduceMul, Nat.reduceEqDiff, Int.reduceLT, Int.reduceLE, Int.reduceToNat, Nat.reduceSub, Nat.reduceLT, Int.reduceEq, BitVec.reduceOfInt, BitVec.reduceOfNat, Int.reduceGT, Int.reduceGE, Int.reduceBEq, Int.reduceBNe, Nat.reduceGT, Nat.reduceBEq, Nat.reduceBNe, Int.reduceAdd, Int.reduceSub, Int.reduceNeg, hx.lenF, List.length_map, h', dn_loop]
    refine WP_range (by decide) l.length (fun i vs J => vs = [x, nI cells, nI players, x, nI l.length, nI i] ∧ (l.take i).all (fun x => x.right l.length cells players) = true) ?_ ⟨rfl, rfl⟩
    rintro i vs J ⟨rfl, ha⟩ hi K1 g1 g2 g3
    unfold l_ref08_Check_k0
    by_cases h : i < l.length
    · have hat := fun J => hx.at (i := i) (by simpa using h) (J := J)
      simp only [List.getElem_map, Cd.e, Cd.cs] at hat
      have hr := rRight_ok l[i] (hw _ (List.getElem_mem h)) l.length cells players (by omega) hc hp
      rw [List.take_succ_eq_append_getElem h, List.all_append, ha] at g1
      simp only [Cd.e, Cd.cs] at hr
      cases hv : l[i].right l.length cells players with
      | true =>
        rw [hv] at hr
        simp -implicitDefEqProofs only [go_sem, dnW_ite, reduceIte, Nat.reduceAdd, Nat.reduceLeDiff, Nat.reduceMul, Nat.reduceEqDiff, Int.reduceLT, Int.reduceLE, Int.reduceToNat, Nat.reduceSub, Nat.reduceLT, Int.reduceEq, BitVec.reduceOfInt, BitVec.reduceOfNat, Int.reduceGT, Int.reduceGE, Int.reduceBEq, Int.reduceBNe, Nat.reduceGT, Nat.reduceBEq, Nat.reduceBNe, Int.reduceAdd, Int.reduceSub, Int.reduceNeg, show ((i : Int) < (l.length : Int)) by omega, hat, hx.lenF, List.length_map, dcp hr (by simp [ipureL, ipure]), wrapS h (show l.length ≤ 9223372036854775807 by omega)]
        exact g1 h _ _ ⟨rfl, by simp [hv]⟩
      | false =>
        rw [hv] at hr
        simp -implicitDefEqProofs only [go_sem, dnW_ite, reduceIte, Nat.reduceAdd, Nat.reduceLeDiff, Nat.reduceMul, Nat.reduceEqDiff, Int.reduceLT, Int.reduceLE, Int.reduceToNat, Nat.reduceSub, Nat.reduceLT, Int.reduceEq, BitVec.reduceOfInt, BitVec.reduceOfNat, Int.reduceGT, Int.reduceGE, Int.reduceBEq, Int.reduceBNe, Nat.reduceGT, Nat.reduceBEq, Nat.reduceBNe, Int.reduceAdd, Int.reduceSub, Int.reduceNeg, show ((i : Int) < (l.length : Int)) by omega, hat, hx.lenF, List.length_map, dcp hr (by simp [ipureL, ipure])]
        refine g3 _ _ (hK _ _ _ (frzP rfl) ⟨i, rfl, ?_⟩)
        have : ¬ (l.all fun x => x.right l.length cells players) = true := fun hh => by
          rw [List.all_eq_true] at hh
          have := hh _ (List.getElem_mem h)
          rw [hv] at this; cases this
        simp only [Bool.not_eq_true] at this
        simp [rightL, this]
    · simp -implicitDefEqProofs only [go_sem, dnW_ite, reduceIte, Nat.reduceAdd, Nat.reduceLeDiff, Nat.reduceMul, Nat.reduceEqDiff, Int.reduceLT, Int.reduceLE, Int.reduceToNat, Nat.reduceSub, Nat.reduceLT, Int.reduceEq, BitVec.reduceOfInt, BitVec.reduceOfNat, Int.reduceGT, Int.reduceGE, Int.reduceBEq, Int.reduceBNe, Nat.reduceGT, Nat.reduceBEq, Nat.reduceBNe, Int.reduceAdd, Int.reduceSub, Int.reduceNeg, show ¬ ((i : Int) < (l.length : Int)) by omega]
      refine g2 _ _ ?_
      unfold l_ref08_Check_k1
      simp -implicitDefEqProofs only [go_sem, dnW_ite, reduceIte, Nat.reduceAdd, Nat.reduceLeDiff, Nat.reduceMul, Nat.reduceEqDiff, Int.reduceLT, Int.reduceLE, Int.reduceToNat, Nat.reduceSub, Nat.reduceLT, Int.reduceEq, BitVec.reduceOfInt, BitVec.reduceOfNat, Int.reduceGT, Int.reduceGE, Int.reduceBEq, Int.reduceBNe, Nat.reduceGT, Nat.reduceBEq, Nat.reduceBNe, Int.reduceAdd, Int.reduceSub, Int.reduceNeg]
      refine hK _ _ _ (frzP rfl) ⟨-1, rfl, ?_⟩
      rw [List.take_of_length_le (by omega)] at ha
      simp [rightL, ha, show l.length ≤ 96 by omega]
  obtain ⟨u, h1, k, rfl, h2⟩ := this
  exact ⟨k, h1, h2⟩
end Go.Proofs.Ytcdlipdeemlibaa.G
namespace Go.Proofs.Ytcdlipdeemlibaa.G
open Go
set_option linter.unusedSimpArgs false
set_option linter.unusedVariables false
set_option maxRecDepth 20000
set_option maxHeartbeats 2000000
theorem Cl.c_flat (l : List Cl) (c : Cl) : (l.map Cl.c).flatten ++ c.c = ((l ++ [c]).map Cl.c).flatten := by simp
theorem cells10_ok (x : IV) (l : List Cl) (hx : Ls 2 x (l.map Cl.e)) (hb : l.length ≤ 100000) : ∃ u, pc BI F_law10_cells [x] = some u ∧ Ls 2 u (l.map Cl.e) := by
  refine pcW fn_law10_cells rfl fun K hK => ?_
  unfold l_law10_cells
  simp -implicitDefEqProofs only [go_sem, dnW_ite, reduceIte, Nat.reduceAdd, Nat.reduceLeDiff, Nat.reduceMul, Nat.reduceEqDiff, Int.reduceLT, Int.reduceLE, Int.reduceToNat, Nat.reduceSub, Nat.reduceLT, Int.reduceEq, BitVec.reduceOfInt, BitVec.reduceOfNat, Int.reduceGT, Int.reduceGE, Int.reduceBEq, Int.reduceBNe, Nat.reduceGT, Nat.reduceBEq, Nat.reduceBNe, Int.reduceAdd, Int.reduceSub, Int.reduceNeg, hx.lenF, List.length_map, dn_loop]
  refine WP_range (by decide) l.length (fun i vs J => ∃ out, vs = [out, x, nI l.length, nI i] ∧ Grow J out 2 ((l.take i).map Cl.c).flatten) ?_ ⟨_, rfl, .nil⟩
  rintro i vs J ⟨out, rfl, hg⟩ hi K1 g1 g2 g3
  unfold l_law10_cells_k0
  by_cases h : i < l.length
  · have hat := fun J => hx.at (i := i) (by simpa using h) (J := J)
    simp only [List.getElem_map, Cl.e, Cl.c] at hat
    have hw1 := wrapS h (show l.length ≤ 9223372036854775807 by omega)
    have hg1 : Grow (J.push (.cells 0 [.int .i32 l[i].v, m32 l[i].s] false)) out 2 ((l.take i).map Cl.c).flatten := hg.fr0 (.push _ _ _)
    simp -implicitDefEqProofs only [go_sem, dnW_ite, reduceIte, Nat.reduceAdd, Nat.reduceLeDiff, Nat.reduceMul, Nat.reduceEqDiff, Int.reduceLT, Int.reduceLE, Int.reduceToNat, Nat.reduceSub, Nat.reduceLT, Int.reduceEq, BitVec.reduceOfInt, BitVec.reduceOfNat, Int.reduceGT, Int.reduceGE, Int.reduceBEq, Int.reduceBNe, Nat.reduceGT, Nat.reduceBEq, Nat.reduceBNe, Int.reduceAdd, Int.reduceSub, Int.reduceNeg, show ((i : Int) < (l.length : Int)) by omega, hat, ipureL, ipure, grp, mkE, List.headD]
    refine WP_bind (hg1.app (m := 1) (ds := l[i].c) (by omega) rfl rfl rfl rfl (fits8 ?_)) fun out' J2 hs2 => ?_
    · rw [flat_len (cl2 _)]; simp; omega
    obtain ⟨k1, k2, k3⟩ := hs2
    simp -implicitDefEqProofs only [go_sem, dnW_ite, reduceIte, Nat.reduceAdd, Nat.reduceLeDiff, Nat.reduceMul, Nat.reduceEqDiff, Int.reduceLT, Int.reduceLE, Int.reduceToNat, Nat.reduceSub, Nat.reduceLT, Int.reduceEq, BitVec.reduceOfInt, BitVec.reduceOfNat, Int.reduceGT, Int.reduceGE, Int.reduceBEq, Int.reduceBNe, Nat.reduceGT, Nat.reduceBEq, Nat.reduceBNe, Int.reduceAdd, Int.reduceSub, Int.reduceNeg, hw1]
    refine g1 h _ _ ⟨out', rfl, ?_⟩
    rw [List.take_succ_eq_append_getElem h, ← Cl.c_flat]; exact k1
  · simp -implicitDefEqProofs only [go_sem, dnW_ite, reduceIte, Nat.reduceAdd, Nat.reduceLeDiff, Nat.reduceMul, Nat.reduceEqDiff, Int.reduceLT, Int.reduceLE, Int.reduceToNat, Nat.reduceSub, Nat.reduceLT, Int.reduceEq, BitVec.reduceOfInt, BitVec.reduceOfNat, Int.reduceGT, Int.reduceGE, Int.reduceBEq, Int.reduceBNe, Nat.reduceGT, Nat.reduceBEq, Nat.reduceBNe, Int.reduceAdd, Int.reduceSub, Int.reduceNeg, show ¬ ((i : Int) < (l.length : Int)) by omega]
    refine g2 _ _ ?_
    unfold l_law10_cells_k1
    simp -implicitDefEqProofs only [go_sem, dnW_ite, reduceIte, Nat.reduceAdd, Nat.reduceLeDiff, Nat.reduceMul, Nat.reduceEqDiff, Int.reduceLT, Int.reduceLE, Int.reduceToNat, Nat.reduceSub, Nat.reduceLT, Int.reduceEq, BitVec.reduceOfInt, BitVec.reduceOfNat, Int.reduceGT, Int.reduceGE, Int.reduceBEq, Int.reduceBNe, Nat.reduceGT, Nat.reduceBEq, Nat.reduceBNe, Int.reduceAdd, Int.reduceSub, Int.reduceNeg]
    rw [List.take_of_length_le (by omega)] at hg
    obtain ⟨u, hu, hul⟩ := hg.frzX (cl2 l) (by decide) (cl_pure l) (flat_one l)
    rw [cl_mk] at hul
    exact hK _ _ u (hu 11) hul
theorem Cd.c_flat (l : List Cd) (c : Cd) : (l.map Cd.cs).flatten ++ c.cs = ((l ++ [c]).map Cd.cs).flatten := by simp
theorem gm_one' (g : Gm) {x y : IV} (h1 : ione x = true) (h2 : ione y = true) : (gmc g x y).all ione = true := by
  simp only [gmc, List.all_cons, List.all_nil, h1, h2]; rfl
theorem own10_ok (g : Gm) (x y : IV) (h : GR g x y) (hc : g.cells.length ≤ 100000) (hd : g.code.length ≤ 100000) : ∃ u, pc BI F_law10_own [.agg (gmc g x y)] = some u ∧ ∃ x2 y2, u = .agg (gmc g x2 y2) ∧ GR g x2 y2 := by
  refine pcW fn_law10_own rfl fun K hK => ?_
  obtain ⟨a, ha, hal⟩ := cells10_ok x g.cells h.x hc
  unfold l_law10_own
  simp -implicitDefEqProofs only [go_sem, dnW_ite, reduceIte, Nat.reduceAdd, Nat.reduceLeDiff, Nat.reduceMul, Nat.reduceEqDiff, Int.reduceLT, Int.reduceLE, Int.reduceToNat, Nat.reduceSub, Nat.reduceLT, Int.reduceEq, BitVec.reduceOfInt, BitVec.reduceOfNat, Int.reduceGT, Int.reduceGE, Int.reduceBEq, Int.reduceBNe, Nat.reduceGT, Nat.reduceBEq, Nat.reduceBNe, Int.reduceAdd, Int.reduceSub, Int.reduceNeg, h.one, h.x.pure, dcp ha (by simp [ipureL, h.x.pure]), ↓hal.icells, ↓hal.one, h.y.lenF, List.length_map, dn_loop]
  have hone : ∀ out, ione out = true → (gmc g a out).all ione = true := fun out ho => gm_one' g hal.one ho
  refine WP_range (by decide) g.code.length (fun i vs J => ∃ out, vs = [.ptr 1 0 0, .ptr 2 0 0, y, nI g.code.length, nI i] ∧ J[1]? = some (.cells 0 (gmc ⟨0, 0, 0#32, 0#32, [], []⟩ (.sc (.slice none 0 0)) (.sc (.slice none 0 0))) false) ∧ J[2]? = some (.cells 0 (gmc g a out) false) ∧ 1 ∉ blk out ∧ 2 ∉ blk out ∧ Grow J out 6 ((g.code.take i).map Cd.cs).flatten) ?_ ⟨.sc (.slice none 0 0), rfl, rfl, rfl, by simp [blk, blkOf], by simp [blk, blkOf], .nil⟩
  rintro i vs J ⟨out, rfl, h1, h2, n1, n2, hg⟩ hi K1 g1 g2 g3
  unfold l_law10_own_k0
  have hl1 := lt_get h1
  have hl2 := lt_get h2
  by_cases hi2 : i < g.code.length
  · have hat := fun J => h.y.at (i := i) (by simpa using hi2) (J := J)
    simp only [List.getElem_map, Cd.e, Cd.cs] at hat
    have hw1 := wrapS hi2 (show g.code.length ≤ 9223372036854775807 by omega)
    have hg1 : ∀ X, Grow (J.push X) out 6 ((g.code.take i).map Cd.cs).flatten := fun X => hg.fr0 (.push _ _ _)
    simp -implicitDefEqProofs only [go_sem, dnW_ite, reduceIte, Nat.reduceAdd, Nat.reduceLeDiff, Nat.reduceMul, Nat.reduceEqDiff, Int.reduceLT, Int.reduceLE, Int.reduceToNat, Nat.reduceSub, Nat.reduceLT, Int.reduceEq, BitVec.reduceOfInt, BitVec.reduceOfNat, Int.reduceGT, Int.reduceGE, Int.reduceBEq, Int.reduceBNe, Nat.reduceGT, Nat.reduceBEq, Nat.reduceBNe, Int.reduceAdd, Int.reduceSub, Int.reduceNeg, show ((i : Int) < (g.code.length : Int)) by omega, hat, inb h1, inb h2, h2, ipureL, ipure, grp, mkE, List.headD, Nat.reduceEqDiff]
    refine WP_bind ((hg1 _).app (m := 1) (ds := g.code[i].cs) (by omega) rfl rfl rfl rfl (fits12 ?_)) fun out' J2 hs2 => ?_
    · rw [flat_len (cd6 _)]; simp; omega
    obtain ⟨k1, k2, k3⟩ := hs2
    have m1 : J2[1]? = some (.cells 0 (gmc ⟨0, 0, 0#32, 0#32, [], []⟩ (.sc (.slice none 0 0)) (.sc (.slice none 0 0))) false) := by
      rw [k2.2 1 (by simp; omega) n1]; (repeat (first | with_reducible assumption | ((with_reducible refine gsE ?_ ?_); (focus omega); focus (first | omega | (simp only [Array.size_push, Array.size_setIfInBounds] <;> omega))) | ((with_reducible refine gsN ?_ ?_); focus omega) | ((with_reducible refine gpN ?_ ?_); focus (first | omega | (simp only [Array.size_push, Array.size_setIfInBounds] <;> omega))) | ((with_reducible refine gpE ?_); focus (first | omega | (simp only [Array.size_push, Array.size_setIfInBounds] <;> omega)))))
    have m2 : J2[2]? = some (.cells 0 (gmc g a out) false) := by
      rw [k2.2 2 (by simp; omega) n2]; (repeat (first | with_reducible assumption | ((with_reducible refine gsE ?_ ?_); (focus omega); focus (first | omega | (simp only [Array.size_push, Array.size_setIfInBounds] <;> omega))) | ((with_reducible refine gsN ?_ ?_); focus omega) | ((with_reducible refine gpN ?_ ?_); focus (first | omega | (simp only [Array.size_push, Array.size_setIfInBounds] <;> omega))) | ((with_reducible refine gpE ?_); focus (first | omega | (simp only [Array.size_push, Array.size_setIfInBounds] <;> omega)))))
    have nn : ∀ d, d < J.size → d ∉ blk out → d ∉ blk out' := fun d hd hn hm => by
      rcases k3 d hm with hm | hm
      · exact hn hm
      · simp at hm; omega
    simp -implicitDefEqProofs only [go_sem, dnW_ite, reduceIte, Nat.reduceAdd, Nat.reduceLeDiff, Nat.reduceMul, Nat.reduceEqDiff, Int.reduceLT, Int.reduceLE, Int.reduceToNat, Nat.reduceSub, Nat.reduceLT, Int.reduceEq, BitVec.reduceOfInt, BitVec.reduceOfNat, Int.reduceGT, Int.reduceGE, Int.reduceBEq, Int.reduceBNe, Nat.reduceGT, Nat.reduceBEq, Nat.reduceBNe, Int.reduceAdd, Int.reduceSub, Int.reduceNeg, hw1, m2, inb m2, gm_s5, hone out' k1.one, ↓k1.icells, ↓k1.one]
    refine g1 hi2 _ _ ⟨out', rfl, ?_, set_get _ (lt_get m2), nn 1 hl1 n1, nn 2 hl2 n2, ?_⟩
    · (repeat (first | with_reducible assumption | ((with_reducible refine gsE ?_ ?_); (focus omega); focus (first | omega | (simp only [Array.size_push, Array.size_setIfInBounds] <;> omega))) | ((with_reducible refine gsN ?_ ?_); focus omega) | ((with_reducible refine gpN ?_ ?_); focus (first | omega | (simp only [Array.size_push, Array.size_setIfInBounds] <;> omega))) | ((with_reducible refine gpE ?_); focus (first | omega | (simp only [Array.size_push, Array.size_setIfInBounds] <;> omega)))))
    · rw [List.take_succ_eq_append_getElem hi2, ← Cd.c_flat]
      exact k1.fr (Fr.set J2 (b := 2) _ (S := [2]) (by simp)) (fun c hc hm => by simp at hm; subst hm; exact nn _ hl2 n2 hc)
  · simp -implicitDefEqProofs only [go_sem, dnW_ite, reduceIte, Nat.reduceAdd, Nat.reduceLeDiff, Nat.reduceMul, Nat.reduceEqDiff, Int.reduceLT, Int.reduceLE, Int.reduceToNat, Nat.reduceSub, Nat.reduceLT, Int.reduceEq, BitVec.reduceOfInt, BitVec.reduceOfNat, Int.reduceGT, Int.reduceGE, Int.reduceBEq, Int.reduceBNe, Nat.reduceGT, Nat.reduceBEq, Nat.reduceBNe, Int.reduceAdd, Int.reduceSub, Int.reduceNeg, show ¬ ((i : Int) < (g.code.length : Int)) by omega]
    refine g2 _ _ ?_
    unfold l_law10_own_k1
    rw [List.take_of_length_le (by omega)] at hg
    obtain ⟨u, hu, hul⟩ := hg.frzX (cd6 g.code) (by decide) (cd_pure g.code) (cd_one g.code)
    rw [cd_mk] at hul
    simp -implicitDefEqProofs only [go_sem, dnW_ite, reduceIte, Nat.reduceAdd, Nat.reduceLeDiff, Nat.reduceMul, Nat.reduceEqDiff, Int.reduceLT, Int.reduceLE, Int.reduceToNat, Nat.reduceSub, Nat.reduceLT, Int.reduceEq, BitVec.reduceOfInt, BitVec.reduceOfNat, Int.reduceGT, Int.reduceGE, Int.reduceBEq, Int.reduceBNe, Nat.reduceGT, Nat.reduceBEq, Nat.reduceBNe, Int.reduceAdd, Int.reduceSub, Int.reduceNeg, h1, h2, inb h1, inb h2, gm_all, hone out hg.one]
    have hg2 := hg.fr (Fr.set J (b := 1) (.cells 0 (gmc g a out) false) (S := [1]) (by simp)) (fun c hc hm => by simp at hm; subst hm; exact n1 hc)
    obtain ⟨u2, hu2, hul2⟩ := hg2.frzX (cd6 g.code) (by decide) (cd_pure g.code) (cd_one g.code)
    rw [cd_mk] at hul2
    generalize J.setIfInBounds 1 (.cells 0 (gmc g a out) false) = JF at *
    have fp : ∀ {v : IV}, ipure v = true → frz JF 11 v = some v := fun h => frz_pure _ _ h
    refine hK _ _ (.agg (gmc g a u2)) (frz_aggL (k := 11) ?_) ⟨a, u2, rfl, hal, hul2⟩
    simp only [gmc]
    rw [List.mapM_cons, List.mapM_cons, List.mapM_cons, List.mapM_cons, List.mapM_cons, List.mapM_cons, fp (v := .int .i64 g.obs) rfl, fp (v := .int .i64 g.players) rfl, fp (v := m32 g.moves) rfl, fp (v := m32 g.dflt) rfl, fp hal.pure, hu2 10]
    rfl
end Go.Proofs.Ytcdlipdeemlibaa.G
namespace Go.Proofs.Ytcdlipdeemlibaa.G
open Go
set_option linter.unusedSimpArgs false
set_option linter.unusedVariables false
set_option maxRecDepth 20000
set_option maxHeartbeats 2000000
theorem Step0_ok (g : Gm) (x y : IV) (h : GR g x y) (hr : g.right = false) (hw : ∀ c ∈ g.code, c.wf) (hb : g.code.length ≤ 9223372036854775807) (b : Bd) (d t : Int) (mv : IV) (hm : ipure mv = true) :
    pc BI F_rules_Game_Step [.agg (gmc g x y), .agg (stc b d t), mv] = some (.tup [.agg (stc b d t), .agg [.int .u64 0, .sc (.slice none 0 0), .int .i64 2]]) := by
  refine pcE fn_rules_Game_Step rfl fun K hK => ?_
  have hg := gRight_ok g x y h hw hb
  rw [hr] at hg
  unfold l_rules_Game_Step
  simp -implicitDefEqProofs only [go_sem, dnW_ite, reduceIte, Nat.reduceAdd, Nat.reduceLeDiff, Nat.reduceMul, Nat.reduceEqDiff, Int.reduceLT, Int.reduceLE, Int.reduceToNat, Nat.reduceSub, Nat.reduceLT, Int.reduceEq, BitVec.reduceOfInt, BitVec.reduceOfNat, Int.reduceGT, Int.reduceGE, Int.reduceBEq, Int.reduceBNe, Nat.reduceGT, Nat.reduceBEq, Nat.reduceBNe, Int.reduceAdd, Int.reduceSub, Int.reduceNeg, h.one, sta_z, dcp hg (by simp [ipureL, ipure, h.pure])]
  exact hK _ _ (frzE (by simp [ipure, ipureL, itup, sta_pure]) rfl)
end Go.Proofs.Ytcdlipdeemlibaa.G
namespace Go.Proofs.Ytcdlipdeemlibaa.G
open Go
set_option linter.unusedSimpArgs false
set_option linter.unusedVariables false
set_option maxRecDepth 20000
set_option maxHeartbeats 2000000
def Gm.preM (g : Gm) (o : Int) (m : BitVec 32) : List (BitVec 32) := if 0 ≤ o then (List.replicate g.players.toNat g.dflt).set o.toNat m else List.replicate g.players.toNat g.dflt
def preN (g : Gm) (p i : Nat) : List (BitVec 32) := List.replicate i g.dflt ++ List.replicate (p - i) 0#32
theorem preN_set (g : Gm) {p i : Nat} (h : i < p) : ((preN g p i).map m32).set i (m32 g.dflt) = (preN g p (i + 1)).map m32 := by
  rw [← List.map_set]
  congr 1
  unfold preN
  rw [List.set_append_right _ _ (by simp), List.length_replicate, Nat.sub_self, show p - i = (p - (i + 1)) + 1 by omega, List.replicate_succ (n := p - (i + 1)), List.set_cons_zero, List.replicate_succ' (n := i)]
  simp
theorem preN_len (g : Gm) {p i : Nat} (h : i ≤ p) : (preN g p i).length = p := by simp [preN]; omega
theorem m32_flat (l : List (BitVec 32)) : (l.map fun m => [m32 m]).flatten = l.map m32 := by
  induction l with
  | nil => rfl
  | cons a l ih => simp only [List.map_cons, List.flatten_cons, ih]; rfl
theorem m32_1 (l : List (BitVec 32)) : ∀ x ∈ (l.map fun m => [m32 m]), x.length = 1 := by
  intro x hx; obtain ⟨v, _, rfl⟩ := List.mem_map.1 hx; rfl
theorem m32_mk (l : List (BitVec 32)) : (l.map fun m => [m32 m]).map (mkE 1) = l.map m32 := by rw [List.map_map]; rfl
theorem m32_pure (l : List (BitVec 32)) : ipureL (l.map m32) = true := ipureL_iff.2 fun x hx => by
  obtain ⟨v, _, rfl⟩ := List.mem_map.1 hx; rfl
theorem m32_ione (l : List (BitVec 32)) : (l.map m32).all ione = true := by simp [ione, one]
def Gm.pre (g : Gm) (b : Bd) (d t : Int) (o : Int) (m : BitVec 32) (q : IV) : Rs := runF (g.env (g.preM o m) t q) g.code b d
theorem predict_end (g : Gm) (x y : IV) (h : GR g x y) (hr : g.right = true) (hw : ∀ c ∈ g.code, c.wf) (b : Bd) (hbk : b.ok) (d t o : Int) (l : List (BitVec 32)) (J : JH) (h0 : J[0]? = some (.cells 0 (gmc g x y) false)) (h1 : J[1]? = some (.cells 0 (stc b d t) false)) (h2 : J[2]? = some (.cells 0 (stc Bd.z 0 0) false)) (h3 : J[3]? = some (.cells 0 (l.map m32) false)) (c : Nat) (K : Out IV → JH → Prop)
    (hK : ∀ J' q, Ls 1 q ((g.env l t q).moves.map (IV.int .i32)) → K (.ret [.agg (stc ((runF (g.env l t q) g.code b d).bd.view o) 0 (IntKind.u32.wrap (t + 1)))]) J') :
    WP (dn BI l_rules_Game_Predict_k1 [.int .i64 o, .ptr 0 0 0, .ptr 1 0 0, .ptr 2 0 0, .sl 3 0 0 l.length c 1] J) K := by
  unfold l_rules_Game_Predict_k1
  simp -implicitDefEqProofs only [go_sem, dnW_ite, reduceIte, Nat.reduceAdd, Nat.reduceLeDiff, Nat.reduceMul, Nat.reduceEqDiff, Int.reduceLT, Int.reduceLE, Int.reduceToNat, Nat.reduceSub, Nat.reduceLT, Int.reduceEq, BitVec.reduceOfInt, BitVec.reduceOfNat, Int.reduceGT, Int.reduceGE, Int.reduceBEq, Int.reduceBNe, Nat.reduceGT, Nat.reduceBEq, Nat.reduceBNe, Int.reduceAdd, Int.reduceSub, Int.reduceNeg, h0, h1]
  have hraw : RawX J (.sl 3 0 0 l.length c 1) 1 (l.map fun m => [m32 m]) := ⟨3, 0, c, by rw [List.length_map], by rw [m32_flat]; exact h3⟩
  obtain ⟨u, hu, hul⟩ := hraw.frz (by decide) (m32_1 l) (by rw [m32_flat]; exact m32_pure l) (by rw [m32_flat]; exact m32_ione l)
  have hsh := hraw.shows (m32_1 l) (by rw [m32_flat]; exact m32_pure l)
  rw [m32_mk] at hul
  obtain ⟨h1', _, _, _, h96⟩ := right_48 hr
  obtain ⟨_, hS, q, s, hq, hs, rfl⟩ := Step_ok g x y h hr hw (by omega) b hbk d t u l hul
  have hone : [.int .u64 ((runF (g.env l t q) g.code b d).touched.toNat : Int), s, nI (runF (g.env l t q) g.code b d).err].all ione = true := by
    have := hs.one
    simp only [List.all_cons, List.all_nil, this]; rfl
  have hK' := fun J' => hK J' q hq
  generalize runF (g.env l t q) g.code b d = R at *
  refine WP_callG (S := [3]) (.pure (by simp [ipure, h.pure]) (.pure (by simp [ipure, sta_pure]) (.raw (hu 11) (by simpa [blk, blkOf] using hsh) .nil))) hS fun J2 f2 z2 => ?_
  have k2 : J2[2]? = some (.cells 0 (stc Bd.z 0 0) false) := by rw [f2.2 2 (lt_get h2) (by simp)]; exact h2
  have hl := lt_get k2
  have hm : BI.md F_rules_State_View = .pure := rfl
  simp -implicitDefEqProofs only [go_sem, dnW_ite, reduceIte, Nat.reduceAdd, Nat.reduceLeDiff, Nat.reduceMul, Nat.reduceEqDiff, Int.reduceLT, Int.reduceLE, Int.reduceToNat, Nat.reduceSub, Nat.reduceLT, Int.reduceEq, BitVec.reduceOfInt, BitVec.reduceOfNat, Int.reduceGT, Int.reduceGE, Int.reduceBEq, Int.reduceBNe, Nat.reduceGT, Nat.reduceBEq, Nat.reduceBNe, Int.reduceAdd, Int.reduceSub, Int.reduceNeg, sta_z, hm, Array.getElem?_push, hone, k2, show ¬ (2 = J2.size) by omega, show ¬ (2 = J2.size + 1) by omega, show ¬ (J2.size = J2.size + 1) by omega, show J2.size < J2.size + 1 + 1 by omega, show ¬ (J2.size = 1) by omega, show ¬ (J2.size = 2) by omega, sta_all, show 2 < J2.size + 2 by omega, dcp (SView_ok R.bd R.dice (IntKind.u32.wrap (t + 1)) o) (by simp [ipureL, ipure, sta_pure]), Array.getElem?_setIfInBounds]
  exact hK' _
theorem Predict_ok (g : Gm) (x y : IV) (h : GR g x y) (hr : g.right = true) (hw : ∀ c ∈ g.code, c.wf) (b : Bd) (hbk : b.ok) (d t o : Int) (m : BitVec 32) :
    ∃ q, pc BI F_rules_Game_Predict [.agg (gmc g x y), .agg (stc b d t), .int .i64 o, m32 m] = some (.agg (stc ((g.pre b d t o m q).bd.view o) 0 (IntKind.u32.wrap (t + 1)))) ∧ Ls 1 q ((g.env (g.preM o m) t q).moves.map (IV.int .i32)) := by
  obtain ⟨h1, h6, hR⟩ := right_players hr
  obtain ⟨p, hp⟩ : ∃ p : Nat, g.players = p := ⟨g.players.toNat, by omega⟩
  have key : ∃ u, pc BI F_rules_Game_Predict [.agg (gmc g x y), .agg (stc b d t), .int .i64 o, m32 m] = some u ∧ ∃ q, u = .agg (stc ((g.pre b d t o m q).bd.view o) 0 (IntKind.u32.wrap (t + 1))) ∧ Ls 1 q ((g.env (g.preM o m) t q).moves.map (IV.int .i32)) := by
    refine pcW fn_rules_Game_Predict rfl fun K hK => ?_
    have hfit : fits p 4 = true := fits4r (by omega)
    have hrep : (List.replicate p [IV.sc (Value.int IntKind.u32 0)]).flatten = (preN g p 0).map m32 := by
      simp only [preN, List.replicate_zero, List.nil_append, Nat.sub_zero, List.map_replicate]
      induction p with
      | zero => rfl
      | succ p _ => rw [List.flatten_replicate_singleton]; rfl
    have hmax : max (p : Int) 0 = p := by omega
    have hmin : min (p : Int) 6 = p := by omega
    unfold l_rules_Game_Predict
    simp -implicitDefEqProofs only [go_sem, dnW_ite, reduceIte, Nat.reduceAdd, Nat.reduceLeDiff, Nat.reduceMul, Nat.reduceEqDiff, Int.reduceLT, Int.reduceLE, Int.reduceToNat, Nat.reduceSub, Nat.reduceLT, Int.reduceEq, BitVec.reduceOfInt, BitVec.reduceOfNat, Int.reduceGT, Int.reduceGE, Int.reduceBEq, Int.reduceBNe, Nat.reduceGT, Nat.reduceBEq, Nat.reduceBNe, Int.reduceAdd, Int.reduceSub, Int.reduceNeg, h.one, sta_z, sta_one, hp, hmax, hmin, hfit, hrep, m32_ione, dn_loop]
    refine WP_range (by decide) p (fun i vs J' => vs = [.int .i64 o, m32 m, .ptr 0 0 0, .ptr 1 0 0, .ptr 2 0 0, .sl 3 0 0 p p 1, nI p, nI i] ∧ J' = #[.cells 0 (gmc g x y) false, .cells 0 (stc b d t) false, .cells 0 (stc Bd.z 0 0) false, .cells 0 ((preN g p i).map m32) false]) ?_ ⟨rfl, rfl⟩
    rintro i vs J1 ⟨rfl, rfl⟩ hi K1 g1 g2 g3
    unfold l_rules_Game_Predict_k0
    by_cases hlt : i < p
    · have hw1 := wrapS hlt (show p ≤ 9223372036854775807 by omega)
      have hsp : isplice ((preN g p i).map m32) i [m32 g.dflt] = (preN g p (i + 1)).map m32 := by
        rw [isplice_set (by rw [List.length_map, preN_len g (by omega)]; exact hlt), preN_set g hlt]
      have hlen : (preN g p i).length = p := preN_len g (by omega)
      simp -implicitDefEqProofs only [go_sem, dnW_ite, reduceIte, Nat.reduceAdd, Nat.reduceLeDiff, Nat.reduceMul, Nat.reduceEqDiff, Int.reduceLT, Int.reduceLE, Int.reduceToNat, Nat.reduceSub, Nat.reduceLT, Int.reduceEq, BitVec.reduceOfInt, BitVec.reduceOfNat, Int.reduceGT, Int.reduceGE, Int.reduceBEq, Int.reduceBNe, Nat.reduceGT, Nat.reduceBEq, Nat.reduceBNe, Int.reduceAdd, Int.reduceSub, Int.reduceNeg, show ((i : Int) < (p : Int)) by omega, hlt, hw1, hsp, hlen, show i + 1 ≤ p by omega, m32_ione]
      exact g1 hlt _ _ ⟨rfl, rfl⟩
    · simp -implicitDefEqProofs only [go_sem, dnW_ite, reduceIte, Nat.reduceAdd, Nat.reduceLeDiff, Nat.reduceMul, Nat.reduceEqDiff, Int.reduceLT, Int.reduceLE, Int.reduceToNat, Nat.reduceSub, Nat.reduceLT, Int.reduceEq, BitVec.reduceOfInt, BitVec.reduceOfNat, Int.reduceGT, Int.reduceGE, Int.reduceBEq, Int.reduceBNe, Nat.reduceGT, Nat.reduceBEq, Nat.reduceBNe, Int.reduceAdd, Int.reduceSub, Int.reduceNeg, show ¬ ((i : Int) < (p : Int)) by omega]
      obtain rfl : i = p := by omega
      refine g2 _ _ ?_
      have hfull : preN g i i = List.replicate i g.dflt := by simp [preN]
      rw [hfull]
      unfold l_rules_Game_Predict_k2
      have hpn : g.players.toNat = i := by omega
      have fin : ∀ l : List (BitVec 32), l = g.preM o m → l.length = i → WP (dn BI l_rules_Game_Predict_k1 [.int .i64 o, .ptr 0 0 0, .ptr 1 0 0, .ptr 2 0 0, .sl 3 0 0 i i 1] #[.cells 0 (gmc g x y) false, .cells 0 (stc b d t) false, .cells 0 (stc Bd.z 0 0) false, .cells 0 (l.map m32) false]) K := fun l hl hlen => by
        have := predict_end g x y h hr hw b hbk d t o l #[.cells 0 (gmc g x y) false, .cells 0 (stc b d t) false, .cells 0 (stc Bd.z 0 0) false, .cells 0 (l.map m32) false] rfl rfl rfl rfl i K (fun J' q hq => by
          refine hK _ _ _ (frzP (by simp [ipure, itup, sta_pure])) ⟨q, ?_, by rw [← hl]; exact hq⟩
          rw [hl]; rfl)
        rw [hlen] at this
        exact this
      by_cases h0 : 0 ≤ o
      · by_cases h2 : o < i
        · have hsp : isplice ((List.replicate i g.dflt).map m32) o.toNat [m32 m] = ((List.replicate i g.dflt).set o.toNat m).map m32 := by
            rw [isplice_set (by simp; omega), List.map_set]
          simp -implicitDefEqProofs only [go_sem, dnW_ite, reduceIte, Nat.reduceAdd, Nat.reduceLeDiff, Nat.reduceMul, Nat.reduceEqDiff, Int.reduceLT, Int.reduceLE, Int.reduceToNat, Nat.reduceSub, Nat.reduceLT, Int.reduceEq, BitVec.reduceOfInt, BitVec.reduceOfNat, Int.reduceGT, Int.reduceGE, Int.reduceBEq, Int.reduceBNe, Nat.reduceGT, Nat.reduceBEq, Nat.reduceBNe, Int.reduceAdd, Int.reduceSub, Int.reduceNeg, show o ≥ 0 by omega, show o < (i : Int) by omega, show o.toNat < i by omega, List.length_replicate, List.length_map, hsp, show o.toNat + 1 ≤ i by omega, h0]
          refine fin ((List.replicate i g.dflt).set o.toNat m) (by simp [Gm.preM, h0, hpn]) (by simp)
        · simp -implicitDefEqProofs only [go_sem, dnW_ite, reduceIte, Nat.reduceAdd, Nat.reduceLeDiff, Nat.reduceMul, Nat.reduceEqDiff, Int.reduceLT, Int.reduceLE, Int.reduceToNat, Nat.reduceSub, Nat.reduceLT, Int.reduceEq, BitVec.reduceOfInt, BitVec.reduceOfNat, Int.reduceGT, Int.reduceGE, Int.reduceBEq, Int.reduceBNe, Nat.reduceGT, Nat.reduceBEq, Nat.reduceBNe, Int.reduceAdd, Int.reduceSub, Int.reduceNeg, show o ≥ 0 by omega, show ¬ o < (i : Int) by omega]
          refine fin (List.replicate i g.dflt) ?_ (by simp)
          simp only [Gm.preM, if_pos h0, hpn]
          rw [List.set_eq_of_length_le (by simp; omega)]
      · simp -implicitDefEqProofs only [go_sem, dnW_ite, reduceIte, Nat.reduceAdd, Nat.reduceLeDiff, Nat.reduceMul, Nat.reduceEqDiff, Int.reduceLT, Int.reduceLE, Int.reduceToNat, Nat.reduceSub, Nat.reduceLT, Int.reduceEq, BitVec.reduceOfInt, BitVec.reduceOfNat, Int.reduceGT, Int.reduceGE, Int.reduceBEq, Int.reduceBNe, Nat.reduceGT, Nat.reduceBEq, Nat.reduceBNe, Int.reduceAdd, Int.reduceSub, Int.reduceNeg, show ¬ o ≥ 0 by omega]
        exact fin (List.replicate i g.dflt) (by simp [Gm.preM, h0, hpn]) (by simp)
  obtain ⟨u, hu, q, rfl, hq⟩ := key
  exact ⟨q, hu, hq⟩
end Go.Proofs.Ytcdlipdeemlibaa.G
namespace Go.Proofs.Ytcdlipdeemlibaa.G
open Go
set_option linter.unusedSimpArgs false
set_option linter.unusedVariables false
set_option maxRecDepth 20000
set_option maxHeartbeats 1000000
end Go.Proofs.Ytcdlipdeemlibaa.G
namespace Go.Proofs.Ytcdlipdeemlibaa.G
open Go
set_option linter.unusedSimpArgs false
set_option linter.unusedVariables false
set_option maxRecDepth 20000
set_option maxHeartbeats 1000000
theorem bit_get {i : Int} (h0 : 0 ≤ i) (h : i < 64) (j : Nat) : (bit i).getLsbD j = decide (j = i.toNat) := by
  unfold bit
  rw [BitVec.getLsbD_shiftLeft]
  by_cases e : j = i.toNat
  · subst e
    simp; omega
  · by_cases hlt : j < i.toNat
    · simp [hlt, e]
    · have : j - i.toNat ≠ 0 := by omega
      simp [e, BitVec.getLsbD_one, this]
theorem within_self (m : BitVec 32) : within m m = true := by
  unfold within
  rw [beq_iff_eq]
  apply BitVec.eq_of_getLsbD_eq
  intro i hi
  simp
theorem within_or (m n : BitVec 32) : within m (m ||| n) = true := by
  unfold within
  rw [beq_iff_eq]
  apply BitVec.eq_of_getLsbD_eq
  intro i hi
  simp only [BitVec.getLsbD_and, BitVec.getLsbD_not, BitVec.getLsbD_or, BitVec.getLsbD_zero]
  cases m.getLsbD i <;> simp
theorem within_iff {m n : BitVec 32} : within m n = true ↔ ∀ i, m.getLsbD i = true → n.getLsbD i = true := by
  unfold within
  rw [beq_iff_eq]
  constructor
  · intro h i hi
    have := congrArg (fun z => BitVec.getLsbD z i) h
    simp only [BitVec.getLsbD_and, BitVec.getLsbD_not, BitVec.getLsbD_zero, hi, Bool.true_and] at this
    have hlt : i < 32 := BitVec.lt_of_getLsbD hi
    simpa [hlt] using this
  · intro h
    apply BitVec.eq_of_getLsbD_eq
    intro i hi
    simp only [BitVec.getLsbD_and, BitVec.getLsbD_not, BitVec.getLsbD_zero]
    cases hm : m.getLsbD i with
    | false => simp
    | true => simp [h i hm]
theorem within_trans {a b c : BitVec 32} (h : within a b = true) (k : within b c = true) : within a c = true := by
  rw [within_iff] at *
  exact fun i hi => k i (h i hi)
structure KP (b : Bd) (ns : Bool) (m : Mc) : Prop where
  len : m.bd.l.length = b.l.length
  kept : ∀ i, m.touched.getLsbD i = false → m.bd.l[i]? = b.l[i]?
  high : ∀ i, b.l.length ≤ i → m.touched.getLsbD i = false
  lab : ns = true → ∀ (i : Nat) (c : Cl), b.l[i]? = some c → ∃ c' : Cl, m.bd.l[i]? = some c' ∧ c'.v = c.v ∧ within c.s c'.s = true
variable {b : Bd} {ns : Bool} {m : Mc} {E : Me}
theorem KP.set (h : KP b ns m) {i : Int} (hi : m.bd.there i = true) (c : Cl) (bd : Bd) (hb : bd.l = m.bd.l.set i.toNat c) (hc : ns = true → c.v = (m.bd.at i).v ∧ within (m.bd.at i).s c.s = true) : KP b ns { m with bd := bd, touched := m.touched ||| bit i } := by
  have hbl := b.h
  have hlen := h.len
  obtain ⟨h0, h1⟩ : 0 ≤ i ∧ i < (m.bd.l.length : Int) := by simpa [Bd.there] using hi
  refine ⟨by rw [hb, List.length_set]; exact h.len, fun j hj => ?_, fun j hj => ?_, fun hn j d hd => ?_⟩
  · simp only [BitVec.getLsbD_or, bit_get h0 (by omega), Bool.or_eq_false_iff, decide_eq_false_iff_not] at hj
    rw [hb, List.getElem?_set_ne (fun e => hj.2 e.symm)]
    exact h.kept j hj.1
  · simp only [BitVec.getLsbD_or, bit_get h0 (by omega), Bool.or_eq_false_iff, decide_eq_false_iff_not]
    exact ⟨h.high j hj, by omega⟩
  · obtain ⟨c', k1, k2, k3⟩ := h.lab hn j d hd
    rw [hb]
    by_cases e : i.toNat = j
    · subst e
      have hlt : i.toNat < m.bd.l.length := by omega
      refine ⟨c, by simp [hlt], ?_⟩
      obtain ⟨c1, c2⟩ := hc hn
      have ea : m.bd.at i = c' := by simp [Bd.at, List.getD_eq_getElem?_getD, k1]
      rw [ea] at c1 c2
      exact ⟨c1.trans k2, within_trans k3 c2⟩
    · rw [List.getElem?_set_ne e]
      exact ⟨c', k1, k2, k3⟩
theorem KP.same (h : KP b ns m) {m' : Mc} (h1 : m'.bd = m.bd) (h2 : m'.touched = m.touched) : KP b ns m' := ⟨by rw [h1]; exact h.len, by rw [h1, h2]; exact h.kept, by rw [h2]; exact h.high, by rw [h1]; exact h.lab⟩
theorem KP.put (h : KP b false m) {i : Int} (hi : m.bd.there i = true) (c : Cl) : KP b false { m with bd := m.bd.put i c, touched := m.touched ||| bit i } :=
  h.set hi c _ (by rw [Bd.put, if_pos hi]; rfl) (fun e => by cases e)
theorem KP.show (h : KP b ns m) {i : Int} (hi : m.bd.there i = true) (to : BitVec 32) : KP b ns { m with bd := m.bd.show i to, touched := m.touched ||| bit i } :=
  h.set hi ⟨(m.bd.at i).v, (m.bd.at i).s ||| to⟩ _ (by rw [Bd.show, if_pos hi]; rfl) (fun _ => ⟨rfl, within_or _ _⟩)
theorem KP.fill {start : Nat} {out : List Int} : ∀ (k : Nat) (m : Mc), KP b false m → start + k ≤ m.bd.l.length → KP b false (fillN m start out k)
  | 0, m, h, _ => h
  | k + 1, m, h, hk => by
    have ih := KP.fill (start := start) (out := out) k m h (by omega)
    have hl := fillN_len m start out k
    exact ih.put (by simp only [Bd.there, hl, decide_eq_true_eq]; omega) _
def isStore (x : Cd) : Bool := x.op == 3 || x.op == 5 || x.op == 24
theorem KP.reach (h : KP b ns m) (x : Cd) {size : Nat} (hr : x.right size m.bd.l.length E.moves.length = true) (hn : ns = true → isStore x = false) : KP b ns (reachF E m x) := by
  have hf : isStore x = true → ns = false := fun e => by cases ns with | false => rfl | true => rw [hn rfl] at e; cases e
  unfold reachF
  split
  · split
    · exact h.same rfl rfl
    · exact h.same rfl rfl
  · rename_i hop
    obtain rfl := hf (by simp [isStore, hop])
    split
    · rename_i hnm
      exact h.put (named_ok hnm).1 _
    · exact h.same rfl rfl
  · unfold revealF
    split
    · exact h.same rfl rfl
    · rename_i hnm
      have := h.show (named_ok (by simpa using hnm)).1 (Sh.one m x E.all (named E m x).1)
      exact this.same rfl rfl
  · rename_i hop
    obtain rfl := hf (by simp [isStore, hop])
    simp [Cd.right, hop, useOf] at hr
    have h' : KP b false { m with dice := (shufL m.dice (x.c - 1) (rowV m x.n.toNat x.c)).2 } := h.same rfl rfl
    exact KP.fill x.c _ h' (by show x.n.toNat + x.c ≤ m.bd.l.length; omega)
  · exact h
theorem KP.follow (h : KP b ns m) (x : Cd) {size : Nat} (hr : x.right size m.bd.l.length E.moves.length = true) (hn : ns = true → isStore x = false) : KP b ns (followF E m x) := by
  have hg : KP b ns m.go := h.same rfl rfl
  have hf : isStore x = true → ns = false := fun e => by cases ns with | false => rfl | true => rw [hn rfl] at e; cases e
  unfold followF
  simp only
  split
  all_goals first
    | exact hg.same rfl rfl
    | exact hg.reach x hr hn
    | skip
  · rename_i hop
    obtain rfl := hf (by simp [isStore, hop])
    simp [Cd.right, hop, useOf, nOk] at hr
    exact hg.put (decide_eq_true hr.1.1.1.1) _
  · split
    · split
      · exact hg.same rfl rfl
      · exact hg
    · exact hg.same rfl rfl
theorem KP.loop (l : List Cd) (hr : ∀ x ∈ l, x.right l.length b.l.length E.moves.length = true) (hn : ns = true → ∀ x ∈ l, isStore x = false) : ∀ (k : Nat) (m : Mc), KP b ns m → KP b ns (loopF E l k m)
  | 0, m, h => by
    rw [loopF]; split
    · exact h.same rfl rfl
    · exact h
  | k + 1, m, h => by
    rw [loopF]
    split
    · rename_i hc
      have hm := List.getElem_mem hc.2
      have e : l.getD m.pc ⟨0, 0, 0, 0, 0, 0⟩ = l[m.pc] := by simp [hc.2]
      rw [e]
      split
      · exact h.same rfl rfl
      · have h' : KP b ns { m with used := m.used + 1 } := h.same rfl rfl
        exact KP.loop l hr hn k _ (h'.follow l[m.pc] (by show l[m.pc].right l.length m.bd.l.length _ = true; rw [h.len]; exact hr _ hm) (fun e => hn e _ hm))
    · exact h
theorem KP.start (d : Int) : KP b ns (Go.Proofs.Ytcdlipdeemlibaa.G.start E b d) := ⟨rfl, fun _ _ => rfl, fun _ _ => by simp [Go.Proofs.Ytcdlipdeemlibaa.G.start], fun _ i c h => ⟨c, h, rfl, within_self _⟩⟩
end Go.Proofs.Ytcdlipdeemlibaa.G
namespace Go.Proofs.Ytcdlipdeemlibaa.G
open Go
set_option linter.unusedSimpArgs false
set_option linter.unusedVariables false
set_option maxRecDepth 20000
set_option maxHeartbeats 2000000
theorem push_set1 {α : Type} (J : Array α) (A X Y : α) : ((J.push A).push X).setIfInBounds (J.size + 1) Y = (J.push A).push Y := by
  have := push_set (J.push A) X Y
  rwa [Array.size_push] at this
attribute [go_sem] push_set1
end Go.Proofs.Ytcdlipdeemlibaa.G
