/- Joined: V6 to RD1. -/
import Derived.Test.YtcdlipdeemlibaaXF
import Derived.KernelRfl
set_option linter.unusedVariables false
set_option linter.unusedSimpArgs false
namespace Go.Proofs.Ytcdlipdeemlibaa.G
open Go
set_option linter.unusedSimpArgs false
set_option linter.unusedVariables false
set_option maxRecDepth 20000
variable {E : Me} {J : JH} {b : Nat} {sh : IV} {m : Mc}
structure Me.ok (E : Me) : Prop where
  mv : Ls 1 E.mv (E.moves.map (IV.int .i32))
  rng : ∀ v ∈ E.moves, -2147483648 ≤ v ∧ v < 2147483648
  len : E.moves.length ≤ 1000000
def reachF (E : Me) (m : Mc) (x : Cd) : Mc :=
  match x.op with
  | 4 => if (named E m x).2.1 then { m with r := m.r.set x.a (m.bd.at (named E m x).1) } else { m with err := (named E m x).2.2 }
  | 5 => if (named E m x).2.1 then { m with bd := m.bd.put (named E m x).1 (m.r.at x.a), touched := m.touched ||| bit (named E m x).1 } else { m with err := (named E m x).2.2 }
  | 22 => revealF E m x
  | 24 => shuffleF m x.n.toNat x.c
  | _ => m
theorem right_ab {x : Cd} {size cells players : Nat} (h : x.right size cells players = true) : x.op ≤ 25 ∧ x.a < 8 ∧ x.b < 8 := by
  unfold Cd.right at h
  split at h
  · simp at h
  · refine ⟨by omega, ?_⟩
    split at h
    · simp at h; omega
    · simp [regOk] at h; omega
theorem reach_ok (h : MAt E J b sh m) (x : Cd) (hx : x.wf) (size : Nat) (hr : x.right size m.bd.l.length E.moves.length = true) (hok : m.r.ok) (h0 : m.err = 0) (hs : m.shows.length ≤ 1000) (hop : x.op = 4 ∨ x.op = 5 ∨ x.op = 22 ∨ x.op = 24) :
    RP (ic BI F_vm_machine_reach [.ptr b 0 0, x.e] J) fun v J' => MOut E b J sh J' (reachF E m x) := by
  refine RP_run fn_vm_machine_reach rfl fun K hK => ?_
  have hb := h.1
  have hin := inb hb
  obtain ⟨_, ha8, hb8⟩ := right_ab hr
  unfold l_vm_machine_reach Cd.e Cd.cs
  have hcs : x.cs = [.int .u8 (x.op : Int), .int .u8 (x.a : Int), .int .u8 (x.b : Int), .int .u8 (x.c : Int), .int .i32 x.n, m32 x.mask] := rfl
  have e0 : ({ m with err := 0 } : Mc) = m := by cases m; simp_all
  rcases hop with hop | hop | hop | hop
  · have q4 : (x.op == 4) = true := by simp [hop]
    have hR : reachF E m x = if (named E m x).2.1 then { m with r := m.r.set x.a (m.bd.at (named E m x).1) } else { m with err := (named E m x).2.2 } := by simp [reachF, hop]
    rw [hR] at hK
    simp -implicitDefEqProofs only [go_sem, dnW_ite, reduceIte, Nat.reduceAdd, Nat.reduceLeDiff, Nat.reduceMul, Nat.reduceEqDiff, Int.reduceLT, Int.reduceLE, Int.reduceToNat, Nat.reduceSub, Nat.reduceLT, Int.reduceEq, BitVec.reduceOfInt, BitVec.reduceOfNat, Int.reduceGT, Int.reduceGE, Int.reduceBEq, Int.reduceBNe, Nat.reduceGT, Nat.reduceBEq, Nat.reduceBNe, Int.reduceAdd, Int.reduceSub, Int.reduceNeg, natBeqc, q4, Array.getElem?_push, hin]
    refine WP_call (index_ok (h.push (IB.cells 0 x.cs false)) x hx hb8 hok h0) fun v J1 hv => ?_
    obtain ⟨rfl, sh1, h1, u1⟩ := hv
    have hbx := u1.keep (push_get J _) (by have := lt_get hb; omega) (fun hm => by have := (h.2.2.low _ hm); omega)
    simp only [hcs] at hbx
    cases hn : (named E m x).2.1 with
    | false =>
      simp -implicitDefEqProofs only [go_sem, dnW_ite, reduceIte, Nat.reduceAdd, Nat.reduceLeDiff, Nat.reduceMul, Nat.reduceEqDiff, Int.reduceLT, Int.reduceLE, Int.reduceToNat, Nat.reduceSub, Nat.reduceLT, Int.reduceEq, BitVec.reduceOfInt, BitVec.reduceOfNat, Int.reduceGT, Int.reduceGE, Int.reduceBEq, Int.reduceBNe, Nat.reduceGT, Nat.reduceBEq, Nat.reduceBNe, Int.reduceAdd, Int.reduceSub, Int.reduceNeg, hn]
      rw [hn] at hK
      exact hK _ _ (MOut.trans (.push _) ⟨sh1, h1, u1⟩)
    | true =>
      obtain ⟨ht, he⟩ := named_ok hn
      rw [he, e0] at h1
      simp -implicitDefEqProofs only [go_sem, dnW_ite, reduceIte, Nat.reduceAdd, Nat.reduceLeDiff, Nat.reduceMul, Nat.reduceEqDiff, Int.reduceLT, Int.reduceLE, Int.reduceToNat, Nat.reduceSub, Nat.reduceLT, Int.reduceEq, BitVec.reduceOfInt, BitVec.reduceOfNat, Int.reduceGT, Int.reduceGE, Int.reduceBEq, Int.reduceBNe, Nat.reduceGT, Nat.reduceBEq, Nat.reduceBNe, Int.reduceAdd, Int.reduceSub, Int.reduceNeg, hn, hbx]
      refine WP_call (load_ok h1 x.a ha8 _ ht) fun v J2 hv => ?_
      simp -implicitDefEqProofs only [go_sem, dnW_ite, reduceIte, Nat.reduceAdd, Nat.reduceLeDiff, Nat.reduceMul, Nat.reduceEqDiff, Int.reduceLT, Int.reduceLE, Int.reduceToNat, Nat.reduceSub, Nat.reduceLT, Int.reduceEq, BitVec.reduceOfInt, BitVec.reduceOfNat, Int.reduceGT, Int.reduceGE, Int.reduceBEq, Int.reduceBNe, Nat.reduceGT, Nat.reduceBEq, Nat.reduceBNe, Int.reduceAdd, Int.reduceSub, Int.reduceNeg]
      rw [hn] at hK
      exact hK _ _ (MOut.trans (.push _) (MOut.trans u1 hv))
  · have q4 : (x.op == 4) = false := by simp [hop]
    have q5 : (x.op == 5) = true := by simp [hop]
    have hR : reachF E m x = if (named E m x).2.1 then { m with bd := m.bd.put (named E m x).1 (m.r.at x.a), touched := m.touched ||| bit (named E m x).1 } else { m with err := (named E m x).2.2 } := by simp [reachF, hop]
    rw [hR] at hK
    simp -implicitDefEqProofs only [go_sem, dnW_ite, reduceIte, Nat.reduceAdd, Nat.reduceLeDiff, Nat.reduceMul, Nat.reduceEqDiff, Int.reduceLT, Int.reduceLE, Int.reduceToNat, Nat.reduceSub, Nat.reduceLT, Int.reduceEq, BitVec.reduceOfInt, BitVec.reduceOfNat, Int.reduceGT, Int.reduceGE, Int.reduceBEq, Int.reduceBNe, Nat.reduceGT, Nat.reduceBEq, Nat.reduceBNe, Int.reduceAdd, Int.reduceSub, Int.reduceNeg, natBeqc, q4, q5, Array.getElem?_push, hin]
    refine WP_call (index_ok (h.push (IB.cells 0 x.cs false)) x hx hb8 hok h0) fun v J1 hv => ?_
    obtain ⟨rfl, sh1, h1, u1⟩ := hv
    have hbx := u1.keep (push_get J _) (by have := lt_get hb; omega) (fun hm => by have := (h.2.2.low _ hm); omega)
    simp only [hcs] at hbx
    cases hn : (named E m x).2.1 with
    | false =>
      simp -implicitDefEqProofs only [go_sem, dnW_ite, reduceIte, Nat.reduceAdd, Nat.reduceLeDiff, Nat.reduceMul, Nat.reduceEqDiff, Int.reduceLT, Int.reduceLE, Int.reduceToNat, Nat.reduceSub, Nat.reduceLT, Int.reduceEq, BitVec.reduceOfInt, BitVec.reduceOfNat, Int.reduceGT, Int.reduceGE, Int.reduceBEq, Int.reduceBNe, Nat.reduceGT, Nat.reduceBEq, Nat.reduceBNe, Int.reduceAdd, Int.reduceSub, Int.reduceNeg, hn]
      rw [hn] at hK
      exact hK _ _ (MOut.trans (.push _) ⟨sh1, h1, u1⟩)
    | true =>
      obtain ⟨ht, he⟩ := named_ok hn
      rw [he, e0] at h1
      have hb1 := h1.1
      simp -implicitDefEqProofs only [go_sem, dnW_ite, reduceIte, Nat.reduceAdd, Nat.reduceLeDiff, Nat.reduceMul, Nat.reduceEqDiff, Int.reduceLT, Int.reduceLE, Int.reduceToNat, Nat.reduceSub, Nat.reduceLT, Int.reduceEq, BitVec.reduceOfInt, BitVec.reduceOfNat, Int.reduceGT, Int.reduceGE, Int.reduceBEq, Int.reduceBNe, Nat.reduceGT, Nat.reduceBEq, Nat.reduceBNe, Int.reduceAdd, Int.reduceSub, Int.reduceNeg, hn, hbx, hb1, b8 ha8, ld_r E m sh1 ha8]
      refine WP_call (store_ok h1 _ (m.r.at x.a) ht) fun v J2 hv => ?_
      simp -implicitDefEqProofs only [go_sem, dnW_ite, reduceIte, Nat.reduceAdd, Nat.reduceLeDiff, Nat.reduceMul, Nat.reduceEqDiff, Int.reduceLT, Int.reduceLE, Int.reduceToNat, Nat.reduceSub, Nat.reduceLT, Int.reduceEq, BitVec.reduceOfInt, BitVec.reduceOfNat, Int.reduceGT, Int.reduceGE, Int.reduceBEq, Int.reduceBNe, Nat.reduceGT, Nat.reduceBEq, Nat.reduceBNe, Int.reduceAdd, Int.reduceSub, Int.reduceNeg]
      rw [hn] at hK
      exact hK _ _ (MOut.trans (.push _) (MOut.trans u1 hv))
  · have q4 : (x.op == 4) = false := by simp [hop]
    have q5 : (x.op == 5) = false := by simp [hop]
    have q22 : (x.op == 22) = true := by simp [hop]
    have hR : reachF E m x = revealF E m x := by simp [reachF, hop]
    rw [hR] at hK
    simp -implicitDefEqProofs only [go_sem, dnW_ite, reduceIte, Nat.reduceAdd, Nat.reduceLeDiff, Nat.reduceMul, Nat.reduceEqDiff, Int.reduceLT, Int.reduceLE, Int.reduceToNat, Nat.reduceSub, Nat.reduceLT, Int.reduceEq, BitVec.reduceOfInt, BitVec.reduceOfNat, Int.reduceGT, Int.reduceGE, Int.reduceBEq, Int.reduceBNe, Nat.reduceGT, Nat.reduceBEq, Nat.reduceBNe, Int.reduceAdd, Int.reduceSub, Int.reduceNeg, natBeqc, q4, q5, q22, Array.getElem?_push, hin]
    refine WP_call (reveal_ok (h.push (IB.cells 0 x.cs false)) x hx hb8 hok h0 hs) fun v J1 hv => ?_
    simp -implicitDefEqProofs only [go_sem, dnW_ite, reduceIte, Nat.reduceAdd, Nat.reduceLeDiff, Nat.reduceMul, Nat.reduceEqDiff, Int.reduceLT, Int.reduceLE, Int.reduceToNat, Nat.reduceSub, Nat.reduceLT, Int.reduceEq, BitVec.reduceOfInt, BitVec.reduceOfNat, Int.reduceGT, Int.reduceGE, Int.reduceBEq, Int.reduceBNe, Nat.reduceGT, Nat.reduceBEq, Nat.reduceBNe, Int.reduceAdd, Int.reduceSub, Int.reduceNeg]
    exact hK _ _ (MOut.trans (.push _) hv)
  · have q4 : (x.op == 4) = false := by simp [hop]
    have q5 : (x.op == 5) = false := by simp [hop]
    have q22 : (x.op == 22) = false := by simp [hop]
    have q24 : (x.op == 24) = true := by simp [hop]
    have hR : reachF E m x = shuffleF m x.n.toNat x.c := by simp [reachF, hop]
    rw [hR] at hK
    simp [Cd.right, hop, useOf] at hr
    obtain ⟨⟨⟨⟨_, hr1⟩, hr2⟩, hr3⟩, hr4⟩ := hr
    obtain ⟨w1, w2, w3, w4, w5, w6⟩ := hx
    have e1 : IntKind.i64.wrap x.n = (x.n.toNat : Int) := by rw [wrap_i64 (by omega) (by omega)]; omega
    have e2 : IntKind.i64.wrap (x.c : Int) = x.c := wrap_i64 (by omega) (by omega)
    simp -implicitDefEqProofs only [go_sem, dnW_ite, reduceIte, Nat.reduceAdd, Nat.reduceLeDiff, Nat.reduceMul, Nat.reduceEqDiff, Int.reduceLT, Int.reduceLE, Int.reduceToNat, Nat.reduceSub, Nat.reduceLT, Int.reduceEq, BitVec.reduceOfInt, BitVec.reduceOfNat, Int.reduceGT, Int.reduceGE, Int.reduceBEq, Int.reduceBNe, Nat.reduceGT, Nat.reduceBEq, Nat.reduceBNe, Int.reduceAdd, Int.reduceSub, Int.reduceNeg, natBeqc, q4, q5, q22, q24, Array.getElem?_push, hin, e1, e2]
    refine WP_call (shuffle_ok (h.push (IB.cells 0 x.cs false)) x.n.toNat x.c hr1.1 (by omega)) fun v J1 hv => ?_
    simp -implicitDefEqProofs only [go_sem, dnW_ite, reduceIte, Nat.reduceAdd, Nat.reduceLeDiff, Nat.reduceMul, Nat.reduceEqDiff, Int.reduceLT, Int.reduceLE, Int.reduceToNat, Nat.reduceSub, Nat.reduceLT, Int.reduceEq, BitVec.reduceOfInt, BitVec.reduceOfNat, Int.reduceGT, Int.reduceGE, Int.reduceBEq, Int.reduceBNe, Nat.reduceGT, Nat.reduceBEq, Nat.reduceBNe, Int.reduceAdd, Int.reduceSub, Int.reduceNeg]
    exact hK _ _ (MOut.trans (.push _) hv)
end Go.Proofs.Ytcdlipdeemlibaa.G
namespace Go.Proofs.Ytcdlipdeemlibaa.G
open Go
set_option linter.unusedSimpArgs false
set_option linter.unusedVariables false
set_option maxRecDepth 20000
set_option maxHeartbeats 2000000
variable {E : Me} {J : JH} {b : Nat} {sh : IV} {m : Mc}
theorem pre_use {l : L} {ρ : List IV} {K : Out IV → JH → Prop} {C A B Y Z1 Z2 Z3 : IB} {m1 : Mc} (h : MAt E J b sh m) (hs : m1.shows = m.shows)
    (hk : ∀ J1, MAt E J1 b sh m1 → Upd b J sh J1 sh → J1[J.size]? = some C → J1[J.size + 1]? = some A → J1[J.size + 2]? = some B → J1[J.size + 3]? = some Y → WP (dn BI l ρ J1) K) :
    WP (dn BI l ρ (((((((((J.push C).setIfInBounds b (IB.cells 0 (mc E m1 sh) false)).push Z1).push Z2).push Z3).setIfInBounds (J.size + 1) A).setIfInBounds (J.size + 2) B).setIfInBounds (J.size + 3) Y))) K := by
  have hlt := lt_get h.1
  have hg : ∀ d, d < J.size → d ≠ b → ((((((((J.push C).setIfInBounds b (IB.cells 0 (mc E m1 sh) false)).push Z1).push Z2).push Z3).setIfInBounds (J.size + 1) A).setIfInBounds (J.size + 2) B).setIfInBounds (J.size + 3) Y)[d]? = J[d]? := by
    intro d hd hne
    simp only [Array.getElem?_setIfInBounds, Array.getElem?_push, Array.size_push, Array.size_setIfInBounds]
    rw [if_neg (by omega), if_neg (by omega), if_neg (by omega), if_neg (by omega), if_neg (by omega), if_neg (by omega), if_neg (fun e => hne e.symm), if_neg (by omega)]
  have hf : Fr J ((((((((J.push C).setIfInBounds b (IB.cells 0 (mc E m1 sh) false)).push Z1).push Z2).push Z3).setIfInBounds (J.size + 1) A).setIfInBounds (J.size + 2) B).setIfInBounds (J.size + 3) Y) [b] :=
    ⟨by simp; omega, fun d hd hn => hg d hd (by simpa using hn)⟩
  refine hk _ ⟨?_, h.2.1, ?_⟩ ⟨⟨hf.1, fun d hd hn => hf.2 d hd (by simp at hn ⊢; exact hn.1)⟩, fun c hc => .inl hc⟩ ?_ ?_ ?_ ?_
  · simp only [Array.getElem?_setIfInBounds, Array.getElem?_push, Array.size_push, Array.size_setIfInBounds]
    rw [if_neg (by omega), if_neg (by omega), if_neg (by omega), if_neg (by omega), if_neg (by omega), if_neg (by omega), if_true, if_pos (by omega)]
  · rw [hs]
    exact h.2.2.fr hf fun c hc hm => by simp at hm; exact h.2.1 (hm ▸ hc)
  · simp only [Array.getElem?_setIfInBounds, Array.getElem?_push, Array.size_push, Array.size_setIfInBounds]
    rw [if_neg (by omega), if_neg (by omega), if_neg (by omega), if_neg (by omega), if_neg (by omega), if_neg (by omega), if_neg (by omega), if_true]
  · simp [Array.size_push, Array.size_setIfInBounds]
  · simp [Array.size_push, Array.size_setIfInBounds]
  · simp [Array.size_push, Array.size_setIfInBounds]
def Mc.go (m : Mc) : Mc := { m with pc := m.pc + 1 }
def followF (E : Me) (m0 : Mc) (x : Cd) : Mc :=
  let m := m0.go
  match x.op with
  | 1 => { m with r := m.r.set x.a ⟨x.n, E.all⟩ }
  | 2 => { m with r := m.r.set x.a (m.bd.at x.n) }
  | 3 => { m with bd := m.bd.put x.n (m.r.at x.a), touched := m.touched ||| bit x.n }
  | 18 => { m with r := m.r.set x.a ⟨if (m.r.at x.a).v = 0 then (m.r.at (x.c % 8)).v else (m.r.at x.b).v, (m.r.at x.a).s &&& (m.r.at x.b).s &&& (m.r.at (x.c % 8)).s⟩ }
  | 19 => if within E.all (m.r.at x.a).s then (if (m.r.at x.a).v = 0 then { m with pc := x.n.toNat } else m) else { m with err := 8 }
  | 20 => { m with pc := x.n.toNat }
  | 21 => { m with r := m.r.set x.a ⟨E.moves.getD x.n.toNat 0, oneM x.n⟩ }
  | 23 => { m with dice := sn m.dice, r := m.r.set x.a ⟨below m.dice x.n, 0#32⟩ }
  | 25 => { m with r := m.r.set x.a ⟨w32 E.tick, E.all⟩ }
  | 4 | 5 | 22 | 24 => reachF E m x
  | op => { m with r := m.r.set x.a ⟨computeF op (m.r.at x.b).v (m.r.at (x.c % 8)).v, (m.r.at x.b).s &&& (m.r.at (x.c % 8)).s⟩ }
theorem MAt.setO {d : Nat} (h : MAt E J b sh m) (hb : d ≠ b) (hs : d ∉ blk sh) (X : IB) : MAt E (J.setIfInBounds d X) b sh m :=
  h.fr (Fr.set J X (S := [d]) (by simp)) (by simpa using fun e => hb e.symm) (fun c hc hm => by simp at hm; exact hs (hm ▸ hc))
theorem Upd.setO {d : Nat} {J1 : JH} {s s1 : IV} (h : Upd b J s J1 s1) (hd : J.size ≤ d) (X : IB) : Upd b J s (J1.setIfInBounds d X) s1 :=
  ⟨⟨by rw [Array.size_setIfInBounds]; exact h.1.1, fun c hc hn => by rw [Array.getElem?_setIfInBounds, if_neg (by omega)]; exact h.1.2 c hc hn⟩, h.2⟩
/-- Code behind its first operations. -/
def dropO : Nat → L → L
  | 0, l => l
  | n + 1, .op _ k => dropO n k
  | _, l => l
theorem dropO_o (n : Nat) (p : SOp) (k : L) : dropO (n + 1) (o p k) = dropO n k := rfl
theorem dropO_om (n : Nat) (md : Md) (p : SOp) (k : L) : dropO (n + 1) (om md p k) = dropO n k := rfl
theorem dropO_oc (n : Nat) (g : Option (Operand × Bool)) (p : SOp) (md : Md) (chk : List (Option (Operand × Bool) × SOp)) (k : L) : dropO (n + 1) (oc g p md chk k) = dropO n k := rfl
theorem dropO_0 (l : L) : dropO 0 l = l := by cases l <;> rfl
def folRho (b k : Nat) (m : Mc) (x : Cd) : List IV := [IV.ptr b 0 0, x.e, IV.ptr k 0 0, IV.ptr b 0 0, IV.ptr b 0 118, nI m.pc, IV.sc (Value.int IntKind.i64 ((m.pc + 1 : Nat) : Int)),
        IV.ptr b 0 0, IV.ptr b 0 118, IV.tup [], IV.ptr k 0 1, IV.int IntKind.u8 (x.a : Int), IV.ptr b 0 0,
        IV.ptr b 0 102, IV.ptr b 0 (102 + x.a * 2), IV.agg [IV.int IntKind.i32 (m.r.at x.a).v, m32 (m.r.at x.a).s],
        IV.ptr k 0 2, IV.int IntKind.u8 (x.b : Int), IV.ptr b 0 0, IV.ptr b 0 102, IV.ptr b 0 (102 + x.b * 2),
        IV.agg [IV.int IntKind.i32 (m.r.at x.b).v, m32 (m.r.at x.b).s], IV.ptr k 0 3,
        IV.int IntKind.u8 (x.c : Int), IV.sc (Value.int IntKind.u8 ((x.c % 8 : Nat) : Int)), IV.ptr b 0 0, IV.ptr b 0 102,
        IV.ptr b 0 (102 + x.c % 8 * 2), IV.agg [IV.int IntKind.i32 (m.r.at (x.c % 8)).v, m32 (m.r.at (x.c % 8)).s],
        IV.ptr (k + 1) 0 0, IV.ptr (k + 2) 0 0, IV.ptr (k + 3) 0 0, IV.tup [],
        IV.tup [], IV.tup [], IV.ptr k 0 0, IV.int IntKind.u8 (x.op : Int),
        IV.sc (Value.bool (decide (x.op = 1)))]
/-- What stands behind an instruction's first steps: the boxes of it, of a, x, y. -/
structure Fol (E : Me) (b : Nat) (J : JH) (sh : IV) (m : Mc) (x : Cd) (J1 : JH) : Prop where
  at' : MAt E J1 b sh m.go
  upd : Upd b J sh J1 sh
  C : J1[J.size]? = some (IB.cells 0 x.cs false)
  A : J1[J.size + 1]? = some (IB.cells 0 [IV.int .i32 (m.r.at x.a).v, m32 (m.r.at x.a).s] false)
  B : J1[J.size + 2]? = some (IB.cells 0 [IV.int .i32 (m.r.at x.b).v, m32 (m.r.at x.b).s] false)
  Y : J1[J.size + 3]? = some (IB.cells 0 [IV.int .i32 (m.r.at (x.c % 8)).v, m32 (m.r.at (x.c % 8)).s] false)
theorem follow_pre (h : MAt E J b sh m) (x : Cd) (size : Nat) (hr : x.right size m.bd.l.length E.moves.length = true) (hpc : m.pc ≤ 1000) (K : Out IV → JH → Prop)
    (hk : ∀ J1, Fol E b J sh m x J1 → WP (dn BI (dropO 36 l_vm_machine_follow.body) (folRho b J.size m x) J1) K) : WP (dn BI l_vm_machine_follow.body [.ptr b 0 0, x.e] J) K := by
  have hb := h.1
  have hin := inb hb
  obtain ⟨hop25, ha8, hb8⟩ := right_ab hr
  have hc8 : x.c % 8 < 8 := by omega
  have hrem : Int.tmod (x.c : Int) 8 = ((x.c % 8 : Nat) : Int) := rfl
  unfold folRho at hk
  simp only [l_vm_machine_follow, dropO_o, dropO_om, dropO_oc, dropO_0] at hk
  unfold l_vm_machine_follow
  unfold Cd.e Cd.cs at *
  simp -implicitDefEqProofs only [go_sem, reduceIte, Nat.reduceAdd, Nat.reduceLeDiff, Nat.reduceMul, Nat.reduceEqDiff, Int.reduceLT, Int.reduceLE, Int.reduceToNat, Nat.reduceSub, Nat.reduceLT, Int.reduceEq, BitVec.reduceOfInt, BitVec.reduceOfNat, Int.reduceGT, Int.reduceGE, Int.reduceBEq, Int.reduceBNe, Nat.reduceGT, Nat.reduceBEq, Nat.reduceBNe, Int.reduceAdd, Int.reduceSub, Int.reduceNeg, natBeqc, hb, Array.getElem?_push, Array.getElem?_setIfInBounds, hin, b8 ha8, b8 hb8, b8 hc8, ld_r E { m with pc := m.pc + 1 } sh ha8, ld_r E { m with pc := m.pc + 1 } sh hb8, ld_r E { m with pc := m.pc + 1 } sh hc8, hrem, wrapS (show m.pc < 1001 by omega) (by omega), natBeqD]
  refine pre_use (m1 := m.go) h rfl fun J1 h1 u1 hC hA hB hY => ?_
  exact hk J1 ⟨h1, u1, hC, hA, hB, hY⟩
end Go.Proofs.Ytcdlipdeemlibaa.G
namespace Go.Proofs.Ytcdlipdeemlibaa.G
open Go
set_option linter.unusedSimpArgs false
set_option linter.unusedVariables false
set_option maxRecDepth 20000
set_option maxHeartbeats 2000000
variable {E : Me} {J : JH} {b : Nat} {sh : IV} {m : Mc}
theorem fol_1 (h : MAt E J b sh m) (x : Cd) (hx : x.wf) (size : Nat) (hr : x.right size m.bd.l.length E.moves.length = true) (hop : x.op = 1) {J1 : JH} (f : Fol E b J sh m x J1) (K : Out IV → JH → Prop)
    (hK : ∀ J', MOut E b J sh J' (followF E m x) → K (.ret []) J') : WP (dn BI (dropO 36 l_vm_machine_follow.body) (folRho b J.size m x) J1) K := by
  have hb := h.1
  have hin := inb hb
  obtain ⟨hop25, ha8, hb8⟩ := right_ab hr
  have hc8 : x.c % 8 < 8 := by omega
  have w := hx
  obtain ⟨w1, w2, w3, w4, w5, w6⟩ := hx
  obtain ⟨h1, u1, hC, hA, hB, hY⟩ := f
  have hb1 := h1.1
  have hin1 := inb hb1
  have iC := inb hC
  have iA := inb hA
  have iB := inb hB
  have iY := inb hY
  have tt : ∀ j, (x.op = j) = (1 = j) := fun j => by rw [hop]
  simp only [followF, hop] at hK
  simp only [Cd.right, hop, useOf, nOk] at hr
  simp at hr
  unfold folRho
  simp only [l_vm_machine_follow, dropO_o, dropO_om, dropO_oc, dropO_0]
  unfold Cd.e
  unfold Cd.cs at *
  simp -implicitDefEqProofs only [go_sem, dnW_ite, reduceIte, Nat.reduceAdd, Nat.reduceLeDiff, Nat.reduceMul, Nat.reduceEqDiff, Int.reduceLT, Int.reduceLE, Int.reduceToNat, Nat.reduceSub, Nat.reduceLT, Int.reduceEq, BitVec.reduceOfInt, BitVec.reduceOfNat, Int.reduceGT, Int.reduceGE, Int.reduceBEq, Int.reduceBNe, Nat.reduceGT, Nat.reduceBEq, Nat.reduceBNe, Int.reduceAdd, Int.reduceSub, Int.reduceNeg, natBeqc, natBeqD, tt, hb1, hC, hA, hB, hY, Array.getElem?_setIfInBounds, Array.getElem?_push, hin, hin1, iC, iA, iB, iY, b8 ha8, st_r E m.go sh ha8]
  exact hK _ (MOut.trans u1 (MOut.set h1 _ rfl))
theorem fol_25 (h : MAt E J b sh m) (x : Cd) (hx : x.wf) (size : Nat) (hr : x.right size m.bd.l.length E.moves.length = true) (hop : x.op = 25) {J1 : JH} (f : Fol E b J sh m x J1) (K : Out IV → JH → Prop)
    (hK : ∀ J', MOut E b J sh J' (followF E m x) → K (.ret []) J') : WP (dn BI (dropO 36 l_vm_machine_follow.body) (folRho b J.size m x) J1) K := by
  have hb := h.1
  have hin := inb hb
  obtain ⟨hop25, ha8, hb8⟩ := right_ab hr
  have hc8 : x.c % 8 < 8 := by omega
  have w := hx
  obtain ⟨w1, w2, w3, w4, w5, w6⟩ := hx
  obtain ⟨h1, u1, hC, hA, hB, hY⟩ := f
  have hb1 := h1.1
  have hin1 := inb hb1
  have iC := inb hC
  have iA := inb hA
  have iB := inb hB
  have iY := inb hY
  have tt : ∀ j, (x.op = j) = (25 = j) := fun j => by rw [hop]
  simp only [followF, hop] at hK
  simp only [Cd.right, hop, useOf, nOk] at hr
  simp at hr
  unfold folRho
  simp only [l_vm_machine_follow, dropO_o, dropO_om, dropO_oc, dropO_0]
  unfold Cd.e
  unfold Cd.cs at *
  simp -implicitDefEqProofs only [go_sem, dnW_ite, reduceIte, Nat.reduceAdd, Nat.reduceLeDiff, Nat.reduceMul, Nat.reduceEqDiff, Int.reduceLT, Int.reduceLE, Int.reduceToNat, Nat.reduceSub, Nat.reduceLT, Int.reduceEq, BitVec.reduceOfInt, BitVec.reduceOfNat, Int.reduceGT, Int.reduceGE, Int.reduceBEq, Int.reduceBNe, Nat.reduceGT, Nat.reduceBEq, Nat.reduceBNe, Int.reduceAdd, Int.reduceSub, Int.reduceNeg, natBeqc, natBeqD, tt, hb1, hC, hA, hB, hY, Array.getElem?_setIfInBounds, Array.getElem?_push, hin, hin1, iC, iA, iB, iY, b8 ha8, st_r E m.go sh ha8]
  exact hK _ (MOut.trans u1 (MOut.set h1 _ rfl))
theorem fol_2 (h : MAt E J b sh m) (x : Cd) (hx : x.wf) (size : Nat) (hr : x.right size m.bd.l.length E.moves.length = true) (hop : x.op = 2) {J1 : JH} (f : Fol E b J sh m x J1) (K : Out IV → JH → Prop)
    (hK : ∀ J', MOut E b J sh J' (followF E m x) → K (.ret []) J') : WP (dn BI (dropO 36 l_vm_machine_follow.body) (folRho b J.size m x) J1) K := by
  have hb := h.1
  have hin := inb hb
  obtain ⟨hop25, ha8, hb8⟩ := right_ab hr
  have hc8 : x.c % 8 < 8 := by omega
  have w := hx
  obtain ⟨w1, w2, w3, w4, w5, w6⟩ := hx
  obtain ⟨h1, u1, hC, hA, hB, hY⟩ := f
  have hb1 := h1.1
  have hin1 := inb hb1
  have iC := inb hC
  have iA := inb hA
  have iB := inb hB
  have iY := inb hY
  have tt : ∀ j, (x.op = j) = (2 = j) := fun j => by rw [hop]
  simp only [followF, hop] at hK
  simp only [Cd.right, hop, useOf, nOk] at hr
  simp at hr
  unfold folRho
  simp only [l_vm_machine_follow, dropO_o, dropO_om, dropO_oc, dropO_0]
  unfold Cd.e
  unfold Cd.cs at *
  have e1 : IntKind.i64.wrap x.n = x.n := wrap_i64 (by omega) (by omega)
  have hth : m.go.bd.there x.n = true := decide_eq_true hr.1.1.1.1
  simp -implicitDefEqProofs only [go_sem, dnW_ite, reduceIte, Nat.reduceAdd, Nat.reduceLeDiff, Nat.reduceMul, Nat.reduceEqDiff, Int.reduceLT, Int.reduceLE, Int.reduceToNat, Nat.reduceSub, Nat.reduceLT, Int.reduceEq, BitVec.reduceOfInt, BitVec.reduceOfNat, Int.reduceGT, Int.reduceGE, Int.reduceBEq, Int.reduceBNe, Nat.reduceGT, Nat.reduceBEq, Nat.reduceBNe, Int.reduceAdd, Int.reduceSub, Int.reduceNeg, natBeqc, natBeqD, tt, hb1, hC, hA, hB, hY, Array.getElem?_setIfInBounds, Array.getElem?_push, hin, hin1, iC, iA, iB, iY, e1]
  refine WP_call (load_ok h1 x.a ha8 x.n hth) fun v J2 hv => ?_
  simp -implicitDefEqProofs only [go_sem, dnW_ite, reduceIte, Nat.reduceAdd, Nat.reduceLeDiff, Nat.reduceMul, Nat.reduceEqDiff, Int.reduceLT, Int.reduceLE, Int.reduceToNat, Nat.reduceSub, Nat.reduceLT, Int.reduceEq, BitVec.reduceOfInt, BitVec.reduceOfNat, Int.reduceGT, Int.reduceGE, Int.reduceBEq, Int.reduceBNe, Nat.reduceGT, Nat.reduceBEq, Nat.reduceBNe, Int.reduceAdd, Int.reduceSub, Int.reduceNeg]
  exact hK _ (MOut.trans u1 hv)
theorem fol_3 (h : MAt E J b sh m) (x : Cd) (hx : x.wf) (size : Nat) (hr : x.right size m.bd.l.length E.moves.length = true) (hop : x.op = 3) {J1 : JH} (f : Fol E b J sh m x J1) (K : Out IV → JH → Prop)
    (hK : ∀ J', MOut E b J sh J' (followF E m x) → K (.ret []) J') : WP (dn BI (dropO 36 l_vm_machine_follow.body) (folRho b J.size m x) J1) K := by
  have hb := h.1
  have hin := inb hb
  obtain ⟨hop25, ha8, hb8⟩ := right_ab hr
  have hc8 : x.c % 8 < 8 := by omega
  have w := hx
  obtain ⟨w1, w2, w3, w4, w5, w6⟩ := hx
  obtain ⟨h1, u1, hC, hA, hB, hY⟩ := f
  have hb1 := h1.1
  have hin1 := inb hb1
  have iC := inb hC
  have iA := inb hA
  have iB := inb hB
  have iY := inb hY
  have tt : ∀ j, (x.op = j) = (3 = j) := fun j => by rw [hop]
  simp only [followF, hop] at hK
  simp only [Cd.right, hop, useOf, nOk] at hr
  simp at hr
  unfold folRho
  simp only [l_vm_machine_follow, dropO_o, dropO_om, dropO_oc, dropO_0]
  unfold Cd.e
  unfold Cd.cs at *
  have e1 : IntKind.i64.wrap x.n = x.n := wrap_i64 (by omega) (by omega)
  have hth : m.go.bd.there x.n = true := decide_eq_true hr.1.1.1.1
  simp -implicitDefEqProofs only [go_sem, dnW_ite, reduceIte, Nat.reduceAdd, Nat.reduceLeDiff, Nat.reduceMul, Nat.reduceEqDiff, Int.reduceLT, Int.reduceLE, Int.reduceToNat, Nat.reduceSub, Nat.reduceLT, Int.reduceEq, BitVec.reduceOfInt, BitVec.reduceOfNat, Int.reduceGT, Int.reduceGE, Int.reduceBEq, Int.reduceBNe, Nat.reduceGT, Nat.reduceBEq, Nat.reduceBNe, Int.reduceAdd, Int.reduceSub, Int.reduceNeg, natBeqc, natBeqD, tt, hb1, hC, hA, hB, hY, Array.getElem?_setIfInBounds, Array.getElem?_push, hin, hin1, iC, iA, iB, iY, e1]
  refine WP_call (store_ok h1 x.n (m.r.at x.a) hth) fun v J2 hv => ?_
  simp -implicitDefEqProofs only [go_sem, dnW_ite, reduceIte, Nat.reduceAdd, Nat.reduceLeDiff, Nat.reduceMul, Nat.reduceEqDiff, Int.reduceLT, Int.reduceLE, Int.reduceToNat, Nat.reduceSub, Nat.reduceLT, Int.reduceEq, BitVec.reduceOfInt, BitVec.reduceOfNat, Int.reduceGT, Int.reduceGE, Int.reduceBEq, Int.reduceBNe, Nat.reduceGT, Nat.reduceBEq, Nat.reduceBNe, Int.reduceAdd, Int.reduceSub, Int.reduceNeg]
  exact hK _ (MOut.trans u1 hv)
end Go.Proofs.Ytcdlipdeemlibaa.G
namespace Go.Proofs.Ytcdlipdeemlibaa.G
open Go
set_option linter.unusedSimpArgs false
set_option linter.unusedVariables false
set_option maxRecDepth 20000
set_option maxHeartbeats 2000000
variable {E : Me} {J : JH} {b : Nat} {sh : IV} {m : Mc}
theorem fol_18 (h : MAt E J b sh m) (x : Cd) (hx : x.wf) (size : Nat) (hr : x.right size m.bd.l.length E.moves.length = true) (hop : x.op = 18) {J1 : JH} (f : Fol E b J sh m x J1) (K : Out IV → JH → Prop)
    (hK : ∀ J', MOut E b J sh J' (followF E m x) → K (.ret []) J') : WP (dn BI (dropO 36 l_vm_machine_follow.body) (folRho b J.size m x) J1) K := by
  have hb := h.1
  have hin := inb hb
  obtain ⟨hop25, ha8, hb8⟩ := right_ab hr
  have hc8 : x.c % 8 < 8 := by omega
  have w := hx
  obtain ⟨w1, w2, w3, w4, w5, w6⟩ := hx
  obtain ⟨h1, u1, hC, hA, hB, hY⟩ := f
  have hb1 := h1.1
  have hin1 := inb hb1
  have iC := inb hC
  have iA := inb hA
  have iB := inb hB
  have iY := inb hY
  have tt : ∀ j, (x.op = j) = (18 = j) := fun j => by rw [hop]
  simp only [followF, hop] at hK
  simp only [Cd.right, hop, useOf, nOk] at hr
  simp at hr
  unfold folRho
  simp only [l_vm_machine_follow, dropO_o, dropO_om, dropO_oc, dropO_0]
  unfold Cd.e
  unfold Cd.cs at *
  have hmeet := fun f s => Meet_ok (m.r.at x.a).s (.lst 1 f [m32 s, m32 (m.r.at (x.c % 8)).s]) [s, (m.r.at (x.c % 8)).s] .lst (by simp)
  simp only [List.foldl] at hmeet
  have e : m.go.r.at x.a = m.r.at x.a := rfl
  by_cases hz : (m.r.at x.a).v = 0
  · have hz' : ((m.r.at x.a).v == 0) = true := by simp [hz]
    simp -implicitDefEqProofs only [go_sem, dnW_ite, reduceIte, Nat.reduceAdd, Nat.reduceLeDiff, Nat.reduceMul, Nat.reduceEqDiff, Int.reduceLT, Int.reduceLE, Int.reduceToNat, Nat.reduceSub, Nat.reduceLT, Int.reduceEq, BitVec.reduceOfInt, BitVec.reduceOfNat, Int.reduceGT, Int.reduceGE, Int.reduceBEq, Int.reduceBNe, Nat.reduceGT, Nat.reduceBEq, Nat.reduceBNe, Int.reduceAdd, Int.reduceSub, Int.reduceNeg, natBeqc, natBeqD, tt, hb1, hC, hA, hB, hY, Array.getElem?_setIfInBounds, Array.getElem?_push, hin, hin1, iC, iA, iB, iY, hz', l_vm_machine_follow_k0, ipureL, ipure, grp, mkE, List.headD, b8 ha8, st_r E m.go sh ha8, dcp (hmeet _ _) rfl]
    rw [e, if_pos hz] at hK
    exact hK _ (MOut.trans (u1.setO (by omega) _) (MOut.set (h1.setO (d := J.size + 2) (by have := lt_get hb; omega) (fun hm => by have := h.2.2.low _ hm; omega) _) _ rfl))
  · have hz' : ((m.r.at x.a).v == 0) = false := by simp [hz]
    simp -implicitDefEqProofs only [go_sem, dnW_ite, reduceIte, Nat.reduceAdd, Nat.reduceLeDiff, Nat.reduceMul, Nat.reduceEqDiff, Int.reduceLT, Int.reduceLE, Int.reduceToNat, Nat.reduceSub, Nat.reduceLT, Int.reduceEq, BitVec.reduceOfInt, BitVec.reduceOfNat, Int.reduceGT, Int.reduceGE, Int.reduceBEq, Int.reduceBNe, Nat.reduceGT, Nat.reduceBEq, Nat.reduceBNe, Int.reduceAdd, Int.reduceSub, Int.reduceNeg, natBeqc, natBeqD, tt, hb1, hC, hA, hB, hY, Array.getElem?_setIfInBounds, Array.getElem?_push, hin, hin1, iC, iA, iB, iY, hz', l_vm_machine_follow_k0, ipureL, ipure, grp, mkE, List.headD, b8 ha8, st_r E m.go sh ha8, dcp (hmeet _ _) rfl]
    rw [e, if_neg hz] at hK
    exact hK _ (MOut.trans u1 (MOut.set h1 _ rfl))
theorem fol_19 (h : MAt E J b sh m) (x : Cd) (hx : x.wf) (size : Nat) (hr : x.right size m.bd.l.length E.moves.length = true) (he0 : m.err = 0) (hop : x.op = 19) {J1 : JH} (f : Fol E b J sh m x J1) (K : Out IV → JH → Prop)
    (hK : ∀ J', MOut E b J sh J' (followF E m x) → K (.ret []) J') : WP (dn BI (dropO 36 l_vm_machine_follow.body) (folRho b J.size m x) J1) K := by
  have hb := h.1
  have hin := inb hb
  obtain ⟨hop25, ha8, hb8⟩ := right_ab hr
  have hc8 : x.c % 8 < 8 := by omega
  have w := hx
  obtain ⟨w1, w2, w3, w4, w5, w6⟩ := hx
  obtain ⟨h1, u1, hC, hA, hB, hY⟩ := f
  have hb1 := h1.1
  have hin1 := inb hb1
  have iC := inb hC
  have iA := inb hA
  have iB := inb hB
  have iY := inb hY
  have tt : ∀ j, (x.op = j) = (19 = j) := fun j => by rw [hop]
  simp only [followF, hop] at hK
  simp only [Cd.right, hop, useOf, nOk] at hr
  simp at hr
  unfold folRho
  simp only [l_vm_machine_follow, dropO_o, dropO_om, dropO_oc, dropO_0]
  unfold Cd.e
  unfold Cd.cs at *
  have e1 : IntKind.i64.wrap x.n = (x.n.toNat : Int) := by rw [wrap_i64 (by omega) (by omega)]; omega
  simp -implicitDefEqProofs only [go_sem, dnW_ite, reduceIte, Nat.reduceAdd, Nat.reduceLeDiff, Nat.reduceMul, Nat.reduceEqDiff, Int.reduceLT, Int.reduceLE, Int.reduceToNat, Nat.reduceSub, Nat.reduceLT, Int.reduceEq, BitVec.reduceOfInt, BitVec.reduceOfNat, Int.reduceGT, Int.reduceGE, Int.reduceBEq, Int.reduceBNe, Nat.reduceGT, Nat.reduceBEq, Nat.reduceBNe, Int.reduceAdd, Int.reduceSub, Int.reduceNeg, natBeqc, natBeqD, tt, hb1, hC, hA, hB, hY, Array.getElem?_setIfInBounds, Array.getElem?_push, hin, hin1, iC, iA, iB, iY]
  refine WP_call (open_ok h1 x.a ha8) fun v J2 hv => ?_
  obtain ⟨rfl, rfl⟩ := hv
  cases hw : within E.all (m.go.r.at x.a).s with
  | false =>
    rw [hw] at hK
    simp -implicitDefEqProofs only [go_sem, dnW_ite, reduceIte, Nat.reduceAdd, Nat.reduceLeDiff, Nat.reduceMul, Nat.reduceEqDiff, Int.reduceLT, Int.reduceLE, Int.reduceToNat, Nat.reduceSub, Nat.reduceLT, Int.reduceEq, BitVec.reduceOfInt, BitVec.reduceOfNat, Int.reduceGT, Int.reduceGE, Int.reduceBEq, Int.reduceBNe, Nat.reduceGT, Nat.reduceBEq, Nat.reduceBNe, Int.reduceAdd, Int.reduceSub, Int.reduceNeg]
    refine WP_call (fail_ok h1 8) fun v J2 hv => ?_
    simp -implicitDefEqProofs only [go_sem, dnW_ite, reduceIte, Nat.reduceAdd, Nat.reduceLeDiff, Nat.reduceMul, Nat.reduceEqDiff, Int.reduceLT, Int.reduceLE, Int.reduceToNat, Nat.reduceSub, Nat.reduceLT, Int.reduceEq, BitVec.reduceOfInt, BitVec.reduceOfNat, Int.reduceGT, Int.reduceGE, Int.reduceBEq, Int.reduceBNe, Nat.reduceGT, Nat.reduceBEq, Nat.reduceBNe, Int.reduceAdd, Int.reduceSub, Int.reduceNeg]
    rw [if_pos (show m.go.err = 0 from he0)] at hv
    exact hK _ (MOut.trans u1 hv)
  | true =>
    rw [hw] at hK
    have e : m.go.r.at x.a = m.r.at x.a := rfl
    by_cases hz : (m.r.at x.a).v = 0
    · have hz' : ((m.r.at x.a).v == 0) = true := by simp [hz]
      rw [e, if_pos hz] at hK
      simp -implicitDefEqProofs only [go_sem, dnW_ite, reduceIte, Nat.reduceAdd, Nat.reduceLeDiff, Nat.reduceMul, Nat.reduceEqDiff, Int.reduceLT, Int.reduceLE, Int.reduceToNat, Nat.reduceSub, Nat.reduceLT, Int.reduceEq, BitVec.reduceOfInt, BitVec.reduceOfNat, Int.reduceGT, Int.reduceGE, Int.reduceBEq, Int.reduceBNe, Nat.reduceGT, Nat.reduceBEq, Nat.reduceBNe, Int.reduceAdd, Int.reduceSub, Int.reduceNeg, natBeqc, natBeqD, tt, hb1, hC, hA, hB, hY, Array.getElem?_setIfInBounds, Array.getElem?_push, hin, hin1, iC, iA, iB, iY, hz', e1]
      exact hK _ (MOut.trans u1 (MOut.set h1 _ rfl))
    · have hz' : ((m.r.at x.a).v == 0) = false := by simp [hz]
      rw [e, if_neg hz] at hK
      simp -implicitDefEqProofs only [go_sem, dnW_ite, reduceIte, Nat.reduceAdd, Nat.reduceLeDiff, Nat.reduceMul, Nat.reduceEqDiff, Int.reduceLT, Int.reduceLE, Int.reduceToNat, Nat.reduceSub, Nat.reduceLT, Int.reduceEq, BitVec.reduceOfInt, BitVec.reduceOfNat, Int.reduceGT, Int.reduceGE, Int.reduceBEq, Int.reduceBNe, Nat.reduceGT, Nat.reduceBEq, Nat.reduceBNe, Int.reduceAdd, Int.reduceSub, Int.reduceNeg, natBeqc, natBeqD, tt, hb1, hC, hA, hB, hY, Array.getElem?_setIfInBounds, Array.getElem?_push, hin, hin1, iC, iA, iB, iY, hz']
      exact hK _ (MOut.trans u1 (MOut.refl h1))
theorem fol_20 (h : MAt E J b sh m) (x : Cd) (hx : x.wf) (size : Nat) (hr : x.right size m.bd.l.length E.moves.length = true) (hop : x.op = 20) {J1 : JH} (f : Fol E b J sh m x J1) (K : Out IV → JH → Prop)
    (hK : ∀ J', MOut E b J sh J' (followF E m x) → K (.ret []) J') : WP (dn BI (dropO 36 l_vm_machine_follow.body) (folRho b J.size m x) J1) K := by
  have hb := h.1
  have hin := inb hb
  obtain ⟨hop25, ha8, hb8⟩ := right_ab hr
  have hc8 : x.c % 8 < 8 := by omega
  have w := hx
  obtain ⟨w1, w2, w3, w4, w5, w6⟩ := hx
  obtain ⟨h1, u1, hC, hA, hB, hY⟩ := f
  have hb1 := h1.1
  have hin1 := inb hb1
  have iC := inb hC
  have iA := inb hA
  have iB := inb hB
  have iY := inb hY
  have tt : ∀ j, (x.op = j) = (20 = j) := fun j => by rw [hop]
  simp only [followF, hop] at hK
  simp only [Cd.right, hop, useOf, nOk] at hr
  simp at hr
  unfold folRho
  simp only [l_vm_machine_follow, dropO_o, dropO_om, dropO_oc, dropO_0]
  unfold Cd.e
  unfold Cd.cs at *
  have e1 : IntKind.i64.wrap x.n = (x.n.toNat : Int) := by rw [wrap_i64 (by omega) (by omega)]; omega
  simp -implicitDefEqProofs only [go_sem, dnW_ite, reduceIte, Nat.reduceAdd, Nat.reduceLeDiff, Nat.reduceMul, Nat.reduceEqDiff, Int.reduceLT, Int.reduceLE, Int.reduceToNat, Nat.reduceSub, Nat.reduceLT, Int.reduceEq, BitVec.reduceOfInt, BitVec.reduceOfNat, Int.reduceGT, Int.reduceGE, Int.reduceBEq, Int.reduceBNe, Nat.reduceGT, Nat.reduceBEq, Nat.reduceBNe, Int.reduceAdd, Int.reduceSub, Int.reduceNeg, natBeqc, natBeqD, tt, hb1, hC, hA, hB, hY, Array.getElem?_setIfInBounds, Array.getElem?_push, hin, hin1, iC, iA, iB, iY, e1]
  exact hK _ (MOut.trans u1 (MOut.set h1 _ rfl))
end Go.Proofs.Ytcdlipdeemlibaa.G
namespace Go.Proofs.Ytcdlipdeemlibaa.G
open Go
set_option linter.unusedSimpArgs false
set_option linter.unusedVariables false
set_option maxRecDepth 20000
set_option maxHeartbeats 2000000
variable {E : Me} {J : JH} {b : Nat} {sh : IV} {m : Mc}
theorem roll_ex (s n : Int) (h0 : 0 < n) (h1 : n < 4294967296) : ∃ bv sv : Int, bv = below s n ∧ sv = sn s ∧ 0 ≤ bv ∧ bv < n := ⟨_, _, rfl, rfl, below_rng s n h0 h1⟩
theorem fol_21 (h : MAt E J b sh m) (x : Cd) (hx : x.wf) (size : Nat) (hr : x.right size m.bd.l.length E.moves.length = true) (hE : E.ok) (hop : x.op = 21) {J1 : JH} (f : Fol E b J sh m x J1) (K : Out IV → JH → Prop)
    (hK : ∀ J', MOut E b J sh J' (followF E m x) → K (.ret []) J') : WP (dn BI (dropO 36 l_vm_machine_follow.body) (folRho b J.size m x) J1) K := by
  have hb := h.1
  have hin := inb hb
  obtain ⟨hop25, ha8, hb8⟩ := right_ab hr
  have hc8 : x.c % 8 < 8 := by omega
  have w := hx
  obtain ⟨w1, w2, w3, w4, w5, w6⟩ := hx
  obtain ⟨h1, u1, hC, hA, hB, hY⟩ := f
  have hb1 := h1.1
  have hin1 := inb hb1
  have iC := inb hC
  have iA := inb hA
  have iB := inb hB
  have iY := inb hY
  have tt : ∀ j, (x.op = j) = (21 = j) := fun j => by rw [hop]
  simp only [followF, hop] at hK
  simp only [Cd.right, hop, useOf, nOk] at hr
  simp at hr
  unfold folRho
  simp only [l_vm_machine_follow, dropO_o, dropO_om, dropO_oc, dropO_0]
  unfold Cd.e
  unfold Cd.cs at *
  have e1 : IntKind.i64.wrap x.n = x.n := wrap_i64 (by omega) (by omega)
  have hmv : ∀ J, iaddrF 1 E.mv (.int .i32 x.n) J = some (.rptr (.int .i32 (E.moves.getD x.n.toNat 0)) 0, J) := fun J => by
    have hl : x.n.toNat < E.moves.length := by omega
    obtain ⟨f, hf⟩ := hE.mv.get (i := x.n.toNat) (by simpa using hl)
    rw [hf, iaddrF_lst]
    simp [iasNat, asNat, hr.1.1.1.1.1, hl]
  have hof := fun f => Of_ok (.lst 1 f [.int .i64 x.n]) [x.n] .lst (by simp)
  simp only [List.foldl, BitVec.zero_or] at hof
  simp -implicitDefEqProofs only [go_sem, dnW_ite, reduceIte, Nat.reduceAdd, Nat.reduceLeDiff, Nat.reduceMul, Nat.reduceEqDiff, Int.reduceLT, Int.reduceLE, Int.reduceToNat, Nat.reduceSub, Nat.reduceLT, Int.reduceEq, BitVec.reduceOfInt, BitVec.reduceOfNat, Int.reduceGT, Int.reduceGE, Int.reduceBEq, Int.reduceBNe, Nat.reduceGT, Nat.reduceBEq, Nat.reduceBNe, Int.reduceAdd, Int.reduceSub, Int.reduceNeg, natBeqc, natBeqD, tt, hb1, hC, hA, hB, hY, Array.getElem?_setIfInBounds, Array.getElem?_push, hin, hin1, iC, iA, iB, iY, hmv, e1, ipureL, ipure, grp, mkE, List.headD, b8 ha8, st_r E m.go sh ha8, dcp (hof _) rfl]
  exact hK _ (MOut.trans u1 (MOut.set h1 _ rfl))
theorem fol_23 (h : MAt E J b sh m) (x : Cd) (hx : x.wf) (size : Nat) (hr : x.right size m.bd.l.length E.moves.length = true) (hop : x.op = 23) {J1 : JH} (f : Fol E b J sh m x J1) (K : Out IV → JH → Prop)
    (hK : ∀ J', MOut E b J sh J' (followF E m x) → K (.ret []) J') : WP (dn BI (dropO 36 l_vm_machine_follow.body) (folRho b J.size m x) J1) K := by
  have hb := h.1
  have hin := inb hb
  obtain ⟨hop25, ha8, hb8⟩ := right_ab hr
  have hc8 : x.c % 8 < 8 := by omega
  have w := hx
  obtain ⟨w1, w2, w3, w4, w5, w6⟩ := hx
  obtain ⟨h1, u1, hC, hA, hB, hY⟩ := f
  have hb1 := h1.1
  have hin1 := inb hb1
  have iC := inb hC
  have iA := inb hA
  have iB := inb hB
  have iY := inb hY
  have tt : ∀ j, (x.op = j) = (23 = j) := fun j => by rw [hop]
  simp only [followF, hop] at hK
  simp only [Cd.right, hop, useOf, nOk] at hr
  simp at hr
  unfold folRho
  simp only [l_vm_machine_follow, dropO_o, dropO_om, dropO_oc, dropO_0]
  unfold Cd.e
  unfold Cd.cs at *
  have e1 : IntKind.u32.wrap x.n = x.n := wrap_u32 (by omega) (by omega)
  have hbl := Below_ok m.dice x.n
  have hgd : m.go.dice = m.dice := rfl
  rw [hgd] at hK
  obtain ⟨bv, sv, hbv, hsv, hb0, hb2⟩ := roll_ex m.dice x.n (by omega) (by omega)
  rw [← hbv, ← hsv] at hbl hK
  clear hbv hsv
  unfold dice at hbl
  have e2 : IntKind.i32.wrap bv = bv := wrap_i32 (by omega) (by omega)
  simp -implicitDefEqProofs only [go_sem, dnW_ite, reduceIte, Nat.reduceAdd, Nat.reduceLeDiff, Nat.reduceMul, Nat.reduceEqDiff, Int.reduceLT, Int.reduceLE, Int.reduceToNat, Nat.reduceSub, Nat.reduceLT, Int.reduceEq, BitVec.reduceOfInt, BitVec.reduceOfNat, Int.reduceGT, Int.reduceGE, Int.reduceBEq, Int.reduceBNe, Nat.reduceGT, Nat.reduceBEq, Nat.reduceBNe, Int.reduceAdd, Int.reduceSub, Int.reduceNeg, natBeqc, natBeqD, tt, hb1, hC, hA, hB, hY, Array.getElem?_setIfInBounds, Array.getElem?_push, hin, hin1, iC, iA, iB, iY, hgd, e1, e2, b8 ha8, dcp hbl rfl]
  have e3 : isplice (mc E { m.go with dice := sv } sh) (102 + x.a * 2) [IV.int .i32 bv, IV.sc (.int .u32 0)] = _ := st_r E { m.go with dice := sv } sh ha8 bv 0#32
  rw [e3]
  exact hK _ (MOut.trans u1 (MOut.set h1 _ rfl))
end Go.Proofs.Ytcdlipdeemlibaa.G
namespace Go.Proofs.Ytcdlipdeemlibaa.G
open Go
set_option linter.unusedSimpArgs false
set_option linter.unusedVariables false
set_option maxRecDepth 20000
set_option maxHeartbeats 2000000
variable {E : Me} {J : JH} {b : Nat} {sh : IV} {m : Mc}
theorem fol_4 (h : MAt E J b sh m) (x : Cd) (hx : x.wf) (size : Nat) (hr : x.right size m.bd.l.length E.moves.length = true) (he0 : m.err = 0) (hok : m.r.ok) (hs : m.shows.length ≤ 1000) (hop : x.op = 4) {J1 : JH} (f : Fol E b J sh m x J1) (K : Out IV → JH → Prop)
    (hK : ∀ J', MOut E b J sh J' (followF E m x) → K (.ret []) J') : WP (dn BI (dropO 36 l_vm_machine_follow.body) (folRho b J.size m x) J1) K := by
  have hb := h.1
  have hin := inb hb
  obtain ⟨hop25, ha8, hb8⟩ := right_ab hr
  have hc8 : x.c % 8 < 8 := by omega
  have w := hx
  obtain ⟨w1, w2, w3, w4, w5, w6⟩ := hx
  obtain ⟨h1, u1, hC, hA, hB, hY⟩ := f
  have hb1 := h1.1
  have hin1 := inb hb1
  have iC := inb hC
  have iA := inb hA
  have iB := inb hB
  have iY := inb hY
  have tt : ∀ j, (x.op = j) = (4 = j) := fun j => by rw [hop]
  simp only [followF, hop] at hK
  have hr0 := hr
  simp only [Cd.right, hop, useOf, nOk] at hr
  simp at hr
  unfold folRho
  simp only [l_vm_machine_follow, dropO_o, dropO_om, dropO_oc, dropO_0]
  unfold Cd.e
  unfold Cd.cs at *
  simp -implicitDefEqProofs only [go_sem, dnW_ite, reduceIte, Nat.reduceAdd, Nat.reduceLeDiff, Nat.reduceMul, Nat.reduceEqDiff, Int.reduceLT, Int.reduceLE, Int.reduceToNat, Nat.reduceSub, Nat.reduceLT, Int.reduceEq, BitVec.reduceOfInt, BitVec.reduceOfNat, Int.reduceGT, Int.reduceGE, Int.reduceBEq, Int.reduceBNe, Nat.reduceGT, Nat.reduceBEq, Nat.reduceBNe, Int.reduceAdd, Int.reduceSub, Int.reduceNeg, natBeqc, natBeqD, tt, hb1, hC, hA, hB, hY, Array.getElem?_setIfInBounds, Array.getElem?_push, hin, hin1, iC, iA, iB, iY, l_vm_machine_follow_k1]
  refine WP_call (reach_ok h1 x w size hr0 hok he0 hs (by omega)) fun v J2 hv => ?_
  simp -implicitDefEqProofs only [go_sem, dnW_ite, reduceIte, Nat.reduceAdd, Nat.reduceLeDiff, Nat.reduceMul, Nat.reduceEqDiff, Int.reduceLT, Int.reduceLE, Int.reduceToNat, Nat.reduceSub, Nat.reduceLT, Int.reduceEq, BitVec.reduceOfInt, BitVec.reduceOfNat, Int.reduceGT, Int.reduceGE, Int.reduceBEq, Int.reduceBNe, Nat.reduceGT, Nat.reduceBEq, Nat.reduceBNe, Int.reduceAdd, Int.reduceSub, Int.reduceNeg]
  exact hK _ (MOut.trans u1 hv)
theorem fol_5 (h : MAt E J b sh m) (x : Cd) (hx : x.wf) (size : Nat) (hr : x.right size m.bd.l.length E.moves.length = true) (he0 : m.err = 0) (hok : m.r.ok) (hs : m.shows.length ≤ 1000) (hop : x.op = 5) {J1 : JH} (f : Fol E b J sh m x J1) (K : Out IV → JH → Prop)
    (hK : ∀ J', MOut E b J sh J' (followF E m x) → K (.ret []) J') : WP (dn BI (dropO 36 l_vm_machine_follow.body) (folRho b J.size m x) J1) K := by
  have hb := h.1
  have hin := inb hb
  obtain ⟨hop25, ha8, hb8⟩ := right_ab hr
  have hc8 : x.c % 8 < 8 := by omega
  have w := hx
  obtain ⟨w1, w2, w3, w4, w5, w6⟩ := hx
  obtain ⟨h1, u1, hC, hA, hB, hY⟩ := f
  have hb1 := h1.1
  have hin1 := inb hb1
  have iC := inb hC
  have iA := inb hA
  have iB := inb hB
  have iY := inb hY
  have tt : ∀ j, (x.op = j) = (5 = j) := fun j => by rw [hop]
  simp only [followF, hop] at hK
  have hr0 := hr
  simp only [Cd.right, hop, useOf, nOk] at hr
  simp at hr
  unfold folRho
  simp only [l_vm_machine_follow, dropO_o, dropO_om, dropO_oc, dropO_0]
  unfold Cd.e
  unfold Cd.cs at *
  simp -implicitDefEqProofs only [go_sem, dnW_ite, reduceIte, Nat.reduceAdd, Nat.reduceLeDiff, Nat.reduceMul, Nat.reduceEqDiff, Int.reduceLT, Int.reduceLE, Int.reduceToNat, Nat.reduceSub, Nat.reduceLT, Int.reduceEq, BitVec.reduceOfInt, BitVec.reduceOfNat, Int.reduceGT, Int.reduceGE, Int.reduceBEq, Int.reduceBNe, Nat.reduceGT, Nat.reduceBEq, Nat.reduceBNe, Int.reduceAdd, Int.reduceSub, Int.reduceNeg, natBeqc, natBeqD, tt, hb1, hC, hA, hB, hY, Array.getElem?_setIfInBounds, Array.getElem?_push, hin, hin1, iC, iA, iB, iY, l_vm_machine_follow_k1]
  refine WP_call (reach_ok h1 x w size hr0 hok he0 hs (by omega)) fun v J2 hv => ?_
  simp -implicitDefEqProofs only [go_sem, dnW_ite, reduceIte, Nat.reduceAdd, Nat.reduceLeDiff, Nat.reduceMul, Nat.reduceEqDiff, Int.reduceLT, Int.reduceLE, Int.reduceToNat, Nat.reduceSub, Nat.reduceLT, Int.reduceEq, BitVec.reduceOfInt, BitVec.reduceOfNat, Int.reduceGT, Int.reduceGE, Int.reduceBEq, Int.reduceBNe, Nat.reduceGT, Nat.reduceBEq, Nat.reduceBNe, Int.reduceAdd, Int.reduceSub, Int.reduceNeg]
  exact hK _ (MOut.trans u1 hv)
theorem fol_22 (h : MAt E J b sh m) (x : Cd) (hx : x.wf) (size : Nat) (hr : x.right size m.bd.l.length E.moves.length = true) (he0 : m.err = 0) (hok : m.r.ok) (hs : m.shows.length ≤ 1000) (hop : x.op = 22) {J1 : JH} (f : Fol E b J sh m x J1) (K : Out IV → JH → Prop)
    (hK : ∀ J', MOut E b J sh J' (followF E m x) → K (.ret []) J') : WP (dn BI (dropO 36 l_vm_machine_follow.body) (folRho b J.size m x) J1) K := by
  have hb := h.1
  have hin := inb hb
  obtain ⟨hop25, ha8, hb8⟩ := right_ab hr
  have hc8 : x.c % 8 < 8 := by omega
  have w := hx
  obtain ⟨w1, w2, w3, w4, w5, w6⟩ := hx
  obtain ⟨h1, u1, hC, hA, hB, hY⟩ := f
  have hb1 := h1.1
  have hin1 := inb hb1
  have iC := inb hC
  have iA := inb hA
  have iB := inb hB
  have iY := inb hY
  have tt : ∀ j, (x.op = j) = (22 = j) := fun j => by rw [hop]
  simp only [followF, hop] at hK
  have hr0 := hr
  simp only [Cd.right, hop, useOf, nOk] at hr
  simp at hr
  unfold folRho
  simp only [l_vm_machine_follow, dropO_o, dropO_om, dropO_oc, dropO_0]
  unfold Cd.e
  unfold Cd.cs at *
  simp -implicitDefEqProofs only [go_sem, dnW_ite, reduceIte, Nat.reduceAdd, Nat.reduceLeDiff, Nat.reduceMul, Nat.reduceEqDiff, Int.reduceLT, Int.reduceLE, Int.reduceToNat, Nat.reduceSub, Nat.reduceLT, Int.reduceEq, BitVec.reduceOfInt, BitVec.reduceOfNat, Int.reduceGT, Int.reduceGE, Int.reduceBEq, Int.reduceBNe, Nat.reduceGT, Nat.reduceBEq, Nat.reduceBNe, Int.reduceAdd, Int.reduceSub, Int.reduceNeg, natBeqc, natBeqD, tt, hb1, hC, hA, hB, hY, Array.getElem?_setIfInBounds, Array.getElem?_push, hin, hin1, iC, iA, iB, iY, l_vm_machine_follow_k1]
  refine WP_call (reach_ok h1 x w size hr0 hok he0 hs (by omega)) fun v J2 hv => ?_
  simp -implicitDefEqProofs only [go_sem, dnW_ite, reduceIte, Nat.reduceAdd, Nat.reduceLeDiff, Nat.reduceMul, Nat.reduceEqDiff, Int.reduceLT, Int.reduceLE, Int.reduceToNat, Nat.reduceSub, Nat.reduceLT, Int.reduceEq, BitVec.reduceOfInt, BitVec.reduceOfNat, Int.reduceGT, Int.reduceGE, Int.reduceBEq, Int.reduceBNe, Nat.reduceGT, Nat.reduceBEq, Nat.reduceBNe, Int.reduceAdd, Int.reduceSub, Int.reduceNeg]
  exact hK _ (MOut.trans u1 hv)
theorem fol_24 (h : MAt E J b sh m) (x : Cd) (hx : x.wf) (size : Nat) (hr : x.right size m.bd.l.length E.moves.length = true) (he0 : m.err = 0) (hok : m.r.ok) (hs : m.shows.length ≤ 1000) (hop : x.op = 24) {J1 : JH} (f : Fol E b J sh m x J1) (K : Out IV → JH → Prop)
    (hK : ∀ J', MOut E b J sh J' (followF E m x) → K (.ret []) J') : WP (dn BI (dropO 36 l_vm_machine_follow.body) (folRho b J.size m x) J1) K := by
  have hb := h.1
  have hin := inb hb
  obtain ⟨hop25, ha8, hb8⟩ := right_ab hr
  have hc8 : x.c % 8 < 8 := by omega
  have w := hx
  obtain ⟨w1, w2, w3, w4, w5, w6⟩ := hx
  obtain ⟨h1, u1, hC, hA, hB, hY⟩ := f
  have hb1 := h1.1
  have hin1 := inb hb1
  have iC := inb hC
  have iA := inb hA
  have iB := inb hB
  have iY := inb hY
  have tt : ∀ j, (x.op = j) = (24 = j) := fun j => by rw [hop]
  simp only [followF, hop] at hK
  have hr0 := hr
  simp only [Cd.right, hop, useOf, nOk] at hr
  simp at hr
  unfold folRho
  simp only [l_vm_machine_follow, dropO_o, dropO_om, dropO_oc, dropO_0]
  unfold Cd.e
  unfold Cd.cs at *
  simp -implicitDefEqProofs only [go_sem, dnW_ite, reduceIte, Nat.reduceAdd, Nat.reduceLeDiff, Nat.reduceMul, Nat.reduceEqDiff, Int.reduceLT, Int.reduceLE, Int.reduceToNat, Nat.reduceSub, Nat.reduceLT, Int.reduceEq, BitVec.reduceOfInt, BitVec.reduceOfNat, Int.reduceGT, Int.reduceGE, Int.reduceBEq, Int.reduceBNe, Nat.reduceGT, Nat.reduceBEq, Nat.reduceBNe, Int.reduceAdd, Int.reduceSub, Int.reduceNeg, natBeqc, natBeqD, tt, hb1, hC, hA, hB, hY, Array.getElem?_setIfInBounds, Array.getElem?_push, hin, hin1, iC, iA, iB, iY, l_vm_machine_follow_k1]
  refine WP_call (reach_ok h1 x w size hr0 hok he0 hs (by omega)) fun v J2 hv => ?_
  simp -implicitDefEqProofs only [go_sem, dnW_ite, reduceIte, Nat.reduceAdd, Nat.reduceLeDiff, Nat.reduceMul, Nat.reduceEqDiff, Int.reduceLT, Int.reduceLE, Int.reduceToNat, Nat.reduceSub, Nat.reduceLT, Int.reduceEq, BitVec.reduceOfInt, BitVec.reduceOfNat, Int.reduceGT, Int.reduceGE, Int.reduceBEq, Int.reduceBNe, Nat.reduceGT, Nat.reduceBEq, Nat.reduceBNe, Int.reduceAdd, Int.reduceSub, Int.reduceNeg]
  exact hK _ (MOut.trans u1 hv)
end Go.Proofs.Ytcdlipdeemlibaa.G
namespace Go.Proofs.Ytcdlipdeemlibaa.G
open Go
set_option linter.unusedSimpArgs false
set_option linter.unusedVariables false
set_option maxRecDepth 20000
set_option maxHeartbeats 2000000
variable {E : Me} {J : JH} {b : Nat} {sh : IV} {m : Mc}
theorem fol_c (h : MAt E J b sh m) (x : Cd) (hx : x.wf) (size : Nat) (hr : x.right size m.bd.l.length E.moves.length = true) (hop : 6 ≤ x.op ∧ x.op ≤ 17) {J1 : JH} (f : Fol E b J sh m x J1) (K : Out IV → JH → Prop)
    (hK : ∀ J', MOut E b J sh J' (followF E m x) → K (.ret []) J') : WP (dn BI (dropO 36 l_vm_machine_follow.body) (folRho b J.size m x) J1) K := by
  have hb := h.1
  have hin := inb hb
  obtain ⟨hop25, ha8, hb8⟩ := right_ab hr
  have hc8 : x.c % 8 < 8 := by omega
  obtain ⟨w1, w2, w3, w4, w5, w6⟩ := hx
  obtain ⟨h1, u1, hC, hA, hB, hY⟩ := f
  have hb1 := h1.1
  have hin1 := inb hb1
  have iC := inb hC
  have iA := inb hA
  have iB := inb hB
  have iY := inb hY
  have hF : followF E m x = { m.go with r := m.go.r.set x.a ⟨computeF x.op (m.r.at x.b).v (m.r.at (x.c % 8)).v, (m.r.at x.b).s &&& (m.r.at (x.c % 8)).s⟩ } := by
    obtain ⟨o1, o2⟩ := hop
    unfold followF
    generalize hq : x.op = q at *
    clear hop25 w1
    split <;> first | (exfalso; omega) | rfl
  rw [hF] at hK
  have tt : ∀ j, (j < 6 ∨ 17 < j) → (x.op = j) = False := fun j hj => by simp; omega
  have t := fun j hj => tt j (by simpa using hj)
  unfold folRho
  simp only [l_vm_machine_follow, dropO_o, dropO_om, dropO_oc, dropO_0]
  unfold Cd.e
  unfold Cd.cs at *
  have hcm := Compute_ok x.op (by omega) (m.r.at x.b).v (m.r.at (x.c % 8)).v
  have hmd : BI.md F_vm_Compute = .pure := rfl
  have hmeet := fun f => Meet_ok (m.r.at x.b).s (.lst 1 f [m32 (m.r.at (x.c % 8)).s]) [(m.r.at (x.c % 8)).s] .lst (by simp)
  simp only [List.foldl] at hmeet
  have tl := And.intro (tt 1 (by omega)) (And.intro (tt 25 (by omega)) (And.intro (tt 2 (by omega)) (And.intro (tt 3 (by omega)) (And.intro (tt 18 (by omega)) (And.intro (tt 19 (by omega)) (And.intro (tt 20 (by omega)) (And.intro (tt 21 (by omega)) (And.intro (tt 23 (by omega)) (And.intro (tt 4 (by omega)) (And.intro (tt 5 (by omega)) (And.intro (tt 22 (by omega)) (tt 24 (by omega)))))))))))))
  simp -implicitDefEqProofs only [go_sem, dnW_ite, reduceIte, Nat.reduceAdd, Nat.reduceLeDiff, Nat.reduceMul, Nat.reduceEqDiff, Int.reduceLT, Int.reduceLE, Int.reduceToNat, Nat.reduceSub, Nat.reduceLT, Int.reduceEq, BitVec.reduceOfInt, BitVec.reduceOfNat, Int.reduceGT, Int.reduceGE, Int.reduceBEq, Int.reduceBNe, Nat.reduceGT, Nat.reduceBEq, Nat.reduceBNe, Int.reduceAdd, Int.reduceSub, Int.reduceNeg, natBeqc, natBeqD, tl, hb1, hC, hA, hB, hY, Array.getElem?_setIfInBounds, Array.getElem?_push, hin, hin1, iC, iA, iB, iY, l_vm_machine_follow_k1, ipureL, ipure, grp, mkE, List.headD, b8 ha8, st_r E m.go sh ha8, hmd, dcp hcm rfl, dcp (hmeet _) rfl]
  exact hK _ (MOut.trans u1 (MOut.set h1 _ rfl))
end Go.Proofs.Ytcdlipdeemlibaa.G
namespace Go.Proofs.Ytcdlipdeemlibaa.G
open Go
set_option linter.unusedSimpArgs false
set_option linter.unusedVariables false
set_option maxRecDepth 20000
variable {E : Me} {J : JH} {b : Nat} {sh : IV} {m : Mc}
theorem ops_of {x : Cd} (h : x.op ≤ 25) (h0 : x.op ≠ 0) : x.op = 1 ∨ x.op = 25 ∨ x.op = 2 ∨ x.op = 3 ∨ x.op = 18 ∨ x.op = 19 ∨ x.op = 20 ∨ x.op = 21 ∨ x.op = 23 ∨ (x.op = 4 ∨ x.op = 5 ∨ x.op = 22 ∨ x.op = 24) ∨ (6 ≤ x.op ∧ x.op ≤ 17) := by omega
theorem follow_ok (hE : E.ok) (h : MAt E J b sh m) (x : Cd) (hx : x.wf) (size : Nat) (hr : x.right size m.bd.l.length E.moves.length = true) (hpc : m.pc ≤ 1000) (h0 : x.op ≠ 0) (hok : m.r.ok) (he0 : m.err = 0) (hs : m.shows.length ≤ 1000) :
    RP (ic BI F_vm_machine_follow [.ptr b 0 0, x.e] J) fun v J' => MOut E b J sh J' (followF E m x) := by
  refine RP_run fn_vm_machine_follow rfl fun K hK => ?_
  refine follow_pre h x size hr hpc K fun J1 f => ?_
  have hk : ∀ J', MOut E b J sh J' (followF E m x) → K (.ret []) J' := fun J' h => hK [] J' h
  rcases ops_of (right_ab hr).1 h0 with hop | hop | hop | hop | hop | hop | hop | hop | hop | hop | hop
  · exact fol_1 h x hx size hr hop f K hk
  · exact fol_25 h x hx size hr hop f K hk
  · exact fol_2 h x hx size hr hop f K hk
  · exact fol_3 h x hx size hr hop f K hk
  · exact fol_18 h x hx size hr hop f K hk
  · exact fol_19 h x hx size hr he0 hop f K hk
  · exact fol_20 h x hx size hr hop f K hk
  · exact fol_21 h x hx size hr hE hop f K hk
  · exact fol_23 h x hx size hr hop f K hk
  · rcases hop with hop | hop | hop | hop
    · exact fol_4 h x hx size hr he0 hok hs hop f K hk
    · exact fol_5 h x hx size hr he0 hok hs hop f K hk
    · exact fol_22 h x hx size hr he0 hok hs hop f K hk
    · exact fol_24 h x hx size hr he0 hok hs hop f K hk
  · exact fol_c h x hx size hr hop f K hk
def I32 (v : Int) : Prop := -2147483648 ≤ v ∧ v < 2147483648
theorem w32_rng (z : Int) : I32 (w32 z) := by
  simp only [I32, w32, IntKind.wrap, IntKind.bits, IntKind.signed]; simp; omega
theorem I32_0 : I32 0 := ⟨by decide, by decide⟩
theorem I32_1 : I32 1 := ⟨by decide, by decide⟩
theorem fdiv_rng {x : Int} (h : I32 x) (k : Nat) : I32 (x.fdiv (2 ^ k)) := by
  obtain ⟨h1, h2⟩ := h
  have hp : (1 : Int) ≤ 2 ^ k := by
    have : 0 < (2 : Nat) ^ k := Nat.pow_pos (by omega)
    have e : ((2 : Int) ^ k) = ((2 ^ k : Nat) : Int) := by simp
    omega
  generalize (2 : Int) ^ k = p at hp
  rw [Int.fdiv_eq_ediv_of_nonneg _ (by omega)]
  constructor
  · refine (Int.le_ediv_iff_mul_le (by omega)).2 ?_
    have : -2147483648 * p ≤ -2147483648 * 1 := by omega
    omega
  · refine (Int.ediv_lt_iff_lt_mul (by omega)).2 ?_
    have : 2147483648 * 1 ≤ 2147483648 * p := by omega
    omega
theorem tmod_rng {x : Int} (h : I32 x) (y : Int) : I32 (x.tmod y) := by
  obtain ⟨h1, h2⟩ := h
  have h3 : (x.tmod y).natAbs ≤ x.natAbs := by
    rw [Int.natAbs_tmod]; exact Nat.mod_le _ _
  constructor <;> first | skip | skip
  · by_cases hx : 0 ≤ x
    · have := Int.tmod_nonneg y hx; omega
    · omega
  · by_cases hx : 0 ≤ x
    · omega
    · have := Int.tmod_nonneg y (a := -x) (by omega)
      rw [Int.neg_tmod] at this
      omega
theorem computeF_rng (op : Nat) {x y : Int} (hx : I32 x) : I32 (computeF op x y) := by
  unfold computeF
  split <;> first | exact w32_rng _ | exact I32_0 | exact fdiv_rng hx _ | (split <;> first | exact I32_0 | exact w32_rng _ | exact tmod_rng hx _ | exact I32_1)
def Bd.ok (b : Bd) : Prop := ∀ c ∈ b.l, I32 c.v
theorem Bd.ok_at {b : Bd} (h : b.ok) (i : Int) : I32 (b.at i).v := by
  unfold Bd.at
  by_cases hl : i.toNat < b.l.length
  · simp only [List.getD_eq_getElem?_getD, hl, List.getElem?_eq_getElem, Option.getD_some]
    exact h _ (List.getElem_mem hl)
  · simp only [List.getD_eq_getElem?_getD, List.getElem?_eq_none (Nat.le_of_not_lt hl), Option.getD_none]
    exact I32_0
theorem Bd.ok_put {b : Bd} (h : b.ok) (i : Int) {c : Cl} (hc : I32 c.v) : (b.put i c).ok := by
  unfold Bd.put; split
  · intro x hx
    rcases List.mem_or_eq_of_mem_set hx with hx | rfl
    · exact h _ hx
    · exact hc
  · exact h
theorem Bd.ok_show {b : Bd} (h : b.ok) (i : Int) (to : BitVec 32) : (b.show i to).ok := by
  unfold Bd.show; split
  · intro x hx
    rcases List.mem_or_eq_of_mem_set hx with hx | rfl
    · exact h _ hx
    · exact Bd.ok_at h i
  · exact h
theorem show_len (b : Bd) (i : Int) (to : BitVec 32) : (b.show i to).l.length = b.l.length := by
  unfold Bd.show; split
  · simp [Bd.set]
  · rfl
theorem Rg.at_set (r : Rg) {i : Nat} (j : Nat) (c : Cl) (hi : i < 8) : (r.set i c).at j = if j = i then c else r.at j := by
  simp only [Rg.at, Rg.set, List.getD_eq_getElem?_getD, List.getElem?_set, r.h, hi, if_true]
  by_cases h : i = j
  · subst h; simp
  · simp [h, Ne.symm h]
theorem Rg.ok_set {r : Rg} (h : r.ok) {i : Nat} (hi : i < 8) {c : Cl} (hc : I32 c.v) : (r.set i c).ok := by
  intro j hj
  rw [Rg.at_set r j c hi]
  split
  · exact hc
  · exact h j hj
/-- In order: values, places. -/
structure Mc.ok (n s : Nat) (m : Mc) : Prop where
  r : m.r.ok
  bd : m.bd.ok
  len : m.bd.l.length = n
  pc : m.pc ≤ s
theorem fillN_ok {out : List Int} (ho : ∀ v ∈ out, I32 v) (start : Nat) : ∀ (k : Nat) (m : Mc), m.bd.ok → (fillN m start out k).bd.ok
  | 0, m, h => h
  | k + 1, m, h => by
    simp only [fillN]
    refine Bd.ok_put (fillN_ok ho start k m h) _ ?_
    by_cases hk : k < out.length
    · simp only [List.getD_eq_getElem?_getD, hk, List.getElem?_eq_getElem, Option.getD_some]; exact ho _ (List.getElem_mem hk)
    · simp only [List.getD_eq_getElem?_getD, List.getElem?_eq_none (Nat.le_of_not_lt hk), Option.getD_none]; exact I32_0
theorem fillN_same (start : Nat) (out : List Int) : ∀ (k : Nat) (m : Mc), (fillN m start out k).r = m.r ∧ (fillN m start out k).pc = m.pc ∧ (fillN m start out k).shows = m.shows ∧ (fillN m start out k).used = m.used ∧ (fillN m start out k).err = m.err ∧ (fillN m start out k).dice = m.dice
  | 0, m => ⟨rfl, rfl, rfl, rfl, rfl, rfl⟩
  | k + 1, m => fillN_same start out k m
theorem shufL_mem' : ∀ (i : Nat) (s : Int) (ys : List Int), ∀ x ∈ (shufL s i ys).1, x ∈ ys ∨ x = 0
  | 0, s, ys, x, h => .inl h
  | i + 1, s, ys, x, h => by
    rw [shufL] at h
    rcases shufL_mem' i _ _ x h with h | h
    · have key : ∀ k : Nat, ys.getD k 0 ∈ ys ∨ ys.getD k 0 = 0 := fun k => by
        by_cases hk : k < ys.length
        · left; simp only [List.getD_eq_getElem?_getD, hk, List.getElem?_eq_getElem, Option.getD_some]; exact List.getElem_mem hk
        · right; simp [List.getD_eq_getElem?_getD, List.getElem?_eq_none (Nat.le_of_not_lt hk)]
      rcases List.mem_or_eq_of_mem_set h with h | rfl
      · rcases List.mem_or_eq_of_mem_set h with h | rfl
        · exact .inl h
        · exact key _
      · exact key _
    · exact .inr h
theorem shuffleF_ok {n s : Nat} (h : m.ok n s) (start many : Nat) : (shuffleF m start many).ok n s := by
  obtain ⟨h1, h2, h3, h4⟩ := h
  have hs := fillN_same start (shufL m.dice (many - 1) (rowV m start many)).1 many { m with dice := (shufL m.dice (many - 1) (rowV m start many)).2 }
  refine ⟨?_, ?_, ?_, ?_⟩
  · rw [shuffleF, hs.1]; exact h1
  · refine fillN_ok (fun v hv => ?_) start many _ h2
    rcases shufL_mem' _ _ _ v hv with hv | rfl
    · obtain ⟨k, _, rfl⟩ := List.mem_map.1 hv
      exact Bd.ok_at h2 _
    · exact I32_0
  · rw [shuffleF, fillN_len]; exact h3
  · rw [shuffleF, hs.2.1]; exact h4
end Go.Proofs.Ytcdlipdeemlibaa.G
namespace Go.Proofs.Ytcdlipdeemlibaa.G
open Go
set_option linter.unusedSimpArgs false
set_option linter.unusedVariables false
set_option maxRecDepth 20000
variable {E : Me} {m : Mc}
/-- What an instruction leaves in order. -/
structure Nice (n s : Nat) (m m' : Mc) : Prop where
  ok : m'.ok n s
  shows : m'.shows.length ≤ m.shows.length + 1
  used : m'.used = m.used
theorem Mc.ok.go {n s : Nat} (h : m.ok n s) (hp : m.pc < s) : m.go.ok n s := ⟨h.r, h.bd, h.len, hp⟩
theorem Nice.set {n s : Nat} (h : m.ok n s) {i : Nat} (hi : i < 8) {c : Cl} (hc : I32 c.v) : Nice n s m { m with r := m.r.set i c } := ⟨⟨Rg.ok_set h.r hi hc, h.bd, h.len, h.pc⟩, Nat.le_succ _, rfl⟩
theorem Nice.put {n s : Nat} (h : m.ok n s) (i : Int) {c : Cl} (hc : I32 c.v) (t : BitVec 64) : Nice n s m { m with bd := m.bd.put i c, touched := t } := ⟨⟨h.r, Bd.ok_put h.bd i hc, by rw [put_len]; exact h.len, h.pc⟩, Nat.le_succ _, rfl⟩
theorem Nice.err {n s : Nat} (h : m.ok n s) (e : Nat) : Nice n s m { m with err := e } := ⟨⟨h.r, h.bd, h.len, h.pc⟩, Nat.le_succ _, rfl⟩
theorem Nice.pc {n s : Nat} (h : m.ok n s) {p : Nat} (hp : p ≤ s) : Nice n s m { m with pc := p } := ⟨⟨h.r, h.bd, h.len, hp⟩, Nat.le_succ _, rfl⟩
theorem revealF_nice {n s : Nat} (h : m.ok n s) (x : Cd) : Nice n s m (revealF E m x) := by
  unfold revealF
  split
  · exact Nice.err h _
  · refine ⟨⟨h.r, Bd.ok_show h.bd _ _, by rw [show_len]; exact h.len, h.pc⟩, ?_, rfl⟩
    simp only [List.length_append]
    split <;> simp
theorem reachF_nice {n s : Nat} (h : m.ok n s) (x : Cd) (ha : x.a < 8) : Nice n s m (reachF E m x) := by
  unfold reachF
  split
  · split
    · exact Nice.set h ha (Bd.ok_at h.bd _)
    · exact Nice.err h _
  · split
    · exact Nice.put h _ (h.r _ ha) _
    · exact Nice.err h _
  · exact revealF_nice h x
  · have := fillN_same x.n.toNat (shufL m.dice (x.c - 1) (rowV m x.n.toNat x.c)).1 x.c { m with dice := (shufL m.dice (x.c - 1) (rowV m x.n.toNat x.c)).2 }
    exact ⟨shuffleF_ok h _ _, by rw [shuffleF, this.2.2.1]; exact Nat.le_succ _, by rw [shuffleF, this.2.2.2.1]⟩
  · exact ⟨h, Nat.le_succ _, rfl⟩
theorem followF_nice (hE : E.ok) {n s : Nat} (h : m.ok n s) (hp : m.pc < s) (x : Cd) (hx : x.wf) (hr : x.right s n E.moves.length = true) : Nice n s m (followF E m x) := by
  have hg := h.go hp
  obtain ⟨hop25, ha8, hb8⟩ := right_ab hr
  obtain ⟨w1, w2, w3, w4, w5, w6⟩ := hx
  have up : ∀ m', Nice n s m.go m' → Nice n s m m' := fun m' k => ⟨k.ok, k.shows, k.used⟩
  refine up _ ?_
  unfold followF
  simp only
  split
  · exact Nice.set hg ha8 ⟨w5, w6⟩
  · exact Nice.set hg ha8 (Bd.ok_at hg.bd _)
  · exact Nice.put hg _ (hg.r _ ha8) _
  · refine Nice.set hg ha8 ?_
    show I32 (if _ then _ else _)
    split
    · exact hg.r _ (Nat.mod_lt _ (by decide))
    · exact hg.r _ hb8
  · rename_i hop
    simp [Cd.right, hop, useOf, nOk] at hr
    split
    · split
      · exact Nice.pc hg (by omega)
      · exact ⟨hg, Nat.le_succ _, rfl⟩
    · exact Nice.err hg _
  · rename_i hop
    simp [Cd.right, hop, useOf, nOk] at hr
    exact Nice.pc hg (by omega)
  · refine Nice.set hg ha8 ?_
    show I32 (E.moves.getD x.n.toNat 0)
    by_cases hl : x.n.toNat < E.moves.length
    · simp only [List.getD_eq_getElem?_getD, hl, List.getElem?_eq_getElem, Option.getD_some]; exact hE.rng _ (List.getElem_mem hl)
    · simp only [List.getD_eq_getElem?_getD, List.getElem?_eq_none (Nat.le_of_not_lt hl), Option.getD_none]; exact I32_0
  · rename_i hop
    simp [Cd.right, hop, useOf, nOk] at hr
    obtain ⟨bv, sv, hbv, hsv, hb0, hb2⟩ := roll_ex m.go.dice x.n (by omega) (by omega)
    rw [← hbv, ← hsv]
    have := Nice.set hg ha8 (c := ⟨bv, 0#32⟩) ⟨by show -2147483648 ≤ bv; omega, by show bv < 2147483648; omega⟩
    exact ⟨⟨this.ok.r, this.ok.bd, this.ok.len, this.ok.pc⟩, this.shows, this.used⟩
  · exact Nice.set hg ha8 (w32_rng _)
  · exact reachF_nice hg x ha8
  · exact reachF_nice hg x ha8
  · exact reachF_nice hg x ha8
  · exact reachF_nice hg x ha8
  · exact Nice.set hg ha8 (computeF_rng _ (hg.r _ hb8))
/-- A run: as long as there is fuel. -/
def loopF (E : Me) (l : List Cd) : Nat → Mc → Mc
  | 0, m => if m.err = 0 ∧ m.pc < l.length then { m with err := 9 } else m
  | k + 1, m => if m.err = 0 ∧ m.pc < l.length then
      (if (l.getD m.pc ⟨0, 0, 0, 0, 0, 0⟩).op = 0 then { m with used := m.used + 1 }
       else loopF E l k (followF E { m with used := m.used + 1 } (l.getD m.pc ⟨0, 0, 0, 0, 0, 0⟩)))
    else m
structure Rs where
  bd : Bd
  dice : Int
  touched : BitVec 64
  shows : List Sh
  used : Nat
  err : Nat
def regs0 (all : BitVec 32) : Rg := ⟨List.replicate 8 ⟨0, all⟩, rfl⟩
def start (E : Me) (bd : Bd) (d : Int) : Mc := ⟨bd, d, 0#64, [], 0, 0, regs0 E.all, 0⟩
def runF (E : Me) (l : List Cd) (bd : Bd) (d : Int) : Rs :=
  if rightL l bd.l.length E.moves.length = false then ⟨bd, d, 0#64, [], 0, 2⟩ else
  if (loopF E l 400 (start E bd d)).err ≠ 0 then ⟨bd, d, 0#64, (loopF E l 400 (start E bd d)).shows, (loopF E l 400 (start E bd d)).used, (loopF E l 400 (start E bd d)).err⟩
  else ⟨(loopF E l 400 (start E bd d)).bd, (loopF E l 400 (start E bd d)).dice, (loopF E l 400 (start E bd d)).touched, (loopF E l 400 (start E bd d)).shows, (loopF E l 400 (start E bd d)).used, 0⟩
end Go.Proofs.Ytcdlipdeemlibaa.G
namespace Go.Proofs.Ytcdlipdeemlibaa.G
open Go
set_option linter.unusedSimpArgs false
set_option linter.unusedVariables false
set_option maxRecDepth 20000
set_option maxHeartbeats 2000000
def Sh.e (s : Sh) : IV := .agg s.c
def resB (r : Rs) (s : IV) : List IV := [.int .u64 r.dice, .int .u64 (r.touched.toNat : Int), s, nI r.used, nI r.err]
def resC (r : Rs) (s : IV) : List IV := bdc r.bd ++ resB r s
def ResR (u : IV) (r : Rs) : Prop := ∃ s, Ls 3 s (r.shows.map Sh.e) ∧ u = .agg (resC r s)
theorem sh3 (l : List Sh) : ∀ x ∈ l.map Sh.c, x.length = 3 := by
  intro e he
  obtain ⟨y, _, rfl⟩ := List.mem_map.1 he
  rfl
theorem sh_pure (l : List Sh) : ipureL (l.map Sh.c).flatten = true := ipureL_iff.2 fun x hx => by
  obtain ⟨e, he, hx⟩ := List.mem_flatten.1 hx
  obtain ⟨y, _, rfl⟩ := List.mem_map.1 he
  simp [Sh.c] at hx
  rcases hx with rfl | rfl | rfl <;> rfl
theorem sh_one (l : List Sh) : (l.map Sh.c).flatten.all ione = true := by
  rw [List.all_eq_true]
  intro x hx
  obtain ⟨e, he, hx⟩ := List.mem_flatten.1 hx
  obtain ⟨y, _, rfl⟩ := List.mem_map.1 he
  simp [Sh.c] at hx
  rcases hx with rfl | rfl | rfl <;> rfl
theorem frz_res {J : JH} {r : Rs} {s : IV} (hg : Grow J s 3 (r.shows.map Sh.c).flatten) : ∃ u, frz J DEP (.agg (resC r s)) = some u ∧ ResR u r := by
  obtain ⟨u, hu, hl⟩ := hg.frzX (sh3 _) (by omega) (sh_pure _) (sh_one _)
  refine ⟨.agg (resC r u), ?_, u, ?_, rfl⟩
  · rw [frz12]
    refine frz_aggL ?_
    rw [resC, List.mapM_append, frzL_pure J 11 (bdc_pure r.bd)]
    simp only [resB, List.mapM_cons, List.mapM_nil, hu, frz_pure J 11 (v := IV.int .u64 r.dice) rfl, frz_pure J 11 (v := IV.int .u64 (r.touched.toNat : Int)) rfl, frz_pure J 11 (v := nI r.used) rfl, frz_pure J 11 (v := nI r.err) rfl]
    rfl
  · rw [List.map_map] at hl
    exact hl
def Rs.z : Rs := ⟨Bd.z, 0, 0#64, [], 0, 0⟩
theorem zc_res : List.map IV.sc (reps 48 [Value.int .i32 0, Value.int .u32 0] ++ [Value.int .i64 0, Value.int .u64 0, Value.int .u64 0, Value.slice none 0 0, Value.int .i64 0, Value.int .i64 0]) = resC Rs.z (.sc (.slice none 0 0)) := by
  show _ = bdc Bd.z ++ resB Rs.z (.sc (.slice none 0 0))
  rw [← zc_bd, List.map_append, List.map_append, List.append_assoc]; rfl
theorem rs_len (r s) : (resC r s).length = 102 := by simp [resC, bdc_len, resB]
theorem rs_one (r s) (h : ione s = true) : (resC r s).all ione = true := by
  rw [resC, List.all_append, bdc_one, resB]; simp only [List.all_cons, h]; rfl
theorem rs_take (r s) : (resC r s).take 102 = resC r s := List.take_of_length_le (by rw [rs_len]; exact Nat.le_refl _)
theorem rs_all (r s q t) : isplice (resC r s) 0 (resC q t) = resC q t := by
  simp only [isplice, List.take_zero, List.nil_append, Nat.zero_add]
  rw [List.drop_of_length_le (by rw [rs_len, rs_len]; exact Nat.le_refl _), List.append_nil]
theorem rs_0 (r s) (b : Bd) : isplice (resC r s) 0 (bdc b) = resC { r with bd := b } s := by
  rw [resC, app_sp0 (by rw [bdc_len, bdc_len]; exact Nat.le_refl _), bdc_all]; rfl
theorem rs_97 (r s) (d : Int) : isplice (resC r s) 97 [.int .u64 d] = resC { r with dice := d } s := by rw [resC, app_sp (bdc_len r.bd) 0]; rfl
theorem rs_99 (r s) (d : IV) : isplice (resC r s) 99 [d] = resC r d := by rw [resC, app_sp (bdc_len r.bd) 2]; rfl
theorem rs_100 (r s) (d : Nat) : isplice (resC r s) 100 [nI d] = resC { r with used := d } s := by rw [resC, app_sp (bdc_len r.bd) 3]; rfl
theorem rs_101 (r s) (d : Nat) : isplice (resC r s) 101 [nI d] = resC { r with err := d } s := by rw [resC, app_sp (bdc_len r.bd) 4]; rfl
theorem rs_pure (r) : ipureL (resC r (.sc (.slice none 0 0))) = true := by
  rw [resC, ipureL_iff]
  intro x hx
  rcases List.mem_append.1 hx with hx | hx
  · exact ipureL_iff.1 (bdc_pure r.bd) x hx
  · simp [resB] at hx
    rcases hx with rfl | rfl | rfl | rfl | rfl <;> rfl
attribute [go_sem] rs_len rs_take rs_all rs_0 rs_97 rs_99 rs_100 rs_101
attribute [go_sem ↓] zc_res
/-- A new machine. -/
def mcz : List IV := bdc Bd.z ++ ([.int .u64 0, .int .u64 0, .sc (.slice none 0 0), nI 0, nI 0] ++ (rgc ⟨List.replicate 8 Cl.z, rfl⟩ ++ [nI 0, .sc (.slice none 0 0), .int .u32 0, .int .u32 0, .sc .nilFunc]))
theorem zc_mc : List.map IV.sc (reps 48 [Value.int .i32 0, Value.int .u32 0] ++ (Value.int .i64 0 :: Value.int .u64 0 :: Value.int .u64 0 :: Value.slice none 0 0 :: Value.int .i64 0 :: Value.int .i64 0 :: (reps 8 [Value.int .i32 0, Value.int .u32 0] ++ [Value.int .i64 0, Value.slice none 0 0, Value.int .u32 0, Value.int .u32 0, Value.nilFunc]))) = mcz := by
  rw [mcz, ← zc_bd]
  simp only [List.map_append, List.append_assoc, List.map_cons, List.map_nil, List.cons_append, List.nil_append]
  rfl
attribute [go_sem ↓] zc_mc
theorem mcz_fill (mv : IV) (t : Int) (all : BitVec 32) (h : icells mv = [mv]) (ho : ione mv = true) : ifill mcz [(119, 1, mv), (120, 1, .int .u32 t), (121, 1, m32 all), (122, 1, .fn F_vm_Compute [] [])] = some (mc ⟨mv, [], t, all⟩ ⟨Bd.z, 0, 0#64, [], 0, 0, ⟨List.replicate 8 Cl.z, rfl⟩, 0⟩ (.sc (.slice none 0 0))) := by
  have hl : mcz.length = 123 := by simp [mcz, bdc_len, rgc_len]
  have sp : ∀ (D vs : List IV) (k : Nat), isplice (bdc Bd.z ++ ([.int .u64 0, .int .u64 0, .sc (.slice none 0 0), nI 0, nI 0] ++ (rgc ⟨List.replicate 8 Cl.z, rfl⟩ ++ D))) (118 + k) vs = bdc Bd.z ++ ([.int .u64 0, .int .u64 0, .sc (.slice none 0 0), nI 0, nI 0] ++ (rgc ⟨List.replicate 8 Cl.z, rfl⟩ ++ isplice D k vs)) := fun D vs k => by
    rw [show 118 + k = 97 + (5 + (16 + k)) by omega, app_sp (bdc_len _), app_sp (n := 5) rfl, app_sp (rgc_len _)]
  have ln : ∀ D : List IV, (bdc Bd.z ++ ([.int .u64 0, .int .u64 0, .sc (.slice none 0 0), nI 0, nI 0] ++ (rgc ⟨List.replicate 8 Cl.z, rfl⟩ ++ D))).length = 118 + D.length := fun D => by simp [bdc_len, rgc_len]; omega
  unfold mcz
  simp only [ifill, h, List.length_cons, List.length_nil, List.all_cons, ho, List.all_nil, Bool.and_true, ln, true_and, and_true, sp _ _ 1, sp _ _ 2, sp _ _ 3, sp _ _ 4, show (119 : Nat) = 118 + 1 from rfl, show (120 : Nat) = 118 + 2 from rfl, show (121 : Nat) = 118 + 3 from rfl, show (122 : Nat) = 118 + 4 from rfl]
  simp [icells, ione, isplice, mc, mcB, mcD, one]
end Go.Proofs.Ytcdlipdeemlibaa.G
namespace Go.Proofs.Ytcdlipdeemlibaa.G
open Go
set_option linter.unusedSimpArgs false
set_option linter.unusedVariables false
set_option maxRecDepth 20000
set_option maxHeartbeats 2000000
/-- What a machine comes to. -/
def endF (bd : Bd) (d : Int) (m : Mc) : Rs :=
  if m.err ≠ 0 then ⟨bd, d, 0#64, m.shows, m.used, m.err⟩ else ⟨m.bd, m.dice, m.touched, m.shows, m.used, m.err⟩
theorem MAt.res {E : Me} {J : JH} {b : Nat} {sh : IV} {m : Mc} (h : MAt E J b sh m) : (mc E m sh).take 102 = resC ⟨m.bd, m.dice, m.touched, m.shows, m.used, m.err⟩ sh := ld_res E m sh
theorem run_end {E : Me} {J : JH} {sh : IV} {m : Mc} (bd : Bd) (d : Int) (h : MAt E J 3 sh m) (h0 : J[0]? = some (.cells 0 (bdc bd) false)) (h1 : J[1]? = some (.cells 0 [.int .u64 d] false)) (r0 : Rs) (h2 : J[2]? = some (.cells 0 (resC r0 (.sc (.slice none 0 0))) false)) (hs : 2 ∉ blk sh) (K : Out IV → JH → Prop)
    (hK : ∀ vs J' u, frz J' DEP (itup vs) = some u → ResR u (endF bd d m) → K (.ret vs) J') : WP (dn BI l_vm_Run_k3 [.ptr 0 0 0, .ptr 1 0 0, .ptr 2 0 0, .ptr 3 0 0] J) K := by
  have hb := h.1
  have hin := inb hb
  have i0 := inb h0
  have i1 := inb h1
  have i2 := inb h2
  have ho := h.2.2.one
  have hi := h.2.2.icells
  have hgr : ∀ X : IB, Grow (J.setIfInBounds 2 X) sh 3 (m.shows.map Sh.c).flatten := fun X => h.2.2.fr (Fr.set J X (S := [2]) (by simp)) fun c hc hm => by simp at hm; exact hs (hm ▸ hc)
  unfold l_vm_Run_k3
  by_cases he : m.err = 0
  · have he' : ((m.err : Int) != 0) = false := by simp [he]
    have hone := rs_one ⟨m.bd, m.dice, m.touched, m.shows, m.used, m.err⟩ sh ho
    simp -implicitDefEqProofs only [go_sem, dnW_ite, reduceIte, Nat.reduceAdd, Nat.reduceLeDiff, Nat.reduceMul, Nat.reduceEqDiff, Int.reduceLT, Int.reduceLE, Int.reduceToNat, Nat.reduceSub, Nat.reduceLT, Int.reduceEq, BitVec.reduceOfInt, BitVec.reduceOfNat, Int.reduceGT, Int.reduceGE, Int.reduceBEq, Int.reduceBNe, Nat.reduceGT, Nat.reduceBEq, Nat.reduceBNe, Int.reduceAdd, Int.reduceSub, Int.reduceNeg, hb, he', h0, h1, h2, h.res, hone, Array.getElem?_setIfInBounds, i2]
    obtain ⟨u, hu, hr⟩ := frz_res (J := J.setIfInBounds 2 (.cells 0 (resC ⟨m.bd, m.dice, m.touched, m.shows, m.used, m.err⟩ sh) false)) (r := ⟨m.bd, m.dice, m.touched, m.shows, m.used, m.err⟩) (hgr _)
    exact hK _ _ u hu (by rw [endF, if_neg (by simpa using he)]; exact hr)
  · have he' : ((m.err : Int) != 0) = true := by simp; omega
    simp -implicitDefEqProofs only [go_sem, dnW_ite, reduceIte, Nat.reduceAdd, Nat.reduceLeDiff, Nat.reduceMul, Nat.reduceEqDiff, Int.reduceLT, Int.reduceLE, Int.reduceToNat, Nat.reduceSub, Nat.reduceLT, Int.reduceEq, BitVec.reduceOfInt, BitVec.reduceOfNat, Int.reduceGT, Int.reduceGE, Int.reduceBEq, Int.reduceBNe, Nat.reduceGT, Nat.reduceBEq, Nat.reduceBNe, Int.reduceAdd, Int.reduceSub, Int.reduceNeg, hb, he', h0, h1, h2, Array.getElem?_setIfInBounds, i2, ↓ho, ↓hi, rs_one _ sh ho]
    obtain ⟨u, hu, hr⟩ := frz_res (J := J.setIfInBounds 2 (.cells 0 (resC ⟨bd, d, 0#64, m.shows, m.used, m.err⟩ sh) false)) (r := ⟨bd, d, 0#64, m.shows, m.used, m.err⟩) (hgr _)
    exact hK _ _ u hu (by rw [endF, if_pos he]; exact hr)
/-- What lies around the machine in a run. -/
structure Sur (J : JH) (bd : Bd) (d : Int) (sh : IV) : Prop where
  c0 : J[0]? = some (.cells 0 (bdc bd) false)
  c1 : J[1]? = some (.cells 0 [.int .u64 d] false)
  c2 : J[2]? = some (.cells 0 (resC Rs.z (.sc (.slice none 0 0))) false)
  n0 : 0 ∉ blk sh
  n1 : 1 ∉ blk sh
  n2 : 2 ∉ blk sh
theorem Sur.upd {J J' : JH} {bd : Bd} {d : Int} {sh sh' : IV} (h : Sur J bd d sh) (u : Upd 3 J sh J' sh') : Sur J' bd d sh' :=
  ⟨u.keep h.c0 (by decide) h.n0, u.keep h.c1 (by decide) h.n1, u.keep h.c2 (by decide) h.n2, u.out (lt_get h.c0) h.n0, u.out (lt_get h.c1) h.n1, u.out (lt_get h.c2) h.n2⟩
theorem run_loop {E : Me} (hE : E.ok) (xl : IV) (l : List Cd) (hl : Ls 6 xl (l.map Cd.e)) (hw : ∀ c ∈ l, c.wf) (hl96 : l.length ≤ 96) (bd : Bd) (d : Int) (hr : ∀ x ∈ l, x.right l.length bd.l.length E.moves.length = true) (K : Out IV → JH → Prop)
    (m0 : Mc) (hK : ∀ vs J' u, frz J' DEP (itup vs) = some u → ResR u (endF bd d (loopF E l 400 m0)) → K (.ret vs) J')
    {J : JH} {sh : IV} (h : MAt E J 3 sh m0) (hs : Sur J bd d sh) (hok : m0.ok bd.l.length l.length) (h0 : m0.used = 0) (h1 : m0.shows.length = 0) :
    WP (dn BI l_vm_Run_k4 [xl, .ptr 0 0 0, .ptr 1 0 0, .ptr 2 0 0, .ptr 3 0 0] J) K := by
  unfold l_vm_Run_k4
  simp -implicitDefEqProofs only [go_sem, dnW_ite, reduceIte, Nat.reduceAdd, Nat.reduceLeDiff, Nat.reduceMul, Nat.reduceEqDiff, Int.reduceLT, Int.reduceLE, Int.reduceToNat, Nat.reduceSub, Nat.reduceLT, Int.reduceEq, BitVec.reduceOfInt, BitVec.reduceOfNat, Int.reduceGT, Int.reduceGE, Int.reduceBEq, Int.reduceBNe, Nat.reduceGT, Nat.reduceBEq, Nat.reduceBNe, Int.reduceAdd, Int.reduceSub, Int.reduceNeg, dn_loop]
  refine WP_loop (by decide) (fun n vs J => ∃ m sh, vs = [xl, .ptr 0 0 0, .ptr 1 0 0, .ptr 2 0 0, .ptr 3 0 0] ∧ MAt E J 3 sh m ∧ Sur J bd d sh ∧ m.ok bd.l.length l.length ∧ m.shows.length ≤ m.used ∧ m.used + n = 400 ∧ loopF E l n m = loopF E l 400 m0) ?_ 400 _ _ ⟨m0, sh, rfl, h, hs, hok, by omega, by omega, rfl⟩
  rintro n vs J ⟨m, sh, rfl, h, hs, hok, hsh, hu, hf⟩ K1 g1 g2 g3
  have hb := h.1
  have hpc := hok.pc
  have fin : loopF E l 400 m0 = m → K1 (.goto 1 [.ptr 0 0 0, .ptr 1 0 0, .ptr 2 0 0, .ptr 3 0 0]) J := fun e => by
    refine g2 _ _ ?_
    rw [e] at hK
    exact run_end bd d h hs.c0 hs.c1 _ hs.c2 hs.n2 K hK
  unfold l_vm_Run_k2
  by_cases he : m.err = 0
  · have he' : ((m.err : Int) == 0) = true := by simp [he]
    by_cases hp : m.pc < l.length
    · simp -implicitDefEqProofs only [go_sem, dnW_ite, reduceIte, Nat.reduceAdd, Nat.reduceLeDiff, Nat.reduceMul, Nat.reduceEqDiff, Int.reduceLT, Int.reduceLE, Int.reduceToNat, Nat.reduceSub, Nat.reduceLT, Int.reduceEq, BitVec.reduceOfInt, BitVec.reduceOfNat, Int.reduceGT, Int.reduceGE, Int.reduceBEq, Int.reduceBNe, Nat.reduceGT, Nat.reduceBEq, Nat.reduceBNe, Int.reduceAdd, Int.reduceSub, Int.reduceNeg, hb, he', hl.lenF, List.length_map, show ((m.pc : Int) < (l.length : Int)) by omega]
      unfold l_vm_Run_k1
      by_cases hn : n = 0
      · subst hn
        have hu4 : ((m.used : Int) == 400) = true := by rw [beq_iff_eq]; omega
        simp -implicitDefEqProofs only [go_sem, dnW_ite, reduceIte, Nat.reduceAdd, Nat.reduceLeDiff, Nat.reduceMul, Nat.reduceEqDiff, Int.reduceLT, Int.reduceLE, Int.reduceToNat, Nat.reduceSub, Nat.reduceLT, Int.reduceEq, BitVec.reduceOfInt, BitVec.reduceOfNat, Int.reduceGT, Int.reduceGE, Int.reduceBEq, Int.reduceBNe, Nat.reduceGT, Nat.reduceBEq, Nat.reduceBNe, Int.reduceAdd, Int.reduceSub, Int.reduceNeg, hb, hu4]
        refine WP_call (fail_ok h 9) fun v J2 hv => ?_
        simp -implicitDefEqProofs only [go_sem, dnW_ite, reduceIte, Nat.reduceAdd, Nat.reduceLeDiff, Nat.reduceMul, Nat.reduceEqDiff, Int.reduceLT, Int.reduceLE, Int.reduceToNat, Nat.reduceSub, Nat.reduceLT, Int.reduceEq, BitVec.reduceOfInt, BitVec.reduceOfNat, Int.reduceGT, Int.reduceGE, Int.reduceBEq, Int.reduceBNe, Nat.reduceGT, Nat.reduceBEq, Nat.reduceBNe, Int.reduceAdd, Int.reduceSub, Int.reduceNeg]
        refine g2 _ _ ?_
        obtain ⟨sh2, k1, u1⟩ := hv
        have hs2 := hs.upd u1
        rw [if_pos he] at k1
        refine run_end bd d k1 hs2.c0 hs2.c1 _ hs2.c2 hs2.n2 K ?_
        rw [← hf, loopF, if_pos ⟨he, hp⟩] at hK
        exact hK
      · obtain ⟨k, rfl⟩ : ∃ k, n = k + 1 := ⟨n - 1, by omega⟩
        have hu4 : ((m.used : Int) == 400) = false := by rw [beq_eq_false_iff_ne]; omega
        have hat := fun J => hl.at (i := m.pc) (by simpa using hp) (J := J)
        simp only [List.getElem_map, Cd.e, Cd.cs] at hat
        have hx : l.getD m.pc ⟨0, 0, 0, 0, 0, 0⟩ = l[m.pc] := by simp [hp]
        have hin := inb hb
        have h' := h.set { m with used := m.used + 1 } rfl
        have u' : Upd 3 J sh (J.setIfInBounds 3 (.cells 0 (mc E { m with used := m.used + 1 } sh) false)) sh := .set _
        have hs' := hs.upd u'
        rw [loopF, if_pos ⟨he, hp⟩, hx] at hf
        by_cases h00 : l[m.pc].op = 0
        · have ho : ((l[m.pc].op : Int) == 0) = true := by simp [h00]
          simp -implicitDefEqProofs only [go_sem, dnW_ite, reduceIte, Nat.reduceAdd, Nat.reduceLeDiff, Nat.reduceMul, Nat.reduceEqDiff, Int.reduceLT, Int.reduceLE, Int.reduceToNat, Nat.reduceSub, Nat.reduceLT, Int.reduceEq, BitVec.reduceOfInt, BitVec.reduceOfNat, Int.reduceGT, Int.reduceGE, Int.reduceBEq, Int.reduceBNe, Nat.reduceGT, Nat.reduceBEq, Nat.reduceBNe, Int.reduceAdd, Int.reduceSub, Int.reduceNeg, hb, hu4, wrapS (show m.used < 401 by omega) (by omega), hat, ho, Array.getElem?_setIfInBounds, hin]
          refine g2 _ _ ?_
          rw [if_pos h00] at hf
          refine run_end bd d h' hs'.c0 hs'.c1 _ hs'.c2 hs'.n2 K ?_
          rw [hf]; exact hK
        · have ho : ((l[m.pc].op : Int) == 0) = false := by rw [beq_eq_false_iff_ne]; omega
          rw [if_neg h00] at hf
          simp -implicitDefEqProofs only [go_sem, dnW_ite, reduceIte, Nat.reduceAdd, Nat.reduceLeDiff, Nat.reduceMul, Nat.reduceEqDiff, Int.reduceLT, Int.reduceLE, Int.reduceToNat, Nat.reduceSub, Nat.reduceLT, Int.reduceEq, BitVec.reduceOfInt, BitVec.reduceOfNat, Int.reduceGT, Int.reduceGE, Int.reduceBEq, Int.reduceBNe, Nat.reduceGT, Nat.reduceBEq, Nat.reduceBNe, Int.reduceAdd, Int.reduceSub, Int.reduceNeg, hb, hu4, wrapS (show m.used < 401 by omega) (by omega), hat, ho, Array.getElem?_setIfInBounds, hin]
          have hrx := hr _ (List.getElem_mem hp)
          have hwx := hw _ (List.getElem_mem hp)
          have hok' : ({ m with used := m.used + 1 } : Mc).ok bd.l.length l.length := ⟨hok.r, hok.bd, hok.len, hok.pc⟩
          refine WP_call (follow_ok hE h' l[m.pc] hwx l.length (by show l[m.pc].right l.length m.bd.l.length _ = true; rw [hok.len]; exact hrx) (by show m.pc ≤ 1000; omega) h00 hok.r he (by show m.shows.length ≤ 1000; omega)) fun v J2 hv => ?_
          obtain ⟨sh2, k1, u1⟩ := hv
          have hnice := followF_nice hE hok' hp l[m.pc] hwx hrx
          simp -implicitDefEqProofs only [go_sem, dnW_ite, reduceIte, Nat.reduceAdd, Nat.reduceLeDiff, Nat.reduceMul, Nat.reduceEqDiff, Int.reduceLT, Int.reduceLE, Int.reduceToNat, Nat.reduceSub, Nat.reduceLT, Int.reduceEq, BitVec.reduceOfInt, BitVec.reduceOfNat, Int.reduceGT, Int.reduceGE, Int.reduceBEq, Int.reduceBNe, Nat.reduceGT, Nat.reduceBEq, Nat.reduceBNe, Int.reduceAdd, Int.reduceSub, Int.reduceNeg]
          refine g1 _ k _ (by omega) ⟨_, sh2, rfl, k1, hs'.upd u1, hnice.ok, ?_, ?_, hf⟩
          · have a := hnice.shows; have b := hnice.used; rw [b]; show _ ≤ m.used + 1; have : ({ m with used := m.used + 1 } : Mc).shows.length = m.shows.length := rfl; omega
          · rw [hnice.used]; show m.used + 1 + k = 400; omega
    · simp -implicitDefEqProofs only [go_sem, dnW_ite, reduceIte, Nat.reduceAdd, Nat.reduceLeDiff, Nat.reduceMul, Nat.reduceEqDiff, Int.reduceLT, Int.reduceLE, Int.reduceToNat, Nat.reduceSub, Nat.reduceLT, Int.reduceEq, BitVec.reduceOfInt, BitVec.reduceOfNat, Int.reduceGT, Int.reduceGE, Int.reduceBEq, Int.reduceBNe, Nat.reduceGT, Nat.reduceBEq, Nat.reduceBNe, Int.reduceAdd, Int.reduceSub, Int.reduceNeg, hb, he', hl.lenF, List.length_map, show ¬ ((m.pc : Int) < (l.length : Int)) by omega]
      refine fin ?_
      rw [← hf]; cases n <;> simp [loopF, hp]
  · have he' : ((m.err : Int) == 0) = false := by rw [beq_eq_false_iff_ne]; omega
    simp -implicitDefEqProofs only [go_sem, dnW_ite, reduceIte, Nat.reduceAdd, Nat.reduceLeDiff, Nat.reduceMul, Nat.reduceEqDiff, Int.reduceLT, Int.reduceLE, Int.reduceToNat, Nat.reduceSub, Nat.reduceLT, Int.reduceEq, BitVec.reduceOfInt, BitVec.reduceOfNat, Int.reduceGT, Int.reduceGE, Int.reduceBEq, Int.reduceBNe, Nat.reduceGT, Nat.reduceBEq, Nat.reduceBNe, Int.reduceAdd, Int.reduceSub, Int.reduceNeg, hb, he']
    refine fin ?_
    rw [← hf]; cases n <;> simp [loopF, he]
end Go.Proofs.Ytcdlipdeemlibaa.G
namespace Go.Proofs.Ytcdlipdeemlibaa.G
open Go
set_option linter.unusedSimpArgs false
set_option linter.unusedVariables false
set_option maxRecDepth 20000
set_option maxHeartbeats 2000000
/-- The first registers are set. -/
def regsN (all : BitVec 32) (i : Nat) : Rg := ⟨(List.replicate (min i 8) ⟨0, all⟩ ++ List.replicate (8 - min i 8) Cl.z), by simp; omega⟩
theorem regsN_set (all : BitVec 32) {i : Nat} (h : i < 8) : (regsN all i).set i ⟨((regsN all i).at i).v, all⟩ = regsN all (i + 1) := by
  have e : ((regsN all i).at i).v = 0 := by
    rw [rg_at _ h]
    simp [regsN, show min i 8 = i by omega, Cl.z, List.getElem_append]
  rw [e]
  unfold Rg.set regsN
  congr 1
  rw [List.set_append_right _ _ (by simp; omega)]
  simp only [List.length_replicate, show min i 8 = i by omega, Nat.sub_self, show min (i + 1) 8 = i + 1 by omega]
  rw [show 8 - i = (8 - (i + 1)) + 1 by omega, List.replicate_succ (n := 8 - (i + 1)), List.set_cons_zero, List.replicate_succ' (n := i)]
  simp
theorem mc_one (m : Mc) (E : Me) (sh : IV) (h : ione E.mv = true) (hs : ione sh = true := by rfl) : (mc E m sh).all ione = true := by
  have hr : (rgc m.r).all ione = true := flat_one _
  rw [mc, List.all_append, bdc_one, List.all_append, List.all_append, hr, mcB, mcD]
  simp only [List.all_cons, h, hs]; rfl
theorem Run_ok (xl : IV) (l : List Cd) (hl : Ls 6 xl (l.map Cd.e)) (hw : ∀ c ∈ l, c.wf) (hlen : l.length ≤ 9223372036854775807) (bd : Bd) (hbd : bd.ok) (d : Int) (E : Me) (hE : E.ok) :
    ∃ u, pc BI F_vm_Run [xl, .agg (bdc bd), .agg [.int .u64 d], E.mv, .int .u32 E.tick, m32 E.all] = some u ∧ ResR u (runF E l bd d) := by
  refine pcW fn_vm_Run rfl fun K hK => ?_
  have hbl := bd.h
  have hR := Right_ok xl l hl hw bd.l.length E.moves.length (by omega) hE.len
  have hml := fun J => hE.mv.lenF (J := J)
  simp only [List.length_map] at hml
  have hmp := hE.mv.pure
  have hmo := hE.mv.one
  have hmi := hE.mv.icells
  unfold l_vm_Run
  cases hr : rightL l bd.l.length E.moves.length with
  | false =>
    rw [hr] at hR
    simp -implicitDefEqProofs only [go_sem, dnW_ite, reduceIte, Nat.reduceAdd, Nat.reduceLeDiff, Nat.reduceMul, Nat.reduceEqDiff, Int.reduceLT, Int.reduceLE, Int.reduceToNat, Nat.reduceSub, Nat.reduceLT, Int.reduceEq, BitVec.reduceOfInt, BitVec.reduceOfNat, Int.reduceGT, Int.reduceGE, Int.reduceBEq, Int.reduceBNe, Nat.reduceGT, Nat.reduceBEq, Nat.reduceBNe, Int.reduceAdd, Int.reduceSub, Int.reduceNeg, dcp (Len_ok bd) (by simp [ipureL, ipure, bdc_pure]), hml, dcp hR (by simp [ipureL, ipure, hl.pure]), rs_one _ (.sc (.slice none 0 0)) rfl, show ∀ r s, isplice (resC r s) 101 [IV.int .i64 2] = resC { r with err := 2 } s from fun r s => rs_101 r s 2]
    refine hK _ _ _ (frzP (by simp [itup, ipure, rs_pure])) ?_
    simp only [runF, hr, if_true]; exact ⟨_, .nil, rfl⟩
  | true =>
    rw [hr] at hR
    have hfill := mcz_fill E.mv E.tick E.all hmi hmo
    simp -implicitDefEqProofs only [go_sem, dnW_ite, reduceIte, Nat.reduceAdd, Nat.reduceLeDiff, Nat.reduceMul, Nat.reduceEqDiff, Int.reduceLT, Int.reduceLE, Int.reduceToNat, Nat.reduceSub, Nat.reduceLT, Int.reduceEq, BitVec.reduceOfInt, BitVec.reduceOfNat, Int.reduceGT, Int.reduceGE, Int.reduceBEq, Int.reduceBNe, Nat.reduceGT, Nat.reduceBEq, Nat.reduceBNe, Int.reduceAdd, Int.reduceSub, Int.reduceNeg, dcp (Len_ok bd) (by simp [ipureL, ipure, bdc_pure]), hml, dcp hR (by simp [ipureL, ipure, hl.pure]), rs_one _ (.sc (.slice none 0 0)) rfl, ↓hmi, ↓hmo, hfill, mc_one _ ⟨E.mv, [], E.tick, E.all⟩ (.sc (.slice none 0 0)) hmo, dn_loop]
    have hall : l.length ≤ 96 ∧ ∀ x ∈ l, x.right l.length bd.l.length E.moves.length = true := by
      simpa [rightL] using hr
    refine WP_range (by decide) 8 (fun i vs J => vs = [xl, m32 E.all, .ptr 0 0 0, .ptr 1 0 0, .ptr 2 0 0, .ptr 3 0 0, nI i] ∧ J = [IB.cells 0 (bdc bd) false, IB.cells 0 [.int .u64 d] false, IB.cells 0 (resC Rs.z (.sc (.slice none 0 0))) false, IB.cells 0 (mc E ⟨bd, d, 0#64, [], 0, 0, regsN E.all i, 0⟩ (.sc (.slice none 0 0))) false].toArray) ?_ ⟨rfl, rfl⟩
    rintro i vs J ⟨rfl, rfl⟩ hi K1 g1 g2 g3
    unfold l_vm_Run_k0
    by_cases h : i < 8
    · simp -implicitDefEqProofs only [go_sem, dnW_ite, reduceIte, Nat.reduceAdd, Nat.reduceLeDiff, Nat.reduceMul, Nat.reduceEqDiff, Int.reduceLT, Int.reduceLE, Int.reduceToNat, Nat.reduceSub, Nat.reduceLT, Int.reduceEq, BitVec.reduceOfInt, BitVec.reduceOfNat, Int.reduceGT, Int.reduceGE, Int.reduceBEq, Int.reduceBNe, Nat.reduceGT, Nat.reduceBEq, Nat.reduceBNe, Int.reduceAdd, Int.reduceSub, Int.reduceNeg, show ((i : Int) < 8) by omega, b8 h, st_rs E ⟨bd, d, 0#64, [], 0, 0, regsN E.all i, 0⟩ (.sc (.slice none 0 0)) h, wrapS h (by omega)]
      refine g1 h _ _ ⟨rfl, ?_⟩
      rw [← regsN_set E.all h]
    · simp -implicitDefEqProofs only [go_sem, dnW_ite, reduceIte, Nat.reduceAdd, Nat.reduceLeDiff, Nat.reduceMul, Nat.reduceEqDiff, Int.reduceLT, Int.reduceLE, Int.reduceToNat, Nat.reduceSub, Nat.reduceLT, Int.reduceEq, BitVec.reduceOfInt, BitVec.reduceOfNat, Int.reduceGT, Int.reduceGE, Int.reduceBEq, Int.reduceBNe, Nat.reduceGT, Nat.reduceBEq, Nat.reduceBNe, Int.reduceAdd, Int.reduceSub, Int.reduceNeg, show ¬ ((i : Int) < 8) by omega]
      obtain rfl : i = 8 := by omega
      refine g2 _ _ ?_
      have hm : MAt E ([IB.cells 0 (bdc bd) false, IB.cells 0 [.int .u64 d] false, IB.cells 0 (resC Rs.z (.sc (.slice none 0 0))) false, IB.cells 0 (mc E ⟨bd, d, 0#64, [], 0, 0, regsN E.all 8, 0⟩ (.sc (.slice none 0 0))) false].toArray) 3 (.sc (.slice none 0 0)) (start E bd d) := ⟨rfl, by simp [blk, blkOf], .nil⟩
      refine run_loop hE xl l hl hw hall.1 bd d hall.2 K (start E bd d) ?_ hm ⟨rfl, rfl, rfl, by simp [blk, blkOf], by simp [blk, blkOf], by simp [blk, blkOf]⟩ ⟨?_, hbd, rfl, Nat.zero_le _⟩ rfl rfl
      · intro vs J' u h1 h2
        refine hK vs J' u h1 ?_
        rw [runF, if_neg (by rw [hr]; decide)]
        unfold endF at h2
        by_cases he : (loopF E l 400 (start E bd d)).err = 0
        · rw [if_neg (by simpa using he)] at h2 ⊢
          rw [he] at h2; exact h2
        · rw [if_pos he] at h2 ⊢; exact h2
      · intro i hi
        have : ((start E bd d).r.at i).v = 0 := by
          show ((regs0 E.all).at i).v = 0
          rw [rg_at _ hi]; simp only [regs0, List.getElem_replicate]
        rw [this]; exact I32_0
end Go.Proofs.Ytcdlipdeemlibaa.G
namespace Go.Proofs.Ytcdlipdeemlibaa.G
open Go
set_option linter.unusedSimpArgs false
set_option linter.unusedVariables false
set_option maxRecDepth 20000
theorem rl_bd (r s) : (resC r s).take 97 = bdc r.bd := by rw [resC, List.take_append_of_le_length (by rw [bdc_len]; exact Nat.le_refl _), bdc_take]
theorem rl_97 (r s) : ((resC r s).drop 97).take 1 = [.int .u64 r.dice] := by rw [resC, app_ld (bdc_len r.bd) 0]; rfl
theorem rl_98 (r s) : ((resC r s).drop 98).take 1 = [.int .u64 (r.touched.toNat : Int)] := by rw [resC, app_ld (bdc_len r.bd) 1]; rfl
theorem rl_99 (r s) : ((resC r s).drop 99).take 1 = [s] := by rw [resC, app_ld (bdc_len r.bd) 2]; rfl
theorem rl_100 (r s) : ((resC r s).drop 100).take 1 = [nI r.used] := by rw [resC, app_ld (bdc_len r.bd) 3]; rfl
theorem rl_101 (r s) : ((resC r s).drop 101).take 1 = [nI r.err] := by rw [resC, app_ld (bdc_len r.bd) 4]; rfl
theorem rsz_one (r) : (resC r (.sc (.slice none 0 0))).all ione = true := rs_one _ _ rfl
attribute [go_sem] rsz_one rl_bd rl_97 rl_98 rl_99 rl_100 rl_101
end Go.Proofs.Ytcdlipdeemlibaa.G
namespace Go.Proofs.Ytcdlipdeemlibaa.G
open Go
set_option linter.unusedSimpArgs false
set_option linter.unusedVariables false
set_option maxRecDepth 20000
set_option maxHeartbeats 2000000
/-- A state's cells. -/
def stc (b : Bd) (d t : Int) : List IV := bdc b ++ [.int .u64 d, .int .u32 t]
theorem sta_len (b d t) : (stc b d t).length = 99 := by simp [stc, bdc_len]
theorem sta_take (b d t) : (stc b d t).take 99 = stc b d t := List.take_of_length_le (by rw [sta_len]; exact Nat.le_refl _)
theorem sta_bd (b d t) : (stc b d t).take 97 = bdc b := by rw [stc, List.take_append_of_le_length (by rw [bdc_len]; exact Nat.le_refl _), bdc_take]
theorem sta_97 (b d t) : ((stc b d t).drop 97).take 1 = [.int .u64 d] := by rw [stc, app_ld (bdc_len b) 0]; rfl
theorem sta_98 (b d t) : ((stc b d t).drop 98).take 1 = [.int .u32 t] := by rw [stc, app_ld (bdc_len b) 1]; rfl
theorem sta_one (b d t) : (stc b d t).all ione = true := by
  have := bdc_one b
  rw [stc, List.all_append, this]; rfl
theorem sta_pure (b d t) : ipureL (stc b d t) = true := by
  rw [stc, ipureL_iff]
  intro x hx
  rcases List.mem_append.1 hx with hx | hx
  · exact ipureL_iff.1 (bdc_pure b) x hx
  · simp at hx; rcases hx with rfl | rfl <;> rfl
attribute [go_sem] sta_len sta_take sta_bd sta_97 sta_98 sta_one
theorem sta_z : List.map IV.sc (reps 48 [Value.int IntKind.i32 0, Value.int IntKind.u32 0] ++ [Value.int IntKind.i64 0, Value.int IntKind.u64 0, Value.int IntKind.u32 0]) = stc Bd.z 0 0 := by kernel_rfl
theorem sta_all (b d t b2 d2 t2) : isplice (stc b d t) 0 (stc b2 d2 t2) = stc b2 d2 t2 := by
  simp only [isplice, List.take_zero, List.nil_append, Nat.zero_add]
  rw [List.drop_of_length_le (by rw [sta_len, sta_len]; exact Nat.le_refl _), List.append_nil]
theorem sta_sbd (b d t b2) : isplice (stc b d t) 0 (bdc b2) = stc b2 d t := by
  simp only [isplice, List.take_zero, List.nil_append, Nat.zero_add, stc]
  rw [bdc_len, List.drop_append_of_le_length (by rw [bdc_len]; exact Nat.le_refl _), List.drop_of_length_le (by rw [bdc_len]; exact Nat.le_refl _), List.nil_append]
theorem sta_s98 (b d t t2) : isplice (stc b d t) 98 [.int .u32 t2] = stc b d t2 := by
  have h := bdc_len b
  simp only [isplice, stc]
  rw [List.take_append, List.drop_append, List.take_of_length_le (by omega), List.drop_of_length_le (by rw [h]; simp only [List.length_cons, List.length_nil]; omega), h]; simp
theorem sta_s97 (b d t d2) : isplice (stc b d t) 97 [.int .u64 d2] = stc b d2 t := by
  have h := bdc_len b
  simp only [isplice, stc]
  rw [List.take_append, List.drop_append, List.take_of_length_le (by omega), List.drop_of_length_le (by rw [h]; simp only [List.length_cons, List.length_nil]; omega), h]; simp
attribute [go_sem] sta_all sta_sbd sta_s98 sta_s97
end Go.Proofs.Ytcdlipdeemlibaa.G
namespace Go.Proofs.Ytcdlipdeemlibaa.G
open Go
set_option linter.unusedSimpArgs false
set_option linter.unusedVariables false
set_option maxRecDepth 20000
set_option maxHeartbeats 2000000
theorem i32_rng (v : Int) : I32 (IntKind.i32.wrap v) := by
  unfold I32
  simp only [IntKind.wrap, IntKind.bits, IntKind.signed]
  simp; split <;> omega
theorem allF_rng (g : Gm) (ms) (n : Nat) : ∀ v ∈ g.allF ms n, I32 v := by
  intro v hv
  simp only [Gm.allF, List.mem_map] at hv
  obtain ⟨j, _, rfl⟩ := hv
  exact i32_rng _
/-- The environment of a step. -/
def Gm.env (g : Gm) (ms : List (BitVec 32)) (t : Int) (q : IV) : Me := ⟨q, g.allF ms g.players.toNat, IntKind.u32.wrap (t + 1), allM g.obs⟩
theorem right_players {g : Gm} (h : g.right = true) : 1 ≤ g.players ∧ g.players ≤ 6 ∧ rightL g.code g.cells.length g.players.toNat = true := by
  simp only [Gm.right, Bool.and_eq_true, decide_eq_true_eq] at h
  exact ⟨h.1.1.1.1.2.1, h.1.1.1.1.2.2.1, h.2⟩
theorem Step_ok (g : Gm) (x y : IV) (h : GR g x y) (hr : g.right = true) (hw : ∀ c ∈ g.code, c.wf) (hb : g.code.length ≤ 9223372036854775807) (b : Bd) (hbk : b.ok) (d t : Int) (mv : IV) (ms : List (BitVec 32)) (hm : Ls 1 mv (ms.map m32)) :
    ∃ u, pc BI F_rules_Game_Step [.agg (gmc g x y), .agg (stc b d t), mv] = some u ∧ ∃ q s, Ls 1 q ((g.env ms t q).moves.map (IV.int .i32)) ∧ Ls 3 s ((runF (g.env ms t q) g.code b d).shows.map Sh.e) ∧
      u = .tup [.agg (stc (runF (g.env ms t q) g.code b d).bd (runF (g.env ms t q) g.code b d).dice (IntKind.u32.wrap (t + 1))), .agg [.int .u64 ((runF (g.env ms t q) g.code b d).touched.toNat : Int), s, nI (runF (g.env ms t q) g.code b d).err]] := by
  refine pcW fn_rules_Game_Step rfl fun K hK => ?_
  obtain ⟨h1, h6, hR⟩ := right_players hr
  obtain ⟨p, hp⟩ : ∃ p : Nat, g.players = p := ⟨g.players.toNat, by omega⟩
  have hpn : g.players.toNat = p := by omega
  obtain ⟨q, hq, hql⟩ := gall_ok g x y h p hp (by omega) mv ms hm
  rw [← hpn] at hql
  have hE : (g.env ms t q).ok := ⟨hql, allF_rng _ _ _, by show (g.allF ms g.players.toNat).length ≤ _; rw [allF_len]; omega⟩
  have hcl : g.code.length ≤ 96 := by
    have : g.code.length ≤ 96 ∧ ∀ x ∈ g.code, x.right g.code.length g.cells.length g.players.toNat = true := by simpa [rightL] using hR
    exact this.1
  obtain ⟨_, hr1, s, hs, rfl⟩ := Run_ok y g.code h.y hw (by omega) b hbk d (g.env ms t q) hE
  have hr1' : pc BI F_vm_Run [y, .agg (bdc b), .agg [.int .u64 d], q, .int .u32 (IntKind.u32.wrap (t + 1)), m32 (allM g.obs)] = _ := hr1
  have hg := gRight_ok g x y h hw hb
  rw [hr] at hg
  have hcon : ∀ J', K (.ret [.agg (stc (runF (g.env ms t q) g.code b d).bd (runF (g.env ms t q) g.code b d).dice (IntKind.u32.wrap (t + 1))), .agg [.int .u64 ((runF (g.env ms t q) g.code b d).touched.toNat : Int), s, nI (runF (g.env ms t q) g.code b d).err]]) J' := fun J' => by
    have hpu : ipure (itup [.agg (stc (runF (g.env ms t q) g.code b d).bd (runF (g.env ms t q) g.code b d).dice (IntKind.u32.wrap (t + 1))), .agg [.int .u64 ((runF (g.env ms t q) g.code b d).touched.toNat : Int), s, nI (runF (g.env ms t q) g.code b d).err]]) = true := by
      simp [itup, ipure, ipureL, sta_pure, hs.pure]
    exact hK _ _ _ (frzP hpu) ⟨q, s, hql, hs, rfl⟩
  generalize runF (g.env ms t q) g.code b d = R at *
  unfold l_rules_Game_Step
  simp -implicitDefEqProofs only [go_sem, dnW_ite, reduceIte, Nat.reduceAdd, Nat.reduceLeDiff, Nat.reduceMul, Nat.reduceEqDiff, Int.reduceLT, Int.reduceLE, Int.reduceToNat, Nat.reduceSub, Nat.reduceLT, Int.reduceEq, BitVec.reduceOfInt, BitVec.reduceOfNat, Int.reduceGT, Int.reduceGE, Int.reduceBEq, Int.reduceBNe, Nat.reduceGT, Nat.reduceBEq, Nat.reduceBNe, Int.reduceAdd, Int.reduceSub, Int.reduceNeg, h.one, sta_z, dcp hg (by simp [ipureL, ipure, h.pure]), dcp hq (by simp [ipureL, ipure, h.pure, hm.pure]), dcp (All10_ok g x y h) (by simp [ipureL, ipure, h.pure]), dcp hr1' (by simp [ipureL, ipure, h.y.pure, hql.pure, bdc_pure]), rs_one _ _ hs.one, ↓h.y.icells, ↓hs.icells, ↓hs.one, castN]
  exact hcon _
end Go.Proofs.Ytcdlipdeemlibaa.G
namespace Go.Proofs.Ytcdlipdeemlibaa.G
open Go
set_option linter.unusedSimpArgs false
set_option linter.unusedVariables false
set_option maxRecDepth 20000
set_option maxHeartbeats 2000000
theorem foldl_take_succ' {α β : Type} (f : β → α → β) (l : List α) (i : Nat) (h : i < l.length) (z : β) : (l.take (i + 1)).foldl f z = f ((l.take i).foldl f z) l[i] := by
  rw [List.take_succ_eq_append_getElem h, List.foldl_append]; rfl
/-- One more cell: hidden values stand where nobody sees. -/
def hidS (p : List Cl × List Int) (c : Cl) : List Cl × List Int := if c.s = 0#32 then (match p.2 with | [] => (p.1 ++ [c], []) | h :: r => (p.1 ++ [⟨h, 0#32⟩], r)) else (p.1 ++ [c], p.2)
def hid (C : List Cl) (H : List Int) : List Cl × List Int := C.foldl hidS ([], H)
theorem hidS_len (p c) : (hidS p c).1.length = p.1.length + 1 := by
  unfold hidS
  split
  · split <;> simp
  · simp
theorem hid_len (C : List Cl) : ∀ p, (C.foldl hidS p).1.length = p.1.length + C.length := by
  induction C with
  | nil => intro p; rfl
  | cons c C ih => intro p; rw [List.foldl_cons, ih, hidS_len, List.length_cons]; omega
theorem hidS_suf (p c) : (hidS p c).2.length ≤ p.2.length := by
  unfold hidS
  split
  · split <;> simp_all
  · simp
theorem hid_suf (C : List Cl) : ∀ p, (C.foldl hidS p).2.length ≤ p.2.length := by
  induction C with
  | nil => intro p; exact Nat.le_refl _
  | cons c C ih => intro p; rw [List.foldl_cons]; exact Nat.le_trans (ih _) (hidS_suf p c)
/-- The board that so many cells are set of. -/
def hidB (C : List Cl) (h : C.length ≤ 48) (H : List Int) (i : Nat) : Bd := ⟨(hid (C.take i) H).1 ++ C.drop i, by
  have := hid_len (C.take i) ([], H)
  simp only [hid, List.length_append, this, List.length_take, List.length_drop, List.length_nil]; omega⟩
theorem hidB_len (C h H i) : (hidB C h H i).l.length = C.length := by
  have := hid_len (C.take i) ([], H)
  simp only [hidB, hid, List.length_append, this, List.length_take, List.length_drop, List.length_nil]; omega
theorem hidB_succ (C h H) {i : Nat} (hi : i < C.length) (c : Cl) (r : List Int) (he : hidS (hid (C.take i) H) C[i] = ((hid (C.take i) H).1 ++ [c], r)) : (hidB C h H i).set i c = hidB C h H (i + 1) ∧ (hid (C.take (i + 1)) H).2 = r := by
  have hs : hid (C.take (i + 1)) H = hidS (hid (C.take i) H) C[i] := foldl_take_succ' _ _ _ hi _
  have hl : (hid (C.take i) H).1.length = i := by
    have := hid_len (C.take i) ([], H)
    simp only [hid, this, List.length_take, List.length_nil]; omega
  refine ⟨?_, by rw [hs, he]⟩
  apply Bd.ext
  simp only [Bd.set, hidB]
  rw [hs, he, List.drop_eq_getElem_cons hi, List.set_append_right _ _ (by omega), hl, Nat.sub_self, List.set_cons_zero, List.append_assoc]; rfl
theorem hidB_same (C h H) {i : Nat} (hi : i < C.length) (r : List Int) (he : hidS (hid (C.take i) H) C[i] = ((hid (C.take i) H).1 ++ [C[i]], r)) : hidB C h H i = hidB C h H (i + 1) ∧ (hid (C.take (i + 1)) H).2 = r := by
  obtain ⟨h1, h2⟩ := hidB_succ C h H hi C[i] r he
  refine ⟨?_, h2⟩
  rw [← h1]
  have hl : (hid (C.take i) H).1.length = i := by
    have := hid_len (C.take i) ([], H)
    simp only [hid, this, List.length_take, List.length_nil]; omega
  apply Bd.ext
  simp only [Bd.set, hidB]
  rw [List.drop_eq_getElem_cons hi, List.set_append_right _ _ (by omega), hl, Nat.sub_self, List.set_cons_zero]
theorem start_loop (g : Gm) (x y : IV) (h : GR g x y) (h48 : g.cells.length ≤ 48) (hv : IV) (H : List Int) (hh : Ls 1 hv (H.map (IV.int .i32))) (hb : H.length ≤ 9223372036854775807) (sd : IV) (st : IV) (J : JH) (hJ : J[2]? = some (.cells 0 (bdc (hidB g.cells h48 H 0)) false)) (K : Out IV → JH → Prop)
    (hK : ∀ J', Fr J J' [2] → J'[2]? = some (.cells 0 (bdc (hidB g.cells h48 H g.cells.length)) false) → WP (dn BI l_rules_Game_Start_k1 [sd, st, .ptr 2 0 0] J') K) :
    WP (onJoinD 0 (iter (dn BI l_rules_Game_Start_k0) 1 [sd, hv, st, .ptr 2 0 0, x, nI g.cells.length, nI 0] J) l_rules_Game_Start_k1) K := by
  refine WP_range (by decide) g.cells.length (fun i vs J' => ∃ hw, vs = [sd, hw, st, .ptr 2 0 0, x, nI g.cells.length, nI i] ∧ Fr J J' [2] ∧ J'[2]? = some (.cells 0 (bdc (hidB g.cells h48 H i)) false) ∧ Ls 1 hw ((hid (g.cells.take i) H).2.map (IV.int .i32))) ?_ ⟨hv, rfl, .refl _ _, hJ, hh⟩
  rintro i vs J1 ⟨hw, rfl, hf, h2, hwl⟩ hi K1 g1 g2 g3
  have hin := inb h2
  have hl2 := lt_get h2
  unfold l_rules_Game_Start_k0
  by_cases hi2 : i < g.cells.length
  · have hat := fun J => h.x.at (i := i) (by simpa using hi2) (J := J)
    simp only [List.getElem_map, Cl.e, Cl.c] at hat
    have hsuf := hid_suf (g.cells.take i) ([], H)
    have hw1 := wrapS hi2 (show g.cells.length ≤ 9223372036854775807 by omega)
    have hp2 : ∀ X : IB, (J1.push X)[2]? = J1[2]? := fun X => by rw [Array.getElem?_push, if_neg (by omega)]
    have hp3 : ∀ X : IB, (J1.push X)[J1.size]? = some X := fun X => by simp
    have fr2 : ∀ X : IB, Fr J (J1.push X) [2] := fun X => hf.trans (Fr.push _ _ [2]) (fun _ _ h => h)
    by_cases hc : g.cells[i].s = 0#32
    · cases hr : (hid (g.cells.take i) H).2 with
      | nil =>
        obtain ⟨e1, e2⟩ := hidB_same g.cells h48 H hi2 [] (by simp [hidS, hc, hr])
        rw [hr] at hwl
        simp -implicitDefEqProofs only [go_sem, dnW_ite, reduceIte, Nat.reduceAdd, Nat.reduceLeDiff, Nat.reduceMul, Nat.reduceEqDiff, Int.reduceLT, Int.reduceLE, Int.reduceToNat, Nat.reduceSub, Nat.reduceLT, Int.reduceEq, BitVec.reduceOfInt, BitVec.reduceOfNat, Int.reduceGT, Int.reduceGE, Int.reduceBEq, Int.reduceBNe, Nat.reduceGT, Nat.reduceBEq, Nat.reduceBNe, Int.reduceAdd, Int.reduceSub, Int.reduceNeg, show ((i : Int) < (g.cells.length : Int)) by omega, hat, hp3, hp2, hc, hwl.lenF, List.length_map, hw1, BitVec.toNat_ofNat, show ((((0 % 2 ^ 32 : Nat)) : Int) == 0) = true from rfl]
        refine g1 hi2 _ _ ⟨hw, rfl, fr2 _, ?_, ?_⟩
        · rw [hp2, ← e1]; exact h2
        · rw [e2]; exact hwl
      | cons v r =>
        obtain ⟨e1, e2⟩ := hidB_succ g.cells h48 H hi2 ⟨v, 0#32⟩ r (by simp [hidS, hc, hr])
        rw [hr] at hwl
        have hat0 := fun J => hwl.at (i := 0) (by simp) (J := J)
        simp only [List.map_cons, List.getElem_cons_zero, Int.natCast_zero] at hat0
        obtain ⟨hw', hsl0, hwl'⟩ := hwl.sliceLo (l := 1) (by simp)
        have hsl : ∀ J, sliceF 1 hw (some (.int .i64 1)) none none J = some (hw', J) := hsl0
        have hP : pc BI F_board_Board_Put [.agg (bdc (hidB g.cells h48 H i)), .int .i64 (i : Int), .agg [.int .i32 v, .sc (.int .u32 0)]] = _ := Put_ok (hidB g.cells h48 H i) i ⟨v, 0#32⟩
        have hth : (hidB g.cells h48 H i).there i = true := by simp [Bd.there, hidB_len]; omega
        rw [hth, Bd.put, if_pos hth, if_pos rfl, Int.toNat_natCast, e1] at hP
        simp -implicitDefEqProofs only [go_sem, dnW_ite, reduceIte, Nat.reduceAdd, Nat.reduceLeDiff, Nat.reduceMul, Nat.reduceEqDiff, Int.reduceLT, Int.reduceLE, Int.reduceToNat, Nat.reduceSub, Nat.reduceLT, Int.reduceEq, BitVec.reduceOfInt, BitVec.reduceOfNat, Int.reduceGT, Int.reduceGE, Int.reduceBEq, Int.reduceBNe, Nat.reduceGT, Nat.reduceBEq, Nat.reduceBNe, Int.reduceAdd, Int.reduceSub, Int.reduceNeg, show ((i : Int) < (g.cells.length : Int)) by omega, hat, hp3, hp2, h2, hc, hwl.lenF, List.length_map, hw1, BitVec.toNat_ofNat, show ((((0 % 2 ^ 32 : Nat)) : Int) == 0) = true from rfl, show ((r.length + 1 : Nat) : Int) > 0 by omega, hat0, dcp hP (by simp [ipureL, ipure, bdc_pure]), hin, hsl, show ∀ k, 2 < J1.size + k by omega]
        refine g1 hi2 _ _ ⟨hw', rfl, (fr2 _).trans (Fr.set _ (b := 2) _ (S := [2]) (by simp)) (fun _ _ h => h), ?_, ?_⟩
        · exact set_get _ (by simp; omega)
        · rw [e2]; simpa using hwl'
    · obtain ⟨e1, e2⟩ := hidB_same g.cells h48 H hi2 (hid (g.cells.take i) H).2 (by simp [hidS, hc])
      have hc' : (((g.cells[i].s).toNat : Int) == 0) = false := by rw [beqB0]; simp [hc]
      simp -implicitDefEqProofs only [go_sem, dnW_ite, reduceIte, Nat.reduceAdd, Nat.reduceLeDiff, Nat.reduceMul, Nat.reduceEqDiff, Int.reduceLT, Int.reduceLE, Int.reduceToNat, Nat.reduceSub, Nat.reduceLT, Int.reduceEq, BitVec.reduceOfInt, BitVec.reduceOfNat, Int.reduceGT, Int.reduceGE, Int.reduceBEq, Int.reduceBNe, Nat.reduceGT, Nat.reduceBEq, Nat.reduceBNe, Int.reduceAdd, Int.reduceSub, Int.reduceNeg, show ((i : Int) < (g.cells.length : Int)) by omega, hat, hp3, hp2, ↓hc', hw1]
      refine g1 hi2 _ _ ⟨hw, rfl, fr2 _, ?_, ?_⟩
      · rw [hp2, ← e1]; exact h2
      · rw [e2]; exact hwl
  · simp -implicitDefEqProofs only [go_sem, dnW_ite, reduceIte, Nat.reduceAdd, Nat.reduceLeDiff, Nat.reduceMul, Nat.reduceEqDiff, Int.reduceLT, Int.reduceLE, Int.reduceToNat, Nat.reduceSub, Nat.reduceLT, Int.reduceEq, BitVec.reduceOfInt, BitVec.reduceOfNat, Int.reduceGT, Int.reduceGE, Int.reduceBEq, Int.reduceBNe, Nat.reduceGT, Nat.reduceBEq, Nat.reduceBNe, Int.reduceAdd, Int.reduceSub, Int.reduceNeg, show ¬ ((i : Int) < (g.cells.length : Int)) by omega]
    obtain rfl : i = g.cells.length := by omega
    exact g2 _ _ (hK _ hf h2)
theorem right_48 {g : Gm} (h : g.right = true) : g.cells.length ≤ 48 ∧ (1 ≤ g.obs ∧ g.obs ≤ 32) ∧ g.players ≤ g.obs ∧ g.dflt.toNat < g.moves.toNat ∧ g.code.length ≤ 96 := by
  have h2 := (right_players h).2.2
  have h3 : g.code.length ≤ 96 ∧ ∀ x ∈ g.code, x.right g.code.length g.cells.length g.players.toNat = true := by simpa [rightL] using h2
  simp only [Gm.right, Bool.and_eq_true, decide_eq_true_eq] at h
  exact ⟨h.1.1.2, h.1.1.1.1.1, h.1.1.1.1.2.2.2, h.1.1.1.2, h3.1⟩
/-- The first board. -/
def Gm.bd0 (g : Gm) (h : g.cells.length ≤ 48) (H : List Int) : Bd := hidB g.cells h H g.cells.length
theorem Start_ok (g : Gm) (x y : IV) (h : GR g x y) (hr : g.right = true) (hw : ∀ c ∈ g.code, c.wf) (hv : IV) (H : List Int) (hh : Ls 1 hv (H.map (IV.int .i32))) (hb : H.length ≤ 9223372036854775807) (sd : Int) :
    pc BI F_rules_Game_Start [.agg (gmc g x y), .int .u64 sd, hv] = some (.tup [.agg (stc (g.bd0 (right_48 hr).1 H) sd 0), nI 0]) := by
  refine pcE fn_rules_Game_Start rfl fun K hK => ?_
  obtain ⟨h48, _, _, _, h96⟩ := right_48 hr
  have hg := gRight_ok g x y h hw (by omega)
  rw [hr] at hg
  have hN := New_ok x g.cells h.x (by omega)
  have hz : Bd.new g.cells = hidB g.cells h48 H 0 := by
    unfold Bd.new
    rw [dif_pos h48]
    apply Bd.ext; simp [hidB, hid]
  rw [hz, if_pos h48] at hN
  unfold l_rules_Game_Start
  simp -implicitDefEqProofs only [go_sem, dnW_ite, reduceIte, Nat.reduceAdd, Nat.reduceLeDiff, Nat.reduceMul, Nat.reduceEqDiff, Int.reduceLT, Int.reduceLE, Int.reduceToNat, Nat.reduceSub, Nat.reduceLT, Int.reduceEq, BitVec.reduceOfInt, BitVec.reduceOfNat, Int.reduceGT, Int.reduceGE, Int.reduceBEq, Int.reduceBNe, Nat.reduceGT, Nat.reduceBEq, Nat.reduceBNe, Int.reduceAdd, Int.reduceSub, Int.reduceNeg, h.one, sta_z, dcp hg (by simp [ipureL, ipure, h.pure]), dcp hN (by simp [ipureL, h.x.pure]), h.x.lenF, List.length_map, dn_loop]
  refine start_loop g x y h h48 hv H hh hb _ _ _ rfl K fun J' hf h2 => ?_
  have h1 : J'[1]? = some (.cells 0 (stc Bd.z 0 0) false) := by rw [hf.2 1 (by simp) (by simp)]; rfl
  have hl := lt_get h1
  unfold l_rules_Game_Start_k1
  simp -implicitDefEqProofs only [go_sem, dnW_ite, reduceIte, Nat.reduceAdd, Nat.reduceLeDiff, Nat.reduceMul, Nat.reduceEqDiff, Int.reduceLT, Int.reduceLE, Int.reduceToNat, Nat.reduceSub, Nat.reduceLT, Int.reduceEq, BitVec.reduceOfInt, BitVec.reduceOfNat, Int.reduceGT, Int.reduceGE, Int.reduceBEq, Int.reduceBNe, Nat.reduceGT, Nat.reduceBEq, Nat.reduceBNe, Int.reduceAdd, Int.reduceSub, Int.reduceNeg, h1, h2, inb h1, sta_z, show isplice (isplice (stc Bd.z 0 0) 0 (bdc (hidB g.cells h48 H g.cells.length))) 97 [.int .u64 sd] = stc (g.bd0 h48 H) sd 0 from by rw [sta_sbd, sta_s97]; rfl]
  exact hK _ _ (frzE (by simp [ipure, ipureL, itup, sta_pure]) rfl)
theorem Start0_ok (g : Gm) (x y : IV) (h : GR g x y) (hr : g.right = false) (hw : ∀ c ∈ g.code, c.wf) (hb : g.code.length ≤ 9223372036854775807) (hv : IV) (sd : Int) :
    pc BI F_rules_Game_Start [.agg (gmc g x y), .int .u64 sd, hv] = some (.tup [.agg (stc Bd.z 0 0), nI 2]) := by
  refine pcE fn_rules_Game_Start rfl fun K hK => ?_
  have hg := gRight_ok g x y h hw hb
  rw [hr] at hg
  unfold l_rules_Game_Start
  simp -implicitDefEqProofs only [go_sem, dnW_ite, reduceIte, Nat.reduceAdd, Nat.reduceLeDiff, Nat.reduceMul, Nat.reduceEqDiff, Int.reduceLT, Int.reduceLE, Int.reduceToNat, Nat.reduceSub, Nat.reduceLT, Int.reduceEq, BitVec.reduceOfInt, BitVec.reduceOfNat, Int.reduceGT, Int.reduceGE, Int.reduceBEq, Int.reduceBNe, Nat.reduceGT, Nat.reduceBEq, Nat.reduceBNe, Int.reduceAdd, Int.reduceSub, Int.reduceNeg, h.one, sta_z, dcp hg (by simp [ipureL, ipure, h.pure])]
  exact hK _ _ (frzE (by simp [ipure, ipureL, itup, sta_pure]) rfl)
end Go.Proofs.Ytcdlipdeemlibaa.G
namespace Go.Proofs.Ytcdlipdeemlibaa.G
open Go
set_option linter.unusedSimpArgs false
set_option linter.unusedVariables false
set_option maxRecDepth 20000
set_option maxHeartbeats 2000000
end Go.Proofs.Ytcdlipdeemlibaa.G
namespace Go.Proofs.Ytcdlipdeemlibaa.G
open Go
set_option linter.unusedSimpArgs false
set_option linter.unusedVariables false
attribute [go_sem] Nat.add_lt_add_iff_left Nat.add_left_cancel_iff Nat.lt_add_right_iff_pos Array.getElem?_push Array.getElem?_setIfInBounds
theorem gsE {J : JH} {b d : Nat} {X : IB} (e : b = d) (h : b < J.size) : (J.setIfInBounds b X)[d]? = some X := by subst e; exact set_get J h
theorem gsN {J : JH} {b d : Nat} {X : IB} {r : Option IB} (h : b ≠ d) (k : J[d]? = r) : (J.setIfInBounds b X)[d]? = r := by rw [Array.getElem?_setIfInBounds, if_neg h]; exact k
theorem gpN {J : JH} {d : Nat} {X : IB} {r : Option IB} (h : d < J.size) (k : J[d]? = r) : (J.push X)[d]? = r := by rw [Array.getElem?_push, if_neg (by omega)]; exact k
theorem gpE {J : JH} {d : Nat} {X : IB} (h : d = J.size) : (J.push X)[d]? = some X := by subst h; exact push_get J X
theorem Fr.psh {J J1 : JH} {S : List Nat} (h : Fr J J1 S) {X : IB} : Fr J (J1.push X) S := h.trans (Fr.push _ _ S) (fun _ _ h => h)
theorem Fr.stn {J J1 : JH} {S : List Nat} (h : Fr J J1 S) {b : Nat} {X : IB} (hb : J.size ≤ b) : Fr J (J1.setIfInBounds b X) S := ⟨by rw [Array.size_setIfInBounds]; exact h.1, fun d hd hn => by rw [Array.getElem?_setIfInBounds, if_neg (by omega)]; exact h.2 d hd hn⟩
theorem Fr.sts {J J1 : JH} {S : List Nat} (h : Fr J J1 S) {b : Nat} {X : IB} (hb : b ∈ S) : Fr J (J1.setIfInBounds b X) S := h.trans (Fr.set _ _ hb) (fun _ _ h => h)
/-- A list that may be written: its block holds just it. -/
def RawX (J : JH) (s : IV) (sz : Nat) (X : List (List IV)) : Prop := ∃ b v c, s = .sl b v 0 X.length c sz ∧ J[b]? = some (.cells v X.flatten false)
theorem RawX.fr {J J' : JH} {s : IV} {sz : Nat} {X : List (List IV)} {S : List Nat} (h : RawX J s sz X) (hf : Fr J J' S) (hs : ∀ d ∈ blk s, d ∉ S) : RawX J' s sz X := by
  obtain ⟨b, v, c, rfl, hb⟩ := h
  exact ⟨b, v, c, rfl, by rw [hf.2 b (lt_get hb) (hs b (by simp [blk, blkOf]))]; exact hb⟩
theorem RawX.low {J : JH} {s : IV} {sz : Nat} {X : List (List IV)} (h : RawX J s sz X) : ∀ d ∈ blk s, d < J.size := by
  obtain ⟨b, v, c, rfl, hb⟩ := h
  intro d hd; simp [blk, blkOf] at hd; subst hd; exact lt_get hb
theorem RawX.lenF {J : JH} {s : IV} {sz : Nat} {X : List (List IV)} (h : RawX J s sz X) (J2 : JH) : Go.Proofs.Ytcdlipdeemlibaa.G.lenF false s J2 = some (nI X.length, J2) := by
  obtain ⟨b, v, c, rfl, hb⟩ := h; rfl
theorem RawX.rd {J : JH} {b v c sz : Nat} {X : List (List IV)} (hb : J[b]? = some (.cells v X.flatten false)) (hX : ∀ x ∈ X, x.length = sz) : ird J b v 0 (X.length * sz) = some X.flatten := by
  have hl := flat_len hX
  simp only [ird, hb, true_and, Nat.zero_add, List.drop_zero]
  rw [if_pos (by omega), List.take_of_length_le (by omega)]
theorem RawX.frz {J : JH} {s : IV} {sz : Nat} {X : List (List IV)} (h : RawX J s sz X) (hsz : 0 < sz) (hX : ∀ x ∈ X, x.length = sz) (hp : ipureL X.flatten = true) (ho : X.flatten.all ione = true) : ∃ u, (∀ k, Go.Proofs.Ytcdlipdeemlibaa.G.frz J (k + 1) s = some u) ∧ Ls sz u (X.map (mkE sz)) := by
  obtain ⟨b, v, c, rfl, hb⟩ := h
  refine ⟨_, fun k => frz_sl hsz (RawX.rd (c := c) hb hX) hp ho, ?_⟩
  rw [grp_flat hX]; exact .lst
theorem RawX.shows {J : JH} {s : IV} {sz : Nat} {X : List (List IV)} (h : RawX J s sz X) (hX : ∀ x ∈ X, x.length = sz) (hp : ipureL X.flatten = true) : ∀ d ∈ Go.Proofs.Ytcdlipdeemlibaa.G.shows J DEP s, d ∈ blk s := by
  obtain ⟨b, v, c, rfl, hb⟩ := h
  intro d hd
  rw [frz12, shows_sl (RawX.rd (c := c) hb hX) hp] at hd
  exact hd
/-- Arguments, frozen: those that may be written show blocks of S alone. -/
inductive FA (J : JH) (S : List Nat) : List IV → List IV → Prop where
  | nil : FA J S [] []
  | pure {v : IV} {vs us : List IV} : ipure v = true → FA J S vs us → FA J S (v :: vs) (v :: us)
  | raw {v u : IV} {vs us : List IV} : frz J DEP v = some u → (∀ d ∈ shows J DEP v, d ∈ S) → FA J S vs us → FA J S (v :: vs) (u :: us)
theorem FA.mapM {J : JH} {S : List Nat} {vs us : List IV} (h : FA J S vs us) : vs.mapM (frz J DEP) = some us := by
  induction h with
  | nil => rfl
  | pure hv _ ih => rw [List.mapM_cons, frz_pure J _ hv, ih]; rfl
  | raw hv _ _ ih => rw [List.mapM_cons, hv, ih]; rfl
theorem FA.shown {J : JH} {S : List Nat} {vs us : List IV} (h : FA J S vs us) : ∀ d ∈ vs.flatMap (shows J DEP), d ∈ S := by
  induction h with
  | nil => simp
  | pure hv _ ih => rw [List.flatMap_cons, shows_pure J _ hv]; exact ih
  | raw _ hs _ ih =>
    intro d hd
    rw [List.flatMap_cons] at hd
    rcases List.mem_append.1 hd with hd | hd
    · exact hs d hd
    · exact ih d hd
/-- All cells are as they were (what was shown may not be written any more). -/
def KeepC (J J' : JH) : Prop := ∀ (d w : Nat) (cs : List IV) (f : Bool), J[d]? = some (IB.cells w cs f) → ∃ f', J'[d]? = some (IB.cells w cs f')
theorem KeepC.refl (J : JH) : KeepC J J := fun d w cs f h => ⟨f, h⟩
theorem KeepC.mark (J : JH) (l : List Nat) : KeepC J (markA J l) := fun d w cs f h => by
  rw [markA_get]
  by_cases hm : d ∈ l
  · rw [if_pos hm, h]; exact ⟨true, rfl⟩
  · rw [if_neg hm, h]; exact ⟨f, rfl⟩
theorem KeepC.rd {J J' : JH} (h : KeepC J J') {b v off n : Nat} {cs : List IV} (hr : ird J b v off n = some cs) : ird J' b v off n = some cs := by
  unfold ird at hr ⊢
  cases hb : J[b]? with
  | none => rw [hb] at hr; simp at hr
  | some X =>
    rw [hb] at hr
    cases X with
    | cells w c f =>
      obtain ⟨f', hf⟩ := h b w c f hb
      rw [hf]; exact hr
    | map _ _ => simp at hr
theorem KeepC.cells {J J' : JH} (h : KeepC J J') {sz : Nat} {x : IV} {cs : List IV} (hr : iscells J sz x = some cs) : iscells J' sz x = some cs := by
  unfold iscells at hr ⊢
  split at hr
  · exact hr
  · exact h.rd hr
  · exact hr
  · cases hr
theorem WP_callK {f : FuncId} {args as : List IV} {u : IV} {J : JH} {k : L} {ρ : List IV} {P} {S : List Nat} (ha : FA J S args as) (hp : pc BI f as = some u) (hk : ∀ J', Fr J J' S → J'.size = J.size → KeepC J J' → WP (dn BI k (ρ ++ [u]) J') P) : WP (thenD (doCall (ic BI) .pure f args J) k ρ) P := by
  rw [dcf ha.mapM hp]
  by_cases h : iscal u = true
  · rw [if_pos h]; exact hk J (.refl _ _) rfl (.refl _)
  · rw [if_neg h]; exact hk _ (.mark _ _ _ ha.shown) (markA_size _ _) (.mark _ _)
/-- Numbers of a kind, one by one. -/
def ones (κ : IntKind) (l : List Int) : List (List IV) := l.map fun v => [IV.int κ v]
end Go.Proofs.Ytcdlipdeemlibaa.G
namespace Go.Proofs.Ytcdlipdeemlibaa.G
open Go
set_option linter.unusedSimpArgs false
set_option linter.unusedVariables false
set_option maxRecDepth 20000
set_option maxHeartbeats 2000000
/-- The moves that one thinks of. -/
def Gm.preM (g : Gm) (o : Int) (m : BitVec 32) : List (BitVec 32) := if 0 ≤ o then (List.replicate g.players.toNat g.dflt).set o.toNat m else List.replicate g.players.toNat g.dflt
theorem m32_pure (l : List (BitVec 32)) : ipureL (l.map m32) = true := ipureL_iff.2 fun x hx => by
  obtain ⟨v, _, rfl⟩ := List.mem_map.1 hx; rfl
theorem m32_ione (l : List (BitVec 32)) : (l.map m32).all ione = true := by simp [ione, one]
/-- What is predicted. -/
def Gm.pre (g : Gm) (b : Bd) (d t : Int) (o : Int) (m : BitVec 32) (q : IV) : Rs := runF (g.env (g.preM o m) t q) g.code b d
end Go.Proofs.Ytcdlipdeemlibaa.G
namespace Go.Proofs.Ytcdlipdeemlibaa.G
open Go
set_option linter.unusedSimpArgs false
set_option linter.unusedVariables false
end Go.Proofs.Ytcdlipdeemlibaa.G
namespace Go.Proofs.Ytcdlipdeemlibaa.G
open Go
set_option linter.unusedSimpArgs false
set_option linter.unusedVariables false
set_option maxRecDepth 20000
theorem fits8 {n : Nat} (h : n ≤ 1000000) : fits n 8 = true := by
  simp only [fits, Bool.and_eq_true, decide_eq_true_eq]; omega
theorem fits12 {n : Nat} (h : n ≤ 1000000) : fits n 12 = true := by
  simp only [fits, Bool.and_eq_true, decide_eq_true_eq]; omega
theorem cl2 (l : List Cl) : ∀ x ∈ l.map Cl.c, x.length = 2 := by
  intro e he
  obtain ⟨y, _, rfl⟩ := List.mem_map.1 he
  rfl
theorem cl_pure (l : List Cl) : ipureL (l.map Cl.c).flatten = true := ipureL_iff.2 fun x hx => by
  obtain ⟨e, he, hx⟩ := List.mem_flatten.1 hx
  obtain ⟨y, _, rfl⟩ := List.mem_map.1 he
  simp [Cl.c] at hx
  rcases hx with rfl | rfl <;> rfl
theorem cl_mk (l : List Cl) : (l.map Cl.c).map (mkE 2) = l.map Cl.e := by rw [List.map_map]; rfl
def i1 (l : List Int) : List (List IV) := l.map fun v => [IV.int .i32 v]
theorem cd6 (l : List Cd) : ∀ x ∈ l.map Cd.cs, x.length = 6 := by
  intro e he
  obtain ⟨y, _, rfl⟩ := List.mem_map.1 he
  rfl
theorem cd_pure (l : List Cd) : ipureL (l.map Cd.cs).flatten = true := ipureL_iff.2 fun x hx => by
  obtain ⟨e, he, hx⟩ := List.mem_flatten.1 hx
  obtain ⟨y, _, rfl⟩ := List.mem_map.1 he
  simp [Cd.cs] at hx
  rcases hx with rfl | rfl | rfl | rfl | rfl | rfl <;> rfl
theorem cd_one (l : List Cd) : (l.map Cd.cs).flatten.all ione = true := by
  rw [List.all_eq_true]
  intro x hx
  obtain ⟨e, he, hx⟩ := List.mem_flatten.1 hx
  obtain ⟨y, _, rfl⟩ := List.mem_map.1 he
  simp [Cd.cs] at hx
  rcases hx with rfl | rfl | rfl | rfl | rfl | rfl <;> rfl
theorem cd_mk (l : List Cd) : (l.map Cd.cs).map (mkE 6) = l.map Cd.e := by rw [List.map_map]; rfl
end Go.Proofs.Ytcdlipdeemlibaa.G
namespace Go.Proofs.Ytcdlipdeemlibaa.G
open Go
set_option linter.unusedSimpArgs false
set_option linter.unusedVariables false
set_option maxRecDepth 20000
set_option maxHeartbeats 2000000
theorem evI_str {ρ : List IV} {s : ByteArray} : evI ρ (.const (.string s)) = .sc (.string s) := rfl
attribute [go_sem] evI_str
end Go.Proofs.Ytcdlipdeemlibaa.G
namespace Go.Proofs.Ytcdlipdeemlibaa.G
open Go
set_option linter.unusedSimpArgs false
set_option linter.unusedVariables false
set_option maxRecDepth 20000
end Go.Proofs.Ytcdlipdeemlibaa.G
namespace Go.Proofs.Ytcdlipdeemlibaa.G
open Go
set_option linter.unusedSimpArgs false
set_option linter.unusedVariables false
set_option maxRecDepth 20000
set_option maxHeartbeats 1000000
end Go.Proofs.Ytcdlipdeemlibaa.G
namespace Go.Proofs.Ytcdlipdeemlibaa.G
open Go
set_option linter.unusedSimpArgs false
set_option linter.unusedVariables false
set_option maxRecDepth 20000
set_option maxHeartbeats 1000000
theorem bit_get {i : Int} (h0 : 0 ≤ i) (h : i < 64) (j : Nat) : (bit i).getLsbD j = decide (j = i.toNat) := by
  unfold bit
  rw [BitVec.getLsbD_shiftLeft]
  by_cases e : j = i.toNat
  · subst e
    simp; omega
  · by_cases hlt : j < i.toNat
    · simp [hlt, e]
    · have : j - i.toNat ≠ 0 := by omega
      simp [e, BitVec.getLsbD_one, this]
theorem within_self (m : BitVec 32) : within m m = true := by
  unfold within
  rw [beq_iff_eq]
  apply BitVec.eq_of_getLsbD_eq
  intro i hi
  simp
theorem within_or (m n : BitVec 32) : within m (m ||| n) = true := by
  unfold within
  rw [beq_iff_eq]
  apply BitVec.eq_of_getLsbD_eq
  intro i hi
  simp only [BitVec.getLsbD_and, BitVec.getLsbD_not, BitVec.getLsbD_or, BitVec.getLsbD_zero]
  cases m.getLsbD i <;> simp
theorem within_iff {m n : BitVec 32} : within m n = true ↔ ∀ i, m.getLsbD i = true → n.getLsbD i = true := by
  unfold within
  rw [beq_iff_eq]
  constructor
  · intro h i hi
    have := congrArg (fun z => BitVec.getLsbD z i) h
    simp only [BitVec.getLsbD_and, BitVec.getLsbD_not, BitVec.getLsbD_zero, hi, Bool.true_and] at this
    have hlt : i < 32 := BitVec.lt_of_getLsbD hi
    simpa [hlt] using this
  · intro h
    apply BitVec.eq_of_getLsbD_eq
    intro i hi
    simp only [BitVec.getLsbD_and, BitVec.getLsbD_not, BitVec.getLsbD_zero]
    cases hm : m.getLsbD i with
    | false => simp
    | true => simp [h i hm]
theorem within_trans {a b c : BitVec 32} (h : within a b = true) (k : within b c = true) : within a c = true := by
  rw [within_iff] at *
  exact fun i hi => k i (h i hi)
structure KP (b : Bd) (ns : Bool) (m : Mc) : Prop where
  len : m.bd.l.length = b.l.length
  kept : ∀ i, m.touched.getLsbD i = false → m.bd.l[i]? = b.l[i]?
  high : ∀ i, b.l.length ≤ i → m.touched.getLsbD i = false
  lab : ns = true → ∀ (i : Nat) (c : Cl), b.l[i]? = some c → ∃ c' : Cl, m.bd.l[i]? = some c' ∧ c'.v = c.v ∧ within c.s c'.s = true
variable {b : Bd} {ns : Bool} {m : Mc} {E : Me}
theorem KP.set (h : KP b ns m) {i : Int} (hi : m.bd.there i = true) (c : Cl) (bd : Bd) (hb : bd.l = m.bd.l.set i.toNat c) (hc : ns = true → c.v = (m.bd.at i).v ∧ within (m.bd.at i).s c.s = true) : KP b ns { m with bd := bd, touched := m.touched ||| bit i } := by
  have hbl := b.h
  have hlen := h.len
  obtain ⟨h0, h1⟩ : 0 ≤ i ∧ i < (m.bd.l.length : Int) := by simpa [Bd.there] using hi
  refine ⟨by rw [hb, List.length_set]; exact h.len, fun j hj => ?_, fun j hj => ?_, fun hn j d hd => ?_⟩
  · simp only [BitVec.getLsbD_or, bit_get h0 (by omega), Bool.or_eq_false_iff, decide_eq_false_iff_not] at hj
    rw [hb, List.getElem?_set_ne (fun e => hj.2 e.symm)]
    exact h.kept j hj.1
  · simp only [BitVec.getLsbD_or, bit_get h0 (by omega), Bool.or_eq_false_iff, decide_eq_false_iff_not]
    exact ⟨h.high j hj, by omega⟩
  · obtain ⟨c', k1, k2, k3⟩ := h.lab hn j d hd
    rw [hb]
    by_cases e : i.toNat = j
    · subst e
      have hlt : i.toNat < m.bd.l.length := by omega
      refine ⟨c, by simp [hlt], ?_⟩
      obtain ⟨c1, c2⟩ := hc hn
      have ea : m.bd.at i = c' := by simp [Bd.at, List.getD_eq_getElem?_getD, k1]
      rw [ea] at c1 c2
      exact ⟨c1.trans k2, within_trans k3 c2⟩
    · rw [List.getElem?_set_ne e]
      exact ⟨c', k1, k2, k3⟩
theorem KP.same (h : KP b ns m) {m' : Mc} (h1 : m'.bd = m.bd) (h2 : m'.touched = m.touched) : KP b ns m' := ⟨by rw [h1]; exact h.len, by rw [h1, h2]; exact h.kept, by rw [h2]; exact h.high, by rw [h1]; exact h.lab⟩
theorem KP.put (h : KP b false m) {i : Int} (hi : m.bd.there i = true) (c : Cl) : KP b false { m with bd := m.bd.put i c, touched := m.touched ||| bit i } :=
  h.set hi c _ (by rw [Bd.put, if_pos hi]; rfl) (fun e => by cases e)
theorem KP.show (h : KP b ns m) {i : Int} (hi : m.bd.there i = true) (to : BitVec 32) : KP b ns { m with bd := m.bd.show i to, touched := m.touched ||| bit i } :=
  h.set hi ⟨(m.bd.at i).v, (m.bd.at i).s ||| to⟩ _ (by rw [Bd.show, if_pos hi]; rfl) (fun _ => ⟨rfl, within_or _ _⟩)
theorem KP.fill {start : Nat} {out : List Int} : ∀ (k : Nat) (m : Mc), KP b false m → start + k ≤ m.bd.l.length → KP b false (fillN m start out k)
  | 0, m, h, _ => h
  | k + 1, m, h, hk => by
    have ih := KP.fill (start := start) (out := out) k m h (by omega)
    have hl := fillN_len m start out k
    exact ih.put (by simp only [Bd.there, hl, decide_eq_true_eq]; omega) _
def isStore (x : Cd) : Bool := x.op == 3 || x.op == 5 || x.op == 24
theorem KP.reach (h : KP b ns m) (x : Cd) {size : Nat} (hr : x.right size m.bd.l.length E.moves.length = true) (hn : ns = true → isStore x = false) : KP b ns (reachF E m x) := by
  have hf : isStore x = true → ns = false := fun e => by cases ns with | false => rfl | true => rw [hn rfl] at e; cases e
  unfold reachF
  split
  · split
    · exact h.same rfl rfl
    · exact h.same rfl rfl
  · rename_i hop
    obtain rfl := hf (by simp [isStore, hop])
    split
    · rename_i hnm
      exact h.put (named_ok hnm).1 _
    · exact h.same rfl rfl
  · unfold revealF
    split
    · exact h.same rfl rfl
    · rename_i hnm
      have := h.show (named_ok (by simpa using hnm)).1 (Sh.one m x E.all (named E m x).1)
      exact this.same rfl rfl
  · rename_i hop
    obtain rfl := hf (by simp [isStore, hop])
    simp [Cd.right, hop, useOf] at hr
    have h' : KP b false { m with dice := (shufL m.dice (x.c - 1) (rowV m x.n.toNat x.c)).2 } := h.same rfl rfl
    exact KP.fill x.c _ h' (by show x.n.toNat + x.c ≤ m.bd.l.length; omega)
  · exact h
theorem KP.follow (h : KP b ns m) (x : Cd) {size : Nat} (hr : x.right size m.bd.l.length E.moves.length = true) (hn : ns = true → isStore x = false) : KP b ns (followF E m x) := by
  have hg : KP b ns m.go := h.same rfl rfl
  have hf : isStore x = true → ns = false := fun e => by cases ns with | false => rfl | true => rw [hn rfl] at e; cases e
  unfold followF
  simp only
  split
  all_goals first
    | exact hg.same rfl rfl
    | exact hg.reach x hr hn
    | skip
  · rename_i hop
    obtain rfl := hf (by simp [isStore, hop])
    simp [Cd.right, hop, useOf, nOk] at hr
    exact hg.put (decide_eq_true hr.1.1.1.1) _
  · split
    · split
      · exact hg.same rfl rfl
      · exact hg
    · exact hg.same rfl rfl
theorem KP.loop (l : List Cd) (hr : ∀ x ∈ l, x.right l.length b.l.length E.moves.length = true) (hn : ns = true → ∀ x ∈ l, isStore x = false) : ∀ (k : Nat) (m : Mc), KP b ns m → KP b ns (loopF E l k m)
  | 0, m, h => by
    rw [loopF]; split
    · exact h.same rfl rfl
    · exact h
  | k + 1, m, h => by
    rw [loopF]
    split
    · rename_i hc
      have hm := List.getElem_mem hc.2
      have e : l.getD m.pc ⟨0, 0, 0, 0, 0, 0⟩ = l[m.pc] := by simp [hc.2]
      rw [e]
      split
      · exact h.same rfl rfl
      · have h' : KP b ns { m with used := m.used + 1 } := h.same rfl rfl
        exact KP.loop l hr hn k _ (h'.follow l[m.pc] (by show l[m.pc].right l.length m.bd.l.length _ = true; rw [h.len]; exact hr _ hm) (fun e => hn e _ hm))
    · exact h
theorem KP.start (d : Int) : KP b ns (Go.Proofs.Ytcdlipdeemlibaa.G.start E b d) := ⟨rfl, fun _ _ => rfl, fun _ _ => by simp [Go.Proofs.Ytcdlipdeemlibaa.G.start], fun _ i c h => ⟨c, h, rfl, within_self _⟩⟩
end Go.Proofs.Ytcdlipdeemlibaa.G
namespace Go.Proofs.Ytcdlipdeemlibaa.G
open Go
set_option linter.unusedSimpArgs false
set_option linter.unusedVariables false
set_option maxRecDepth 20000
set_option maxHeartbeats 2000000
theorem push_set1 {α : Type} (J : Array α) (A X Y : α) : ((J.push A).push X).setIfInBounds (J.size + 1) Y = (J.push A).push Y := by
  have := push_set (J.push A) X Y
  rwa [Array.size_push] at this
attribute [go_sem] push_set1
end Go.Proofs.Ytcdlipdeemlibaa.G
namespace Go.Proofs.Ytcdlipdeemlibaa.G
open Go
set_option linter.unusedSimpArgs false
set_option linter.unusedVariables false
set_option maxRecDepth 20000
set_option maxHeartbeats 1000000
/-- Cells that one sees alike. -/
def CE (P : BitVec 32 → Bool) (a b : Cl) : Prop := a.s = b.s ∧ (P a.s = true → a.v = b.v)
theorem CE.refl (P) (a : Cl) : CE P a a := ⟨rfl, fun _ => rfl⟩
/-- Boards that one sees alike. -/
def BE (P : BitVec 32 → Bool) (a b : Bd) : Prop := a.l.length = b.l.length ∧ ∀ i : Int, CE P (a.at i) (b.at i)
/-- Shows of like cells, to the like. -/
def SE (a b : List Sh) : Prop := a.map (fun s => (s.cell, s.to)) = b.map (fun s => (s.cell, s.to))
structure ME (P : BitVec 32 → Bool) (m n : Mc) : Prop where
  bd : BE P m.bd n.bd
  touched : m.touched = n.touched
  shows : SE m.shows n.shows
  used : m.used = n.used
  err : m.err = n.err
  r : ∀ i, i < 8 → CE P (m.r.at i) (n.r.at i)
  pc : m.pc = n.pc
/-- Who sees what: what all see one sees; of two labels' meet one sees both. -/
structure PO (P : BitVec 32 → Bool) (all : BitVec 32) : Prop where
  all : ∀ s, within all s = true → P s = true
  meet : ∀ a b, P (a &&& b) = true → P a = true ∧ P b = true
  zero : P 0#32 = false
/-- The environments of both. -/
structure EE (P : BitVec 32 → Bool) (E F : Me) : Prop where
  all : E.all = F.all
  tick : E.tick = F.tick
  moves : ∀ i : Int, P (oneM i) = true → E.moves.getD i.toNat 0 = F.moves.getD i.toNat 0
variable {P : BitVec 32 → Bool} {E F : Me} {m n : Mc}
theorem BE.there {a b : Bd} (h : BE P a b) (i : Int) : a.there i = b.there i := by simp only [Bd.there, h.1]
theorem Bd.at_set (b : Bd) {i : Nat} (hi : i < b.l.length) (c : Cl) (j : Int) : (b.set i c).at j = if j.toNat = i then c else b.at j := by
  simp only [Bd.at, Bd.set, List.getD_eq_getElem?_getD, List.getElem?_set]
  by_cases h : i = j.toNat
  · subst h; simp [hi]
  · simp [h, Ne.symm h]
theorem BE.put {a b : Bd} (h : BE P a b) (i : Int) {c d : Cl} (hc : CE P c d) : BE P (a.put i c) (b.put i d) := by
  refine ⟨by rw [put_len, put_len]; exact h.1, fun j => ?_⟩
  unfold Bd.put
  rw [h.there i]
  by_cases ht : b.there i = true
  · have h1 : i.toNat < b.l.length := by simp [Bd.there] at ht; omega
    rw [if_pos ht, if_pos ht, Bd.at_set _ (by rw [h.1]; exact h1), Bd.at_set _ h1]
    split
    · exact hc
    · exact h.2 j
  · rw [if_neg ht, if_neg ht]; exact h.2 j
theorem BE.show {a b : Bd} (h : BE P a b) (i : Int) {to : BitVec 32} (hc : P ((a.at i).s ||| to) = true → (a.at i).v = (b.at i).v) : BE P (a.show i to) (b.show i to) := by
  refine ⟨by rw [show_len, show_len]; exact h.1, fun j => ?_⟩
  unfold Bd.show
  rw [h.there i]
  by_cases ht : b.there i = true
  · have h1 : i.toNat < b.l.length := by simp [Bd.there] at ht; omega
    rw [if_pos ht, if_pos ht, Bd.at_set _ (by rw [h.1]; exact h1), Bd.at_set _ h1]
    split
    · exact ⟨by show _ ||| to = _ ||| to; rw [(h.2 i).1], hc⟩
    · exact h.2 j
  · rw [if_neg ht, if_neg ht]; exact h.2 j
theorem Rset {r q : Rg} (h : ∀ i, i < 8 → CE P (r.at i) (q.at i)) {k : Nat} (hk : k < 8) {c d : Cl} (hc : CE P c d) : ∀ i, i < 8 → CE P ((r.set k c).at i) ((q.set k d).at i) := by
  intro i hi
  rw [Rg.at_set _ _ _ hk, Rg.at_set _ _ _ hk]
  split
  · exact hc
  · exact h i hi
theorem named_eq (hP : PO P E.all) (hE : EE P E F) (h : ME P m n) (x : Cd) (hb : x.b < 8) : named E m x = named F n x := by
  have hr := h.r x.b hb
  unfold named
  rw [← hE.all, ← hr.1, ← h.bd.1]
  by_cases hw : within E.all (m.r.at x.b).s = false
  · rw [if_pos hw, if_pos hw]
  · rw [if_neg hw, if_neg hw, ← hr.2 (hP.all _ (by simpa using hw))]
theorem ME.setR (h : ME P m n) {k : Nat} (hk : k < 8) {c d : Cl} (hc : CE P c d) : ME P { m with r := m.r.set k c } { n with r := n.r.set k d } := ⟨h.bd, h.touched, h.shows, h.used, h.err, Rset h.r hk hc, h.pc⟩
theorem ME.put (h : ME P m n) (i : Int) {c d : Cl} (hc : CE P c d) : ME P { m with bd := m.bd.put i c, touched := m.touched ||| bit i } { n with bd := n.bd.put i d, touched := n.touched ||| bit i } := ⟨h.bd.put i hc, by show _ ||| _ = _ ||| _; rw [h.touched], h.shows, h.used, h.err, h.r, h.pc⟩
theorem CE.z (hz : P 0#32 = false) (a b : Int) : CE P ⟨a, 0#32⟩ ⟨b, 0#32⟩ := ⟨rfl, fun h => by rw [hz] at h; cases h⟩
theorem ME.fill (hz : P 0#32 = false) (start : Nat) (o1 o2 : List Int) : ∀ (k : Nat) (m n : Mc), ME P m n → ME P (fillN m start o1 k) (fillN n start o2 k)
  | 0, m, n, h => h
  | k + 1, m, n, h => (ME.fill hz start o1 o2 k m n h).put _ (CE.z hz _ _)
theorem ME.errs (h : ME P m n) (e : Nat) : ME P { m with err := e } { n with err := e } := ⟨h.bd, h.touched, h.shows, h.used, rfl, h.r, h.pc⟩
theorem SE.app {a b c d : List Sh} (h : SE a b) (k : SE c d) : SE (a ++ c) (b ++ d) := by
  unfold SE at *
  rw [List.map_append, List.map_append, h, k]
/-- What is shown to one is the same. -/
def Tell (P : BitVec 32 → Bool) (a b : List Sh) : Prop := ∀ (i : Nat) (s t : Sh), a[i]? = some s → b[i]? = some t → P s.to = true → s.v = t.v
/-- One sees more by a show alone. -/
def Join' (P : BitVec 32 → Bool) : Prop := ∀ s t, P (s ||| t) = true → P s = true ∨ P t = true
theorem ME.reveal (hP : PO P E.all) (hE : EE P E F) (h : ME P m n) (x : Cd) (hb : x.b < 8) (hj : Join' P) (ht : Tell P (revealF E m x).shows (revealF F n x).shows) : ME P (revealF E m x) (revealF F n x) := by
  have hn := named_eq hP hE h x hb
  unfold revealF at ht ⊢
  rw [← hn] at ht ⊢
  by_cases hk : (named E m x).2.1 = false
  · rw [if_pos hk, if_pos hk]; exact h.errs _
  · rw [if_neg hk, if_neg hk] at ht ⊢
    have hc := h.bd.2 (named E m x).1
    have ho : Sh.one n x F.all (named E m x).1 = Sh.one m x E.all (named E m x).1 := by unfold Sh.one; rw [← hE.all, ← hc.1]
    rw [ho] at ht ⊢
    have hlen : m.shows.length = n.shows.length := by have := congrArg List.length h.shows; simpa using this
    have hv : P (Sh.one m x E.all (named E m x).1) = true → (m.bd.at (named E m x).1).v = (n.bd.at (named E m x).1).v := fun hp => by
      have hz : Sh.one m x E.all (named E m x).1 ≠ 0#32 := fun e => by rw [e, hP.zero] at hp; cases hp
      simp only [if_neg hz] at ht
      have := ht m.shows.length ⟨(named E m x).1, Sh.one m x E.all (named E m x).1, (m.bd.at (named E m x).1).v⟩ ⟨(named E m x).1, Sh.one m x E.all (named E m x).1, (n.bd.at (named E m x).1).v⟩ (by simp) (by rw [hlen]; simp) hp
      exact this
    refine ⟨h.bd.show _ fun hp => ?_, by show _ ||| _ = _ ||| _; rw [h.touched], SE.app h.shows ?_, h.used, rfl, h.r, h.pc⟩
    · rcases hj _ _ hp with hp | hp
      · exact hc.2 hp
      · exact hv hp
    · by_cases hz : Sh.one m x E.all (named E m x).1 = 0#32
      · rw [if_pos hz, if_pos hz]; rfl
      · rw [if_neg hz, if_neg hz]; rfl
theorem ME.reach (hP : PO P E.all) (hE : EE P E F) (h : ME P m n) (x : Cd) (ha : x.a < 8) (hb : x.b < 8) (hj : x.op = 22 → Join' P) (ht : Tell P (reachF E m x).shows (reachF F n x).shows) : ME P (reachF E m x) (reachF F n x) := by
  have hn := named_eq hP hE h x hb
  unfold reachF at ht ⊢
  split
  · rw [← hn]
    split
    · exact h.setR ha (h.bd.2 _)
    · exact h.errs _
  · rw [← hn]
    split
    · exact h.put _ (h.r _ ha)
    · exact h.errs _
  · rename_i hop
    simp only [hop] at ht
    exact ME.reveal hP hE h x hb (hj hop) ht
  · have hd : ME P { m with dice := (shufL m.dice (x.c - 1) (rowV m x.n.toNat x.c)).2 } { n with dice := (shufL n.dice (x.c - 1) (rowV n x.n.toNat x.c)).2 } := ⟨h.bd, h.touched, h.shows, h.used, h.err, h.r, h.pc⟩
    exact ME.fill hP.zero _ _ _ _ _ _ hd
  · exact h
theorem CE.meet (hP : PO P E.all) {a b c d : Cl} (h : CE P a b) (k : CE P c d) (f : Int → Int → Int) : CE P ⟨f a.v c.v, a.s &&& c.s⟩ ⟨f b.v d.v, b.s &&& d.s⟩ := by
  refine ⟨by show a.s &&& c.s = b.s &&& d.s; rw [h.1, k.1], fun hp => ?_⟩
  obtain ⟨h1, h2⟩ := hP.meet _ _ hp
  show f a.v c.v = f b.v d.v
  rw [h.2 h1, k.2 h2]
theorem ME.follow (hP : PO P E.all) (hE : EE P E F) (h : ME P m n) (x : Cd) (ha : x.a < 8) (hb : x.b < 8) (hj : x.op = 22 → Join' P) (ht : Tell P (followF E m x).shows (followF F n x).shows) : ME P (followF E m x) (followF F n x) := by
  have hg : ME P m.go n.go := ⟨h.bd, h.touched, h.shows, h.used, h.err, h.r, by show m.pc + 1 = n.pc + 1; rw [h.pc]⟩
  have hc8 : x.c % 8 < 8 := by omega
  unfold followF at ht ⊢
  simp only at ht ⊢
  split
  · exact hg.setR ha (by rw [hE.all]; exact CE.refl _ _)
  · exact hg.setR ha (hg.bd.2 _)
  · exact hg.put _ (hg.r _ ha)
  · refine hg.setR ha ⟨?_, fun hp => ?_⟩
    · show _ &&& _ &&& _ = _ &&& _ &&& _
      rw [(hg.r _ ha).1, (hg.r _ hb).1, (hg.r _ hc8).1]
    · obtain ⟨h1, h2⟩ := hP.meet _ _ hp
      obtain ⟨h3, h4⟩ := hP.meet _ _ h1
      show (if _ then _ else _) = (if _ then _ else _)
      rw [(hg.r _ ha).2 h3, (hg.r _ hb).2 h4, (hg.r _ hc8).2 h2]
  · rw [← hE.all, ← (hg.r _ ha).1]
    by_cases hw : within E.all (m.go.r.at x.a).s = true
    · rw [if_pos hw, if_pos hw, ← (hg.r _ ha).2 (hP.all _ hw)]
      split
      · exact ⟨hg.bd, hg.touched, hg.shows, hg.used, hg.err, hg.r, rfl⟩
      · exact hg
    · rw [if_neg hw, if_neg hw]; exact hg.errs _
  · exact ⟨hg.bd, hg.touched, hg.shows, hg.used, hg.err, hg.r, rfl⟩
  · exact hg.setR ha ⟨rfl, fun hp => hE.moves _ hp⟩
  · have := hg.setR ha (CE.z hP.zero (below m.go.dice x.n) (below n.go.dice x.n))
    exact ⟨this.bd, this.touched, this.shows, this.used, this.err, this.r, this.pc⟩
  · exact hg.setR ha (by rw [hE.all, hE.tick]; exact CE.refl _ _)
  · rename_i hop; simp only [hop] at ht; exact ME.reach hP hE hg x ha hb hj ht
  · rename_i hop; simp only [hop] at ht; exact ME.reach hP hE hg x ha hb hj ht
  · rename_i hop; simp only [hop] at ht; exact ME.reach hP hE hg x ha hb hj ht
  · rename_i hop; simp only [hop] at ht; exact ME.reach hP hE hg x ha hb hj ht
  · exact hg.setR ha (CE.meet hP (hg.r _ hb) (hg.r _ hc8) _)
end Go.Proofs.Ytcdlipdeemlibaa.G
namespace Go.Proofs.Ytcdlipdeemlibaa.G
open Go
set_option linter.unusedSimpArgs false
set_option linter.unusedVariables false
set_option maxRecDepth 20000
set_option maxHeartbeats 1000000
variable {P : BitVec 32 → Bool} {E F : Me} {m n : Mc}
theorem Tell.pre {P : BitVec 32 → Bool} {a b c d : List Sh} (h : Tell P (a ++ c) (b ++ d)) : Tell P a b := by
  intro i s t h1 h2 h3
  refine h i s t ?_ ?_ h3
  · rw [List.getElem?_append_left (by have := List.getElem?_eq_some_iff.1 h1; exact this.1)]; exact h1
  · rw [List.getElem?_append_left (by have := List.getElem?_eq_some_iff.1 h2; exact this.1)]; exact h2
theorem reachF_shows (E : Me) (m : Mc) (x : Cd) : ∃ c, (reachF E m x).shows = m.shows ++ c := by
  unfold reachF
  split
  · split
    · exact ⟨[], (List.append_nil _).symm⟩
    · exact ⟨[], (List.append_nil _).symm⟩
  · split
    · exact ⟨[], (List.append_nil _).symm⟩
    · exact ⟨[], (List.append_nil _).symm⟩
  · unfold revealF; split
    · exact ⟨[], (List.append_nil _).symm⟩
    · exact ⟨_, rfl⟩
  · have := fillN_same x.n.toNat (shufL m.dice (x.c - 1) (rowV m x.n.toNat x.c)).1 x.c { m with dice := (shufL m.dice (x.c - 1) (rowV m x.n.toNat x.c)).2 }
    refine ⟨[], ?_⟩
    rw [List.append_nil, shuffleF]
    simp_all
  · exact ⟨[], (List.append_nil _).symm⟩
theorem followF_shows (E : Me) (m : Mc) (x : Cd) : ∃ c, (followF E m x).shows = m.shows ++ c := by
  unfold followF
  simp only
  split <;> first | exact ⟨[], (List.append_nil _).symm⟩ | exact reachF_shows E m.go x | skip
  split
  · split <;> exact ⟨[], (List.append_nil _).symm⟩
  · exact ⟨[], (List.append_nil _).symm⟩
theorem loopF_shows (E : Me) (l : List Cd) : ∀ (k : Nat) (m : Mc), ∃ c, (loopF E l k m).shows = m.shows ++ c
  | 0, m => by
    rw [loopF]; split
    · exact ⟨[], (List.append_nil _).symm⟩
    · exact ⟨[], (List.append_nil _).symm⟩
  | k + 1, m => by
    rw [loopF]
    split
    · split
      · exact ⟨[], (List.append_nil _).symm⟩
      · obtain ⟨c, hc⟩ := loopF_shows E l k (followF E { m with used := m.used + 1 } (l.getD m.pc ⟨0, 0, 0, 0, 0, 0⟩))
        obtain ⟨d, hd⟩ := followF_shows E { m with used := m.used + 1 } (l.getD m.pc ⟨0, 0, 0, 0, 0, 0⟩)
        refine ⟨d ++ c, ?_⟩
        rw [hc, hd, List.append_assoc]
    · exact ⟨[], (List.append_nil _).symm⟩
theorem ME.loop (hP : PO P E.all) (hE : EE P E F) (l : List Cd) (ha : ∀ x ∈ l, x.a < 8 ∧ x.b < 8) (hj : (∃ x ∈ l, x.op = 22) → Join' P) : ∀ (k : Nat) (m n : Mc), ME P m n → Tell P (loopF E l k m).shows (loopF F l k n).shows → ME P (loopF E l k m) (loopF F l k n)
  | 0, m, n, h, ht => by
    have hc2 : (n.err = 0 ∧ n.pc < l.length) ↔ (m.err = 0 ∧ m.pc < l.length) := by rw [h.err, h.pc]
    rw [loopF, loopF]
    by_cases hc : m.err = 0 ∧ m.pc < l.length
    · rw [if_pos hc, if_pos (hc2.2 hc)]; exact h.errs _
    · rw [if_neg hc, if_neg (fun q => hc (hc2.1 q))]; exact h
  | k + 1, m, n, h, ht => by
    have hc2 : (n.err = 0 ∧ n.pc < l.length) ↔ (m.err = 0 ∧ m.pc < l.length) := by rw [h.err, h.pc]
    rw [loopF, loopF] at ht ⊢
    by_cases hc : m.err = 0 ∧ m.pc < l.length
    · rw [if_pos hc, if_pos (hc2.2 hc)] at ht ⊢
      have hm := List.getElem_mem hc.2
      have hx : l.getD m.pc ⟨0, 0, 0, 0, 0, 0⟩ = l[m.pc] := by simp [hc.2]
      have hy : l.getD n.pc ⟨0, 0, 0, 0, 0, 0⟩ = l[m.pc] := by rw [← h.pc, hx]
      rw [hx, hy] at ht ⊢
      have hu : ME P { m with used := m.used + 1 } { n with used := n.used + 1 } := ⟨h.bd, h.touched, h.shows, by show m.used + 1 = n.used + 1; rw [h.used], h.err, h.r, h.pc⟩
      by_cases h0 : l[m.pc].op = 0
      · rw [if_pos h0, if_pos h0]; exact hu
      · rw [if_neg h0, if_neg h0] at ht ⊢
        have ht' := ht
        obtain ⟨c, hc1⟩ := loopF_shows E l k (followF E { m with used := m.used + 1 } l[m.pc])
        obtain ⟨d, hd1⟩ := loopF_shows F l k (followF F { n with used := n.used + 1 } l[m.pc])
        rw [hc1, hd1] at ht'
        exact ME.loop hP hE l ha hj k _ _ (hu.follow hP hE l[m.pc] (ha _ hm).1 (ha _ hm).2 (fun e => hj ⟨_, hm, e⟩) ht'.pre) ht
    · rw [if_neg hc, if_neg (fun q => hc (hc2.1 q))]; exact h
theorem ME.start (hE : EE P E F) {b c : Bd} (h : BE P b c) (d e : Int) : ME P (Go.Proofs.Ytcdlipdeemlibaa.G.start E b d) (Go.Proofs.Ytcdlipdeemlibaa.G.start F c e) :=
  ⟨h, rfl, rfl, rfl, rfl, fun i _ => by show CE P ((regs0 E.all).at i) ((regs0 F.all).at i); rw [hE.all]; exact CE.refl _ _, rfl⟩
/-- Two runs. -/
structure RE (P : BitVec 32 → Bool) (r s : Rs) : Prop where
  bd : BE P r.bd s.bd
  touched : r.touched = s.touched
  shows : SE r.shows s.shows
  used : r.used = s.used
  err : r.err = s.err
theorem RE.run (hP : PO P E.all) (hE : EE P E F) (hl : E.moves.length = F.moves.length) (l : List Cd) (hj : (∃ x ∈ l, x.op = 22) → Join' P) {b c : Bd} (h : BE P b c) (d e : Int) (ht : Tell P (runF E l b d).shows (runF F l c e).shows) : RE P (runF E l b d) (runF F l c e) := by
  unfold runF at ht ⊢
  rw [← hl, ← h.1] at ht ⊢
  by_cases hR : rightL l b.l.length E.moves.length = false
  · rw [if_pos hR, if_pos hR]; exact ⟨h, rfl, rfl, rfl, rfl⟩
  · rw [if_neg hR, if_neg hR] at ht ⊢
    have hall : ∀ x ∈ l, x.a < 8 ∧ x.b < 8 := fun x hx => by
      have h2 : l.length ≤ 96 ∧ ∀ x ∈ l, x.right l.length b.l.length E.moves.length = true := by simpa [rightL] using hR
      exact (right_ab (h2.2 x hx)).2
    have hk := fun g => ME.loop hP hE l hall hj 400 _ _ (ME.start hE h d e) g
    have he : (loopF E l 400 (Go.Proofs.Ytcdlipdeemlibaa.G.start E b d)).shows = (if (loopF E l 400 (Go.Proofs.Ytcdlipdeemlibaa.G.start E b d)).err ≠ 0 then (⟨b, d, 0#64, (loopF E l 400 (Go.Proofs.Ytcdlipdeemlibaa.G.start E b d)).shows, (loopF E l 400 (Go.Proofs.Ytcdlipdeemlibaa.G.start E b d)).used, (loopF E l 400 (Go.Proofs.Ytcdlipdeemlibaa.G.start E b d)).err⟩ : Rs) else ⟨(loopF E l 400 (Go.Proofs.Ytcdlipdeemlibaa.G.start E b d)).bd, (loopF E l 400 (Go.Proofs.Ytcdlipdeemlibaa.G.start E b d)).dice, (loopF E l 400 (Go.Proofs.Ytcdlipdeemlibaa.G.start E b d)).touched, (loopF E l 400 (Go.Proofs.Ytcdlipdeemlibaa.G.start E b d)).shows, (loopF E l 400 (Go.Proofs.Ytcdlipdeemlibaa.G.start E b d)).used, 0⟩).shows := by split <;> rfl
    have hf : (loopF F l 400 (Go.Proofs.Ytcdlipdeemlibaa.G.start F c e)).shows = (if (loopF F l 400 (Go.Proofs.Ytcdlipdeemlibaa.G.start F c e)).err ≠ 0 then (⟨c, e, 0#64, (loopF F l 400 (Go.Proofs.Ytcdlipdeemlibaa.G.start F c e)).shows, (loopF F l 400 (Go.Proofs.Ytcdlipdeemlibaa.G.start F c e)).used, (loopF F l 400 (Go.Proofs.Ytcdlipdeemlibaa.G.start F c e)).err⟩ : Rs) else ⟨(loopF F l 400 (Go.Proofs.Ytcdlipdeemlibaa.G.start F c e)).bd, (loopF F l 400 (Go.Proofs.Ytcdlipdeemlibaa.G.start F c e)).dice, (loopF F l 400 (Go.Proofs.Ytcdlipdeemlibaa.G.start F c e)).touched, (loopF F l 400 (Go.Proofs.Ytcdlipdeemlibaa.G.start F c e)).shows, (loopF F l 400 (Go.Proofs.Ytcdlipdeemlibaa.G.start F c e)).used, 0⟩).shows := by split <;> rfl
    rw [← he, ← hf] at ht
    have hM := hk ht
    rw [← hM.err]
    split
    · exact ⟨h, rfl, hM.shows, hM.used, rfl⟩
    · exact ⟨hM.bd, hM.touched, hM.shows, hM.used, rfl⟩
end Go.Proofs.Ytcdlipdeemlibaa.G
namespace Go.Proofs.Ytcdlipdeemlibaa.G
open Go
set_option linter.unusedSimpArgs false
set_option linter.unusedVariables false
set_option maxRecDepth 20000
set_option maxHeartbeats 1000000
variable {b : Bd} {ns : Bool} {m : Mc} {E : Me}
/-- A show of cells of a board b, that now are those of m. -/
structure SOk (b : Bd) (ns : Bool) (all : BitVec 32) (m : Bd) (s : Sh) : Prop where
  there : b.there s.cell = true
  to0 : s.to ≠ 0#32
  all : within s.to all = true
  was : ns = true → s.to &&& (b.at s.cell).s = 0#32 ∧ s.v = (b.at s.cell).v ∧ within s.to (m.at s.cell).s = true
/-- Labels grow. -/
def LG (m n : Bd) : Prop := ∀ i : Int, within (m.at i).s (n.at i).s = true
theorem LG.refl (m : Bd) : LG m m := fun i => within_self _
theorem SOk.grow {all : BitVec 32} {m n : Bd} {s : Sh} (h : SOk b ns all m s) (hg : ns = true → LG m n) : SOk b ns all n s :=
  ⟨h.there, h.to0, h.all, fun e => ⟨(h.was e).1, (h.was e).2.1, within_trans (h.was e).2.2 (hg e _)⟩⟩
theorem KP.lg (h : KP b true m) : LG b m.bd := by
  intro i
  by_cases hi : i.toNat < b.l.length
  · obtain ⟨c', k1, k2, k3⟩ := h.lab rfl i.toNat _ (List.getElem?_eq_getElem hi)
    have e1 : m.bd.at i = c' := by simp [Bd.at, List.getD_eq_getElem?_getD, k1]
    have e2 : b.at i = b.l[i.toNat] := by simp [Bd.at, hi]
    rw [e1, e2]; exact k3
  · have e1 : b.at i = Cl.z := by simp [Bd.at, List.getD_eq_getElem?_getD, List.getElem?_eq_none (Nat.not_lt.1 hi)]
    rw [e1]
    unfold within Cl.z; simp
end Go.Proofs.Ytcdlipdeemlibaa.G
namespace Go.Proofs.Ytcdlipdeemlibaa.G
open Go
set_option linter.unusedSimpArgs false
set_option linter.unusedVariables false
set_option maxRecDepth 20000
set_option maxHeartbeats 2000000
theorem followF_mv (q q' : IV) (ms : List Int) (t : Int) (a : BitVec 32) (m : Mc) (x : Cd) : followF ⟨q, ms, t, a⟩ m x = followF ⟨q', ms, t, a⟩ m x := by
  unfold followF reachF revealF named
  rfl
theorem loopF_mv (q q' : IV) (ms : List Int) (t : Int) (a : BitVec 32) (l : List Cd) : ∀ (k : Nat) (m : Mc), loopF ⟨q, ms, t, a⟩ l k m = loopF ⟨q', ms, t, a⟩ l k m
  | 0, m => rfl
  | k + 1, m => by
    rw [loopF, loopF, followF_mv q q', loopF_mv q q' ms t a l k]
theorem runF_mv (q q' : IV) (ms : List Int) (t : Int) (a : BitVec 32) (l : List Cd) (b : Bd) (d : Int) : runF ⟨q, ms, t, a⟩ l b d = runF ⟨q', ms, t, a⟩ l b d := by
  unfold runF
  have e : start ⟨q, ms, t, a⟩ b d = start ⟨q', ms, t, a⟩ b d := rfl
  rw [e, loopF_mv q q']
/-- A step of a game. -/
def Gm.run (g : Gm) (ms : List (BitVec 32)) (b : Bd) (d t : Int) : Rs := runF (g.env ms t (.sc (.slice none 0 0))) g.code b d
theorem run_mv (g : Gm) (ms : List (BitVec 32)) (b : Bd) (d t : Int) (q : IV) : runF (g.env ms t q) g.code b d = g.run ms b d t := runF_mv _ _ _ _ _ _ _ _
/-- What a step comes to. -/
def outC (r : Rs) (s : IV) : List IV := [.int .u64 (r.touched.toNat : Int), s, nI r.err]
theorem StepR_ok (g : Gm) (x y : IV) (h : GR g x y) (hr : g.right = true) (hw : ∀ c ∈ g.code, c.wf) (b : Bd) (hbk : b.ok) (d t : Int) (mv : IV) (ms : List (BitVec 32)) (hm : Ls 1 mv (ms.map m32)) :
    ∃ s, pc BI F_rules_Game_Step [.agg (gmc g x y), .agg (stc b d t), mv] = some (.tup [.agg (stc (g.run ms b d t).bd (g.run ms b d t).dice (IntKind.u32.wrap (t + 1))), .agg (outC (g.run ms b d t) s)]) ∧ Ls 3 s ((g.run ms b d t).shows.map Sh.e) := by
  obtain ⟨_, _, _, _, h96⟩ := right_48 hr
  obtain ⟨_, h1, q, s, hq, hs, rfl⟩ := Step_ok g x y h hr hw (by omega) b hbk d t mv ms hm
  rw [run_mv] at h1 hs
  exact ⟨s, h1, hs⟩
variable {b : Bd} {E : Me}
/-- The first board's values are numbers. -/
theorem hidS_I32 {p : List Cl × List Int} {c : Cl} (h1 : ∀ x ∈ p.1, I32 x.v) (h2 : ∀ v ∈ p.2, I32 v) (hc : I32 c.v) : (∀ x ∈ (hidS p c).1, I32 x.v) ∧ ∀ v ∈ (hidS p c).2, I32 v := by
  obtain ⟨L, R⟩ := p
  unfold hidS
  split
  · split
    · rename_i e
      simp only at e h1 h2 ⊢
      subst e
      refine ⟨fun x hx => ?_, by simp⟩
      rcases List.mem_append.1 hx with hx | hx
      · exact h1 x hx
      · simp at hx; subst hx; exact hc
    · rename_i v r e
      simp only at e h1 h2 ⊢
      subst e
      refine ⟨fun x hx => ?_, fun w hw => h2 w (by simp [hw])⟩
      rcases List.mem_append.1 hx with hx | hx
      · exact h1 x hx
      · simp at hx; subst hx; exact h2 v (by simp)
  · refine ⟨fun x hx => ?_, h2⟩
    rcases List.mem_append.1 hx with hx | hx
    · exact h1 x hx
    · simp at hx; subst hx; exact hc
theorem hid_I32 (C : List Cl) : ∀ (p : List Cl × List Int), (∀ x ∈ p.1, I32 x.v) → (∀ v ∈ p.2, I32 v) → (∀ c ∈ C, I32 c.v) → ∀ x ∈ (C.foldl hidS p).1, I32 x.v := by
  induction C with
  | nil => intro p h1 _ _; exact h1
  | cons c C ih =>
    intro p h1 h2 h3
    rw [List.foldl_cons]
    obtain ⟨k1, k2⟩ := hidS_I32 h1 h2 (h3 c (by simp))
    exact ih _ k1 k2 fun c hc => h3 c (by simp [hc])
theorem bd0_ok (g : Gm) (h : g.cells.length ≤ 48) (H : List Int) (hv : ∀ c ∈ g.cells, I32 c.v) (hH : ∀ v ∈ H, I32 v) : (g.bd0 h H).ok := by
  intro c hc
  simp only [Gm.bd0, hidB, List.take_length, List.drop_length, List.append_nil] at hc
  exact hid_I32 g.cells ([], H) (by simp) hH hv c hc
end Go.Proofs.Ytcdlipdeemlibaa.G
namespace Go.Proofs.Ytcdlipdeemlibaa.G
open Go
set_option maxRecDepth 20000
set_option maxHeartbeats 2000000
theorem awake10 : pc BI F_law10_awake [] = some (.bool true) := pcK 400 (by kernel_rfl)
end Go.Proofs.Ytcdlipdeemlibaa.G
namespace Go.Proofs.Ytcdlipdeemlibaa.G
open Go
set_option linter.unusedSimpArgs false
set_option linter.unusedVariables false
set_option maxRecDepth 20000
set_option maxHeartbeats 2000000
theorem gm_s4 (g : Gm) (x y v : IV) : isplice (gmc g x y) 4 [v] = gmc g v y := rfl
theorem gm_s5 (g : Gm) (x y v : IV) : isplice (gmc g x y) 5 [v] = gmc g x v := rfl
theorem gm_all (g : Gm) (x y : IV) (g2 : Gm) (x2 y2 : IV) : isplice (gmc g x y) 0 (gmc g2 x2 y2) = gmc g2 x2 y2 := rfl
attribute [go_sem] gm_s4 gm_s5 gm_all
theorem Clip.icells {J J' : JH} {s : IV} {sz : Nat} {X : List (List IV)} (h : Clip J J' s sz X) : Go.Proofs.Ytcdlipdeemlibaa.G.icells s = [s] := by
  rcases h with ⟨_, rfl, _⟩ | ⟨_, rfl, _⟩ <;> rfl
theorem Clip.one {J J' : JH} {s : IV} {sz : Nat} {X : List (List IV)} (h : Clip J J' s sz X) : ione s = true := by
  rcases h with ⟨_, rfl, _⟩ | ⟨_, rfl, _⟩ <;> rfl
theorem Clip.frzL {J J' J2 : JH} {s : IV} {sz : Nat} {X : List (List IV)} (h : Clip J J' s sz X) (hf : ∀ d, J.size ≤ d → d < J'.size → J2[d]? = J'[d]?) (hsz : 0 < sz) (hX : ∀ x ∈ X, x.length = sz) (hp : ipureL X.flatten = true) (ho : X.flatten.all ione = true) : ∃ u, (∀ k, Go.Proofs.Ytcdlipdeemlibaa.G.frz J2 (k + 1) s = some u) ∧ Ls sz u (X.map (mkE sz)) := by
  rcases h with ⟨rfl, rfl, rfl⟩ | ⟨hne, rfl, rfl⟩
  · exact ⟨_, fun k => frz_pure _ _ rfl, .lst⟩
  · have hb : J2[J.size]? = some (.cells 0 X.flatten false) := by rw [hf J.size (Nat.le_refl _) (by simp), push_get]
    refine ⟨.lst sz (X.length == UNK + sz && decide (UNK + sz < UNK)) (X.map (mkE sz)), fun k => ?_, .lst⟩
    rw [frz_sl (cs := X.flatten) hsz ?_ hp ho, grp_flat hX]
    simp only [ird, hb, true_and, Nat.zero_add, List.drop_zero]
    rw [if_pos (by rw [flat_len hX]; exact Nat.le_refl _), List.take_of_length_le (by rw [flat_len hX]; exact Nat.le_refl _)]
def Gm.few (g : Gm) : Gm := { g with cells := g.cells.take 55, code := g.code.take 100 }
theorem gfew_ok (g : Gm) (x y : IV) (h : GR g x y) (hb : g.cells.length ≤ 9223372036854775807) (hb2 : g.code.length ≤ 9223372036854775807) :
    ∃ u, pc BI F_law10_few [.agg (gmc g x y)] = some u ∧ ∃ x2 y2, u = .agg (gmc g.few x2 y2) ∧ GR g.few x2 y2 := by
  refine pcW fn_law10_few rfl fun K hK => ?_
  obtain ⟨a, ha, hal⟩ := h.x.slice (h := min g.cells.length 55) (by simp; omega)
  obtain ⟨c, hc, hcl⟩ := h.y.slice (h := min g.code.length 100) (by simp; omega)
  have hm : min (g.cells.length : Int) 55 = ((min g.cells.length 55 : Nat) : Int) := by omega
  have hm2 : min (g.code.length : Int) 100 = ((min g.code.length 100 : Nat) : Int) := by omega
  unfold l_law10_few
  simp -implicitDefEqProofs only [go_sem, dnW_ite, reduceIte, Nat.reduceAdd, Nat.reduceLeDiff, Nat.reduceMul, Nat.reduceEqDiff, Int.reduceLT, Int.reduceLE, Int.reduceToNat, Nat.reduceSub, Nat.reduceLT, Int.reduceEq, BitVec.reduceOfInt, BitVec.reduceOfNat, Int.reduceGT, Int.reduceGE, Int.reduceBEq, Int.reduceBNe, Nat.reduceGT, Nat.reduceBEq, Nat.reduceBNe, Int.reduceAdd, Int.reduceSub, Int.reduceNeg, h.one, h.x.lenF, List.length_map, ipureL, grp, hm, ha]
  have tk : ∀ {α : Type} (l : List α) (n : Nat), l.take (min l.length n) = l.take n := fun l n => by rw [Nat.min_comm, ← List.take_eq_take_min]
  have hal' : Ls 2 a (((g.cells.take 55).map Cl.c).map (mkE 2)) := by
    rw [cl_mk, List.map_take, ← tk, List.length_map]; exact hal
  have hcl' : Ls 6 c (((g.code.take 100).map Cd.cs).map (mkE 6)) := by
    rw [cd_mk, List.map_take, ← tk, List.length_map]; exact hcl
  refine WP_bind (app_clip hal' (by decide) (cl2 _) (flat_one _) (fits8 (by simp; omega))) fun s1 J1 k1 => ?_
  have f1 := k1.fr
  have h0 : J1[0]? = some (.cells 0 (gmc g x y) false) := by rw [f1.2 0 (by simp) (by simp)]; rfl
  have hin := inb h0
  simp -implicitDefEqProofs only [go_sem, dnW_ite, reduceIte, Nat.reduceAdd, Nat.reduceLeDiff, Nat.reduceMul, Nat.reduceEqDiff, Int.reduceLT, Int.reduceLE, Int.reduceToNat, Nat.reduceSub, Nat.reduceLT, Int.reduceEq, BitVec.reduceOfInt, BitVec.reduceOfNat, Int.reduceGT, Int.reduceGE, Int.reduceBEq, Int.reduceBNe, Nat.reduceGT, Nat.reduceBEq, Nat.reduceBNe, Int.reduceAdd, Int.reduceSub, Int.reduceNeg, h0, hin, ↓k1.icells, ↓k1.one, h.y.lenF, List.length_map, hm2, hc, set_get _ (lt_get h0), ipureL, grp]
  have hz1 := f1.1
  have hl0 := lt_get h0
  refine WP_bind (app_clip hcl' (by decide) (cd6 _) (cd_one _) (fits12 (by simp; omega))) fun s2 J2 k2 => ?_
  have f2 := k2.fr
  have h02 : J2[0]? = some (.cells 0 (gmc g s1 y) false) := by rw [f2.2 0 (by simpa using hl0) (by simp)]; exact set_get _ hl0
  have hb1 : J1[1]? = some (.cells 0 (gmc ⟨0, 0, 0#32, 0#32, [], []⟩ (.sc (.slice none 0 0)) (.sc (.slice none 0 0))) false) := by rw [f1.2 1 (by simp) (by simp)]; rfl
  have hb2' : J2[1]? = some (.cells 0 (gmc ⟨0, 0, 0#32, 0#32, [], []⟩ (.sc (.slice none 0 0)) (.sc (.slice none 0 0))) false) := by
    rw [f2.2 1 (by have := lt_get hb1; simpa using this) (by simp), Array.getElem?_setIfInBounds, if_neg (by decide)]; exact hb1
  have hin2 := inb h02
  have ho2 : (gmc g s1 s2).all ione = true := by
    have a1 := k1.one
    have a2 := k2.one
    simp only [gmc, List.all_cons, List.all_nil, a1, a2]; rfl
  have hb3 : (J2.setIfInBounds 0 (.cells 0 (gmc g s1 s2) false))[1]? = some (.cells 0 (gmc ⟨0, 0, 0#32, 0#32, [], []⟩ (.sc (.slice none 0 0)) (.sc (.slice none 0 0))) false) := by
    rw [Array.getElem?_setIfInBounds, if_neg (by decide)]; exact hb2'
  have hl3 := lt_get hb3
  simp -implicitDefEqProofs only [go_sem, dnW_ite, reduceIte, Nat.reduceAdd, Nat.reduceLeDiff, Nat.reduceMul, Nat.reduceEqDiff, Int.reduceLT, Int.reduceLE, Int.reduceToNat, Nat.reduceSub, Nat.reduceLT, Int.reduceEq, BitVec.reduceOfInt, BitVec.reduceOfNat, Int.reduceGT, Int.reduceGE, Int.reduceBEq, Int.reduceBNe, Nat.reduceGT, Nat.reduceBEq, Nat.reduceBNe, Int.reduceAdd, Int.reduceSub, Int.reduceNeg, h02, hin2, ↓k2.icells, ↓k2.one, set_get _ (lt_get h02), hb3, inb hb3, ho2, set_get _ hl3]
  have hsz : (2 : Nat) ≤ J1.size := by simpa using hz1
  obtain ⟨u1, hu1, hl1⟩ := k1.frzL (J2 := (J2.setIfInBounds 0 (.cells 0 (gmc g s1 s2) false)).setIfInBounds 1 (.cells 0 (gmc g s1 s2) false)) (fun d hd hd2 => by
    have hd' : 2 ≤ d := by simpa using hd
    rw [Array.getElem?_setIfInBounds, if_neg (by omega), Array.getElem?_setIfInBounds, if_neg (by omega), f2.2 d (by simpa using hd2) (by simp), Array.getElem?_setIfInBounds, if_neg (by omega)]) (by decide) (cl2 _) (cl_pure _) (flat_one _)
  obtain ⟨u2, hu2, hl2⟩ := k2.frzL (J2 := (J2.setIfInBounds 0 (.cells 0 (gmc g s1 s2) false)).setIfInBounds 1 (.cells 0 (gmc g s1 s2) false)) (fun d hd hd2 => by
    have hd' : 2 ≤ d := by have : J1.size ≤ d := by simpa using hd
                           omega
    rw [Array.getElem?_setIfInBounds, if_neg (by omega), Array.getElem?_setIfInBounds, if_neg (by omega)]) (by decide) (cd6 _) (cd_pure _) (cd_one _)
  rw [cl_mk] at hl1
  rw [cd_mk] at hl2
  generalize (J2.setIfInBounds 0 (.cells 0 (gmc g s1 s2) false)).setIfInBounds 1 (.cells 0 (gmc g s1 s2) false) = JF at *
  have fp : ∀ {v : IV}, ipure v = true → frz JF 11 v = some v := fun h => frz_pure _ _ h
  refine hK _ _ (.agg (gmc g u1 u2)) (frz_aggL (k := 11) ?_) ⟨u1, u2, rfl, hl1, hl2⟩
  simp only [gmc]
  rw [List.mapM_cons, List.mapM_cons, List.mapM_cons, List.mapM_cons, List.mapM_cons, List.mapM_cons, fp (v := .int .i64 g.obs) rfl, fp (v := .int .i64 g.players) rfl, fp (v := m32 g.moves) rfl, fp (v := m32 g.dflt) rfl, hu1 10, hu2 10]
  rfl
end Go.Proofs.Ytcdlipdeemlibaa.G
namespace Go.Proofs.Ytcdlipdeemlibaa.G
open Go
set_option linter.unusedSimpArgs false
set_option linter.unusedVariables false
set_option maxRecDepth 20000
set_option maxHeartbeats 2000000
theorem few_len (g : Gm) : g.few.cells.length ≤ 55 ∧ g.few.code.length ≤ 100 := by simp [Gm.few]; omega
theorem few_wf {g : Gm} (h : ∀ c ∈ g.code, c.wf) : ∀ c ∈ g.few.code, c.wf := fun c hc => h c (List.mem_of_mem_take hc)
theorem few_I32 {g : Gm} (h : ∀ c ∈ g.cells, I32 c.v) : ∀ c ∈ g.few.cells, I32 c.v := fun c hc => h c (List.mem_of_mem_take hc)
end Go.Proofs.Ytcdlipdeemlibaa.G
namespace Go.Proofs.Ytcdlipdeemlibaa.G
open Go
set_option linter.unusedSimpArgs false
set_option linter.unusedVariables false
set_option maxRecDepth 20000
set_option maxHeartbeats 2000000
theorem outC_one (r : Rs) {s : IV} (h : ione s = true) : (outC r s).all ione = true := by
  simp only [outC, List.all_cons, List.all_nil, h]; rfl
theorem out_len (r s) : (outC r s).length = 3 := rfl
theorem out_take (r s) : (outC r s).take 3 = outC r s := rfl
theorem out_0 (r s) : (outC r s).take 1 = [.int .u64 (r.touched.toNat : Int)] := rfl
theorem out_00 (r s) : ((outC r s).drop 0).take 1 = [.int .u64 (r.touched.toNat : Int)] := rfl
theorem out_1 (r s) : ((outC r s).drop 1).take 1 = [s] := rfl
theorem out_2 (r s) : ((outC r s).drop 2).take 1 = [nI r.err] := rfl
theorem out_z (r s) : isplice [IV.sc (Value.int IntKind.u64 0), IV.sc (Value.slice none 0 0), IV.sc (Value.int IntKind.i64 0)] 0 (outC r s) = outC r s := rfl
attribute [go_sem] out_len out_take out_0 out_00 out_1 out_2
attribute [go_sem ↓] out_z
theorem I32_nil : ∀ v ∈ ([] : List Int), I32 v := by simp
end Go.Proofs.Ytcdlipdeemlibaa.G
namespace Go.Proofs.Ytcdlipdeemlibaa.G
open Go
set_option linter.unusedSimpArgs false
set_option linter.unusedVariables false
set_option maxRecDepth 20000
set_option maxHeartbeats 1000000
/-- The cells of a list, laid out. -/
def clL (X : List Cl) : List IV := (X.map Cl.c).flatten
theorem clL_len (X : List Cl) : (clL X).length = X.length * 2 := by rw [clL, flat_len (cl2 X), List.length_map]
theorem clL_pure (X : List Cl) : ipureL (clL X) = true := cl_pure X
/-- A list of cells of one's own. -/
def RawC (J : JH) (s : IV) (X : List Cl) : Prop := (X = [] ∧ s = .lst 2 true []) ∨ (X ≠ [] ∧ ∃ b, s = .sl b 0 0 X.length (UNK + 2) 2 ∧ J[b]? = some (.cells 0 (clL X) false))
theorem Clip.raw {J J' : JH} {s : IV} {X : List Cl} (h : Clip J J' s 2 (X.map Cl.c)) : RawC J' s X := by
  rcases h with ⟨h, rfl, _⟩ | ⟨h, rfl, rfl⟩
  · exact .inl ⟨List.map_eq_nil_iff.1 h, rfl⟩
  · refine .inr ⟨fun e => h (by rw [e]; rfl), J.size, by rw [List.length_map], by rw [push_get]; rfl⟩
theorem Clip.new {J J' : JH} {s : IV} {sz : Nat} {X : List (List IV)} (h : Clip J J' s sz X) : ∀ d ∈ blk s, J.size ≤ d := by
  rcases h with ⟨_, rfl, _⟩ | ⟨_, rfl, _⟩ <;> simp [blk, blkOf]
theorem RawC.fr {J J' : JH} {s : IV} {X : List Cl} {S : List Nat} (h : RawC J s X) (hf : Fr J J' S) (hs : ∀ d ∈ blk s, d ∉ S) : RawC J' s X := by
  rcases h with h | ⟨h, b, rfl, hb⟩
  · exact .inl h
  · exact .inr ⟨h, b, rfl, by rw [hf.2 b (lt_get hb) (hs b (by simp [blk, blkOf]))]; exact hb⟩
theorem RawC.low {J : JH} {s : IV} {X : List Cl} (h : RawC J s X) : ∀ d ∈ blk s, d < J.size := by
  rcases h with ⟨_, rfl⟩ | ⟨_, b, rfl, hb⟩
  · simp [blk, blkOf]
  · intro d hd; simp [blk, blkOf] at hd; subst hd; exact lt_get hb
theorem RawC.lenF {J : JH} {s : IV} {X : List Cl} (h : RawC J s X) (J2 : JH) : Go.Proofs.Ytcdlipdeemlibaa.G.lenF false s J2 = some (nI X.length, J2) := by
  rcases h with ⟨rfl, rfl⟩ | ⟨_, _, rfl, _⟩ <;> rfl
theorem RawC.get {J : JH} {s : IV} {X : List Cl} (h : RawC J s X) {i : Nat} (hi : i < X.length) : ∃ b, s = .sl b 0 0 X.length (UNK + 2) 2 ∧ J[b]? = some (.cells 0 (clL X) false) := by
  rcases h with ⟨rfl, _⟩ | h
  · cases hi
  · exact h.2
theorem RawC.frz {J : JH} {s : IV} {X : List Cl} (h : RawC J s X) : ∃ u, (∀ k, Go.Proofs.Ytcdlipdeemlibaa.G.frz J (k + 1) s = some u) ∧ Ls 2 u (X.map Cl.e) := by
  rcases h with ⟨rfl, rfl⟩ | ⟨hne, b, rfl, hb⟩
  · exact ⟨_, fun k => frz_pure _ _ rfl, .lst⟩
  · have hl : X.length = (X.map Cl.c).length := by simp
    have hr : ird J b 0 0 (X.length * 2) = some (X.map Cl.c).flatten := by
      simp only [ird, hb, true_and, Nat.zero_add, List.drop_zero]
      rw [if_pos (by rw [clL_len]; exact Nat.le_refl _), List.take_of_length_le (by rw [clL_len]; exact Nat.le_refl _)]; rfl
    refine ⟨_, fun k => frz_sl (by decide) hr (cl_pure X) (flat_one X), ?_⟩
    rw [hl, grp_flat (cl2 X), cl_mk]; exact .lst
theorem RawC.shows {J : JH} {s : IV} {X : List Cl} (h : RawC J s X) : ∀ d ∈ Go.Proofs.Ytcdlipdeemlibaa.G.shows J DEP s, d ∈ blk s := by
  rcases h with ⟨rfl, rfl⟩ | ⟨hne, b, rfl, hb⟩
  · intro d hd; rw [shows_pure J DEP rfl] at hd; cases hd
  · intro d hd
    have hr : ird J b 0 0 (X.length * 2) = some (clL X) := by
      simp only [ird, hb, true_and, Nat.zero_add, List.drop_zero]
      rw [if_pos (by rw [clL_len]; exact Nat.le_refl _), List.take_of_length_le (by rw [clL_len]; exact Nat.le_refl _)]
    rw [frz12, shows_sl hr (clL_pure X)] at hd
    exact hd
end Go.Proofs.Ytcdlipdeemlibaa.G
namespace Go.Proofs.Ytcdlipdeemlibaa.G
open Go
set_option linter.unusedSimpArgs false
set_option linter.unusedVariables false
set_option maxRecDepth 20000
set_option maxHeartbeats 1000000
variable {P : BitVec 32 → Bool} {E F : Me} {m n : Mc}
/-- What differs for the first time. -/
def Diff (P : BitVec 32 → Bool) (a b : List Sh) : Prop := ∃ (j : Nat) (s t : Sh), a[j]? = some s ∧ b[j]? = some t ∧ P s.to = true ∧ s.v ≠ t.v ∧ SE (a.take (j + 1)) (b.take (j + 1))
theorem Diff.ext {a b c d : List Sh} (h : Diff P a b) : Diff P (a ++ c) (b ++ d) := by
  obtain ⟨j, s, t, h1, h2, h3, h4, h5⟩ := h
  have l1 := (List.getElem?_eq_some_iff.1 h1).1
  have l2 := (List.getElem?_eq_some_iff.1 h2).1
  refine ⟨j, s, t, by rw [List.getElem?_append_left l1]; exact h1, by rw [List.getElem?_append_left l2]; exact h2, h3, h4, ?_⟩
  rw [List.take_append_of_le_length (by omega), List.take_append_of_le_length (by omega)]
  exact h5
end Go.Proofs.Ytcdlipdeemlibaa.G
namespace Go.Proofs.Ytcdlipdeemlibaa.G
open Go
set_option linter.unusedSimpArgs false
set_option linter.unusedVariables false
set_option maxRecDepth 20000
set_option maxHeartbeats 2000000
end Go.Proofs.Ytcdlipdeemlibaa.G
namespace Go.Proofs.Ytcdlipdeemlibaa.G
open Go
set_option linter.unusedSimpArgs false
set_option linter.unusedVariables false
set_option maxRecDepth 20000
set_option maxHeartbeats 2000000
end Go.Proofs.Ytcdlipdeemlibaa.G
namespace Go.Proofs.Ytcdlipdeemlibaa.G
open Go
set_option linter.unusedSimpArgs false
set_option linter.unusedVariables false
set_option maxRecDepth 20000
set_option maxHeartbeats 2000000
end Go.Proofs.Ytcdlipdeemlibaa.G
namespace Go.Proofs.Ytcdlipdeemlibaa.G
open Go
set_option linter.unusedSimpArgs false
set_option linter.unusedVariables false
set_option maxRecDepth 20000
set_option maxHeartbeats 2000000
theorem EE.refl (P : BitVec 32 → Bool) (E : Me) : EE P E E := ⟨rfl, rfl, fun _ _ => rfl⟩
theorem sta_eq (b c : Bd) (d t : Int) (e u : Int) : iaggEq (stc b d t) (stc c e u) = some (decide (b = c) && (decide (d = e) && decide (t = u))) := by
  have hb := b.h
  have hc := c.h
  have key : ∀ (p q : List Cl) (n m : Nat), p.length = q.length → iaggEq ((p.map Cl.c).flatten ++ [nI n, .int .u64 d, .int .u32 t]) ((q.map Cl.c).flatten ++ [nI m, .int .u64 e, .int .u32 u]) = some (decide (p = q ∧ n = m) && (decide (d = e) && decide (t = u))) := by
    intro p
    induction p with
    | nil =>
      intro q n m h
      cases q with
      | nil =>
        simp only [List.map_nil, List.flatten_nil, List.nil_append, iaggEq, if_true, Bool.and_true, true_and]
        congr 1
        rw [Bool.eq_iff_iff]; simp; omega
      | cons _ _ => simp at h
    | cons a p ih =>
      intro q n m h
      cases q with
      | nil => simp at h
      | cons b q =>
        have ih := ih q n m (by simpa using h)
        obtain ⟨av, as1⟩ := a
        obtain ⟨bv, bs1⟩ := b
        simp only [List.map_cons, List.flatten_cons, Cl.c, List.cons_append, List.nil_append, iaggEq, if_true, List.append_eq, ih, beqB]
        congr 1
        rw [Bool.eq_iff_iff]
        simp [and_assoc]
  rw [stc, stc, bdc, bdc, Bd.pad, Bd.pad, List.append_assoc, List.append_assoc]
  simp only [List.cons_append, List.nil_append]
  rw [key _ _ _ _ (by simp; omega)]
  congr 2
  rw [decide_eq_decide]
  constructor
  · rintro ⟨h1, h2⟩
    apply Bd.ext
    rw [h2] at h1
    exact List.append_cancel_right h1
  · rintro rfl
    exact ⟨rfl, rfl⟩
attribute [go_sem] sta_eq
end Go.Proofs.Ytcdlipdeemlibaa.G
namespace Go.Proofs.Ytcdlipdeemlibaa.G
open Go
set_option linter.unusedSimpArgs false
set_option linter.unusedVariables false
set_option maxRecDepth 20000
set_option maxHeartbeats 2000000
/-- The moves, all told. -/
def Gm.whole (g : Gm) (ms : List (BitVec 32)) (n : Nat) : List (BitVec 32) := (List.range n).map (g.mv ms)
theorem whole_succ (g ms n) : Gm.whole g ms (n + 1) = Gm.whole g ms n ++ [g.mv ms n] := by simp [Gm.whole, List.range_succ]
theorem whole_len (g ms n) : (Gm.whole g ms n).length = n := by simp [Gm.whole]
theorem mv_legal (g : Gm) (ms : List (BitVec 32)) (hd : g.dflt.toNat < g.moves.toNat) (j : Nat) : g.legal (g.mv ms j) = true := by
  unfold Gm.mv
  split
  · split
    · assumption
    · simpa [Gm.legal] using hd
  · simpa [Gm.legal] using hd
theorem allF_short (g : Gm) (ms : List (BitVec 32)) (n : Nat) : g.allF (ms.take n) n = g.allF ms n := by
  unfold Gm.allF
  apply List.map_congr_left
  intro j hj
  rw [List.mem_range] at hj
  have : g.mv (ms.take n) j = g.mv ms j := by
    unfold Gm.mv
    by_cases h : j < ms.length
    · have h2 : j < (ms.take n).length := by simp; omega
      simp only [h, h2, dif_pos, List.getElem_take]
    · have h2 : ¬ j < (ms.take n).length := by simp; omega
      simp only [h, h2, dif_neg, not_false_eq_true]
  rw [this]
theorem allF_whole (g : Gm) (ms more : List (BitVec 32)) (n : Nat) (hd : g.dflt.toNat < g.moves.toNat) : g.allF (g.whole ms n ++ more) n = g.allF ms n := by
  unfold Gm.allF
  apply List.map_congr_left
  intro j hj
  rw [List.mem_range] at hj
  have : g.mv (g.whole ms n ++ more) j = g.mv ms j := by
    have h2 : j < (g.whole ms n ++ more).length := by rw [List.length_append, whole_len]; omega
    have h3 : (g.whole ms n ++ more)[j] = g.mv ms j := by
      rw [List.getElem_append_left (by rw [whole_len]; exact hj)]
      simp [Gm.whole]
    conv => lhs; unfold Gm.mv
    rw [dif_pos h2, h3, mv_legal g ms hd j]; rfl
  rw [this]
theorem run_alike (g : Gm) (ms ms' : List (BitVec 32)) (h : g.allF ms g.players.toNat = g.allF ms' g.players.toNat) (b : Bd) (d t : Int) : g.run ms b d t = g.run ms' b d t := by
  unfold Gm.run Gm.env
  rw [h]
theorem m32_cells (l : List (BitVec 32)) : (l.map m32).flatMap icells = l.map m32 := by
  induction l with
  | nil => rfl
  | cons a l ih => rw [List.map_cons, List.flatMap_cons, ih]; rfl
/-- A copy of a list that grew. -/
theorem app_grow {J : JH} {w : IV} {cs : List IV} (hc : iscells J 1 w = some cs) (hl : ilen w = some cs.length) (hne : cs ≠ []) (ho : cs.all ione = true) (hf : fits cs.length 4 = true) : RP (appF 1 4 (.lst 1 true []) w J) fun s J' => Grow J' s 1 cs ∧ Fr J J' [] ∧ ∀ b ∈ blk s, J.size ≤ b := by
  have h0 : ¬ cs.length = 0 := fun e => hne (List.eq_nil_of_length_eq_zero e)
  simp only [appF, if_pos (show 0 < 1 by omega), iappend, hc, hl, if_neg h0, List.length_nil, Nat.zero_add, beq_self_eq_true, Bool.true_and, hf, ho, Bool.and_self, if_true, List.flatMap_nil, List.nil_append, RP]
  exact ⟨.inr ⟨J.size, 0, cs.length, cs, rfl, push_get _ _, by omega, by simp, by simp [irefsL]⟩, .push _ _ _, by simp [blk, blkOf]⟩
theorem defaults_k2 (g : Gm) (x y : IV) (h : GR g x y) (hr : g.right = true) (hw : ∀ c ∈ g.code, c.wf) (b : Bd) (hbk : b.ok) (d : Int) (mv more : IV) (ms mo : List (BitVec 32)) (hm : Ls 1 mv (ms.map m32)) (hmo : Ls 1 more (mo.map m32)) (hmol : mo.length * 4 ≤ 140737488351232) (p : Nat) (hp : g.players = p) (out : IV) (J : JH) (h0 : J[0]? = some (.cells 0 (gmc g x y) false)) (h1 : J[1]? = some (.cells 0 (stc b d 0) false)) (hg : Grow J out 1 ((g.whole ms p).map m32)) (hbl : ∀ d ∈ blk out, 2 ≤ d) (K : Out IV → JH → Prop) (hT : ∀ J', K (.ret [.bool true]) J') :
    WP (dn BI l_law10_RulesDefaults_k2 [mv, more, .ptr 0 0 0, .ptr 1 0 0, out] J) K := by
  unfold l_law10_RulesDefaults_k2
  obtain ⟨hp1, hp6, _⟩ := right_players hr
  have hpn : g.players.toNat = p := by omega
  obtain ⟨_, _, _, hdm, _⟩ := right_48 hr
  obtain ⟨a, ha, hal⟩ := hm.slice (h := min ms.length p) (by simp; omega)
  have hmin : min (ms.length : Int) (p : Int) = ((min ms.length p : Nat) : Int) := by omega
  have hal' : Ls 1 a ((ms.take p).map m32) := by
    rw [List.map_take, List.take_eq_take_min, List.length_map, Nat.min_comm]; exact hal
  obtain ⟨s1, hS1, hs1⟩ := StepR_ok g x y h hr hw b hbk d 0 a _ hal'
  rw [run_alike g (ms.take p) ms (by rw [hpn]; exact allF_short g ms p)] at hS1 hs1
  obtain ⟨u, hu, hul⟩ := hg.frzE1 (m32_pure _) (m32_ione _)
  have hsh := hg.shows (m32_pure _)
  have ew : g.run (g.whole ms p) b d 0 = g.run ms b d 0 := run_alike g _ ms (by rw [hpn]; have := allF_whole g ms [] p hdm; rwa [List.append_nil] at this) b d 0
  have ew2 : g.run (g.whole ms p ++ mo) b d 0 = g.run ms b d 0 := run_alike g _ ms (by rw [hpn]; exact allF_whole g ms mo p hdm) b d 0
  have hl1 := lt_get h1
  rw [show IntKind.u32.wrap (0 + 1) = 1 from rfl] at hS1
  have hmd : BI.md F_rules_Game_Step = .pure := rfl
  have hstep : ∀ v l, Ls 1 v (l.map m32) → g.run l b d 0 = g.run ms b d 0 → ∃ s, pc BI F_rules_Game_Step [.agg (gmc g x y), .agg (stc b d 0), v] = some (.tup [.agg (stc (g.run ms b d 0).bd (g.run ms b d 0).dice 1), .agg (outC (g.run ms b d 0) s)]) ∧ ione s = true := fun v l hv he => by
    obtain ⟨s, h1, h2⟩ := StepR_ok g x y h hr hw b hbk d 0 v l hv
    rw [he, show IntKind.u32.wrap (0 + 1) = 1 from rfl] at h1
    exact ⟨s, h1, h2.one⟩
  generalize g.run ms b d 0 = R at *
  simp -implicitDefEqProofs only [go_sem, dnW_ite, reduceIte, Nat.reduceAdd, Nat.reduceLeDiff, Nat.reduceMul, Nat.reduceEqDiff, Int.reduceLT, Int.reduceLE, Int.reduceToNat, Nat.reduceSub, Nat.reduceLT, Int.reduceEq, BitVec.reduceOfInt, BitVec.reduceOfNat, Int.reduceGT, Int.reduceGE, Int.reduceBEq, Int.reduceBNe, Nat.reduceGT, Nat.reduceBEq, Nat.reduceBNe, Int.reduceAdd, Int.reduceSub, Int.reduceNeg, hm.lenF, List.length_map, h0, h1, hp, hmin, ha, dcp hS1 (by simp [ipureL, ipure, h.pure, sta_pure, hal'.pure]), sta_z, outC_one R hs1.one, inb h0, inb h1]
  have hf1 : Fr J ((((J.push (.cells 0 (stc Bd.z 0 0) false)).push (.cells 0 [IV.sc (Value.int IntKind.u64 0), IV.sc (Value.slice none 0 0), IV.sc (Value.int IntKind.i64 0)] false)).setIfInBounds J.size (.cells 0 (stc R.bd R.dice 1) false)).setIfInBounds (J.size + 1) (.cells 0 (outC R s1) false)) [] := by
    have hf := Fr.refl J []
    (have hsz_ := hf.1; repeat (first | with_reducible exact hf | with_reducible apply Fr.psh | ((with_reducible apply Fr.stn); rotate_left; first | omega | (simp only [Array.size_push, Array.size_setIfInBounds] <;> omega)) | ((with_reducible apply Fr.sts); rotate_left; focus (simp only [List.mem_cons, eq_self, true_or, or_true]; done))))
  have a1 : ((((J.push (.cells 0 (stc Bd.z 0 0) false)).push (.cells 0 [IV.sc (Value.int IntKind.u64 0), IV.sc (Value.slice none 0 0), IV.sc (Value.int IntKind.i64 0)] false)).setIfInBounds J.size (.cells 0 (stc R.bd R.dice 1) false)).setIfInBounds (J.size + 1) (.cells 0 (outC R s1) false))[J.size]? = some (.cells 0 (stc R.bd R.dice 1) false) := by (repeat (first | with_reducible assumption | ((with_reducible refine gsE ?_ ?_); (focus omega); focus (first | omega | (simp only [Array.size_push, Array.size_setIfInBounds] <;> omega))) | ((with_reducible refine gsN ?_ ?_); focus omega) | ((with_reducible refine gpN ?_ ?_); focus (first | omega | (simp only [Array.size_push, Array.size_setIfInBounds] <;> omega))) | ((with_reducible refine gpE ?_); focus (first | omega | (simp only [Array.size_push, Array.size_setIfInBounds] <;> omega)))))
  have a2 : ((((J.push (.cells 0 (stc Bd.z 0 0) false)).push (.cells 0 [IV.sc (Value.int IntKind.u64 0), IV.sc (Value.slice none 0 0), IV.sc (Value.int IntKind.i64 0)] false)).setIfInBounds J.size (.cells 0 (stc R.bd R.dice 1) false)).setIfInBounds (J.size + 1) (.cells 0 (outC R s1) false))[J.size + 1]? = some (.cells 0 (outC R s1) false) := by (repeat (first | with_reducible assumption | ((with_reducible refine gsE ?_ ?_); (focus omega); focus (first | omega | (simp only [Array.size_push, Array.size_setIfInBounds] <;> omega))) | ((with_reducible refine gsN ?_ ?_); focus omega) | ((with_reducible refine gpN ?_ ?_); focus (first | omega | (simp only [Array.size_push, Array.size_setIfInBounds] <;> omega))) | ((with_reducible refine gpE ?_); focus (first | omega | (simp only [Array.size_push, Array.size_setIfInBounds] <;> omega)))))
  generalize hJ1 : ((((J.push (.cells 0 (stc Bd.z 0 0) false)).push (.cells 0 [IV.sc (Value.int IntKind.u64 0), IV.sc (Value.slice none 0 0), IV.sc (Value.int IntKind.i64 0)] false)).setIfInBounds J.size (.cells 0 (stc R.bd R.dice 1) false)).setIfInBounds (J.size + 1) (.cells 0 (outC R s1) false)) = J1 at *
  have hg1 := hg.fr0 hf1
  obtain ⟨u, hu, hul⟩ := hg1.frzE1 (m32_pure _) (m32_ione _)
  have hsh := hg1.shows (m32_pure _)
  obtain ⟨s2, hS2, hs2⟩ := hstep u _ hul ew
  have hlow := hg.low
  refine WP_callK (S := blk out) (.pure (by simp [ipure, h.pure]) (.pure (by simp [ipure, sta_pure]) (.raw (hu 11) hsh .nil))) hS2 fun J2 f2 z2 kc => ?_
  have t9 : J.size + 1 < J2.size := by have := lt_get a2; omega
  have k0 : J2[0]? = some (.cells 0 (gmc g x y) false) := by rw [f2.2 0 (by have := hf1.1; have := lt_get h0; omega) (fun hm => by have := hbl _ hm; omega), hf1.2 0 (lt_get h0) (by simp)]; exact h0
  have k1 : J2[1]? = some (.cells 0 (stc b d 0) false) := by rw [f2.2 1 (by have := hf1.1; omega) (fun hm => by have := hbl _ hm; omega), hf1.2 1 (lt_get h1) (by simp)]; exact h1
  have b1 : J2[J.size]? = some (.cells 0 (stc R.bd R.dice 1) false) := by rw [f2.2 _ (lt_get a1) (fun hm => by have := hlow _ hm; omega)]; exact a1
  have b2 : J2[J.size + 1]? = some (.cells 0 (outC R s1) false) := by rw [f2.2 _ (lt_get a2) (fun hm => by have := hlow _ hm; omega)]; exact a2
  have hne : (g.whole ms p).map m32 ≠ [] := fun e => by
    have := congrArg List.length e
    rw [List.length_map, whole_len] at this; simp at this; omega
  have hwl : ((g.whole ms p).map m32).length = p := by rw [List.length_map, whole_len]
  have hil : ilen out = some ((g.whole ms p).map m32).length := by
    rcases hg1 with ⟨rfl, e⟩ | ⟨bb, v, n, full, rfl, e1, e2, e3, e4⟩
    · exact absurd e hne
    · rw [← e3, List.length_take, Nat.min_eq_left (by omega), Nat.mul_one]; rfl
  have hic := kc.cells hg1.cells
  simp -implicitDefEqProofs only [go_sem, dnW_ite, reduceIte, Nat.reduceAdd, Nat.reduceLeDiff, Nat.reduceMul, Nat.reduceEqDiff, Int.reduceLT, Int.reduceLE, Int.reduceToNat, Nat.reduceSub, Nat.reduceLT, Int.reduceEq, BitVec.reduceOfInt, BitVec.reduceOfNat, Int.reduceGT, Int.reduceGE, Int.reduceBEq, Int.reduceBNe, Nat.reduceGT, Nat.reduceBEq, Nat.reduceBNe, Int.reduceAdd, Int.reduceSub, Int.reduceNeg, sta_z, outC_one R hs2, inb k0, inb k1, inb b1, inb b2, k0, k1, ipureL, grp]
  have hfr2 := Fr.refl J2 []
  have f3 : Fr J2 ((((((J2.push (IB.cells 0 (stc Bd.z 0 0) false)).push (IB.cells 0 [IV.sc (Value.int IntKind.u64 0), IV.sc (Value.slice none 0 0), IV.sc (Value.int IntKind.i64 0)] false)).setIfInBounds J2.size (IB.cells 0 (stc R.bd R.dice 1) false)).setIfInBounds (J2.size + 1) (IB.cells 0 (outC R s2) false)).push (IB.cells 0 (stc Bd.z 0 0) false)).push (IB.cells 0 [IV.sc (Value.int IntKind.u64 0), IV.sc (Value.slice none 0 0), IV.sc (Value.int IntKind.i64 0)] false)) [] := by
    (have hsz_ := hfr2.1; repeat (first | with_reducible exact hfr2 | with_reducible apply Fr.psh | ((with_reducible apply Fr.stn); rotate_left; first | omega | (simp only [Array.size_push, Array.size_setIfInBounds] <;> omega)) | ((with_reducible apply Fr.sts); rotate_left; focus (simp only [List.mem_cons, eq_self, true_or, or_true]; done))))
  have c1 : ((((((J2.push (IB.cells 0 (stc Bd.z 0 0) false)).push (IB.cells 0 [IV.sc (Value.int IntKind.u64 0), IV.sc (Value.slice none 0 0), IV.sc (Value.int IntKind.i64 0)] false)).setIfInBounds J2.size (IB.cells 0 (stc R.bd R.dice 1) false)).setIfInBounds (J2.size + 1) (IB.cells 0 (outC R s2) false)).push (IB.cells 0 (stc Bd.z 0 0) false)).push (IB.cells 0 [IV.sc (Value.int IntKind.u64 0), IV.sc (Value.slice none 0 0), IV.sc (Value.int IntKind.i64 0)] false))[J2.size]? = some (IB.cells 0 (stc R.bd R.dice 1) false) := by (repeat (first | with_reducible assumption | ((with_reducible refine gsE ?_ ?_); (focus omega); focus (first | omega | (simp only [Array.size_push, Array.size_setIfInBounds] <;> omega))) | ((with_reducible refine gsN ?_ ?_); focus omega) | ((with_reducible refine gpN ?_ ?_); focus (first | omega | (simp only [Array.size_push, Array.size_setIfInBounds] <;> omega))) | ((with_reducible refine gpE ?_); focus (first | omega | (simp only [Array.size_push, Array.size_setIfInBounds] <;> omega)))))
  have c2 : ((((((J2.push (IB.cells 0 (stc Bd.z 0 0) false)).push (IB.cells 0 [IV.sc (Value.int IntKind.u64 0), IV.sc (Value.slice none 0 0), IV.sc (Value.int IntKind.i64 0)] false)).setIfInBounds J2.size (IB.cells 0 (stc R.bd R.dice 1) false)).setIfInBounds (J2.size + 1) (IB.cells 0 (outC R s2) false)).push (IB.cells 0 (stc Bd.z 0 0) false)).push (IB.cells 0 [IV.sc (Value.int IntKind.u64 0), IV.sc (Value.slice none 0 0), IV.sc (Value.int IntKind.i64 0)] false))[J2.size + 1]? = some (IB.cells 0 (outC R s2) false) := by (repeat (first | with_reducible assumption | ((with_reducible refine gsE ?_ ?_); (focus omega); focus (first | omega | (simp only [Array.size_push, Array.size_setIfInBounds] <;> omega))) | ((with_reducible refine gsN ?_ ?_); focus omega) | ((with_reducible refine gpN ?_ ?_); focus (first | omega | (simp only [Array.size_push, Array.size_setIfInBounds] <;> omega))) | ((with_reducible refine gpE ?_); focus (first | omega | (simp only [Array.size_push, Array.size_setIfInBounds] <;> omega)))))
  have c3 : ((((((J2.push (IB.cells 0 (stc Bd.z 0 0) false)).push (IB.cells 0 [IV.sc (Value.int IntKind.u64 0), IV.sc (Value.slice none 0 0), IV.sc (Value.int IntKind.i64 0)] false)).setIfInBounds J2.size (IB.cells 0 (stc R.bd R.dice 1) false)).setIfInBounds (J2.size + 1) (IB.cells 0 (outC R s2) false)).push (IB.cells 0 (stc Bd.z 0 0) false)).push (IB.cells 0 [IV.sc (Value.int IntKind.u64 0), IV.sc (Value.slice none 0 0), IV.sc (Value.int IntKind.i64 0)] false))[J2.size + 2]? = some (IB.cells 0 (stc Bd.z 0 0) false) := by (repeat (first | with_reducible assumption | ((with_reducible refine gsE ?_ ?_); (focus omega); focus (first | omega | (simp only [Array.size_push, Array.size_setIfInBounds] <;> omega))) | ((with_reducible refine gsN ?_ ?_); focus omega) | ((with_reducible refine gpN ?_ ?_); focus (first | omega | (simp only [Array.size_push, Array.size_setIfInBounds] <;> omega))) | ((with_reducible refine gpE ?_); focus (first | omega | (simp only [Array.size_push, Array.size_setIfInBounds] <;> omega)))))
  have c4 : ((((((J2.push (IB.cells 0 (stc Bd.z 0 0) false)).push (IB.cells 0 [IV.sc (Value.int IntKind.u64 0), IV.sc (Value.slice none 0 0), IV.sc (Value.int IntKind.i64 0)] false)).setIfInBounds J2.size (IB.cells 0 (stc R.bd R.dice 1) false)).setIfInBounds (J2.size + 1) (IB.cells 0 (outC R s2) false)).push (IB.cells 0 (stc Bd.z 0 0) false)).push (IB.cells 0 [IV.sc (Value.int IntKind.u64 0), IV.sc (Value.slice none 0 0), IV.sc (Value.int IntKind.i64 0)] false))[J2.size + 3]? = some (IB.cells 0 [IV.sc (Value.int IntKind.u64 0), IV.sc (Value.slice none 0 0), IV.sc (Value.int IntKind.i64 0)] false) := by (repeat (first | with_reducible assumption | ((with_reducible refine gsE ?_ ?_); (focus omega); focus (first | omega | (simp only [Array.size_push, Array.size_setIfInBounds] <;> omega))) | ((with_reducible refine gsN ?_ ?_); focus omega) | ((with_reducible refine gpN ?_ ?_); focus (first | omega | (simp only [Array.size_push, Array.size_setIfInBounds] <;> omega))) | ((with_reducible refine gpE ?_); focus (first | omega | (simp only [Array.size_push, Array.size_setIfInBounds] <;> omega)))))
  generalize ((((((J2.push (IB.cells 0 (stc Bd.z 0 0) false)).push (IB.cells 0 [IV.sc (Value.int IntKind.u64 0), IV.sc (Value.slice none 0 0), IV.sc (Value.int IntKind.i64 0)] false)).setIfInBounds J2.size (IB.cells 0 (stc R.bd R.dice 1) false)).setIfInBounds (J2.size + 1) (IB.cells 0 (outC R s2) false)).push (IB.cells 0 (stc Bd.z 0 0) false)).push (IB.cells 0 [IV.sc (Value.int IntKind.u64 0), IV.sc (Value.slice none 0 0), IV.sc (Value.int IntKind.i64 0)] false)) = J3 at *
  have up : ∀ {d X}, J2[d]? = some X → J3[d]? = some X := fun h => by rw [f3.2 _ (lt_get h) (by simp)]; exact h
  have k0 := up k0
  have k1 := up k1
  have b1 := up b1
  have b2 := up b2
  have hic3 : iscells J3 1 out = some ((g.whole ms p).map m32) := by
    have kc3 : KeepC J2 J3 := fun d w cs f h => ⟨f, up h⟩
    exact kc3.cells hic
  have z3 := f3.1
  have t0 := lt_get b2
  have t4 := lt_get c4
  refine WP_bindC (app_grow hic3 hil hne (m32_ione _) (by rw [hwl]; exact fits4r (by omega))) fun v4 J4 hs4 => ?_
  obtain ⟨g4, f4, l4⟩ := hs4
  have up4 : ∀ {d X}, J3[d]? = some X → J4[d]? = some X := fun h => by rw [f4.2 _ (lt_get h) (by simp)]; exact h
  refine ⟨by simp -implicitDefEqProofs only [go_sem, dnW_ite, reduceIte, Nat.reduceAdd, Nat.reduceLeDiff, Nat.reduceMul, Nat.reduceEqDiff, Int.reduceLT, Int.reduceLE, Int.reduceToNat, Nat.reduceSub, Nat.reduceLT, Int.reduceEq, BitVec.reduceOfInt, BitVec.reduceOfNat, Int.reduceGT, Int.reduceGE, Int.reduceBEq, Int.reduceBNe, Nat.reduceGT, Nat.reduceBEq, Nat.reduceBNe, Int.reduceAdd, Int.reduceSub, Int.reduceNeg, k0, k1, up4 k0, up4 k1, blkF], ?_⟩
  have k0 := up4 k0
  have k1 := up4 k1
  have b1 := up4 b1
  have b2 := up4 b2
  have c1 := up4 c1
  have c2 := up4 c2
  have c3 := up4 c3
  have c4 := up4 c4
  have l4' : ∀ d, d < J3.size → d ∉ blk v4 := fun d hd hm => by have := l4 d hm; omega
  have z4 := f4.1
  simp -implicitDefEqProofs only [go_sem, dnW_ite, reduceIte, Nat.reduceAdd, Nat.reduceLeDiff, Nat.reduceMul, Nat.reduceEqDiff, Int.reduceLT, Int.reduceLE, Int.reduceToNat, Nat.reduceSub, Nat.reduceLT, Int.reduceEq, BitVec.reduceOfInt, BitVec.reduceOfNat, Int.reduceGT, Int.reduceGE, Int.reduceBEq, Int.reduceBNe, Nat.reduceGT, Nat.reduceBEq, Nat.reduceBNe, Int.reduceAdd, Int.reduceSub, Int.reduceNeg, ↓g4.blkF]
  refine WP_bindC (g4.app (m := mo.length) (ds := mo.map m32) (by omega) (by rw [hmo.cells, m32_cells]) (by rw [hmo.ilen, List.length_map]) (by simp) (m32_ione _) ?_) fun v5 J5 hs5 => ?_
  · rw [hwl]
    simp only [fits, Bool.and_eq_true, decide_eq_true_eq]; omega
  obtain ⟨g5, f5, l5⟩ := hs5
  have up5 : ∀ {d X}, d < J3.size → J4[d]? = some X → J5[d]? = some X := fun hd h => by rw [f5.2 _ (lt_get h) (l4' _ hd)]; exact h
  have q0 : (blk v4).contains 0 = false := by simpa using l4' 0 (by omega)
  have q1 : (blk v4).contains 1 = false := by simpa using l4' 1 (by omega)
  refine ⟨by simp -implicitDefEqProofs only [go_sem, dnW_ite, reduceIte, Nat.reduceAdd, Nat.reduceLeDiff, Nat.reduceMul, Nat.reduceEqDiff, Int.reduceLT, Int.reduceLE, Int.reduceToNat, Nat.reduceSub, Nat.reduceLT, Int.reduceEq, BitVec.reduceOfInt, BitVec.reduceOfNat, Int.reduceGT, Int.reduceGE, Int.reduceBEq, Int.reduceBNe, Nat.reduceGT, Nat.reduceBEq, Nat.reduceBNe, Int.reduceAdd, Int.reduceSub, Int.reduceNeg, k0, k1, q0, q1], ?_⟩
  have k0 := up5 (by omega) k0
  have k1 := up5 (by omega) k1
  have b1 := up5 (by omega) b1
  have b2 := up5 (by omega) b2
  have c1 := up5 (by omega) c1
  have c2 := up5 (by omega) c2
  have c3 := up5 (by omega) c3
  have c4 := up5 (by omega) c4
  rw [← List.map_append] at g5
  obtain ⟨u5, hu5, hul5⟩ := g5.frzE1 (m32_pure _) (m32_ione _)
  have hsh5 := g5.shows (m32_pure _)
  have hbl5 : ∀ d, d < J3.size → d ∉ blk v5 := fun d hd hm => by
    rcases l5 d hm with hm | hm
    · exact l4' d hd hm
    · omega
  obtain ⟨s6, hS6, hs6⟩ := hstep u5 _ hul5 ew2
  simp -implicitDefEqProofs only [go_sem, dnW_ite, reduceIte, Nat.reduceAdd, Nat.reduceLeDiff, Nat.reduceMul, Nat.reduceEqDiff, Int.reduceLT, Int.reduceLE, Int.reduceToNat, Nat.reduceSub, Nat.reduceLT, Int.reduceEq, BitVec.reduceOfInt, BitVec.reduceOfNat, Int.reduceGT, Int.reduceGE, Int.reduceBEq, Int.reduceBNe, Nat.reduceGT, Nat.reduceBEq, Nat.reduceBNe, Int.reduceAdd, Int.reduceSub, Int.reduceNeg]
  refine WP_callK (S := blk v5) (.pure (by simp [ipure, h.pure]) (.pure (by simp [ipure, sta_pure]) (.raw (hu5 11) hsh5 .nil))) hS6 fun J6 f6 z6 kc6 => ?_
  have up6 : ∀ {d X}, d < J3.size → J5[d]? = some X → J6[d]? = some X := fun hd h => by rw [f6.2 _ (lt_get h) (hbl5 _ hd)]; exact h
  have b1 := up6 (by omega) b1
  have b2 := up6 (by omega) b2
  have c1 := up6 (by omega) c1
  have c2 := up6 (by omega) c2
  have c3 := up6 (by omega) c3
  have c4 := up6 (by omega) c4
  simp -implicitDefEqProofs only [go_sem, dnW_ite, reduceIte, Nat.reduceAdd, Nat.reduceLeDiff, Nat.reduceMul, Nat.reduceEqDiff, Int.reduceLT, Int.reduceLE, Int.reduceToNat, Nat.reduceSub, Nat.reduceLT, Int.reduceEq, BitVec.reduceOfInt, BitVec.reduceOfNat, Int.reduceGT, Int.reduceGE, Int.reduceBEq, Int.reduceBNe, Nat.reduceGT, Nat.reduceBEq, Nat.reduceBNe, Int.reduceAdd, Int.reduceSub, Int.reduceNeg, b1, b2, c1, c2, c3, c4, inb b1, inb b2, inb c1, inb c2, inb c3, inb c4, sta_all, outC_one R hs6, Bool.and_self, beq_self_eq_true, show ¬ (J2.size + 2 = J.size) by omega, show ¬ (J2.size + 3 = J.size) by omega, show ¬ (J2.size + 2 = J.size + 1) by omega, show ¬ (J2.size + 3 = J.size + 1) by omega]
  exact hT _
theorem Defaults_ok (g : Gm) (x y : IV) (h : GR g x y) (hw : ∀ c ∈ g.code, c.wf) (hv : ∀ c ∈ g.cells, I32 c.v) (hc : g.cells.length ≤ 9223372036854775807) (hcd : g.code.length ≤ 9223372036854775807) (sd : Int) (mv more : IV) (ms mo : List (BitVec 32)) (hm : Ls 1 mv (ms.map m32)) (hml : ms.length ≤ 9223372036854775807) (hmo : Ls 1 more (mo.map m32)) (hmol : mo.length * 4 ≤ 140737488351232) :
    pc BI F_law10_RulesDefaults [.agg (gmc g x y), .int .u64 sd, mv, more] = some (.bool true) := by
  refine pcE fn_law10_RulesDefaults rfl fun K hK => ?_
  obtain ⟨_, hf, x3, y2, rfl, h2⟩ := gfew_ok g x y h hc hcd
  have hw2 := few_wf hw
  have hv2 := few_I32 hv
  obtain ⟨n1, n2⟩ := few_len g
  generalize g.few = G at *
  unfold l_law10_RulesDefaults
  cases hr : G.right with
  | false =>
    have hS := Start0_ok G x3 y2 h2 hr hw2 (by omega) (.sc (.slice none 0 0)) sd
    simp -implicitDefEqProofs only [go_sem, dnW_ite, reduceIte, Nat.reduceAdd, Nat.reduceLeDiff, Nat.reduceMul, Nat.reduceEqDiff, Int.reduceLT, Int.reduceLE, Int.reduceToNat, Nat.reduceSub, Nat.reduceLT, Int.reduceEq, BitVec.reduceOfInt, BitVec.reduceOfNat, Int.reduceGT, Int.reduceGE, Int.reduceBEq, Int.reduceBNe, Nat.reduceGT, Nat.reduceBEq, Nat.reduceBNe, Int.reduceAdd, Int.reduceSub, Int.reduceNeg, h.one, h2.one, dcp awake10 rfl, dcp hf (by simp [ipureL, ipure, h.pure]), dcp hS (by simp [ipureL, ipure, h2.pure]), sta_z]
    exact hK _ _ (frzE rfl rfl)
  | true =>
    have hS := Start_ok G x3 y2 h2 hr hw2 (.sc (.slice none 0 0)) [] .nil (by simp) sd
    obtain ⟨hp1, hp6, _⟩ := right_players hr
    obtain ⟨p, hp⟩ : ∃ p : Nat, G.players = p := ⟨G.players.toNat, by omega⟩
    simp -implicitDefEqProofs only [go_sem, dnW_ite, reduceIte, Nat.reduceAdd, Nat.reduceLeDiff, Nat.reduceMul, Nat.reduceEqDiff, Int.reduceLT, Int.reduceLE, Int.reduceToNat, Nat.reduceSub, Nat.reduceLT, Int.reduceEq, BitVec.reduceOfInt, BitVec.reduceOfNat, Int.reduceGT, Int.reduceGE, Int.reduceBEq, Int.reduceBNe, Nat.reduceGT, Nat.reduceBEq, Nat.reduceBNe, Int.reduceAdd, Int.reduceSub, Int.reduceNeg, h.one, h2.one, dcp awake10 rfl, dcp hf (by simp [ipureL, ipure, h.pure]), dcp hS (by simp [ipureL, ipure, h2.pure]), sta_z, hp, dn_loop]
    have hT : ∀ J', K (.ret [.bool true]) J' := fun J' => hK _ _ (frzE rfl rfl)
    have hb0 := bd0_ok G (right_48 hr).1 [] hv2 I32_nil
    generalize G.bd0 (right_48 hr).1 [] = b at *
    refine WP_range (by decide) p (fun i vs J' => ∃ out, vs = [mv, more, .ptr 0 0 0, .ptr 1 0 0, out, nI p, nI i] ∧ J'[0]? = some (.cells 0 (gmc G x3 y2) false) ∧ J'[1]? = some (.cells 0 (stc b sd 0) false) ∧ (∀ d ∈ blk out, 2 ≤ d) ∧ Grow J' out 1 ((G.whole ms i).map m32)) ?_ ⟨_, rfl, rfl, rfl, by simp [blk, blkOf], .nil⟩
    rintro i vs J ⟨out, rfl, h0, h1, hb, hg⟩ hi K1 g1 g2 g3
    have hl1 := lt_get h1
    unfold l_law10_RulesDefaults_k1
    by_cases hlt : i < p
    · have hw1 := wrapS hlt (show p ≤ 9223372036854775807 by omega)
      have fin : WP (dn BI l_law10_RulesDefaults_k0 [mv, more, .ptr 0 0 0, .ptr 1 0 0, out, m32 (G.mv ms i), nI p, nI i] J) K1 := by
        unfold l_law10_RulesDefaults_k0
        simp -implicitDefEqProofs only [go_sem, dnW_ite, reduceIte, Nat.reduceAdd, Nat.reduceLeDiff, Nat.reduceMul, Nat.reduceEqDiff, Int.reduceLT, Int.reduceLE, Int.reduceToNat, Nat.reduceSub, Nat.reduceLT, Int.reduceEq, BitVec.reduceOfInt, BitVec.reduceOfNat, Int.reduceGT, Int.reduceGE, Int.reduceBEq, Int.reduceBNe, Nat.reduceGT, Nat.reduceBEq, Nat.reduceBNe, Int.reduceAdd, Int.reduceSub, Int.reduceNeg, ipureL, ipure, grp, mkE, List.headD]
        refine WP_bind (hg.app (m := 1) (ds := [m32 (G.mv ms i)]) (by omega) rfl rfl rfl rfl (fits4r ?_)) fun out' J2 hs2 => ?_
        · rw [List.length_map, whole_len]; omega
        obtain ⟨k1, k2, k3⟩ := hs2
        simp -implicitDefEqProofs only [go_sem, dnW_ite, reduceIte, Nat.reduceAdd, Nat.reduceLeDiff, Nat.reduceMul, Nat.reduceEqDiff, Int.reduceLT, Int.reduceLE, Int.reduceToNat, Nat.reduceSub, Nat.reduceLT, Int.reduceEq, BitVec.reduceOfInt, BitVec.reduceOfNat, Int.reduceGT, Int.reduceGE, Int.reduceBEq, Int.reduceBNe, Nat.reduceGT, Nat.reduceBEq, Nat.reduceBNe, Int.reduceAdd, Int.reduceSub, Int.reduceNeg, hw1]
        refine g1 hlt _ _ ⟨out', rfl, by rw [k2.2 0 (lt_get h0) (fun hm => by have := hb _ hm; omega)]; exact h0, by rw [k2.2 1 (lt_get h1) (fun hm => by have := hb _ hm; omega)]; exact h1, fun d hd => ?_, ?_⟩
        · rcases k3 d hd with hc | hc
          · exact hb d hc
          · omega
        · rw [whole_succ, List.map_append]; exact k1
      by_cases hv : i < ms.length
      · have hat := fun J => hm.at (i := i) (by simpa using hv) (J := J)
        simp only [List.getElem_map] at hat
        have hL := Legal_ok G x3 y2 h2 ms[i]
        cases hc : G.legal ms[i] with
        | true =>
          rw [hc] at hL
          have e : G.mv ms i = ms[i] := by simp [Gm.mv, hv, hc]
          rw [e] at fin
          simp -implicitDefEqProofs only [go_sem, dnW_ite, reduceIte, Nat.reduceAdd, Nat.reduceLeDiff, Nat.reduceMul, Nat.reduceEqDiff, Int.reduceLT, Int.reduceLE, Int.reduceToNat, Nat.reduceSub, Nat.reduceLT, Int.reduceEq, BitVec.reduceOfInt, BitVec.reduceOfNat, Int.reduceGT, Int.reduceGE, Int.reduceBEq, Int.reduceBNe, Nat.reduceGT, Nat.reduceBEq, Nat.reduceBNe, Int.reduceAdd, Int.reduceSub, Int.reduceNeg, show ((i : Int) < (p : Int)) by omega, h0, hm.lenF, List.length_map, show ((i : Int) < (ms.length : Int)) by omega, hat, dcp hL (by simp [ipureL, ipure, h2.pure])]
          exact fin
        | false =>
          rw [hc] at hL
          have e : G.mv ms i = G.dflt := by simp [Gm.mv, hv, hc]
          rw [e] at fin
          simp -implicitDefEqProofs only [go_sem, dnW_ite, reduceIte, Nat.reduceAdd, Nat.reduceLeDiff, Nat.reduceMul, Nat.reduceEqDiff, Int.reduceLT, Int.reduceLE, Int.reduceToNat, Nat.reduceSub, Nat.reduceLT, Int.reduceEq, BitVec.reduceOfInt, BitVec.reduceOfNat, Int.reduceGT, Int.reduceGE, Int.reduceBEq, Int.reduceBNe, Nat.reduceGT, Nat.reduceBEq, Nat.reduceBNe, Int.reduceAdd, Int.reduceSub, Int.reduceNeg, show ((i : Int) < (p : Int)) by omega, h0, hm.lenF, List.length_map, show ((i : Int) < (ms.length : Int)) by omega, hat, dcp hL (by simp [ipureL, ipure, h2.pure])]
          exact fin
      · have e : G.mv ms i = G.dflt := by simp [Gm.mv, hv]
        rw [e] at fin
        simp -implicitDefEqProofs only [go_sem, dnW_ite, reduceIte, Nat.reduceAdd, Nat.reduceLeDiff, Nat.reduceMul, Nat.reduceEqDiff, Int.reduceLT, Int.reduceLE, Int.reduceToNat, Nat.reduceSub, Nat.reduceLT, Int.reduceEq, BitVec.reduceOfInt, BitVec.reduceOfNat, Int.reduceGT, Int.reduceGE, Int.reduceBEq, Int.reduceBNe, Nat.reduceGT, Nat.reduceBEq, Nat.reduceBNe, Int.reduceAdd, Int.reduceSub, Int.reduceNeg, show ((i : Int) < (p : Int)) by omega, h0, hm.lenF, List.length_map, show ¬ ((i : Int) < (ms.length : Int)) by omega]
        exact fin
    · simp -implicitDefEqProofs only [go_sem, dnW_ite, reduceIte, Nat.reduceAdd, Nat.reduceLeDiff, Nat.reduceMul, Nat.reduceEqDiff, Int.reduceLT, Int.reduceLE, Int.reduceToNat, Nat.reduceSub, Nat.reduceLT, Int.reduceEq, BitVec.reduceOfInt, BitVec.reduceOfNat, Int.reduceGT, Int.reduceGE, Int.reduceBEq, Int.reduceBNe, Nat.reduceGT, Nat.reduceBEq, Nat.reduceBNe, Int.reduceAdd, Int.reduceSub, Int.reduceNeg, show ¬ ((i : Int) < (p : Int)) by omega]
      obtain rfl : i = p := by omega
      exact g2 _ _ (defaults_k2 G x3 y2 h2 hr hw2 b hb0 sd mv more ms mo hm hmo hmol i hp out J h0 h1 hg hb K hT)
end Go.Proofs.Ytcdlipdeemlibaa.G
