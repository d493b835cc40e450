/- Joined: C4 to RT1. -/
import Derived.Test.YtcdlipdeemlibaaXG
import Derived.KernelRfl
set_option linter.unusedVariables false
set_option linter.unusedSimpArgs false
namespace Go.Proofs.Ytcdlipdeemlibaa.G
open Go
set_option linter.unusedSimpArgs false
set_option linter.unusedVariables false
set_option maxRecDepth 20000
theorem rCheck_ok (x : IV) (l : List Cd) (hx : Ls 6 x (l.map Cd.e)) (hw : ∀ c ∈ l, c.wf) (cells players : Nat) (hc : cells ≤ 1000000) (hp : players ≤ 1000000) :
    ∃ k : Int, pc BI F_ref08_Check [x, nI cells, nI players] = some (.int .i64 k) ∧ (k ≥ 0 ↔ rightL l cells players = false) := by
  have : ∃ u, pc BI F_ref08_Check [x, nI cells, nI players] = some u ∧ ∃ k : Int, u = .int .i64 k ∧ (k ≥ 0 ↔ rightL l cells players = false) := by
    refine pcW fn_ref08_Check rfl fun K hK => ?_
    unfold l_ref08_Check
    by_cases h96 : l.length > 96
    · have h' : (l.length : Int) > 96 := by omega
      simp -implicitDefEqProofs only [go_sem, dnW_ite, reduceIte, Nat.reduceAdd, Nat.reduceLeDiff, Nat.reduceMul, Nat.reduceEqDiff, Int.reduceLT, Int.reduceLE, Int.reduceToNat, Nat.reduceSub, Nat.reduceLT, Int.reduceEq, BitVec.reduceOfInt, BitVec.reduceOfNat, Int.reduceGT, Int.reduceGE, Int.reduceBEq, Int.reduceBNe, Nat.reduceGT, Nat.reduceBEq, Nat.reduceBNe, Int.reduceAdd, Int.reduceSub, Int.reduceNeg, hx.lenF, List.length_map, h']
      exact hK _ _ _ (frzP rfl) ⟨96, rfl, by simp [rightL, show ¬ l.length ≤ 96 by omega]⟩
    have h' : ¬ (l.length : Int) > 96 := by omega
    simp -implicitDefEqProofs only [go_sem, dnW_ite, reduceIte, Nat.reduceAdd, Nat.reduceLeDiff, Nat.reduceMul, Nat.reduceEqDiff, Int.reduceLT, Int.reduceLE, Int.reduceToNat, Nat.reduceSub, Nat.reduceLT, Int.reduceEq, BitVec.reduceOfInt, BitVec.reduceOfNat, Int.reduceGT, Int.reduceGE, Int.reduceBEq, Int.reduceBNe, Nat.reduceGT, Nat.reduceBEq, Nat.reduceBNe, Int.reduceAdd, Int.reduceSub, Int.reduceNeg, hx.lenF, List.length_map, h', dn_loop]
    refine WP_range (by decide) l.length (fun i vs J => vs = [x, nI cells, nI players, x, nI l.length, nI i] ∧ (l.take i).all (fun x => x.right l.length cells players) = true) ?_ ⟨rfl, rfl⟩
    rintro i vs J ⟨rfl, ha⟩ hi K1 g1 g2 g3
    unfold l_ref08_Check_k0
    by_cases h : i < l.length
    · have hat := fun J => hx.at (i := i) (by simpa using h) (J := J)
      simp only [List.getElem_map, Cd.e, Cd.cs] at hat
      have hr := rRight_ok l[i] (hw _ (List.getElem_mem h)) l.length cells players (by omega) hc hp
      rw [List.take_succ_eq_append_getElem h, List.all_append, ha] at g1
      simp only [Cd.e, Cd.cs] at hr
      cases hv : l[i].right l.length cells players with
      | true =>
        rw [hv] at hr
        simp -implicitDefEqProofs only [go_sem, dnW_ite, reduceIte, Nat.reduceAdd, Nat.reduceLeDiff, Nat.reduceMul, Nat.reduceEqDiff, Int.reduceLT, Int.reduceLE, Int.reduceToNat, Nat.reduceSub, Nat.reduceLT, Int.reduceEq, BitVec.reduceOfInt, BitVec.reduceOfNat, Int.reduceGT, Int.reduceGE, Int.reduceBEq, Int.reduceBNe, Nat.reduceGT, Nat.reduceBEq, Nat.reduceBNe, Int.reduceAdd, Int.reduceSub, Int.reduceNeg, show ((i : Int) < (l.length : Int)) by omega, hat, hx.lenF, List.length_map, dcp hr (by simp [ipureL, ipure]), wrapS h (show l.length ≤ 9223372036854775807 by omega)]
        exact g1 h _ _ ⟨rfl, by simp [hv]⟩
      | false =>
        rw [hv] at hr
        simp -implicitDefEqProofs only [go_sem, dnW_ite, reduceIte, Nat.reduceAdd, Nat.reduceLeDiff, Nat.reduceMul, Nat.reduceEqDiff, Int.reduceLT, Int.reduceLE, Int.reduceToNat, Nat.reduceSub, Nat.reduceLT, Int.reduceEq, BitVec.reduceOfInt, BitVec.reduceOfNat, Int.reduceGT, Int.reduceGE, Int.reduceBEq, Int.reduceBNe, Nat.reduceGT, Nat.reduceBEq, Nat.reduceBNe, Int.reduceAdd, Int.reduceSub, Int.reduceNeg, show ((i : Int) < (l.length : Int)) by omega, hat, hx.lenF, List.length_map, dcp hr (by simp [ipureL, ipure])]
        refine g3 _ _ (hK _ _ _ (frzP rfl) ⟨i, rfl, ?_⟩)
        have : ¬ (l.all fun x => x.right l.length cells players) = true := fun hh => by
          rw [List.all_eq_true] at hh
          have := hh _ (List.getElem_mem h)
          rw [hv] at this; cases this
        simp only [Bool.not_eq_true] at this
        simp [rightL, this]
    · simp -implicitDefEqProofs only [go_sem, dnW_ite, reduceIte, Nat.reduceAdd, Nat.reduceLeDiff, Nat.reduceMul, Nat.reduceEqDiff, Int.reduceLT, Int.reduceLE, Int.reduceToNat, Nat.reduceSub, Nat.reduceLT, Int.reduceEq, BitVec.reduceOfInt, BitVec.reduceOfNat, Int.reduceGT, Int.reduceGE, Int.reduceBEq, Int.reduceBNe, Nat.reduceGT, Nat.reduceBEq, Nat.reduceBNe, Int.reduceAdd, Int.reduceSub, Int.reduceNeg, show ¬ ((i : Int) < (l.length : Int)) by omega]
      refine g2 _ _ ?_
      unfold l_ref08_Check_k1
      simp -implicitDefEqProofs only [go_sem, dnW_ite, reduceIte, Nat.reduceAdd, Nat.reduceLeDiff, Nat.reduceMul, Nat.reduceEqDiff, Int.reduceLT, Int.reduceLE, Int.reduceToNat, Nat.reduceSub, Nat.reduceLT, Int.reduceEq, BitVec.reduceOfInt, BitVec.reduceOfNat, Int.reduceGT, Int.reduceGE, Int.reduceBEq, Int.reduceBNe, Nat.reduceGT, Nat.reduceBEq, Nat.reduceBNe, Int.reduceAdd, Int.reduceSub, Int.reduceNeg]
      refine hK _ _ _ (frzP rfl) ⟨-1, rfl, ?_⟩
      rw [List.take_of_length_le (by omega)] at ha
      simp [rightL, ha, show l.length ≤ 96 by omega]
  obtain ⟨u, h1, k, rfl, h2⟩ := this
  exact ⟨k, h1, h2⟩
end Go.Proofs.Ytcdlipdeemlibaa.G
namespace Go.Proofs.Ytcdlipdeemlibaa.G
open Go
set_option linter.unusedSimpArgs false
set_option linter.unusedVariables false
set_option maxRecDepth 20000
set_option maxHeartbeats 1000000
theorem named_err (E : Me) (m : Mc) (x : Cd) : (named E m x).2.2 ≠ 2 := by
  unfold named; split
  · decide
  · split
    · decide
    · show (0 : Nat) ≠ 2; decide
theorem reachF_err (E : Me) (m : Mc) (x : Cd) (h : m.err ≠ 2) : (reachF E m x).err ≠ 2 := by
  unfold reachF
  split
  · split
    · exact h
    · exact named_err E m x
  · split
    · exact h
    · exact named_err E m x
  · unfold revealF; split
    · exact named_err E m x
    · exact named_err E m x
  · have := fillN_same x.n.toNat (shufL m.dice (x.c - 1) (rowV m x.n.toNat x.c)).1 x.c { m with dice := (shufL m.dice (x.c - 1) (rowV m x.n.toNat x.c)).2 }
    rw [shuffleF, this.2.2.2.2.1]; exact h
  · exact h
theorem followF_err (E : Me) (m : Mc) (x : Cd) (h : m.err ≠ 2) : (followF E m x).err ≠ 2 := by
  unfold followF
  simp only
  split <;> first | exact h | exact reachF_err E m.go x h | skip
  split
  · split <;> exact h
  · show (8 : Nat) ≠ 2; decide
theorem loopF_err (E : Me) (l : List Cd) : ∀ (k : Nat) (m : Mc), m.err ≠ 2 → (loopF E l k m).err ≠ 2
  | 0, m, h => by
    rw [loopF]; split
    · show (9 : Nat) ≠ 2; decide
    · exact h
  | k + 1, m, h => by
    rw [loopF]
    split
    · split
      · exact h
      · exact loopF_err E l k _ (followF_err E _ _ h)
    · exact h
theorem runF_err (E : Me) (l : List Cd) (b : Bd) (d : Int) (h : rightL l b.l.length E.moves.length = true) : (runF E l b d).err ≠ 2 := by
  unfold runF
  rw [if_neg (by rw [h]; decide)]
  have := loopF_err E l 400 (start E b d) (by show (0 : Nat) ≠ 2; decide)
  split
  · exact this
  · show (0 : Nat) ≠ 2; decide
def bd48 (c : List Cl) : Bd := ⟨c.take 48, by simp; omega⟩
theorem bd48_new (c : List Cl) : Bd.new (c.take 48) = bd48 c := by
  have h : (c.take 48).length ≤ 48 := by simp; omega
  exact dif_pos h
theorem bd48_ok {c : List Cl} (h : ∀ x ∈ c, I32 x.v) : (bd48 c).ok := fun x hx => h x (List.mem_of_mem_take hx)
theorem New48 (y : IV) (c : List Cl) (hy : Ls 2 y ((c.take 48).map Cl.e)) : pc BI F_board_New [y] = some (.tup [.agg (bdc (bd48 c)), .int .i64 0]) := by
  have := New_ok y (c.take 48) hy (by simp; omega)
  rw [bd48_new, if_pos (by simp; omega)] at this
  exact this
theorem eq_one (d : Int) : iaggEq [.int .u64 d] [.int .u64 d] = some true := by simp [iaggEq]
end Go.Proofs.Ytcdlipdeemlibaa.G
namespace Go.Proofs.Ytcdlipdeemlibaa.G
open Go
set_option linter.unusedSimpArgs false
set_option linter.unusedVariables false
set_option maxRecDepth 20000
set_option maxHeartbeats 1000000
theorem bit_get {i : Int} (h0 : 0 ≤ i) (h : i < 64) (j : Nat) : (bit i).getLsbD j = decide (j = i.toNat) := by
  unfold bit
  rw [BitVec.getLsbD_shiftLeft]
  by_cases e : j = i.toNat
  · subst e
    simp; omega
  · by_cases hlt : j < i.toNat
    · simp [hlt, e]
    · have : j - i.toNat ≠ 0 := by omega
      simp [e, BitVec.getLsbD_one, this]
theorem within_self (m : BitVec 32) : within m m = true := by
  unfold within
  rw [beq_iff_eq]
  apply BitVec.eq_of_getLsbD_eq
  intro i hi
  simp
theorem within_or (m n : BitVec 32) : within m (m ||| n) = true := by
  unfold within
  rw [beq_iff_eq]
  apply BitVec.eq_of_getLsbD_eq
  intro i hi
  simp only [BitVec.getLsbD_and, BitVec.getLsbD_not, BitVec.getLsbD_or, BitVec.getLsbD_zero]
  cases m.getLsbD i <;> simp
theorem within_iff {m n : BitVec 32} : within m n = true ↔ ∀ i, m.getLsbD i = true → n.getLsbD i = true := by
  unfold within
  rw [beq_iff_eq]
  constructor
  · intro h i hi
    have := congrArg (fun z => BitVec.getLsbD z i) h
    simp only [BitVec.getLsbD_and, BitVec.getLsbD_not, BitVec.getLsbD_zero, hi, Bool.true_and] at this
    have hlt : i < 32 := BitVec.lt_of_getLsbD hi
    simpa [hlt] using this
  · intro h
    apply BitVec.eq_of_getLsbD_eq
    intro i hi
    simp only [BitVec.getLsbD_and, BitVec.getLsbD_not, BitVec.getLsbD_zero]
    cases hm : m.getLsbD i with
    | false => simp
    | true => simp [h i hm]
theorem within_trans {a b c : BitVec 32} (h : within a b = true) (k : within b c = true) : within a c = true := by
  rw [within_iff] at *
  exact fun i hi => k i (h i hi)
structure KP (b : Bd) (ns : Bool) (m : Mc) : Prop where
  len : m.bd.l.length = b.l.length
  kept : ∀ i, m.touched.getLsbD i = false → m.bd.l[i]? = b.l[i]?
  high : ∀ i, b.l.length ≤ i → m.touched.getLsbD i = false
  lab : ns = true → ∀ (i : Nat) (c : Cl), b.l[i]? = some c → ∃ c' : Cl, m.bd.l[i]? = some c' ∧ c'.v = c.v ∧ within c.s c'.s = true
variable {b : Bd} {ns : Bool} {m : Mc} {E : Me}
theorem KP.set (h : KP b ns m) {i : Int} (hi : m.bd.there i = true) (c : Cl) (bd : Bd) (hb : bd.l = m.bd.l.set i.toNat c) (hc : ns = true → c.v = (m.bd.at i).v ∧ within (m.bd.at i).s c.s = true) : KP b ns { m with bd := bd, touched := m.touched ||| bit i } := by
  have hbl := b.h
  have hlen := h.len
  obtain ⟨h0, h1⟩ : 0 ≤ i ∧ i < (m.bd.l.length : Int) := by simpa [Bd.there] using hi
  refine ⟨by rw [hb, List.length_set]; exact h.len, fun j hj => ?_, fun j hj => ?_, fun hn j d hd => ?_⟩
  · simp only [BitVec.getLsbD_or, bit_get h0 (by omega), Bool.or_eq_false_iff, decide_eq_false_iff_not] at hj
    rw [hb, List.getElem?_set_ne (fun e => hj.2 e.symm)]
    exact h.kept j hj.1
  · simp only [BitVec.getLsbD_or, bit_get h0 (by omega), Bool.or_eq_false_iff, decide_eq_false_iff_not]
    exact ⟨h.high j hj, by omega⟩
  · obtain ⟨c', k1, k2, k3⟩ := h.lab hn j d hd
    rw [hb]
    by_cases e : i.toNat = j
    · subst e
      have hlt : i.toNat < m.bd.l.length := by omega
      refine ⟨c, by simp [hlt], ?_⟩
      obtain ⟨c1, c2⟩ := hc hn
      have ea : m.bd.at i = c' := by simp [Bd.at, List.getD_eq_getElem?_getD, k1]
      rw [ea] at c1 c2
      exact ⟨c1.trans k2, within_trans k3 c2⟩
    · rw [List.getElem?_set_ne e]
      exact ⟨c', k1, k2, k3⟩
theorem KP.same (h : KP b ns m) {m' : Mc} (h1 : m'.bd = m.bd) (h2 : m'.touched = m.touched) : KP b ns m' := ⟨by rw [h1]; exact h.len, by rw [h1, h2]; exact h.kept, by rw [h2]; exact h.high, by rw [h1]; exact h.lab⟩
theorem KP.put (h : KP b false m) {i : Int} (hi : m.bd.there i = true) (c : Cl) : KP b false { m with bd := m.bd.put i c, touched := m.touched ||| bit i } :=
  h.set hi c _ (by rw [Bd.put, if_pos hi]; rfl) (fun e => by cases e)
theorem KP.show (h : KP b ns m) {i : Int} (hi : m.bd.there i = true) (to : BitVec 32) : KP b ns { m with bd := m.bd.show i to, touched := m.touched ||| bit i } :=
  h.set hi ⟨(m.bd.at i).v, (m.bd.at i).s ||| to⟩ _ (by rw [Bd.show, if_pos hi]; rfl) (fun _ => ⟨rfl, within_or _ _⟩)
theorem KP.fill {start : Nat} {out : List Int} : ∀ (k : Nat) (m : Mc), KP b false m → start + k ≤ m.bd.l.length → KP b false (fillN m start out k)
  | 0, m, h, _ => h
  | k + 1, m, h, hk => by
    have ih := KP.fill (start := start) (out := out) k m h (by omega)
    have hl := fillN_len m start out k
    exact ih.put (by simp only [Bd.there, hl, decide_eq_true_eq]; omega) _
def isStore (x : Cd) : Bool := x.op == 3 || x.op == 5 || x.op == 24
theorem KP.reach (h : KP b ns m) (x : Cd) {size : Nat} (hr : x.right size m.bd.l.length E.moves.length = true) (hn : ns = true → isStore x = false) : KP b ns (reachF E m x) := by
  have hf : isStore x = true → ns = false := fun e => by cases ns with | false => rfl | true => rw [hn rfl] at e; cases e
  unfold reachF
  split
  · split
    · exact h.same rfl rfl
    · exact h.same rfl rfl
  · rename_i hop
    obtain rfl := hf (by simp [isStore, hop])
    split
    · rename_i hnm
      exact h.put (named_ok hnm).1 _
    · exact h.same rfl rfl
  · unfold revealF
    split
    · exact h.same rfl rfl
    · rename_i hnm
      have := h.show (named_ok (by simpa using hnm)).1 (Sh.one m x E.all (named E m x).1)
      exact this.same rfl rfl
  · rename_i hop
    obtain rfl := hf (by simp [isStore, hop])
    simp [Cd.right, hop, useOf] at hr
    have h' : KP b false { m with dice := (shufL m.dice (x.c - 1) (rowV m x.n.toNat x.c)).2 } := h.same rfl rfl
    exact KP.fill x.c _ h' (by show x.n.toNat + x.c ≤ m.bd.l.length; omega)
  · exact h
theorem KP.follow (h : KP b ns m) (x : Cd) {size : Nat} (hr : x.right size m.bd.l.length E.moves.length = true) (hn : ns = true → isStore x = false) : KP b ns (followF E m x) := by
  have hg : KP b ns m.go := h.same rfl rfl
  have hf : isStore x = true → ns = false := fun e => by cases ns with | false => rfl | true => rw [hn rfl] at e; cases e
  unfold followF
  simp only
  split
  all_goals first
    | exact hg.same rfl rfl
    | exact hg.reach x hr hn
    | skip
  · rename_i hop
    obtain rfl := hf (by simp [isStore, hop])
    simp [Cd.right, hop, useOf, nOk] at hr
    exact hg.put (decide_eq_true hr.1.1.1.1) _
  · split
    · split
      · exact hg.same rfl rfl
      · exact hg
    · exact hg.same rfl rfl
theorem followF_len (x : Cd) {size : Nat} (h : KP b ns m) (hr : x.right size m.bd.l.length E.moves.length = true) (hn : ns = true → isStore x = false) : (followF E m x).bd.l.length = m.bd.l.length := by
  rw [(h.follow x hr hn).len, h.len]
theorem KP.loop (l : List Cd) (hr : ∀ x ∈ l, x.right l.length b.l.length E.moves.length = true) (hn : ns = true → ∀ x ∈ l, isStore x = false) : ∀ (k : Nat) (m : Mc), KP b ns m → KP b ns (loopF E l k m)
  | 0, m, h => by
    rw [loopF]; split
    · exact h.same rfl rfl
    · exact h
  | k + 1, m, h => by
    rw [loopF]
    split
    · rename_i hc
      have hm := List.getElem_mem hc.2
      have e : l.getD m.pc ⟨0, 0, 0, 0, 0, 0⟩ = l[m.pc] := by simp [hc.2]
      rw [e]
      split
      · exact h.same rfl rfl
      · have h' : KP b ns { m with used := m.used + 1 } := h.same rfl rfl
        exact KP.loop l hr hn k _ (h'.follow l[m.pc] (by show l[m.pc].right l.length m.bd.l.length _ = true; rw [h.len]; exact hr _ hm) (fun e => hn e _ hm))
    · exact h
theorem KP.start (d : Int) : KP b ns (Go.Proofs.Ytcdlipdeemlibaa.G.start E b d) := ⟨rfl, fun _ _ => rfl, fun _ _ => by simp [Go.Proofs.Ytcdlipdeemlibaa.G.start], fun _ i c h => ⟨c, h, rfl, within_self _⟩⟩
theorem loop_used (l : List Cd) (hr : ∀ x ∈ l, x.right l.length b.l.length E.moves.length = true) (hE : E.ok) (hw : ∀ x ∈ l, x.wf) : ∀ (k : Nat) (m : Mc), m.ok b.l.length l.length → (loopF E l k m).used ≤ m.used + k
  | 0, m, h => by
    rw [loopF]; split
    · exact Nat.le_refl _
    · exact Nat.le_refl _
  | k + 1, m, h => by
    rw [loopF]
    split
    · rename_i hc
      have hm := List.getElem_mem hc.2
      have e : l.getD m.pc ⟨0, 0, 0, 0, 0, 0⟩ = l[m.pc] := by simp [hc.2]
      rw [e]
      split
      · show m.used + 1 ≤ _; omega
      · have hok' : ({ m with used := m.used + 1 } : Mc).ok b.l.length l.length := ⟨h.r, h.bd, h.len, h.pc⟩
        have hnice := followF_nice hE hok' hc.2 l[m.pc] (hw _ hm) (hr _ hm)
        have := loop_used l hr hE hw k _ hnice.ok
        rw [hnice.used] at this
        have e2 : ({ m with used := m.used + 1 } : Mc).used = m.used + 1 := rfl
        omega
    · omega
end Go.Proofs.Ytcdlipdeemlibaa.G
namespace Go.Proofs.Ytcdlipdeemlibaa.G
open Go
set_option linter.unusedSimpArgs false
set_option linter.unusedVariables false
set_option maxRecDepth 20000
set_option maxHeartbeats 2000000
theorem keeps_run {E : Me} (hE : E.ok) (l : List Cd) (hw : ∀ x ∈ l, x.wf) (b : Bd) (hb : b.ok) (d : Int) (ns : Bool) (hn : ns = true → ∀ x ∈ l, isStore x = false) :
    ((runF E l b d).err ≠ 0 → (runF E l b d).bd = b ∧ (runF E l b d).dice = d ∧ (runF E l b d).touched = 0#64 ∧ (runF E l b d).used ≤ 400) ∧
    ((runF E l b d).err = 0 → ∃ m : Mc, KP b ns m ∧ (runF E l b d).bd = m.bd ∧ (runF E l b d).touched = m.touched) := by
  unfold runF
  split
  · exact ⟨fun _ => ⟨rfl, rfl, rfl, Nat.zero_le _⟩, fun h => by cases h⟩
  · rename_i hR
    have hall : l.length ≤ 96 ∧ ∀ x ∈ l, x.right l.length b.l.length E.moves.length = true := by
      simpa [rightL] using hR
    have hst : (start E b d).ok b.l.length l.length := ⟨fun i hi => by
      have : ((start E b d).r.at i).v = 0 := by
        show ((regs0 E.all).at i).v = 0
        rw [rg_at _ hi]; simp only [regs0, List.getElem_replicate]
      rw [this]; exact I32_0, hb, rfl, Nat.zero_le _⟩
    split
    · refine ⟨fun _ => ⟨rfl, rfl, rfl, ?_⟩, fun h => absurd h (by assumption)⟩
      have := loop_used l hall.2 hE hw 400 (start E b d) hst
      have e : (start E b d).used = 0 := rfl
      show (loopF E l 400 (start E b d)).used ≤ 400
      omega
    · exact ⟨fun h => absurd rfl h, fun _ => ⟨loopF E l 400 (start E b d), KP.loop l hall.2 hn 400 _ (KP.start d), rfl, rfl⟩⟩
/-- a bit that is looked at -/
theorem bit_test (t : BitVec 64) (i : Nat) : (Int.tmod ((t >>> i).toNat : Int) 2 == 0) = !t.getLsbD i := by
  have e : Int.tmod ((t >>> i).toNat : Int) 2 = (((t >>> i).toNat % 2 : Nat) : Int) := rfl
  rw [e]
  have h : t.getLsbD i = (t >>> i).toNat.testBit 0 := by
    rw [BitVec.testBit_toNat, BitVec.getLsbD_ushiftRight, Nat.add_zero]
  rw [h, Nat.testBit_zero]
  have : (t >>> i).toNat % 2 = 0 ∨ (t >>> i).toNat % 2 = 1 := by omega
  rcases this with h2 | h2 <;> rw [h2] <;> rfl
theorem shr_zero {t : BitVec 64} {n : Nat} (h : ∀ i, n ≤ i → t.getLsbD i = false) : t >>> n = 0#64 := by
  apply BitVec.eq_of_getLsbD_eq
  intro i hi
  rw [BitVec.getLsbD_ushiftRight, h (n + i) (by omega)]; simp
theorem bd_at {b : Bd} {i : Nat} {c : Cl} (h : b.l[i]? = some c) : b.at (i : Int) = c := by simp [Bd.at, List.getD_eq_getElem?_getD, h]
theorem push_set1 {α : Type} (J : Array α) (A X Y : α) : ((J.push A).push X).setIfInBounds (J.size + 1) Y = (J.push A).push Y := by
  have := push_set (J.push A) X Y
  rwa [Array.size_push] at this
attribute [go_sem] push_set1
theorem eqAgg_cl (a b : Cl) : iaggEq [.int .i32 a.v, m32 a.s] [.int .i32 b.v, m32 b.s] = some (decide (a = b)) := by
  simp only [iaggEq, if_true, beqB, Bool.and_true]
  congr 1
  rw [Bool.eq_iff_iff]
  cases a; cases b
  simp
theorem playersF_len (l : List Int) : (playersF l).length ≤ 6 := by
  unfold playersF; split <;> simp; omega
theorem playersF_rng {l : List Int} (h : ∀ v ∈ l, I32 v) : ∀ v ∈ playersF l, I32 v := by
  unfold playersF; split
  · intro v hv; simp at hv; subst hv; exact I32_0
  · exact fun v hv => h v (List.mem_of_mem_take hv)
end Go.Proofs.Ytcdlipdeemlibaa.G
namespace Go.Proofs.Ytcdlipdeemlibaa.G
open Go
set_option linter.unusedSimpArgs false
set_option linter.unusedVariables false
set_option maxRecDepth 20000
set_option maxHeartbeats 1000000
/-- Cells that one sees alike. -/
def CE (P : BitVec 32 → Bool) (a b : Cl) : Prop := a.s = b.s ∧ (P a.s = true → a.v = b.v)
theorem CE.refl (P) (a : Cl) : CE P a a := ⟨rfl, fun _ => rfl⟩
/-- Boards that one sees alike. -/
def BE (P : BitVec 32 → Bool) (a b : Bd) : Prop := a.l.length = b.l.length ∧ ∀ i : Int, CE P (a.at i) (b.at i)
/-- Shows of like cells, to the like. -/
def SE (a b : List Sh) : Prop := a.map (fun s => (s.cell, s.to)) = b.map (fun s => (s.cell, s.to))
structure ME (P : BitVec 32 → Bool) (m n : Mc) : Prop where
  bd : BE P m.bd n.bd
  touched : m.touched = n.touched
  shows : SE m.shows n.shows
  used : m.used = n.used
  err : m.err = n.err
  r : ∀ i, i < 8 → CE P (m.r.at i) (n.r.at i)
  pc : m.pc = n.pc
/-- Who sees what: what all see one sees; of two labels' meet one sees both. -/
structure PO (P : BitVec 32 → Bool) (all : BitVec 32) : Prop where
  all : ∀ s, within all s = true → P s = true
  meet : ∀ a b, P (a &&& b) = true → P a = true ∧ P b = true
  zero : P 0#32 = false
/-- The environments of both. -/
structure EE (P : BitVec 32 → Bool) (E F : Me) : Prop where
  all : E.all = F.all
  tick : E.tick = F.tick
  moves : ∀ i : Int, P (oneM i) = true → E.moves.getD i.toNat 0 = F.moves.getD i.toNat 0
variable {P : BitVec 32 → Bool} {E F : Me} {m n : Mc}
theorem BE.there {a b : Bd} (h : BE P a b) (i : Int) : a.there i = b.there i := by simp only [Bd.there, h.1]
theorem Bd.at_set (b : Bd) {i : Nat} (hi : i < b.l.length) (c : Cl) (j : Int) : (b.set i c).at j = if j.toNat = i then c else b.at j := by
  simp only [Bd.at, Bd.set, List.getD_eq_getElem?_getD, List.getElem?_set]
  by_cases h : i = j.toNat
  · subst h; simp [hi]
  · simp [h, Ne.symm h]
theorem BE.put {a b : Bd} (h : BE P a b) (i : Int) {c d : Cl} (hc : CE P c d) : BE P (a.put i c) (b.put i d) := by
  refine ⟨by rw [put_len, put_len]; exact h.1, fun j => ?_⟩
  unfold Bd.put
  rw [h.there i]
  by_cases ht : b.there i = true
  · have h1 : i.toNat < b.l.length := by simp [Bd.there] at ht; omega
    rw [if_pos ht, if_pos ht, Bd.at_set _ (by rw [h.1]; exact h1), Bd.at_set _ h1]
    split
    · exact hc
    · exact h.2 j
  · rw [if_neg ht, if_neg ht]; exact h.2 j
theorem BE.show {a b : Bd} (h : BE P a b) (i : Int) {to : BitVec 32} (hc : P ((a.at i).s ||| to) = true → (a.at i).v = (b.at i).v) : BE P (a.show i to) (b.show i to) := by
  refine ⟨by rw [show_len, show_len]; exact h.1, fun j => ?_⟩
  unfold Bd.show
  rw [h.there i]
  by_cases ht : b.there i = true
  · have h1 : i.toNat < b.l.length := by simp [Bd.there] at ht; omega
    rw [if_pos ht, if_pos ht, Bd.at_set _ (by rw [h.1]; exact h1), Bd.at_set _ h1]
    split
    · exact ⟨by show _ ||| to = _ ||| to; rw [(h.2 i).1], hc⟩
    · exact h.2 j
  · rw [if_neg ht, if_neg ht]; exact h.2 j
theorem Rset {r q : Rg} (h : ∀ i, i < 8 → CE P (r.at i) (q.at i)) {k : Nat} (hk : k < 8) {c d : Cl} (hc : CE P c d) : ∀ i, i < 8 → CE P ((r.set k c).at i) ((q.set k d).at i) := by
  intro i hi
  rw [Rg.at_set _ _ _ hk, Rg.at_set _ _ _ hk]
  split
  · exact hc
  · exact h i hi
theorem named_eq (hP : PO P E.all) (hE : EE P E F) (h : ME P m n) (x : Cd) (hb : x.b < 8) : named E m x = named F n x := by
  have hr := h.r x.b hb
  unfold named
  rw [← hE.all, ← hr.1, ← h.bd.1]
  by_cases hw : within E.all (m.r.at x.b).s = false
  · rw [if_pos hw, if_pos hw]
  · rw [if_neg hw, if_neg hw, ← hr.2 (hP.all _ (by simpa using hw))]
theorem bitEq (i : Int) : bit i = bit i := rfl
theorem ME.setR (h : ME P m n) {k : Nat} (hk : k < 8) {c d : Cl} (hc : CE P c d) : ME P { m with r := m.r.set k c } { n with r := n.r.set k d } := ⟨h.bd, h.touched, h.shows, h.used, h.err, Rset h.r hk hc, h.pc⟩
theorem ME.put (h : ME P m n) (i : Int) {c d : Cl} (hc : CE P c d) : ME P { m with bd := m.bd.put i c, touched := m.touched ||| bit i } { n with bd := n.bd.put i d, touched := n.touched ||| bit i } := ⟨h.bd.put i hc, by show _ ||| _ = _ ||| _; rw [h.touched], h.shows, h.used, h.err, h.r, h.pc⟩
theorem CE.z (hz : P 0#32 = false) (a b : Int) : CE P ⟨a, 0#32⟩ ⟨b, 0#32⟩ := ⟨rfl, fun h => by rw [hz] at h; cases h⟩
theorem ME.fill (hz : P 0#32 = false) (start : Nat) (o1 o2 : List Int) : ∀ (k : Nat) (m n : Mc), ME P m n → ME P (fillN m start o1 k) (fillN n start o2 k)
  | 0, m, n, h => h
  | k + 1, m, n, h => (ME.fill hz start o1 o2 k m n h).put _ (CE.z hz _ _)
theorem ME.errs (h : ME P m n) (e : Nat) : ME P { m with err := e } { n with err := e } := ⟨h.bd, h.touched, h.shows, h.used, rfl, h.r, h.pc⟩
theorem SE.app {a b c d : List Sh} (h : SE a b) (k : SE c d) : SE (a ++ c) (b ++ d) := by
  unfold SE at *
  rw [List.map_append, List.map_append, h, k]
/-- What is shown to one is the same. -/
def Tell (P : BitVec 32 → Bool) (a b : List Sh) : Prop := ∀ (i : Nat) (s t : Sh), a[i]? = some s → b[i]? = some t → P s.to = true → s.v = t.v
/-- One sees more by a show alone. -/
def Join' (P : BitVec 32 → Bool) : Prop := ∀ s t, P (s ||| t) = true → P s = true ∨ P t = true
theorem ME.reveal (hP : PO P E.all) (hE : EE P E F) (h : ME P m n) (x : Cd) (hb : x.b < 8) (hj : Join' P) (ht : Tell P (revealF E m x).shows (revealF F n x).shows) : ME P (revealF E m x) (revealF F n x) := by
  have hn := named_eq hP hE h x hb
  unfold revealF at ht ⊢
  rw [← hn] at ht ⊢
  by_cases hk : (named E m x).2.1 = false
  · rw [if_pos hk, if_pos hk]; exact h.errs _
  · rw [if_neg hk, if_neg hk] at ht ⊢
    have hc := h.bd.2 (named E m x).1
    have ho : Sh.one n x F.all (named E m x).1 = Sh.one m x E.all (named E m x).1 := by unfold Sh.one; rw [← hE.all, ← hc.1]
    rw [ho] at ht ⊢
    have hlen : m.shows.length = n.shows.length := by have := congrArg List.length h.shows; simpa using this
    have hv : P (Sh.one m x E.all (named E m x).1) = true → (m.bd.at (named E m x).1).v = (n.bd.at (named E m x).1).v := fun hp => by
      have hz : Sh.one m x E.all (named E m x).1 ≠ 0#32 := fun e => by rw [e, hP.zero] at hp; cases hp
      simp only [if_neg hz] at ht
      have := ht m.shows.length ⟨(named E m x).1, Sh.one m x E.all (named E m x).1, (m.bd.at (named E m x).1).v⟩ ⟨(named E m x).1, Sh.one m x E.all (named E m x).1, (n.bd.at (named E m x).1).v⟩ (by simp) (by rw [hlen]; simp) hp
      exact this
    refine ⟨h.bd.show _ fun hp => ?_, by show _ ||| _ = _ ||| _; rw [h.touched], SE.app h.shows ?_, h.used, rfl, h.r, h.pc⟩
    · rcases hj _ _ hp with hp | hp
      · exact hc.2 hp
      · exact hv hp
    · by_cases hz : Sh.one m x E.all (named E m x).1 = 0#32
      · rw [if_pos hz, if_pos hz]; rfl
      · rw [if_neg hz, if_neg hz]; rfl
theorem ME.reach (hP : PO P E.all) (hE : EE P E F) (h : ME P m n) (x : Cd) (ha : x.a < 8) (hb : x.b < 8) (hj : x.op = 22 → Join' P) (ht : Tell P (reachF E m x).shows (reachF F n x).shows) : ME P (reachF E m x) (reachF F n x) := by
  have hn := named_eq hP hE h x hb
  unfold reachF at ht ⊢
  split
  · rw [← hn]
    split
    · exact h.setR ha (h.bd.2 _)
    · exact h.errs _
  · rw [← hn]
    split
    · exact h.put _ (h.r _ ha)
    · exact h.errs _
  · rename_i hop
    simp only [hop] at ht
    exact ME.reveal hP hE h x hb (hj hop) ht
  · have hd : ME P { m with dice := (shufL m.dice (x.c - 1) (rowV m x.n.toNat x.c)).2 } { n with dice := (shufL n.dice (x.c - 1) (rowV n x.n.toNat x.c)).2 } := ⟨h.bd, h.touched, h.shows, h.used, h.err, h.r, h.pc⟩
    exact ME.fill hP.zero _ _ _ _ _ _ hd
  · exact h
theorem CE.meet (hP : PO P E.all) {a b c d : Cl} (h : CE P a b) (k : CE P c d) (f : Int → Int → Int) : CE P ⟨f a.v c.v, a.s &&& c.s⟩ ⟨f b.v d.v, b.s &&& d.s⟩ := by
  refine ⟨by show a.s &&& c.s = b.s &&& d.s; rw [h.1, k.1], fun hp => ?_⟩
  obtain ⟨h1, h2⟩ := hP.meet _ _ hp
  show f a.v c.v = f b.v d.v
  rw [h.2 h1, k.2 h2]
theorem ME.follow (hP : PO P E.all) (hE : EE P E F) (h : ME P m n) (x : Cd) (ha : x.a < 8) (hb : x.b < 8) (hj : x.op = 22 → Join' P) (ht : Tell P (followF E m x).shows (followF F n x).shows) : ME P (followF E m x) (followF F n x) := by
  have hg : ME P m.go n.go := ⟨h.bd, h.touched, h.shows, h.used, h.err, h.r, by show m.pc + 1 = n.pc + 1; rw [h.pc]⟩
  have hc8 : x.c % 8 < 8 := by omega
  unfold followF at ht ⊢
  simp only at ht ⊢
  split
  · exact hg.setR ha (by rw [hE.all]; exact CE.refl _ _)
  · exact hg.setR ha (hg.bd.2 _)
  · exact hg.put _ (hg.r _ ha)
  · refine hg.setR ha ⟨?_, fun hp => ?_⟩
    · show _ &&& _ &&& _ = _ &&& _ &&& _
      rw [(hg.r _ ha).1, (hg.r _ hb).1, (hg.r _ hc8).1]
    · obtain ⟨h1, h2⟩ := hP.meet _ _ hp
      obtain ⟨h3, h4⟩ := hP.meet _ _ h1
      show (if _ then _ else _) = (if _ then _ else _)
      rw [(hg.r _ ha).2 h3, (hg.r _ hb).2 h4, (hg.r _ hc8).2 h2]
  · rw [← hE.all, ← (hg.r _ ha).1]
    by_cases hw : within E.all (m.go.r.at x.a).s = true
    · rw [if_pos hw, if_pos hw, ← (hg.r _ ha).2 (hP.all _ hw)]
      split
      · exact ⟨hg.bd, hg.touched, hg.shows, hg.used, hg.err, hg.r, rfl⟩
      · exact hg
    · rw [if_neg hw, if_neg hw]; exact hg.errs _
  · exact ⟨hg.bd, hg.touched, hg.shows, hg.used, hg.err, hg.r, rfl⟩
  · exact hg.setR ha ⟨rfl, fun hp => hE.moves _ hp⟩
  · have := hg.setR ha (CE.z hP.zero (below m.go.dice x.n) (below n.go.dice x.n))
    exact ⟨this.bd, this.touched, this.shows, this.used, this.err, this.r, this.pc⟩
  · exact hg.setR ha (by rw [hE.all, hE.tick]; exact CE.refl _ _)
  · rename_i hop; simp only [hop] at ht; exact ME.reach hP hE hg x ha hb hj ht
  · rename_i hop; simp only [hop] at ht; exact ME.reach hP hE hg x ha hb hj ht
  · rename_i hop; simp only [hop] at ht; exact ME.reach hP hE hg x ha hb hj ht
  · rename_i hop; simp only [hop] at ht; exact ME.reach hP hE hg x ha hb hj ht
  · exact hg.setR ha (CE.meet hP (hg.r _ hb) (hg.r _ hc8) _)
end Go.Proofs.Ytcdlipdeemlibaa.G
namespace Go.Proofs.Ytcdlipdeemlibaa.G
open Go
set_option linter.unusedSimpArgs false
set_option linter.unusedVariables false
set_option maxRecDepth 20000
set_option maxHeartbeats 1000000
variable {P : BitVec 32 → Bool} {E F : Me} {m n : Mc}
theorem Tell.pre {P : BitVec 32 → Bool} {a b c d : List Sh} (h : Tell P (a ++ c) (b ++ d)) : Tell P a b := by
  intro i s t h1 h2 h3
  refine h i s t ?_ ?_ h3
  · rw [List.getElem?_append_left (by have := List.getElem?_eq_some_iff.1 h1; exact this.1)]; exact h1
  · rw [List.getElem?_append_left (by have := List.getElem?_eq_some_iff.1 h2; exact this.1)]; exact h2
theorem fillN_shows (a k : Nat) (out : List Int) : ∀ (j : Nat) (m : Mc), (fillN m a out j).shows = m.shows := fun j m => (fillN_same a out j m).2.2.1
theorem reachF_shows (E : Me) (m : Mc) (x : Cd) : ∃ c, (reachF E m x).shows = m.shows ++ c := by
  unfold reachF
  split
  · split
    · exact ⟨[], (List.append_nil _).symm⟩
    · exact ⟨[], (List.append_nil _).symm⟩
  · split
    · exact ⟨[], (List.append_nil _).symm⟩
    · exact ⟨[], (List.append_nil _).symm⟩
  · unfold revealF; split
    · exact ⟨[], (List.append_nil _).symm⟩
    · exact ⟨_, rfl⟩
  · have := fillN_same x.n.toNat (shufL m.dice (x.c - 1) (rowV m x.n.toNat x.c)).1 x.c { m with dice := (shufL m.dice (x.c - 1) (rowV m x.n.toNat x.c)).2 }
    refine ⟨[], ?_⟩
    rw [List.append_nil, shuffleF]
    simp_all
  · exact ⟨[], (List.append_nil _).symm⟩
theorem followF_shows (E : Me) (m : Mc) (x : Cd) : ∃ c, (followF E m x).shows = m.shows ++ c := by
  unfold followF
  simp only
  split <;> first | exact ⟨[], (List.append_nil _).symm⟩ | exact reachF_shows E m.go x | skip
  split
  · split <;> exact ⟨[], (List.append_nil _).symm⟩
  · exact ⟨[], (List.append_nil _).symm⟩
theorem loopF_shows (E : Me) (l : List Cd) : ∀ (k : Nat) (m : Mc), ∃ c, (loopF E l k m).shows = m.shows ++ c
  | 0, m => by
    rw [loopF]; split
    · exact ⟨[], (List.append_nil _).symm⟩
    · exact ⟨[], (List.append_nil _).symm⟩
  | k + 1, m => by
    rw [loopF]
    split
    · split
      · exact ⟨[], (List.append_nil _).symm⟩
      · obtain ⟨c, hc⟩ := loopF_shows E l k (followF E { m with used := m.used + 1 } (l.getD m.pc ⟨0, 0, 0, 0, 0, 0⟩))
        obtain ⟨d, hd⟩ := followF_shows E { m with used := m.used + 1 } (l.getD m.pc ⟨0, 0, 0, 0, 0, 0⟩)
        refine ⟨d ++ c, ?_⟩
        rw [hc, hd, List.append_assoc]
    · exact ⟨[], (List.append_nil _).symm⟩
theorem ME.loop (hP : PO P E.all) (hE : EE P E F) (l : List Cd) (ha : ∀ x ∈ l, x.a < 8 ∧ x.b < 8) (hj : (∃ x ∈ l, x.op = 22) → Join' P) : ∀ (k : Nat) (m n : Mc), ME P m n → Tell P (loopF E l k m).shows (loopF F l k n).shows → ME P (loopF E l k m) (loopF F l k n)
  | 0, m, n, h, ht => by
    have hc2 : (n.err = 0 ∧ n.pc < l.length) ↔ (m.err = 0 ∧ m.pc < l.length) := by rw [h.err, h.pc]
    rw [loopF, loopF]
    by_cases hc : m.err = 0 ∧ m.pc < l.length
    · rw [if_pos hc, if_pos (hc2.2 hc)]; exact h.errs _
    · rw [if_neg hc, if_neg (fun q => hc (hc2.1 q))]; exact h
  | k + 1, m, n, h, ht => by
    have hc2 : (n.err = 0 ∧ n.pc < l.length) ↔ (m.err = 0 ∧ m.pc < l.length) := by rw [h.err, h.pc]
    rw [loopF, loopF] at ht ⊢
    by_cases hc : m.err = 0 ∧ m.pc < l.length
    · rw [if_pos hc, if_pos (hc2.2 hc)] at ht ⊢
      have hm := List.getElem_mem hc.2
      have hx : l.getD m.pc ⟨0, 0, 0, 0, 0, 0⟩ = l[m.pc] := by simp [hc.2]
      have hy : l.getD n.pc ⟨0, 0, 0, 0, 0, 0⟩ = l[m.pc] := by rw [← h.pc, hx]
      rw [hx, hy] at ht ⊢
      have hu : ME P { m with used := m.used + 1 } { n with used := n.used + 1 } := ⟨h.bd, h.touched, h.shows, by show m.used + 1 = n.used + 1; rw [h.used], h.err, h.r, h.pc⟩
      by_cases h0 : l[m.pc].op = 0
      · rw [if_pos h0, if_pos h0]; exact hu
      · rw [if_neg h0, if_neg h0] at ht ⊢
        have ht' := ht
        obtain ⟨c, hc1⟩ := loopF_shows E l k (followF E { m with used := m.used + 1 } l[m.pc])
        obtain ⟨d, hd1⟩ := loopF_shows F l k (followF F { n with used := n.used + 1 } l[m.pc])
        rw [hc1, hd1] at ht'
        exact ME.loop hP hE l ha hj k _ _ (hu.follow hP hE l[m.pc] (ha _ hm).1 (ha _ hm).2 (fun e => hj ⟨_, hm, e⟩) ht'.pre) ht
    · rw [if_neg hc, if_neg (fun q => hc (hc2.1 q))]; exact h
theorem ME.start (hE : EE P E F) {b c : Bd} (h : BE P b c) (d e : Int) : ME P (Go.Proofs.Ytcdlipdeemlibaa.G.start E b d) (Go.Proofs.Ytcdlipdeemlibaa.G.start F c e) :=
  ⟨h, rfl, rfl, rfl, rfl, fun i _ => by show CE P ((regs0 E.all).at i) ((regs0 F.all).at i); rw [hE.all]; exact CE.refl _ _, rfl⟩
/-- Two runs. -/
structure RE (P : BitVec 32 → Bool) (r s : Rs) : Prop where
  bd : BE P r.bd s.bd
  touched : r.touched = s.touched
  shows : SE r.shows s.shows
  used : r.used = s.used
  err : r.err = s.err
theorem RE.run (hP : PO P E.all) (hE : EE P E F) (hl : E.moves.length = F.moves.length) (l : List Cd) (hj : (∃ x ∈ l, x.op = 22) → Join' P) {b c : Bd} (h : BE P b c) (d e : Int) (ht : Tell P (runF E l b d).shows (runF F l c e).shows) : RE P (runF E l b d) (runF F l c e) := by
  unfold runF at ht ⊢
  rw [← hl, ← h.1] at ht ⊢
  by_cases hR : rightL l b.l.length E.moves.length = false
  · rw [if_pos hR, if_pos hR]; exact ⟨h, rfl, rfl, rfl, rfl⟩
  · rw [if_neg hR, if_neg hR] at ht ⊢
    have hall : ∀ x ∈ l, x.a < 8 ∧ x.b < 8 := fun x hx => by
      have h2 : l.length ≤ 96 ∧ ∀ x ∈ l, x.right l.length b.l.length E.moves.length = true := by simpa [rightL] using hR
      exact (right_ab (h2.2 x hx)).2
    have hk := fun g => ME.loop hP hE l hall hj 400 _ _ (ME.start hE h d e) g
    have he : (loopF E l 400 (Go.Proofs.Ytcdlipdeemlibaa.G.start E b d)).shows = (if (loopF E l 400 (Go.Proofs.Ytcdlipdeemlibaa.G.start E b d)).err ≠ 0 then (⟨b, d, 0#64, (loopF E l 400 (Go.Proofs.Ytcdlipdeemlibaa.G.start E b d)).shows, (loopF E l 400 (Go.Proofs.Ytcdlipdeemlibaa.G.start E b d)).used, (loopF E l 400 (Go.Proofs.Ytcdlipdeemlibaa.G.start E b d)).err⟩ : Rs) else ⟨(loopF E l 400 (Go.Proofs.Ytcdlipdeemlibaa.G.start E b d)).bd, (loopF E l 400 (Go.Proofs.Ytcdlipdeemlibaa.G.start E b d)).dice, (loopF E l 400 (Go.Proofs.Ytcdlipdeemlibaa.G.start E b d)).touched, (loopF E l 400 (Go.Proofs.Ytcdlipdeemlibaa.G.start E b d)).shows, (loopF E l 400 (Go.Proofs.Ytcdlipdeemlibaa.G.start E b d)).used, 0⟩).shows := by split <;> rfl
    have hf : (loopF F l 400 (Go.Proofs.Ytcdlipdeemlibaa.G.start F c e)).shows = (if (loopF F l 400 (Go.Proofs.Ytcdlipdeemlibaa.G.start F c e)).err ≠ 0 then (⟨c, e, 0#64, (loopF F l 400 (Go.Proofs.Ytcdlipdeemlibaa.G.start F c e)).shows, (loopF F l 400 (Go.Proofs.Ytcdlipdeemlibaa.G.start F c e)).used, (loopF F l 400 (Go.Proofs.Ytcdlipdeemlibaa.G.start F c e)).err⟩ : Rs) else ⟨(loopF F l 400 (Go.Proofs.Ytcdlipdeemlibaa.G.start F c e)).bd, (loopF F l 400 (Go.Proofs.Ytcdlipdeemlibaa.G.start F c e)).dice, (loopF F l 400 (Go.Proofs.Ytcdlipdeemlibaa.G.start F c e)).touched, (loopF F l 400 (Go.Proofs.Ytcdlipdeemlibaa.G.start F c e)).shows, (loopF F l 400 (Go.Proofs.Ytcdlipdeemlibaa.G.start F c e)).used, 0⟩).shows := by split <;> rfl
    rw [← he, ← hf] at ht
    have hM := hk ht
    rw [← hM.err]
    split
    · exact ⟨h, rfl, hM.shows, hM.used, rfl⟩
    · exact ⟨hM.bd, hM.touched, hM.shows, hM.used, rfl⟩
theorem fillN_pre : True := trivial
/-- Without a reveal nothing is shown. -/
theorem reachF_none (E : Me) (m : Mc) (x : Cd) (h : x.op ≠ 22) : (reachF E m x).shows = m.shows := by
  unfold reachF
  split
  · split <;> rfl
  · split <;> rfl
  · rename_i ho; exact absurd ho h
  · have := fillN_same x.n.toNat (shufL m.dice (x.c - 1) (rowV m x.n.toNat x.c)).1 x.c { m with dice := (shufL m.dice (x.c - 1) (rowV m x.n.toNat x.c)).2 }
    rw [shuffleF]
    simp_all
  · rfl
theorem followF_none (E : Me) (m : Mc) (x : Cd) (h : x.op ≠ 22) : (followF E m x).shows = m.shows := by
  unfold followF
  simp only
  split <;> first | rfl | exact reachF_none E m.go x h | skip
  split
  · split <;> rfl
  · rfl
theorem loopF_none (E : Me) (l : List Cd) (hl : ∀ x ∈ l, x.op ≠ 22) : ∀ (k : Nat) (m : Mc), (loopF E l k m).shows = m.shows
  | 0, m => by
    rw [loopF]; split <;> rfl
  | k + 1, m => by
    rw [loopF]
    split
    · rename_i hc
      have hm := List.getElem_mem hc.2
      have hx : l.getD m.pc ⟨0, 0, 0, 0, 0, 0⟩ = l[m.pc] := by simp [hc.2]
      rw [hx]
      split
      · rfl
      · rw [loopF_none E l hl k, followF_none _ _ _ (hl _ hm)]
    · rfl
theorem runF_none (E : Me) (l : List Cd) (hl : ∀ x ∈ l, x.op ≠ 22) (b : Bd) (d : Int) : (runF E l b d).shows = [] := by
  unfold runF
  split
  · rfl
  · split
    · exact loopF_none E l hl 400 _
    · exact loopF_none E l hl 400 _
theorem bdB_labels {a b : Bd} (h : BE P a b) : bdB false a.l = bdB false b.l := by
  unfold bdB
  have : a.l.map Cl.s = b.l.map Cl.s := by
    apply List.ext_getElem
    · simp [h.1]
    · intro i h1 h2
      have := (h.2 (i : Int)).1
      simp only [List.length_map] at h1 h2
      simpa [Bd.at, List.getD_eq_getElem?_getD, h1, h2] using this
  have e : ∀ l : List Cl, l.flatMap (cellB false) = (l.map Cl.s).flatMap leW := fun l => by
    induction l with
    | nil => rfl
    | cons c l ih => simp only [List.flatMap_cons, List.map_cons, ih]; rfl
  rw [e, e, this]
end Go.Proofs.Ytcdlipdeemlibaa.G
namespace Go.Proofs.Ytcdlipdeemlibaa.G
open Go
set_option linter.unusedSimpArgs false
set_option linter.unusedVariables false
set_option maxRecDepth 20000
set_option maxHeartbeats 1000000
variable {b : Bd} {ns : Bool} {m : Mc} {E : Me}
/-- A show of cells of a board b, that now are those of m. -/
structure SOk (b : Bd) (ns : Bool) (all : BitVec 32) (m : Bd) (s : Sh) : Prop where
  there : b.there s.cell = true
  to0 : s.to ≠ 0#32
  all : within s.to all = true
  was : ns = true → s.to &&& (b.at s.cell).s = 0#32 ∧ s.v = (b.at s.cell).v ∧ within s.to (m.at s.cell).s = true
/-- Labels grow. -/
def LG (m n : Bd) : Prop := ∀ i : Int, within (m.at i).s (n.at i).s = true
theorem LG.refl (m : Bd) : LG m m := fun i => within_self _
theorem SOk.grow {all : BitVec 32} {m n : Bd} {s : Sh} (h : SOk b ns all m s) (hg : ns = true → LG m n) : SOk b ns all n s :=
  ⟨h.there, h.to0, h.all, fun e => ⟨(h.was e).1, (h.was e).2.1, within_trans (h.was e).2.2 (hg e _)⟩⟩
theorem KP.lg (h : KP b true m) : LG b m.bd := by
  intro i
  by_cases hi : i.toNat < b.l.length
  · obtain ⟨c', k1, k2, k3⟩ := h.lab rfl i.toNat _ (List.getElem?_eq_getElem hi)
    have e1 : m.bd.at i = c' := by simp [Bd.at, List.getD_eq_getElem?_getD, k1]
    have e2 : b.at i = b.l[i.toNat] := by simp [Bd.at, hi]
    rw [e1, e2]; exact k3
  · have e1 : b.at i = Cl.z := by simp [Bd.at, List.getD_eq_getElem?_getD, List.getElem?_eq_none (Nat.not_lt.1 hi)]
    rw [e1]
    unfold within Cl.z; simp
theorem KP.sameV (h : KP b true m) (i : Int) (hi : b.there i = true) : (m.bd.at i).v = (b.at i).v ∧ within (b.at i).s (m.bd.at i).s = true := by
  have hi2 : i.toNat < b.l.length := by simp [Bd.there] at hi; omega
  obtain ⟨c', k1, k2, k3⟩ := h.lab rfl i.toNat _ (List.getElem?_eq_getElem hi2)
  have e1 : m.bd.at i = c' := by simp [Bd.at, List.getD_eq_getElem?_getD, k1]
  have e2 : b.at i = b.l[i.toNat] := by simp [Bd.at, hi2]
  rw [e1, e2]; exact ⟨k2, k3⟩
theorem KP.self (h : KP b ns m) : KP m.bd ns m := ⟨rfl, fun _ _ => rfl, fun i hi => h.high i (by rw [← h.len]; exact hi), fun _ i c hc => ⟨c, hc, rfl, within_self _⟩⟩
theorem and_not_self32 (a c : BitVec 32) : a &&& ~~~c &&& c = 0#32 := by
  apply BitVec.eq_of_getLsbD_eq
  intro i hi
  simp only [BitVec.getLsbD_and, BitVec.getLsbD_not, BitVec.getLsbD_zero]
  cases c.getLsbD i <;> simp
theorem meet_within {t a c : BitVec 32} (h : t &&& c = 0#32) (k : within a c = true) : t &&& a = 0#32 := by
  apply BitVec.eq_of_getLsbD_eq
  intro i hi
  have := congrArg (fun z => BitVec.getLsbD z i) h
  simp only [BitVec.getLsbD_and, BitVec.getLsbD_zero] at this ⊢
  rw [within_iff] at k
  cases ha : a.getLsbD i with
  | false => simp
  | true => rw [k i ha] at this; simpa using this
theorem or_within (a c : BitVec 32) : within c (a ||| c) = true := by rw [BitVec.or_comm]; exact within_or _ _
theorem one_within (m : Mc) (x : Cd) (all : BitVec 32) (i : Int) : within (Sh.one m x all i) all = true := by
  rw [within_iff]
  intro j hj
  simp only [Sh.one, BitVec.getLsbD_and, Bool.and_eq_true] at hj
  exact hj.1.2
theorem reveal_shows (h : KP b ns m) (x : Cd) (hs : ∀ s ∈ m.shows, SOk b ns E.all m.bd s) : ∀ s ∈ (revealF E m x).shows, SOk b ns E.all (revealF E m x).bd s := by
  unfold revealF
  split
  · exact hs
  · rename_i hn
    have hn' : (named E m x).2.1 = true := by simpa using hn
    obtain ⟨ht, _⟩ := named_ok hn'
    have ht' : b.there (named E m x).1 = true := by simpa only [Bd.there, h.len] using ht
    have hk := h.self.show ht (Sh.one m x E.all (named E m x).1)
    intro s hm
    simp only at hm ⊢
    rcases List.mem_append.1 hm with hm | hm
    · exact (hs s hm).grow fun e => by subst e; exact hk.lg
    · split at hm
      · cases hm
      · rename_i hz
        simp only [List.mem_singleton] at hm
        subst hm
        refine ⟨ht', hz, one_within _ _ _ _, fun e => ?_⟩
        subst e
        obtain ⟨k1, k2⟩ := h.sameV _ ht'
        refine ⟨meet_within (and_not_self32 _ _) k2, k1, ?_⟩
        have h3 : (named E m x).1.toNat < m.bd.l.length := by simp [Bd.there] at ht; omega
        rw [Bd.show, if_pos ht, Bd.at_set _ h3, if_pos rfl]
        exact or_within _ _
theorem follow_lg (h : KP b ns m) (x : Cd) {size : Nat} (hr : x.right size m.bd.l.length E.moves.length = true) (hn : ns = true → isStore x = false) : ns = true → LG m.bd (followF E m x).bd := by
  intro e
  subst e
  exact (h.self.follow x hr hn).lg
theorem follow_shows (h : KP b ns m) (x : Cd) {size : Nat} (hr : x.right size m.bd.l.length E.moves.length = true) (hn : ns = true → isStore x = false) (hs : ∀ s ∈ m.shows, SOk b ns E.all m.bd s) : ∀ s ∈ (followF E m x).shows, SOk b ns E.all (followF E m x).bd s := by
  by_cases ho : x.op = 22
  · have e : followF E m x = revealF E m.go x := by unfold followF reachF; simp only [ho]
    rw [e]
    exact reveal_shows (m := m.go) (h.same rfl rfl) x hs
  · rw [followF_none E m x ho]
    exact fun s hm => (hs s hm).grow (follow_lg h x hr hn)
theorem loop_shows (l : List Cd) (hr : ∀ x ∈ l, x.right l.length b.l.length E.moves.length = true) (hn : ns = true → ∀ x ∈ l, isStore x = false) : ∀ (k : Nat) (m : Mc), KP b ns m → (∀ s ∈ m.shows, SOk b ns E.all m.bd s) → ∀ s ∈ (loopF E l k m).shows, SOk b ns E.all (loopF E l k m).bd s
  | 0, m, h, hs => by
    rw [loopF]; split <;> exact hs
  | k + 1, m, h, hs => by
    rw [loopF]
    split
    · rename_i hc
      have hm := List.getElem_mem hc.2
      have e : l.getD m.pc ⟨0, 0, 0, 0, 0, 0⟩ = l[m.pc] := by simp [hc.2]
      rw [e]
      split
      · exact hs
      · have h' : KP b ns { m with used := m.used + 1 } := h.same rfl rfl
        have hrx : l[m.pc].right l.length m.bd.l.length E.moves.length = true := by rw [h.len]; exact hr _ hm
        exact loop_shows l hr hn k _ (h'.follow l[m.pc] hrx (fun e => hn e _ hm)) (follow_shows h' l[m.pc] hrx (fun e => hn e _ hm) hs)
    · exact hs
/-- All that a run shows. -/
theorem run_shows (l : List Cd) (b : Bd) (d : Int) (ns : Bool) (hn : ns = true → ∀ x ∈ l, isStore x = false) : ∀ s ∈ (runF E l b d).shows, b.there s.cell = true ∧ s.to ≠ 0#32 ∧ within s.to E.all = true ∧ (ns = true → s.to &&& (b.at s.cell).s = 0#32 ∧ s.v = (b.at s.cell).v ∧ ((runF E l b d).err = 0 → within s.to ((runF E l b d).bd.at s.cell).s = true)) := by
  intro s hs
  unfold runF at hs ⊢
  split at hs
  · cases hs
  · rename_i hR
    rw [if_neg hR]
    have hall : ∀ x ∈ l, x.right l.length b.l.length E.moves.length = true := by
      have h2 : l.length ≤ 96 ∧ ∀ x ∈ l, x.right l.length b.l.length E.moves.length = true := by simpa [rightL] using hR
      exact h2.2
    have hk : ∀ s ∈ (loopF E l 400 (Go.Proofs.Ytcdlipdeemlibaa.G.start E b d)).shows, SOk b ns E.all (loopF E l 400 (Go.Proofs.Ytcdlipdeemlibaa.G.start E b d)).bd s := loop_shows l hall hn 400 _ (KP.start d) (by simp [Go.Proofs.Ytcdlipdeemlibaa.G.start])
    split at hs
    · rename_i he
      rw [if_pos he]
      have k := hk s hs
      exact ⟨k.there, k.to0, k.all, fun e => ⟨(k.was e).1, (k.was e).2.1, fun e0 => absurd e0 he⟩⟩
    · rename_i he
      rw [if_neg he]
      have k := hk s hs
      exact ⟨k.there, k.to0, k.all, fun e => ⟨(k.was e).1, (k.was e).2.1, fun _ => (k.was e).2.2⟩⟩
/-- A run's board is as long as ever; at an error it is the same. -/
theorem run_len (l : List Cd) (b : Bd) (d : Int) : (runF E l b d).bd.l.length = b.l.length := by
  unfold runF
  split
  · rfl
  · rename_i hR
    split
    · rfl
    · have hall : ∀ x ∈ l, x.right l.length b.l.length E.moves.length = true := by
        have h2 : l.length ≤ 96 ∧ ∀ x ∈ l, x.right l.length b.l.length E.moves.length = true := by simpa [rightL] using hR
        exact h2.2
      exact (KP.loop (ns := false) l hall (fun e => by cases e) 400 _ (KP.start d)).len
theorem run_err (l : List Cd) (b : Bd) (d : Int) (h : (runF E l b d).err ≠ 0) : (runF E l b d).bd = b ∧ (runF E l b d).dice = d ∧ (runF E l b d).touched = 0#64 := by
  revert h
  unfold runF
  split
  · intro _; exact ⟨rfl, rfl, rfl⟩
  · split
    · intro _; exact ⟨rfl, rfl, rfl⟩
    · intro h; exact absurd rfl h
end Go.Proofs.Ytcdlipdeemlibaa.G
namespace Go.Proofs.Ytcdlipdeemlibaa.G
open Go
set_option linter.unusedSimpArgs false
set_option linter.unusedVariables false
set_option maxRecDepth 20000
set_option maxHeartbeats 2000000
theorem followF_mv (q q' : IV) (ms : List Int) (t : Int) (a : BitVec 32) (m : Mc) (x : Cd) : followF ⟨q, ms, t, a⟩ m x = followF ⟨q', ms, t, a⟩ m x := by
  unfold followF reachF revealF named
  rfl
theorem loopF_mv (q q' : IV) (ms : List Int) (t : Int) (a : BitVec 32) (l : List Cd) : ∀ (k : Nat) (m : Mc), loopF ⟨q, ms, t, a⟩ l k m = loopF ⟨q', ms, t, a⟩ l k m
  | 0, m => rfl
  | k + 1, m => by
    rw [loopF, loopF, followF_mv q q', loopF_mv q q' ms t a l k]
theorem runF_mv (q q' : IV) (ms : List Int) (t : Int) (a : BitVec 32) (l : List Cd) (b : Bd) (d : Int) : runF ⟨q, ms, t, a⟩ l b d = runF ⟨q', ms, t, a⟩ l b d := by
  unfold runF
  have e : start ⟨q, ms, t, a⟩ b d = start ⟨q', ms, t, a⟩ b d := rfl
  rw [e, loopF_mv q q']
/-- A step of a game. -/
def Gm.run (g : Gm) (ms : List (BitVec 32)) (b : Bd) (d t : Int) : Rs := runF (g.env ms t (.sc (.slice none 0 0))) g.code b d
theorem run_mv (g : Gm) (ms : List (BitVec 32)) (b : Bd) (d t : Int) (q : IV) : runF (g.env ms t q) g.code b d = g.run ms b d t := runF_mv _ _ _ _ _ _ _ _
/-- What a step comes to. -/
def outC (r : Rs) (s : IV) : List IV := [.int .u64 (r.touched.toNat : Int), s, nI r.err]
theorem StepR_ok (g : Gm) (x y : IV) (h : GR g x y) (hr : g.right = true) (hw : ∀ c ∈ g.code, c.wf) (b : Bd) (hbk : b.ok) (d t : Int) (mv : IV) (ms : List (BitVec 32)) (hm : Ls 1 mv (ms.map m32)) :
    ∃ s, pc BI F_rules_Game_Step [.agg (gmc g x y), .agg (stc b d t), mv] = some (.tup [.agg (stc (g.run ms b d t).bd (g.run ms b d t).dice (IntKind.u32.wrap (t + 1))), .agg (outC (g.run ms b d t) s)]) ∧ Ls 3 s ((g.run ms b d t).shows.map Sh.e) := by
  obtain ⟨_, _, _, _, h96⟩ := right_48 hr
  obtain ⟨_, h1, q, s, hq, hs, rfl⟩ := Step_ok g x y h hr hw (by omega) b hbk d t mv ms hm
  rw [run_mv] at h1 hs
  exact ⟨s, h1, hs⟩
theorem PredR_ok (g : Gm) (x y : IV) (h : GR g x y) (hr : g.right = true) (hw : ∀ c ∈ g.code, c.wf) (b : Bd) (hbk : b.ok) (d t o : Int) (m : BitVec 32) :
    pc BI F_rules_Game_Predict [.agg (gmc g x y), .agg (stc b d t), .int .i64 o, m32 m] = some (.agg (stc ((g.run (g.preM o m) b d t).bd.view o) 0 (IntKind.u32.wrap (t + 1)))) := by
  obtain ⟨q, h1, _⟩ := Predict_ok g x y h hr hw b hbk d t o m
  rw [Gm.pre, run_mv] at h1
  exact h1
variable {b : Bd} {E : Me}
theorem loop_mok (l : List Cd) (hr : ∀ x ∈ l, x.right l.length b.l.length E.moves.length = true) (hE : E.ok) (hw : ∀ x ∈ l, x.wf) : ∀ (k : Nat) (m : Mc), m.ok b.l.length l.length → (loopF E l k m).bd.ok
  | 0, m, h => by
    rw [loopF]; split <;> exact h.bd
  | k + 1, m, h => by
    rw [loopF]
    split
    · rename_i hc
      have hm := List.getElem_mem hc.2
      have e : l.getD m.pc ⟨0, 0, 0, 0, 0, 0⟩ = l[m.pc] := by simp [hc.2]
      rw [e]
      split
      · exact h.bd
      · have hok' : ({ m with used := m.used + 1 } : Mc).ok b.l.length l.length := ⟨h.r, h.bd, h.len, h.pc⟩
        exact loop_mok l hr hE hw k _ (followF_nice hE hok' hc.2 l[m.pc] (hw _ hm) (hr _ hm)).1
    · exact h.bd
theorem run_bok (l : List Cd) (hE : E.ok) (hw : ∀ x ∈ l, x.wf) (b : Bd) (hb : b.ok) (d : Int) : (runF E l b d).bd.ok := by
  unfold runF
  split
  · exact hb
  · rename_i hR
    split
    · exact hb
    · have hall : ∀ x ∈ l, x.right l.length b.l.length E.moves.length = true := by
        have h2 : l.length ≤ 96 ∧ ∀ x ∈ l, x.right l.length b.l.length E.moves.length = true := by simpa [rightL] using hR
        exact h2.2
      refine loop_mok l hall hE hw 400 _ ⟨fun i hi => ?_, hb, rfl, Nat.zero_le _⟩
      have : ((start E b d).r.at i).v = 0 := by
        show ((regs0 E.all).at i).v = 0
        rw [rg_at _ hi]; simp only [regs0, List.getElem_replicate]
      rw [this]; exact I32_0
theorem step_bok (g : Gm) (hr : g.right = true) (hw : ∀ c ∈ g.code, c.wf) (ms : List (BitVec 32)) (b : Bd) (hb : b.ok) (d t : Int) : (g.run ms b d t).bd.ok := by
  obtain ⟨h1, h6, _⟩ := right_players hr
  have hE : (g.env ms t (.lst 1 true ((g.allF ms g.players.toNat).map (IV.int .i32)))).ok := ⟨.lst, allF_rng _ _ _, by show (g.allF ms g.players.toNat).length ≤ _; rw [allF_len]; omega⟩
  rw [← run_mv g ms b d t (.lst 1 true ((g.allF ms g.players.toNat).map (IV.int .i32)))]
  exact run_bok g.code hE hw b hb d
theorem step_len (g : Gm) (ms : List (BitVec 32)) (b : Bd) (d t : Int) : (g.run ms b d t).bd.l.length = b.l.length := run_len _ _ _
theorem step_err (g : Gm) (ms : List (BitVec 32)) (b : Bd) (d t : Int) (h : (g.run ms b d t).err ≠ 0) : (g.run ms b d t).bd = b ∧ (g.run ms b d t).dice = d ∧ (g.run ms b d t).touched = 0#64 := run_err _ _ _ h
/-- The first board's values are numbers. -/
theorem hidS_I32 {p : List Cl × List Int} {c : Cl} (h1 : ∀ x ∈ p.1, I32 x.v) (h2 : ∀ v ∈ p.2, I32 v) (hc : I32 c.v) : (∀ x ∈ (hidS p c).1, I32 x.v) ∧ ∀ v ∈ (hidS p c).2, I32 v := by
  obtain ⟨L, R⟩ := p
  unfold hidS
  split
  · split
    · rename_i e
      simp only at e h1 h2 ⊢
      subst e
      refine ⟨fun x hx => ?_, by simp⟩
      rcases List.mem_append.1 hx with hx | hx
      · exact h1 x hx
      · simp at hx; subst hx; exact hc
    · rename_i v r e
      simp only at e h1 h2 ⊢
      subst e
      refine ⟨fun x hx => ?_, fun w hw => h2 w (by simp [hw])⟩
      rcases List.mem_append.1 hx with hx | hx
      · exact h1 x hx
      · simp at hx; subst hx; exact h2 v (by simp)
  · refine ⟨fun x hx => ?_, h2⟩
    rcases List.mem_append.1 hx with hx | hx
    · exact h1 x hx
    · simp at hx; subst hx; exact hc
theorem hid_I32 (C : List Cl) : ∀ (p : List Cl × List Int), (∀ x ∈ p.1, I32 x.v) → (∀ v ∈ p.2, I32 v) → (∀ c ∈ C, I32 c.v) → ∀ x ∈ (C.foldl hidS p).1, I32 x.v := by
  induction C with
  | nil => intro p h1 _ _; exact h1
  | cons c C ih =>
    intro p h1 h2 h3
    rw [List.foldl_cons]
    obtain ⟨k1, k2⟩ := hidS_I32 h1 h2 (h3 c (by simp))
    exact ih _ k1 k2 fun c hc => h3 c (by simp [hc])
theorem bd0_ok (g : Gm) (h : g.cells.length ≤ 48) (H : List Int) (hv : ∀ c ∈ g.cells, I32 c.v) (hH : ∀ v ∈ H, I32 v) : (g.bd0 h H).ok := by
  intro c hc
  simp only [Gm.bd0, hidB, List.take_length, List.drop_length, List.append_nil] at hc
  exact hid_I32 g.cells ([], H) (by simp) hH hv c hc
end Go.Proofs.Ytcdlipdeemlibaa.G
namespace Go.Proofs.Ytcdlipdeemlibaa.G
open Go
set_option maxRecDepth 20000
set_option maxHeartbeats 2000000
theorem awake10 : pc BI F_law10_awake [] = some (.bool true) := pcK 400 (by kernel_rfl)
end Go.Proofs.Ytcdlipdeemlibaa.G
namespace Go.Proofs.Ytcdlipdeemlibaa.G
open Go
set_option linter.unusedSimpArgs false
set_option linter.unusedVariables false
set_option maxRecDepth 20000
set_option maxHeartbeats 2000000
theorem gm_s4 (g : Gm) (x y v : IV) : isplice (gmc g x y) 4 [v] = gmc g v y := rfl
theorem gm_s5 (g : Gm) (x y v : IV) : isplice (gmc g x y) 5 [v] = gmc g x v := rfl
theorem gm_all (g : Gm) (x y : IV) (g2 : Gm) (x2 y2 : IV) : isplice (gmc g x y) 0 (gmc g2 x2 y2) = gmc g2 x2 y2 := rfl
attribute [go_sem] gm_s4 gm_s5 gm_all
theorem Clip.icells {J J' : JH} {s : IV} {sz : Nat} {X : List (List IV)} (h : Clip J J' s sz X) : Go.Proofs.Ytcdlipdeemlibaa.G.icells s = [s] := by
  rcases h with ⟨_, rfl, _⟩ | ⟨_, rfl, _⟩ <;> rfl
theorem Clip.one {J J' : JH} {s : IV} {sz : Nat} {X : List (List IV)} (h : Clip J J' s sz X) : ione s = true := by
  rcases h with ⟨_, rfl, _⟩ | ⟨_, rfl, _⟩ <;> rfl
theorem Clip.frzL {J J' J2 : JH} {s : IV} {sz : Nat} {X : List (List IV)} (h : Clip J J' s sz X) (hf : ∀ d, J.size ≤ d → d < J'.size → J2[d]? = J'[d]?) (hsz : 0 < sz) (hX : ∀ x ∈ X, x.length = sz) (hp : ipureL X.flatten = true) (ho : X.flatten.all ione = true) : ∃ u, (∀ k, Go.Proofs.Ytcdlipdeemlibaa.G.frz J2 (k + 1) s = some u) ∧ Ls sz u (X.map (mkE sz)) := by
  rcases h with ⟨rfl, rfl, rfl⟩ | ⟨hne, rfl, rfl⟩
  · exact ⟨_, fun k => frz_pure _ _ rfl, .lst⟩
  · have hb : J2[J.size]? = some (.cells 0 X.flatten false) := by rw [hf J.size (Nat.le_refl _) (by simp), push_get]
    refine ⟨.lst sz (X.length == UNK + sz && decide (UNK + sz < UNK)) (X.map (mkE sz)), fun k => ?_, .lst⟩
    rw [frz_sl (cs := X.flatten) hsz ?_ hp ho, grp_flat hX]
    simp only [ird, hb, true_and, Nat.zero_add, List.drop_zero]
    rw [if_pos (by rw [flat_len hX]; exact Nat.le_refl _), List.take_of_length_le (by rw [flat_len hX]; exact Nat.le_refl _)]
def Gm.few (g : Gm) : Gm := { g with cells := g.cells.take 55, code := g.code.take 100 }
theorem gfew_ok (g : Gm) (x y : IV) (h : GR g x y) (hb : g.cells.length ≤ 9223372036854775807) (hb2 : g.code.length ≤ 9223372036854775807) :
    ∃ u, pc BI F_law10_few [.agg (gmc g x y)] = some u ∧ ∃ x2 y2, u = .agg (gmc g.few x2 y2) ∧ GR g.few x2 y2 := by
  refine pcW fn_law10_few rfl fun K hK => ?_
  obtain ⟨a, ha, hal⟩ := h.x.slice (h := min g.cells.length 55) (by simp; omega)
  obtain ⟨c, hc, hcl⟩ := h.y.slice (h := min g.code.length 100) (by simp; omega)
  have hm : min (g.cells.length : Int) 55 = ((min g.cells.length 55 : Nat) : Int) := by omega
  have hm2 : min (g.code.length : Int) 100 = ((min g.code.length 100 : Nat) : Int) := by omega
  unfold l_law10_few
  simp -implicitDefEqProofs only [go_sem, dnW_ite, reduceIte, Nat.reduceAdd, Nat.reduceLeDiff, Nat.reduceMul, Nat.reduceEqDiff, Int.reduceLT, Int.reduceLE, Int.reduceToNat, Nat.reduceSub, Nat.reduceLT, Int.reduceEq, BitVec.reduceOfInt, BitVec.reduceOfNat, Int.reduceGT, Int.reduceGE, Int.reduceBEq, Int.reduceBNe, Nat.reduceGT, Nat.reduceBEq, Nat.reduceBNe, Int.reduceAdd, Int.reduceSub, Int.reduceNeg, h.one, h.x.lenF, List.length_map, ipureL, grp, hm, ha]
  have tk : ∀ {α : Type} (l : List α) (n : Nat), l.take (min l.length n) = l.take n := fun l n => by rw [Nat.min_comm, ← List.take_eq_take_min]
  have hal' : Ls 2 a (((g.cells.take 55).map Cl.c).map (mkE 2)) := by
    rw [cl_mk, List.map_take, ← tk, List.length_map]; exact hal
  have hcl' : Ls 6 c (((g.code.take 100).map Cd.cs).map (mkE 6)) := by
    rw [cd_mk, List.map_take, ← tk, List.length_map]; exact hcl
  refine WP_bind (app_clip hal' (by decide) (cl2 _) (flat_one _) (fits8 (by simp; omega))) fun s1 J1 k1 => ?_
  have f1 := k1.fr
  have h0 : J1[0]? = some (.cells 0 (gmc g x y) false) := by rw [f1.2 0 (by simp) (by simp)]; rfl
  have hin := inb h0
  simp -implicitDefEqProofs only [go_sem, dnW_ite, reduceIte, Nat.reduceAdd, Nat.reduceLeDiff, Nat.reduceMul, Nat.reduceEqDiff, Int.reduceLT, Int.reduceLE, Int.reduceToNat, Nat.reduceSub, Nat.reduceLT, Int.reduceEq, BitVec.reduceOfInt, BitVec.reduceOfNat, Int.reduceGT, Int.reduceGE, Int.reduceBEq, Int.reduceBNe, Nat.reduceGT, Nat.reduceBEq, Nat.reduceBNe, Int.reduceAdd, Int.reduceSub, Int.reduceNeg, h0, hin, ↓k1.icells, ↓k1.one, h.y.lenF, List.length_map, hm2, hc, set_get _ (lt_get h0), ipureL, grp]
  have hz1 := f1.1
  have hl0 := lt_get h0
  refine WP_bind (app_clip hcl' (by decide) (cd6 _) (cd_one _) (fits12 (by simp; omega))) fun s2 J2 k2 => ?_
  have f2 := k2.fr
  have h02 : J2[0]? = some (.cells 0 (gmc g s1 y) false) := by rw [f2.2 0 (by simpa using hl0) (by simp)]; exact set_get _ hl0
  have hb1 : J1[1]? = some (.cells 0 (gmc ⟨0, 0, 0#32, 0#32, [], []⟩ (.sc (.slice none 0 0)) (.sc (.slice none 0 0))) false) := by rw [f1.2 1 (by simp) (by simp)]; rfl
  have hb2' : J2[1]? = some (.cells 0 (gmc ⟨0, 0, 0#32, 0#32, [], []⟩ (.sc (.slice none 0 0)) (.sc (.slice none 0 0))) false) := by
    rw [f2.2 1 (by have := lt_get hb1; simpa using this) (by simp), Array.getElem?_setIfInBounds, if_neg (by decide)]; exact hb1
  have hin2 := inb h02
  have ho2 : (gmc g s1 s2).all ione = true := by
    have a1 := k1.one
    have a2 := k2.one
    simp only [gmc, List.all_cons, List.all_nil, a1, a2]; rfl
  have hb3 : (J2.setIfInBounds 0 (.cells 0 (gmc g s1 s2) false))[1]? = some (.cells 0 (gmc ⟨0, 0, 0#32, 0#32, [], []⟩ (.sc (.slice none 0 0)) (.sc (.slice none 0 0))) false) := by
    rw [Array.getElem?_setIfInBounds, if_neg (by decide)]; exact hb2'
  have hl3 := lt_get hb3
  simp -implicitDefEqProofs only [go_sem, dnW_ite, reduceIte, Nat.reduceAdd, Nat.reduceLeDiff, Nat.reduceMul, Nat.reduceEqDiff, Int.reduceLT, Int.reduceLE, Int.reduceToNat, Nat.reduceSub, Nat.reduceLT, Int.reduceEq, BitVec.reduceOfInt, BitVec.reduceOfNat, Int.reduceGT, Int.reduceGE, Int.reduceBEq, Int.reduceBNe, Nat.reduceGT, Nat.reduceBEq, Nat.reduceBNe, Int.reduceAdd, Int.reduceSub, Int.reduceNeg, h02, hin2, ↓k2.icells, ↓k2.one, set_get _ (lt_get h02), hb3, inb hb3, ho2, set_get _ hl3]
  have hsz : (2 : Nat) ≤ J1.size := by simpa using hz1
  obtain ⟨u1, hu1, hl1⟩ := k1.frzL (J2 := (J2.setIfInBounds 0 (.cells 0 (gmc g s1 s2) false)).setIfInBounds 1 (.cells 0 (gmc g s1 s2) false)) (fun d hd hd2 => by
    have hd' : 2 ≤ d := by simpa using hd
    rw [Array.getElem?_setIfInBounds, if_neg (by omega), Array.getElem?_setIfInBounds, if_neg (by omega), f2.2 d (by simpa using hd2) (by simp), Array.getElem?_setIfInBounds, if_neg (by omega)]) (by decide) (cl2 _) (cl_pure _) (flat_one _)
  obtain ⟨u2, hu2, hl2⟩ := k2.frzL (J2 := (J2.setIfInBounds 0 (.cells 0 (gmc g s1 s2) false)).setIfInBounds 1 (.cells 0 (gmc g s1 s2) false)) (fun d hd hd2 => by
    have hd' : 2 ≤ d := by have : J1.size ≤ d := by simpa using hd
                           omega
    rw [Array.getElem?_setIfInBounds, if_neg (by omega), Array.getElem?_setIfInBounds, if_neg (by omega)]) (by decide) (cd6 _) (cd_pure _) (cd_one _)
  rw [cl_mk] at hl1
  rw [cd_mk] at hl2
  generalize (J2.setIfInBounds 0 (.cells 0 (gmc g s1 s2) false)).setIfInBounds 1 (.cells 0 (gmc g s1 s2) false) = JF at *
  have fp : ∀ {v : IV}, ipure v = true → frz JF 11 v = some v := fun h => frz_pure _ _ h
  refine hK _ _ (.agg (gmc g u1 u2)) (frz_aggL (k := 11) ?_) ⟨u1, u2, rfl, hl1, hl2⟩
  simp only [gmc]
  rw [List.mapM_cons, List.mapM_cons, List.mapM_cons, List.mapM_cons, List.mapM_cons, List.mapM_cons, fp (v := .int .i64 g.obs) rfl, fp (v := .int .i64 g.players) rfl, fp (v := m32 g.moves) rfl, fp (v := m32 g.dflt) rfl, hu1 10, hu2 10]
  rfl
end Go.Proofs.Ytcdlipdeemlibaa.G
namespace Go.Proofs.Ytcdlipdeemlibaa.G
open Go
set_option linter.unusedSimpArgs false
set_option linter.unusedVariables false
set_option maxRecDepth 20000
set_option maxHeartbeats 2000000
/-- How many of the first cells nobody sees. -/
def nz (C : List Cl) (i : Nat) : Nat := (C.take i).countP (fun c => c.s == 0#32)
theorem nz_succ (C : List Cl) {i : Nat} (h : i < C.length) : nz C (i + 1) = nz C i + if C[i].s = 0#32 then 1 else 0 := by
  unfold nz
  rw [List.take_succ_eq_append_getElem h, List.countP_append]
  congr 1
  by_cases e : C[i].s = 0#32 <;> simp [e]
theorem nz_le (C : List Cl) (i : Nat) : nz C i ≤ i := by
  unfold nz
  exact Nat.le_trans List.countP_le_length (by simp; omega)
theorem hid_succ (C : List Cl) (H : List Int) {i : Nat} (h : i < C.length) : hid (C.take (i + 1)) H = hidS (hid (C.take i) H) C[i] := foldl_take_succ' _ _ _ h _
theorem hid_rest (C : List Cl) (H : List Int) : ∀ i, i ≤ C.length → (hid (C.take i) H).2 = H.drop (nz C i)
  | 0, _ => by simp [hid, nz]
  | i + 1, h => by
    have ih := hid_rest C H i (by omega)
    rw [hid_succ C H (by omega), nz_succ C (by omega)]
    unfold hidS
    by_cases e : C[i].s = 0#32
    · rw [if_pos e, if_pos e]
      cases hr : (hid (C.take i) H).2 with
      | nil =>
        rw [hr] at ih
        have := congrArg List.length ih
        simp at this ⊢
        omega
      | cons v r =>
        rw [hr] at ih
        simp only
        rw [← List.drop_drop, ← ih]; rfl
    · rw [if_neg e, if_neg e]; exact ih
/-- What a cell is at first. -/
def hidC (C : List Cl) (H : List Int) (i : Nat) (c : Cl) : Cl := if c.s = 0#32 then ⟨H.getD (nz C i) c.v, 0#32⟩ else c
theorem hid_get (C : List Cl) (H : List Int) : ∀ n, n ≤ C.length → ∀ i (hi : i < n) (hc : i < C.length), (hid (C.take n) H).1[i]? = some (hidC C H i C[i])
  | 0, _, i, hi, _ => by omega
  | n + 1, h, i, hi, hc => by
    have hl : (hid (C.take n) H).1.length = n := by
      have := hid_len (C.take n) ([], H)
      simp only [hid, this, List.length_take, List.length_nil]; omega
    have hr := hid_rest C H n (by omega)
    rw [hid_succ C H (by omega)]
    by_cases e : i < n
    · have ih := hid_get C H n (by omega) i e hc
      unfold hidS
      split
      · split
        · rw [List.getElem?_append_left (by omega)]; exact ih
        · rw [List.getElem?_append_left (by omega)]; exact ih
      · rw [List.getElem?_append_left (by omega)]; exact ih
    · obtain rfl : i = n := by omega
      unfold hidS hidC
      by_cases e : C[i].s = 0#32
      · rw [if_pos e, if_pos e]
        cases hr2 : (hid (C.take i) H).2 with
        | nil =>
          rw [hr2] at hr
          have := congrArg List.length hr
          simp only [List.length_nil, List.length_drop] at this
          simp only
          rw [List.getElem?_append_right (by omega), hl, Nat.sub_self, List.getElem?_cons_zero, List.getD_eq_getElem?_getD, List.getElem?_eq_none (by omega)]
          simp only [Option.getD_none]
          rw [← e]
        | cons v r =>
          rw [hr2] at hr
          simp only
          have hk : H[nz C i]? = some v := by
            have := congrArg (fun l => l[0]?) hr
            simp only [List.getElem?_cons_zero, List.getElem?_drop, Nat.add_zero] at this
            exact this.symm
          rw [List.getElem?_append_right (by omega), hl, Nat.sub_self, List.getElem?_cons_zero, List.getD_eq_getElem?_getD, hk]; rfl
      · rw [if_neg e, if_neg e, List.getElem?_append_right (by omega), hl, Nat.sub_self, List.getElem?_cons_zero]
theorem bd0_at (g : Gm) (h : g.cells.length ≤ 48) (H : List Int) {i : Nat} (hi : i < g.cells.length) : (g.bd0 h H).at (i : Int) = hidC g.cells H i g.cells[i] := by
  have h1 := hid_get g.cells H g.cells.length (Nat.le_refl _) i hi hi
  simp only [Bd.at, Gm.bd0, hidB, List.getD_eq_getElem?_getD, Int.toNat_natCast, List.drop_length, List.append_nil, h1, Option.getD_some]
theorem bd0_len (g : Gm) (h : g.cells.length ≤ 48) (H : List Int) : (g.bd0 h H).l.length = g.cells.length := hidB_len _ _ _ _
theorem bd0_there (g : Gm) (h : g.cells.length ≤ 48) (H : List Int) {i : Nat} (hi : i < g.cells.length) : (g.bd0 h H).there (i : Int) = true := by
  simp [Bd.there, bd0_len, hi]
theorem agg2_eq (a : Int) (s : BitVec 32) : iaggEq [.int .i32 a, m32 s] [.int .i32 a, m32 s] = some true := by simp [iaggEq]
theorem few_len (g : Gm) : g.few.cells.length ≤ 55 ∧ g.few.code.length ≤ 100 := by simp [Gm.few]; omega
theorem few_wf {g : Gm} (h : ∀ c ∈ g.code, c.wf) : ∀ c ∈ g.few.code, c.wf := fun c hc => h c (List.mem_of_mem_take hc)
theorem few_I32 {g : Gm} (h : ∀ c ∈ g.cells, I32 c.v) : ∀ c ∈ g.few.cells, I32 c.v := fun c hc => h c (List.mem_of_mem_take hc)
theorem starts_k2 (g : Gm) (x y : IV) (h : GR g x y) (b : Bd) (sd : Int) (hb : b.l.length = g.cells.length) (J : JH) (h0 : J[0]? = some (.cells 0 (gmc g x y) false)) (h1 : J[1]? = some (.cells 0 (stc b sd 0) false)) (K : Out IV → JH → Prop) (hK : ∀ J', K (.ret [.bool true]) J') :
    WP (dn BI l_law10_RulesStarts_k2 [.int .u64 sd, .ptr 0 0 0, .ptr 1 0 0] J) K := by
  unfold l_law10_RulesStarts_k2
  simp -implicitDefEqProofs only [go_sem, dnW_ite, reduceIte, Nat.reduceAdd, Nat.reduceLeDiff, Nat.reduceMul, Nat.reduceEqDiff, Int.reduceLT, Int.reduceLE, Int.reduceToNat, Nat.reduceSub, Nat.reduceLT, Int.reduceEq, BitVec.reduceOfInt, BitVec.reduceOfNat, Int.reduceGT, Int.reduceGE, Int.reduceBEq, Int.reduceBNe, Nat.reduceGT, Nat.reduceBEq, Nat.reduceBNe, Int.reduceAdd, Int.reduceSub, Int.reduceNeg, h0, h1, h.x.lenF, List.length_map, dcp (Len_ok b) (by simp [ipureL, ipure, bdc_pure]), hb]
  exact hK _
theorem starts_loop (g : Gm) (x y : IV) (h : GR g x y) (h48 : g.cells.length ≤ 48) (hv : IV) (H : List Int) (hh : Ls 1 hv (H.map (IV.int .i32))) (sd : Int) (J : JH) (h0 : J[0]? = some (.cells 0 (gmc g x y) false)) (h1 : J[1]? = some (.cells 0 (stc (g.bd0 h48 H) sd 0) false)) (K : Out IV → JH → Prop) (hK : ∀ J', K (.ret [.bool true]) J') :
    WP (onJoinD 0 (iter (dn BI l_law10_RulesStarts_k1) 1 [.int .u64 sd, hv, .ptr 0 0 0, .ptr 1 0 0, nI 0, x, nI g.cells.length, nI 0] J) l_law10_RulesStarts_k2) K := by
  refine WP_range (by decide) g.cells.length (fun i vs J' => vs = [.int .u64 sd, hv, .ptr 0 0 0, .ptr 1 0 0, nI (nz g.cells i), x, nI g.cells.length, nI i] ∧ Fr J J' []) ?_ ⟨by simp [nz], .refl _ _⟩
  rintro i vs J1 ⟨rfl, hf⟩ hi K1 g1 g2 g3
  have k0 : J1[0]? = some (.cells 0 (gmc g x y) false) := by rw [hf.2 0 (lt_get h0) (by simp)]; exact h0
  have k1 : J1[1]? = some (.cells 0 (stc (g.bd0 h48 H) sd 0) false) := by rw [hf.2 1 (lt_get h1) (by simp)]; exact h1
  have hl1 := lt_get k1
  unfold l_law10_RulesStarts_k1
  by_cases hi2 : i < g.cells.length
  · have hat := fun J => h.x.at (i := i) (by simpa using hi2) (J := J)
    simp only [List.getElem_map, Cl.e, Cl.c] at hat
    have hA := At_ok (g.bd0 h48 H) (i : Int)
    rw [bd0_there g h48 H hi2, if_pos rfl, bd0_at g h48 H hi2] at hA
    have hw1 := wrapS hi2 (show g.cells.length ≤ 9223372036854775807 by omega)
    have hnz := nz_succ g.cells hi2
    have hnl := nz_le g.cells i
    have hw2 := wrapS (i := nz g.cells i) (n := 100) (by omega) (by omega)
    generalize hc : g.cells[i] = c at *
    by_cases e : c.s = 0#32
    · rw [if_pos e] at hnz
      by_cases hk : nz g.cells i < H.length
      · have hat2 := fun J => hh.at (i := nz g.cells i) (by simpa using hk) (J := J)
        simp only [List.getElem_map] at hat2
        have hcc : hidC g.cells H i c = ⟨H[nz g.cells i], 0#32⟩ := by simp [hidC, e, hk]
        rw [hcc] at hA
        simp -implicitDefEqProofs only [go_sem, dnW_ite, reduceIte, Nat.reduceAdd, Nat.reduceLeDiff, Nat.reduceMul, Nat.reduceEqDiff, Int.reduceLT, Int.reduceLE, Int.reduceToNat, Nat.reduceSub, Nat.reduceLT, Int.reduceEq, BitVec.reduceOfInt, BitVec.reduceOfNat, Int.reduceGT, Int.reduceGE, Int.reduceBEq, Int.reduceBNe, Nat.reduceGT, Nat.reduceBEq, Nat.reduceBNe, Int.reduceAdd, Int.reduceSub, Int.reduceNeg, show ((i : Int) < (g.cells.length : Int)) by omega, hat, k1, dcp hA (by simp [ipureL, ipure, bdc_pure]), e, hh.lenF, List.length_map, show ((nz g.cells i : Int) < (H.length : Int)) by omega, hat2, hw2, BitVec.toNat_ofNat, show ((((0 % 2 ^ 32 : Nat)) : Int) == 0) = true from rfl, l_law10_RulesStarts_k0, isplice, agg2_eq, hw1, inb k0, inb k1]
        refine g1 hi2 _ _ ⟨by rw [hnz], ?_⟩
        (have hsz_ := hf.1; repeat (first | exact hf | apply Fr.psh | (apply Fr.stn; rotate_left; first | omega | (simp only [Array.size_push, Array.size_setIfInBounds]; omega)) | (apply Fr.sts; rotate_left; focus (simp only [List.mem_cons, eq_self, true_or, or_true]; done))))
      · have hcc : hidC g.cells H i c = ⟨c.v, 0#32⟩ := by
          simp only [hidC, if_pos e]
          rw [List.getD_eq_getElem?_getD, List.getElem?_eq_none (by omega)]; rfl
        rw [hcc] at hA
        simp -implicitDefEqProofs only [go_sem, dnW_ite, reduceIte, Nat.reduceAdd, Nat.reduceLeDiff, Nat.reduceMul, Nat.reduceEqDiff, Int.reduceLT, Int.reduceLE, Int.reduceToNat, Nat.reduceSub, Nat.reduceLT, Int.reduceEq, BitVec.reduceOfInt, BitVec.reduceOfNat, Int.reduceGT, Int.reduceGE, Int.reduceBEq, Int.reduceBNe, Nat.reduceGT, Nat.reduceBEq, Nat.reduceBNe, Int.reduceAdd, Int.reduceSub, Int.reduceNeg, show ((i : Int) < (g.cells.length : Int)) by omega, hat, k1, dcp hA (by simp [ipureL, ipure, bdc_pure]), e, hh.lenF, List.length_map, show ¬ ((nz g.cells i : Int) < (H.length : Int)) by omega, hw2, BitVec.toNat_ofNat, show ((((0 % 2 ^ 32 : Nat)) : Int) == 0) = true from rfl, l_law10_RulesStarts_k0, isplice, agg2_eq, hw1, inb k0, inb k1]
        refine g1 hi2 _ _ ⟨by rw [hnz], ?_⟩
        (have hsz_ := hf.1; repeat (first | exact hf | apply Fr.psh | (apply Fr.stn; rotate_left; first | omega | (simp only [Array.size_push, Array.size_setIfInBounds]; omega)) | (apply Fr.sts; rotate_left; focus (simp only [List.mem_cons, eq_self, true_or, or_true]; done))))
    · rw [if_neg e] at hnz
      have hcc : hidC g.cells H i c = c := by simp [hidC, e]
      rw [hcc] at hA
      have hc' : ((c.s.toNat : Int) == 0) = false := by rw [beqB0]; simp [e]
      simp -implicitDefEqProofs only [go_sem, dnW_ite, reduceIte, Nat.reduceAdd, Nat.reduceLeDiff, Nat.reduceMul, Nat.reduceEqDiff, Int.reduceLT, Int.reduceLE, Int.reduceToNat, Nat.reduceSub, Nat.reduceLT, Int.reduceEq, BitVec.reduceOfInt, BitVec.reduceOfNat, Int.reduceGT, Int.reduceGE, Int.reduceBEq, Int.reduceBNe, Nat.reduceGT, Nat.reduceBEq, Nat.reduceBNe, Int.reduceAdd, Int.reduceSub, Int.reduceNeg, show ((i : Int) < (g.cells.length : Int)) by omega, hat, k1, dcp hA (by simp [ipureL, ipure, bdc_pure]), ↓hc', l_law10_RulesStarts_k0, agg2_eq, hw1, inb k0, inb k1]
      refine g1 hi2 _ _ ⟨by rw [hnz]; rfl, ?_⟩
      (have hsz_ := hf.1; repeat (first | exact hf | apply Fr.psh | (apply Fr.stn; rotate_left; first | omega | (simp only [Array.size_push, Array.size_setIfInBounds]; omega)) | (apply Fr.sts; rotate_left; focus (simp only [List.mem_cons, eq_self, true_or, or_true]; done))))
  · simp -implicitDefEqProofs only [go_sem, dnW_ite, reduceIte, Nat.reduceAdd, Nat.reduceLeDiff, Nat.reduceMul, Nat.reduceEqDiff, Int.reduceLT, Int.reduceLE, Int.reduceToNat, Nat.reduceSub, Nat.reduceLT, Int.reduceEq, BitVec.reduceOfInt, BitVec.reduceOfNat, Int.reduceGT, Int.reduceGE, Int.reduceBEq, Int.reduceBNe, Nat.reduceGT, Nat.reduceBEq, Nat.reduceBNe, Int.reduceAdd, Int.reduceSub, Int.reduceNeg, show ¬ ((i : Int) < (g.cells.length : Int)) by omega]
    exact g2 _ _ (starts_k2 g x y h _ sd (bd0_len _ _ _) J1 k0 k1 K hK)
theorem Starts_ok (g : Gm) (x y : IV) (h : GR g x y) (hw : ∀ c ∈ g.code, c.wf) (hc : g.cells.length ≤ 9223372036854775807) (hcd : g.code.length ≤ 9223372036854775807) (hv : IV) (H : List Int) (hh : Ls 1 hv (H.map (IV.int .i32))) (hb : H.length ≤ 9223372036854775807) (sd : Int) :
    pc BI F_law10_RulesStarts [.agg (gmc g x y), .int .u64 sd, hv] = some (.bool true) := by
  refine pcE fn_law10_RulesStarts rfl fun K hK => ?_
  obtain ⟨_, hf, x2, y2, rfl, h2⟩ := gfew_ok g x y h hc hcd
  have hw2 := few_wf hw
  obtain ⟨n1, n2⟩ := few_len g
  generalize g.few = G at *
  unfold l_law10_RulesStarts
  cases hr : G.right with
  | false =>
    have hS := Start0_ok G x2 y2 h2 hr hw2 (by omega) hv sd
    have hg := gRight_ok G x2 y2 h2 hw2 (by omega)
    rw [hr] at hg
    simp -implicitDefEqProofs only [go_sem, dnW_ite, reduceIte, Nat.reduceAdd, Nat.reduceLeDiff, Nat.reduceMul, Nat.reduceEqDiff, Int.reduceLT, Int.reduceLE, Int.reduceToNat, Nat.reduceSub, Nat.reduceLT, Int.reduceEq, BitVec.reduceOfInt, BitVec.reduceOfNat, Int.reduceGT, Int.reduceGE, Int.reduceBEq, Int.reduceBNe, Nat.reduceGT, Nat.reduceBEq, Nat.reduceBNe, Int.reduceAdd, Int.reduceSub, Int.reduceNeg, h.one, h2.one, dcp awake10 rfl, dcp hf (by simp [ipureL, ipure, h.pure]), dcp hS (by have := hh.pure; simp [ipureL, ipure, h2.pure, this]), dcp hg (by simp [ipureL, ipure, h2.pure]), sta_z]
    exact hK _ _ (frzE rfl rfl)
  | true =>
    have hS := Start_ok G x2 y2 h2 hr hw2 hv H hh hb sd
    simp -implicitDefEqProofs only [go_sem, dnW_ite, reduceIte, Nat.reduceAdd, Nat.reduceLeDiff, Nat.reduceMul, Nat.reduceEqDiff, Int.reduceLT, Int.reduceLE, Int.reduceToNat, Nat.reduceSub, Nat.reduceLT, Int.reduceEq, BitVec.reduceOfInt, BitVec.reduceOfNat, Int.reduceGT, Int.reduceGE, Int.reduceBEq, Int.reduceBNe, Nat.reduceGT, Nat.reduceBEq, Nat.reduceBNe, Int.reduceAdd, Int.reduceSub, Int.reduceNeg, h.one, h2.one, dcp awake10 rfl, dcp hf (by simp [ipureL, ipure, h.pure]), dcp hS (by have := hh.pure; simp [ipureL, ipure, h2.pure, this]), sta_z, h2.x.lenF, List.length_map, dn_loop]
    exact starts_loop G x2 y2 h2 _ hv H hh sd _ rfl rfl K fun J' => hK _ _ (frzE rfl rfl)
end Go.Proofs.Ytcdlipdeemlibaa.G
namespace Go.Proofs.Ytcdlipdeemlibaa.G
open Go
set_option linter.unusedSimpArgs false
set_option linter.unusedVariables false
set_option maxRecDepth 20000
set_option maxHeartbeats 2000000
theorem outC_one (r : Rs) {s : IV} (h : ione s = true) : (outC r s).all ione = true := by
  simp only [outC, List.all_cons, List.all_nil, h]; rfl
theorem out_len (r s) : (outC r s).length = 3 := rfl
theorem out_take (r s) : (outC r s).take 3 = outC r s := rfl
theorem out_0 (r s) : (outC r s).take 1 = [.int .u64 (r.touched.toNat : Int)] := rfl
theorem out_00 (r s) : ((outC r s).drop 0).take 1 = [.int .u64 (r.touched.toNat : Int)] := rfl
theorem out_1 (r s) : ((outC r s).drop 1).take 1 = [s] := rfl
theorem out_2 (r s) : ((outC r s).drop 2).take 1 = [nI r.err] := rfl
theorem out_all (c : List IV) (hc : c.length = 3) (r s) : isplice c 0 (outC r s) = outC r s := by
  simp only [isplice, List.take_zero, List.nil_append, Nat.zero_add, out_len]
  rw [List.drop_of_length_le (by omega), List.append_nil]
theorem out_z (r s) : isplice [IV.sc (Value.int IntKind.u64 0), IV.sc (Value.slice none 0 0), IV.sc (Value.int IntKind.i64 0)] 0 (outC r s) = outC r s := rfl
attribute [go_sem] out_len out_take out_0 out_00 out_1 out_2
attribute [go_sem ↓] out_z
theorem ticks_step (g : Gm) (x y : IV) (h : GR g x y) (hr : g.right = true) (hw : ∀ c ∈ g.code, c.wf) (b : Bd) (hbk : b.ok) (d t : Int) (x2 : IV) (as : List (List (BitVec 32))) (hx : LsR 1 (fun v ms => Ls 1 v (ms.map m32)) x2 as) (i : Nat) (hi : i < as.length) (ha : as.length ≤ 9223372036854775807) (J : JH) (h0 : J[0]? = some (.cells 0 (gmc g x y) false)) (h1 : J[1]? = some (.cells 0 (stc b d t) false)) (K : Out IV → JH → Prop)
    (hE : K (.goto 0 []) J) (hK : ∀ J', Fr J J' [1] → J'[1]? = some (.cells 0 (stc (g.run as[i] b d t).bd (g.run as[i] b d t).dice (IntKind.u32.wrap (t + 1))) false) → K (.goto 1 [.ptr 0 0 0, .ptr 1 0 0, x2, nI as.length, nI (i + 1)]) J') :
    WP (dn BI l_law10_RulesTicks_k0 [.ptr 0 0 0, .ptr 1 0 0, x2, nI as.length, nI i] J) K := by
  unfold l_law10_RulesTicks_k0
  obtain ⟨e, he, hat⟩ := hx.at hi
  have hw1 := wrapS hi ha
  by_cases h20 : 20 ≤ i
  · simp -implicitDefEqProofs only [go_sem, dnW_ite, reduceIte, Nat.reduceAdd, Nat.reduceLeDiff, Nat.reduceMul, Nat.reduceEqDiff, Int.reduceLT, Int.reduceLE, Int.reduceToNat, Nat.reduceSub, Nat.reduceLT, Int.reduceEq, BitVec.reduceOfInt, BitVec.reduceOfNat, Int.reduceGT, Int.reduceGE, Int.reduceBEq, Int.reduceBNe, Nat.reduceGT, Nat.reduceBEq, Nat.reduceBNe, Int.reduceAdd, Int.reduceSub, Int.reduceNeg, show ((i : Int) < (as.length : Int)) by omega, hat, ↓he.icells, show ((i : Int) ≥ 20) by omega]
    exact hE
  obtain ⟨s, hS, hs⟩ := StepR_ok g x y h hr hw b hbk d t e as[i] he
  have hl1 := lt_get h1
  have hlen := step_len g as[i] b d t
  have herr := step_err g as[i] b d t
  generalize g.run as[i] b d t = R at *
  by_cases h0' : R.err = 0
  · have h0'' : ((R.err : Int) != 0) = false := by simp [h0']
    simp -implicitDefEqProofs only [go_sem, dnW_ite, reduceIte, Nat.reduceAdd, Nat.reduceLeDiff, Nat.reduceMul, Nat.reduceEqDiff, Int.reduceLT, Int.reduceLE, Int.reduceToNat, Nat.reduceSub, Nat.reduceLT, Int.reduceEq, BitVec.reduceOfInt, BitVec.reduceOfNat, Int.reduceGT, Int.reduceGE, Int.reduceBEq, Int.reduceBNe, Nat.reduceGT, Nat.reduceBEq, Nat.reduceBNe, Int.reduceAdd, Int.reduceSub, Int.reduceNeg, show ((i : Int) < (as.length : Int)) by omega, hat, ↓he.icells, show ¬ ((i : Int) ≥ 20) by omega, h0, h1, dcp hS (by simp [ipureL, ipure, h.pure, sta_pure, he.pure]), sta_z, outC_one R hs.one, inb h0, inb h1, bne_self_eq_false, h0'', dcp (Len_ok R.bd) (by simp [ipureL, ipure, bdc_pure]), dcp (Len_ok b) (by simp [ipureL, ipure, bdc_pure]), hlen, hw1]
    refine hK _ ?_ (set_get _ (by simp <;> omega))
    have hf := Fr.refl J [1]
    (have hsz_ := hf.1; repeat (first | exact hf | apply Fr.psh | (apply Fr.stn; rotate_left; first | omega | (simp only [Array.size_push, Array.size_setIfInBounds]; omega)) | (apply Fr.sts; rotate_left; focus (simp only [List.mem_cons, eq_self, true_or, or_true]; done))))
  · obtain ⟨e1, e2, e3⟩ := herr h0'
    have h0'' : ((R.err : Int) != 0) = true := by simp; omega
    simp -implicitDefEqProofs only [go_sem, dnW_ite, reduceIte, Nat.reduceAdd, Nat.reduceLeDiff, Nat.reduceMul, Nat.reduceEqDiff, Int.reduceLT, Int.reduceLE, Int.reduceToNat, Nat.reduceSub, Nat.reduceLT, Int.reduceEq, BitVec.reduceOfInt, BitVec.reduceOfNat, Int.reduceGT, Int.reduceGE, Int.reduceBEq, Int.reduceBNe, Nat.reduceGT, Nat.reduceBEq, Nat.reduceBNe, Int.reduceAdd, Int.reduceSub, Int.reduceNeg, show ((i : Int) < (as.length : Int)) by omega, hat, ↓he.icells, show ¬ ((i : Int) ≥ 20) by omega, h0, h1, dcp hS (by simp [ipureL, ipure, h.pure, sta_pure, he.pure]), sta_z, outC_one R hs.one, inb h0, inb h1, bne_self_eq_false, h0'', dcp (Len_ok R.bd) (by simp [ipureL, ipure, bdc_pure]), dcp (Len_ok b) (by simp [ipureL, ipure, bdc_pure]), hlen, hw1, e1, e2, e3, eq_one, BitVec.toNat_ofNat, show ((((0 % 2 ^ 64 : Nat)) : Int) != 0) = false from rfl]
    rw [e1, e2] at hK
    refine hK _ ?_ (set_get _ (by simp <;> omega))
    have hf := Fr.refl J [1]
    (have hsz_ := hf.1; repeat (first | exact hf | apply Fr.psh | (apply Fr.stn; rotate_left; first | omega | (simp only [Array.size_push, Array.size_setIfInBounds]; omega)) | (apply Fr.sts; rotate_left; focus (simp only [List.mem_cons, eq_self, true_or, or_true]; done))))
theorem ticks_loop (g : Gm) (x y : IV) (h : GR g x y) (hr : g.right = true) (hw : ∀ c ∈ g.code, c.wf) (b : Bd) (hbk : b.ok) (d t : Int) (x2 : IV) (as : List (List (BitVec 32))) (hx : LsR 1 (fun v ms => Ls 1 v (ms.map m32)) x2 as) (ha : as.length ≤ 9223372036854775807) (J : JH) (h0 : J[0]? = some (.cells 0 (gmc g x y) false)) (h1 : J[1]? = some (.cells 0 (stc b d t) false)) (K : Out IV → JH → Prop) (hK : ∀ J', K (.ret [.bool true]) J') :
    WP (onJoinD 0 (iter (dn BI l_law10_RulesTicks_k0) 1 [.ptr 0 0 0, .ptr 1 0 0, x2, nI as.length, nI 0] J) l_law10_RulesTicks_k1) K := by
  have fin : ∀ J', WP (dn BI l_law10_RulesTicks_k1 [] J') K := fun J' => by
    unfold l_law10_RulesTicks_k1
    simp -implicitDefEqProofs only [go_sem, dnW_ite, reduceIte, Nat.reduceAdd, Nat.reduceLeDiff, Nat.reduceMul, Nat.reduceEqDiff, Int.reduceLT, Int.reduceLE, Int.reduceToNat, Nat.reduceSub, Nat.reduceLT, Int.reduceEq, BitVec.reduceOfInt, BitVec.reduceOfNat, Int.reduceGT, Int.reduceGE, Int.reduceBEq, Int.reduceBNe, Nat.reduceGT, Nat.reduceBEq, Nat.reduceBNe, Int.reduceAdd, Int.reduceSub, Int.reduceNeg]
    exact hK _
  refine WP_range (by decide) as.length (fun i vs J' => vs = [.ptr 0 0 0, .ptr 1 0 0, x2, nI as.length, nI i] ∧ Fr J J' [1] ∧ ∃ b d t, J'[1]? = some (.cells 0 (stc b d t) false) ∧ b.ok) ?_ ⟨rfl, .refl _ _, b, d, t, h1, hbk⟩
  rintro i vs J1 ⟨rfl, hf, b, d, t, k1, hbk⟩ hi K1 g1 g2 g3
  have k0 : J1[0]? = some (.cells 0 (gmc g x y) false) := by rw [hf.2 0 (lt_get h0) (by simp)]; exact h0
  by_cases hi2 : i < as.length
  · refine ticks_step g x y h hr hw b hbk d t x2 as hx i hi2 ha J1 k0 k1 K1 (g2 _ _ (fin _)) fun J' hf2 k2 => ?_
    exact g1 hi2 _ _ ⟨rfl, hf.trans hf2 (fun _ _ h => h), _, _, _, k2, step_bok g hr hw as[i] b hbk d t⟩
  · unfold l_law10_RulesTicks_k0
    simp -implicitDefEqProofs only [go_sem, dnW_ite, reduceIte, Nat.reduceAdd, Nat.reduceLeDiff, Nat.reduceMul, Nat.reduceEqDiff, Int.reduceLT, Int.reduceLE, Int.reduceToNat, Nat.reduceSub, Nat.reduceLT, Int.reduceEq, BitVec.reduceOfInt, BitVec.reduceOfNat, Int.reduceGT, Int.reduceGE, Int.reduceBEq, Int.reduceBNe, Nat.reduceGT, Nat.reduceBEq, Nat.reduceBNe, Int.reduceAdd, Int.reduceSub, Int.reduceNeg, show ¬ ((i : Int) < (as.length : Int)) by omega]
    exact g2 _ _ (fin _)
theorem I32_nil : ∀ v ∈ ([] : List Int), I32 v := by simp
theorem Ticks_ok (g : Gm) (x y : IV) (h : GR g x y) (hw : ∀ c ∈ g.code, c.wf) (hv : ∀ c ∈ g.cells, I32 c.v) (hc : g.cells.length ≤ 9223372036854775807) (hcd : g.code.length ≤ 9223372036854775807) (sd : Int) (x2 : IV) (as : List (List (BitVec 32))) (hx : LsR 1 (fun v ms => Ls 1 v (ms.map m32)) x2 as) (ha : as.length ≤ 9223372036854775807) :
    pc BI F_law10_RulesTicks [.agg (gmc g x y), .int .u64 sd, x2] = some (.bool true) := by
  refine pcE fn_law10_RulesTicks rfl fun K hK => ?_
  obtain ⟨_, hf, x3, y2, rfl, h2⟩ := gfew_ok g x y h hc hcd
  have hw2 := few_wf hw
  have hv2 := few_I32 hv
  obtain ⟨n1, n2⟩ := few_len g
  generalize g.few = G at *
  unfold l_law10_RulesTicks
  cases hr : G.right with
  | false =>
    have hS := Start0_ok G x3 y2 h2 hr hw2 (by omega) (.sc (.slice none 0 0)) sd
    simp -implicitDefEqProofs only [go_sem, dnW_ite, reduceIte, Nat.reduceAdd, Nat.reduceLeDiff, Nat.reduceMul, Nat.reduceEqDiff, Int.reduceLT, Int.reduceLE, Int.reduceToNat, Nat.reduceSub, Nat.reduceLT, Int.reduceEq, BitVec.reduceOfInt, BitVec.reduceOfNat, Int.reduceGT, Int.reduceGE, Int.reduceBEq, Int.reduceBNe, Nat.reduceGT, Nat.reduceBEq, Nat.reduceBNe, Int.reduceAdd, Int.reduceSub, Int.reduceNeg, h.one, h2.one, dcp awake10 rfl, dcp hf (by simp [ipureL, ipure, h.pure]), dcp hS (by simp [ipureL, ipure, h2.pure]), sta_z]
    exact hK _ _ (frzE rfl rfl)
  | true =>
    have hS := Start_ok G x3 y2 h2 hr hw2 (.sc (.slice none 0 0)) [] .nil (by simp) sd
    simp -implicitDefEqProofs only [go_sem, dnW_ite, reduceIte, Nat.reduceAdd, Nat.reduceLeDiff, Nat.reduceMul, Nat.reduceEqDiff, Int.reduceLT, Int.reduceLE, Int.reduceToNat, Nat.reduceSub, Nat.reduceLT, Int.reduceEq, BitVec.reduceOfInt, BitVec.reduceOfNat, Int.reduceGT, Int.reduceGE, Int.reduceBEq, Int.reduceBNe, Nat.reduceGT, Nat.reduceBEq, Nat.reduceBNe, Int.reduceAdd, Int.reduceSub, Int.reduceNeg, h.one, h2.one, dcp awake10 rfl, dcp hf (by simp [ipureL, ipure, h.pure]), dcp hS (by simp [ipureL, ipure, h2.pure]), sta_z, hx.lenF, dn_loop]
    exact ticks_loop G x3 y2 h2 hr hw2 _ (bd0_ok _ _ _ hv2 I32_nil) sd 0 x2 as hx ha _ rfl rfl K fun J' => hK _ _ (frzE rfl rfl)
end Go.Proofs.Ytcdlipdeemlibaa.G
