/- Joined: RU11 to RH1. -/
import Derived.Test.YticfcmaigffhmaaXG
set_option linter.unusedVariables false
set_option linter.unusedSimpArgs false
namespace Go.Proofs.Yticfcmaigffhmaa.G
open Go
set_option linter.unusedSimpArgs false
set_option linter.unusedVariables false
set_option maxRecDepth 20000
set_option maxHeartbeats 2000000
theorem followF_mv (q q' : IV) (ms : List Int) (t : Int) (a : BitVec 32) (m : Mc) (x : Cd) : followF ⟨q, ms, t, a⟩ m x = followF ⟨q', ms, t, a⟩ m x := by
  unfold followF reachF revealF named
  rfl
theorem loopF_mv (q q' : IV) (ms : List Int) (t : Int) (a : BitVec 32) (l : List Cd) : ∀ (k : Nat) (m : Mc), loopF ⟨q, ms, t, a⟩ l k m = loopF ⟨q', ms, t, a⟩ l k m
  | 0, m => rfl
  | k + 1, m => by
    rw [loopF, loopF, followF_mv q q', loopF_mv q q' ms t a l k]
theorem runF_mv (q q' : IV) (ms : List Int) (t : Int) (a : BitVec 32) (l : List Cd) (b : Bd) (d : Int) : runF ⟨q, ms, t, a⟩ l b d = runF ⟨q', ms, t, a⟩ l b d := by
  unfold runF
  have e : start ⟨q, ms, t, a⟩ b d = start ⟨q', ms, t, a⟩ b d := rfl
  rw [e, loopF_mv q q']
def Gm.run (g : Gm) (ms : List (BitVec 32)) (b : Bd) (d t : Int) : Rs := runF (g.env ms t (.sc (.slice none 0 0))) g.code b d
theorem run_mv (g : Gm) (ms : List (BitVec 32)) (b : Bd) (d t : Int) (q : IV) : runF (g.env ms t q) g.code b d = g.run ms b d t := runF_mv _ _ _ _ _ _ _ _
def outC (r : Rs) (s : IV) : List IV := [.int .u64 (r.touched.toNat : Int), s, nI r.err]
theorem StepR_ok (g : Gm) (x y : IV) (h : GR g x y) (hr : g.right = true) (hw : ∀ c ∈ g.code, c.wf) (b : Bd) (hbk : b.ok) (d t : Int) (mv : IV) (ms : List (BitVec 32)) (hm : Ls 1 mv (ms.map m32)) :
    ∃ s, pc BI F_rules_Game_Step [.agg (gmc g x y), .agg (stc b d t), mv] = some (.tup [.agg (stc (g.run ms b d t).bd (g.run ms b d t).dice (IntKind.u32.wrap (t + 1))), .agg (outC (g.run ms b d t) s)]) ∧ Ls 3 s ((g.run ms b d t).shows.map Sh.e) := by
  obtain ⟨_, _, _, _, h96⟩ := right_48 hr
  obtain ⟨_, h1, q, s, hq, hs, rfl⟩ := Step_ok g x y h hr hw (by omega) b hbk d t mv ms hm
  rw [run_mv] at h1 hs
  exact ⟨s, h1, hs⟩
variable {b : Bd} {E : Me}
theorem loop_mok (l : List Cd) (hr : ∀ x ∈ l, x.right l.length b.l.length E.moves.length = true) (hE : E.ok) (hw : ∀ x ∈ l, x.wf) : ∀ (k : Nat) (m : Mc), m.ok b.l.length l.length → (loopF E l k m).bd.ok
  | 0, m, h => by
    rw [loopF]; split <;> exact h.bd
  | k + 1, m, h => by
    rw [loopF]
    split
    · rename_i hc
      have hm := List.getElem_mem hc.2
      have e : l.getD m.pc ⟨0, 0, 0, 0, 0, 0⟩ = l[m.pc] := by simp [hc.2]
      rw [e]
      split
      · exact h.bd
      · have hok' : ({ m with used := m.used + 1 } : Mc).ok b.l.length l.length := ⟨h.r, h.bd, h.len, h.pc⟩
        exact loop_mok l hr hE hw k _ (followF_nice hE hok' hc.2 l[m.pc] (hw _ hm) (hr _ hm)).1
    · exact h.bd
theorem run_bok (l : List Cd) (hE : E.ok) (hw : ∀ x ∈ l, x.wf) (b : Bd) (hb : b.ok) (d : Int) : (runF E l b d).bd.ok := by
  unfold runF
  split
  · exact hb
  · rename_i hR
    split
    · exact hb
    · have hall : ∀ x ∈ l, x.right l.length b.l.length E.moves.length = true := by
        have h2 : l.length ≤ 96 ∧ ∀ x ∈ l, x.right l.length b.l.length E.moves.length = true := by simpa [rightL] using hR
        exact h2.2
      refine loop_mok l hall hE hw 400 _ ⟨fun i hi => ?_, hb, rfl, Nat.zero_le _⟩
      have : ((start E b d).r.at i).v = 0 := by
        show ((regs0 E.all).at i).v = 0
        rw [rg_at _ hi]; simp only [regs0, List.getElem_replicate]
      rw [this]; exact I32_0
theorem step_bok (g : Gm) (hr : g.right = true) (hw : ∀ c ∈ g.code, c.wf) (ms : List (BitVec 32)) (b : Bd) (hb : b.ok) (d t : Int) : (g.run ms b d t).bd.ok := by
  obtain ⟨h1, h6, _⟩ := right_players hr
  have hE : (g.env ms t (.lst 1 true ((g.allF ms g.players.toNat).map (IV.int .i32)))).ok := ⟨.lst, allF_rng _ _ _, by show (g.allF ms g.players.toNat).length ≤ _; rw [allF_len]; omega⟩
  rw [← run_mv g ms b d t (.lst 1 true ((g.allF ms g.players.toNat).map (IV.int .i32)))]
  exact run_bok g.code hE hw b hb d
theorem step_len (g : Gm) (ms : List (BitVec 32)) (b : Bd) (d t : Int) : (g.run ms b d t).bd.l.length = b.l.length := run_len _ _ _
theorem step_err (g : Gm) (ms : List (BitVec 32)) (b : Bd) (d t : Int) (h : (g.run ms b d t).err ≠ 0) : (g.run ms b d t).bd = b ∧ (g.run ms b d t).dice = d ∧ (g.run ms b d t).touched = 0#64 := run_err _ _ _ h
theorem hidS_I32 {p : List Cl × List Int} {c : Cl} (h1 : ∀ x ∈ p.1, I32 x.v) (h2 : ∀ v ∈ p.2, I32 v) (hc : I32 c.v) : (∀ x ∈ (hidS p c).1, I32 x.v) ∧ ∀ v ∈ (hidS p c).2, I32 v := by
  obtain ⟨L, R⟩ := p
  unfold hidS
  split
  · split
    · rename_i e
      simp only at e h1 h2 ⊢
      subst e
      refine ⟨fun x hx => ?_, by simp⟩
      rcases List.mem_append.1 hx with hx | hx
      · exact h1 x hx
      · simp at hx; subst hx; exact hc
    · rename_i v r e
      simp only at e h1 h2 ⊢
      subst e
      refine ⟨fun x hx => ?_, fun w hw => h2 w (by simp [hw])⟩
      rcases List.mem_append.1 hx with hx | hx
      · exact h1 x hx
      · simp at hx; subst hx; exact h2 v (by simp)
  · refine ⟨fun x hx => ?_, h2⟩
    rcases List.mem_append.1 hx with hx | hx
    · exact h1 x hx
    · simp at hx; subst hx; exact hc
theorem hid_I32 (C : List Cl) : ∀ (p : List Cl × List Int), (∀ x ∈ p.1, I32 x.v) → (∀ v ∈ p.2, I32 v) → (∀ c ∈ C, I32 c.v) → ∀ x ∈ (C.foldl hidS p).1, I32 x.v := by
  induction C with
  | nil => intro p h1 _ _; exact h1
  | cons c C ih =>
    intro p h1 h2 h3
    rw [List.foldl_cons]
    obtain ⟨k1, k2⟩ := hidS_I32 h1 h2 (h3 c (by simp))
    exact ih _ k1 k2 fun c hc => h3 c (by simp [hc])
theorem bd0_ok (g : Gm) (h : g.cells.length ≤ 48) (H : List Int) (hv : ∀ c ∈ g.cells, I32 c.v) (hH : ∀ v ∈ H, I32 v) : (g.bd0 h H).ok := by
  intro c hc
  simp only [Gm.bd0, hidB, List.take_length, List.drop_length, List.append_nil] at hc
  exact hid_I32 g.cells ([], H) (by simp) hH hv c hc
end Go.Proofs.Yticfcmaigffhmaa.G
namespace Go.Proofs.Yticfcmaigffhmaa.G
open Go
set_option linter.unusedSimpArgs false
set_option linter.unusedVariables false
set_option maxRecDepth 20000
set_option maxHeartbeats 2000000
theorem outC_one (r : Rs) {s : IV} (h : ione s = true) : (outC r s).all ione = true := by
  simp only [outC, List.all_cons, List.all_nil, h]; rfl
theorem out_len (r s) : (outC r s).length = 3 := rfl
theorem out_take (r s) : (outC r s).take 3 = outC r s := rfl
theorem out_0 (r s) : (outC r s).take 1 = [.int .u64 (r.touched.toNat : Int)] := rfl
theorem out_00 (r s) : ((outC r s).drop 0).take 1 = [.int .u64 (r.touched.toNat : Int)] := rfl
theorem out_1 (r s) : ((outC r s).drop 1).take 1 = [s] := rfl
theorem out_2 (r s) : ((outC r s).drop 2).take 1 = [nI r.err] := rfl
theorem out_z (r s) : isplice [IV.sc (Value.int IntKind.u64 0), IV.sc (Value.slice none 0 0), IV.sc (Value.int IntKind.i64 0)] 0 (outC r s) = outC r s := rfl
attribute [go_sem] out_len out_take out_0 out_00 out_1 out_2
attribute [go_sem ↓] out_z
end Go.Proofs.Yticfcmaigffhmaa.G
namespace Go.Proofs.Yticfcmaigffhmaa.G
open Go
set_option linter.unusedSimpArgs false
set_option linter.unusedVariables false
set_option maxRecDepth 20000
set_option maxHeartbeats 1000000
def clL (X : List Cl) : List IV := (X.map Cl.c).flatten
theorem clL_len (X : List Cl) : (clL X).length = X.length * 2 := by rw [clL, flat_len (cl2 X), List.length_map]
theorem clL_pure (X : List Cl) : ipureL (clL X) = true := cl_pure X
def RawC (J : JH) (s : IV) (X : List Cl) : Prop := (X = [] ∧ s = .lst 2 true []) ∨ (X ≠ [] ∧ ∃ b, s = .sl b 0 0 X.length (UNK + 2) 2 ∧ J[b]? = some (.cells 0 (clL X) false))
theorem Clip.raw {J J' : JH} {s : IV} {X : List Cl} (h : Clip J J' s 2 (X.map Cl.c)) : RawC J' s X := by
  rcases h with ⟨h, rfl, _⟩ | ⟨h, rfl, rfl⟩
  · exact .inl ⟨List.map_eq_nil_iff.1 h, rfl⟩
  · refine .inr ⟨fun e => h (by rw [e]; rfl), J.size, by rw [List.length_map], by rw [push_get]; rfl⟩
theorem Clip.new {J J' : JH} {s : IV} {sz : Nat} {X : List (List IV)} (h : Clip J J' s sz X) : ∀ d ∈ blk s, J.size ≤ d := by
  rcases h with ⟨_, rfl, _⟩ | ⟨_, rfl, _⟩ <;> simp [blk, blkOf]
theorem RawC.fr {J J' : JH} {s : IV} {X : List Cl} {S : List Nat} (h : RawC J s X) (hf : Fr J J' S) (hs : ∀ d ∈ blk s, d ∉ S) : RawC J' s X := by
  rcases h with h | ⟨h, b, rfl, hb⟩
  · exact .inl h
  · exact .inr ⟨h, b, rfl, by rw [hf.2 b (lt_get hb) (hs b (by simp [blk, blkOf]))]; exact hb⟩
theorem RawC.low {J : JH} {s : IV} {X : List Cl} (h : RawC J s X) : ∀ d ∈ blk s, d < J.size := by
  rcases h with ⟨_, rfl⟩ | ⟨_, b, rfl, hb⟩
  · simp [blk, blkOf]
  · intro d hd; simp [blk, blkOf] at hd; subst hd; exact lt_get hb
theorem RawC.lenF {J : JH} {s : IV} {X : List Cl} (h : RawC J s X) (J2 : JH) : Go.Proofs.Yticfcmaigffhmaa.G.lenF false s J2 = some (nI X.length, J2) := by
  rcases h with ⟨rfl, rfl⟩ | ⟨_, _, rfl, _⟩ <;> rfl
theorem RawC.get {J : JH} {s : IV} {X : List Cl} (h : RawC J s X) {i : Nat} (hi : i < X.length) : ∃ b, s = .sl b 0 0 X.length (UNK + 2) 2 ∧ J[b]? = some (.cells 0 (clL X) false) := by
  rcases h with ⟨rfl, _⟩ | h
  · cases hi
  · exact h.2
theorem RawC.frz {J : JH} {s : IV} {X : List Cl} (h : RawC J s X) : ∃ u, (∀ k, Go.Proofs.Yticfcmaigffhmaa.G.frz J (k + 1) s = some u) ∧ Ls 2 u (X.map Cl.e) := by
  rcases h with ⟨rfl, rfl⟩ | ⟨hne, b, rfl, hb⟩
  · exact ⟨_, fun k => frz_pure _ _ rfl, .lst⟩
  · have hl : X.length = (X.map Cl.c).length := by simp
    have hr : ird J b 0 0 (X.length * 2) = some (X.map Cl.c).flatten := by
      simp only [ird, hb, true_and, Nat.zero_add, List.drop_zero]
      rw [if_pos (by rw [clL_len]; exact Nat.le_refl _), List.take_of_length_le (by rw [clL_len]; exact Nat.le_refl _)]; rfl
    refine ⟨_, fun k => frz_sl (by decide) hr (cl_pure X) (flat_one X), ?_⟩
    rw [hl, grp_flat (cl2 X), cl_mk]; exact .lst
theorem RawC.shows {J : JH} {s : IV} {X : List Cl} (h : RawC J s X) : ∀ d ∈ Go.Proofs.Yticfcmaigffhmaa.G.shows J DEP s, d ∈ blk s := by
  rcases h with ⟨rfl, rfl⟩ | ⟨hne, b, rfl, hb⟩
  · intro d hd; rw [shows_pure J DEP rfl] at hd; cases hd
  · intro d hd
    have hr : ird J b 0 0 (X.length * 2) = some (clL X) := by
      simp only [ird, hb, true_and, Nat.zero_add, List.drop_zero]
      rw [if_pos (by rw [clL_len]; exact Nat.le_refl _), List.take_of_length_le (by rw [clL_len]; exact Nat.le_refl _)]
    rw [frz12, shows_sl hr (clL_pure X)] at hd
    exact hd
end Go.Proofs.Yticfcmaigffhmaa.G
namespace Go.Proofs.Yticfcmaigffhmaa.G
open Go
set_option linter.unusedSimpArgs false
set_option linter.unusedVariables false
set_option maxRecDepth 20000
set_option maxHeartbeats 1000000
theorem one_bit (p : Nat) (hp : p < 32) (i : Nat) : (oneM (p : Int)).getLsbD i = decide (i = p) := by
  rw [oneM, if_pos (by omega), Int.toNat_natCast, BitVec.getLsbD_shiftLeft, BitVec.getLsbD_one]
  rw [Bool.eq_iff_iff]; simp; omega
theorem has_bit (s : BitVec 32) (p : Nat) (hp : p < 32) : hasM s (p : Int) = s.getLsbD p := by
  unfold hasM
  cases h : s.getLsbD p with
  | true =>
    rw [bne_iff_ne]
    intro e
    have := congrArg (fun x => x.getLsbD p) e
    simp [BitVec.getLsbD_and, one_bit p hp, h] at this
  | false =>
    rw [bne_eq_false_iff_eq]
    apply BitVec.eq_of_getLsbD_eq
    intro i hi
    rw [BitVec.getLsbD_and, one_bit p hp]
    by_cases e : i = p
    · subst e; simp [h]
    · simp [e]
theorem all_bit (n : Nat) (hn : n ≤ 32) {p : Nat} (hp : p < n) : (allM (n : Int)).getLsbD p = true := by
  rw [allM, show (min (max (n : Int) 0) 32).toNat = n by omega, BitVec.getLsbD_ofNat, Nat.testBit_two_pow_sub_one]
  simp; omega
theorem PO_has (p n : Nat) (hp : p < n) (hn : n ≤ 32) : PO (fun s => hasM s (p : Int)) (allM (n : Int)) := by
  have h32 : p < 32 := by omega
  refine ⟨fun s h => ?_, fun a b h => ?_, ?_⟩
  · show hasM s (p : Int) = true
    rw [has_bit _ _ h32]
    have h2 := congrArg (fun x => x.getLsbD p) (show allM (n : Int) &&& ~~~s = 0#32 by simpa [within] using h)
    simp only [BitVec.getLsbD_and, BitVec.getLsbD_not, all_bit n hn hp, BitVec.getLsbD_zero, h32, decide_true, Bool.true_and, Bool.not_eq_false'] at h2
    exact h2
  · show hasM a (p : Int) = true ∧ hasM b (p : Int) = true
    have h' : hasM (a &&& b) (p : Int) = true := h
    rw [has_bit _ _ h32] at *
    rw [has_bit _ _ h32]
    rw [BitVec.getLsbD_and, Bool.and_eq_true] at h'
    exact h'
  · show hasM 0#32 (p : Int) = false
    rw [has_bit _ _ h32]; simp
theorem Join_has (p : Nat) (hp : p < 32) : Join' (fun s => hasM s (p : Int)) := by
  intro s t h
  have h' : hasM (s ||| t) (p : Int) = true := h
  show hasM s (p : Int) = true ∨ hasM t (p : Int) = true
  rw [has_bit _ _ hp] at *
  rw [has_bit _ _ hp]
  rw [BitVec.getLsbD_or, Bool.or_eq_true] at h'
  exact h'
theorem BE.view (p : Int) (b : Bd) : BE (fun s => hasM s p) b (b.view p) := by
  refine ⟨by simp [Bd.view, Bd.map], fun j => ?_⟩
  simp only [Bd.at, Bd.view, Bd.map, List.getD_eq_getElem?_getD, List.getElem?_map]
  cases h : b.l[j.toNat]? with
  | none => exact CE.refl _ _
  | some c =>
    show CE _ c (viewC p c)
    unfold viewC
    split
    · exact CE.refl _ _
    · rename_i hn; exact ⟨rfl, fun h => absurd h hn⟩
theorem BE.views {p : Int} {a b : Bd} (h : BE (fun s => hasM s p) a b) : a.view p = b.view p := by
  have e : (a.view p).l = (b.view p).l := by
    simp only [Bd.view, Bd.map]
    apply List.ext_getElem
    · simp [h.1]
    · intro i h1 h2
      have hc := h.2 (i : Int)
      simp only [List.length_map] at h1 h2
      have ea : a.at (i : Int) = a.l[i] := by simp [Bd.at, List.getD_eq_getElem?_getD, h1]
      have eb : b.at (i : Int) = b.l[i] := by simp [Bd.at, List.getD_eq_getElem?_getD, h2]
      rw [ea, eb] at hc
      simp only [List.getElem_map, viewC]
      obtain ⟨k1, k2⟩ := hc
      rw [← k1]
      split
      · rename_i hp
        have := k2 hp
        cases ha : a.l[i]; cases hb : b.l[i]
        simp_all
      · rfl
  revert e
  generalize a.view p = x
  generalize b.view p = y
  intro e
  cases x; cases y; cases e; rfl
variable {P : BitVec 32 → Bool} {E F : Me} {m n : Mc}
def Diff (P : BitVec 32 → Bool) (a b : List Sh) : Prop := ∃ (j : Nat) (s t : Sh), a[j]? = some s ∧ b[j]? = some t ∧ P s.to = true ∧ s.v ≠ t.v ∧ SE (a.take (j + 1)) (b.take (j + 1))
theorem Diff.ext {a b c d : List Sh} (h : Diff P a b) : Diff P (a ++ c) (b ++ d) := by
  obtain ⟨j, s, t, h1, h2, h3, h4, h5⟩ := h
  have l1 := (List.getElem?_eq_some_iff.1 h1).1
  have l2 := (List.getElem?_eq_some_iff.1 h2).1
  refine ⟨j, s, t, by rw [List.getElem?_append_left l1]; exact h1, by rw [List.getElem?_append_left l2]; exact h2, h3, h4, ?_⟩
  rw [List.take_append_of_le_length (by omega), List.take_append_of_le_length (by omega)]
  exact h5
theorem follow_22 (E : Me) (m : Mc) (x : Cd) (h : x.op = 22) : followF E m x = revealF E m.go x := by
  unfold followF reachF
  simp only [h]
theorem follow_told (hP : PO P E.all) (hE : EE P E F) (h : ME P m n) (x : Cd) (hb : x.b < 8) (h0 : Tell P m.shows n.shows) :
    Tell P (followF E m x).shows (followF F n x).shows ∨ Diff P (followF E m x).shows (followF F n x).shows := by
  by_cases ho : x.op = 22
  · have hg : ME P m.go n.go := ⟨h.bd, h.touched, h.shows, h.used, h.err, h.r, by show m.pc + 1 = n.pc + 1; rw [h.pc]⟩
    have hn := named_eq hP hE hg x hb
    rw [follow_22 E m x ho, follow_22 F n x ho]
    unfold revealF
    rw [← hn]
    by_cases hk : (named E m.go x).2.1 = false
    · rw [if_pos hk, if_pos hk]; exact .inl h0
    · rw [if_neg hk, if_neg hk]
      have hc := hg.bd.2 (named E m.go x).1
      have ho : Sh.one n.go x F.all (named E m.go x).1 = Sh.one m.go x E.all (named E m.go x).1 := by unfold Sh.one; rw [← hE.all, ← hc.1]
      rw [ho]
      by_cases hz : Sh.one m.go x E.all (named E m.go x).1 = 0#32
      · simp only [if_pos hz, List.append_nil]; exact .inl h0
      · simp only [if_neg hz]
        have hlen : m.shows.length = n.shows.length := by have := congrArg List.length h.shows; simpa using this
        by_cases hd : P (Sh.one m.go x E.all (named E m.go x).1) = true ∧ (m.go.bd.at (named E m.go x).1).v ≠ (n.go.bd.at (named E m.go x).1).v
        · refine .inr ⟨m.shows.length, ⟨(named E m.go x).1, Sh.one m.go x E.all (named E m.go x).1, (m.go.bd.at (named E m.go x).1).v⟩, ⟨(named E m.go x).1, Sh.one m.go x E.all (named E m.go x).1, (n.go.bd.at (named E m.go x).1).v⟩, by simp [Mc.go], by rw [hlen]; simp [Mc.go], hd.1, hd.2, ?_⟩
          rw [List.take_of_length_le (by simp [Mc.go]), List.take_of_length_le (by simp [Mc.go, hlen])]
          exact SE.app h.shows rfl
        · refine .inl fun i s t h1 h2 h3 => ?_
          by_cases hi : i < m.shows.length
          · rw [List.getElem?_append_left (show i < m.go.shows.length from hi)] at h1
            rw [List.getElem?_append_left (show i < n.go.shows.length from by show i < n.shows.length; omega)] at h2
            exact h0 i s t h1 h2 h3
          · have hi2 : i = m.shows.length := by
              have := (List.getElem?_eq_some_iff.1 h1).1
              simp [Mc.go] at this; omega
            subst hi2
            have e1 : s = ⟨(named E m.go x).1, Sh.one m.go x E.all (named E m.go x).1, (m.go.bd.at (named E m.go x).1).v⟩ := by
              simp [Mc.go] at h1; exact h1.symm
            have e2 : t = ⟨(named E m.go x).1, Sh.one m.go x E.all (named E m.go x).1, (n.go.bd.at (named E m.go x).1).v⟩ := by
              rw [hlen] at h2; simp [Mc.go] at h2; exact h2.symm
            subst e1; subst e2
            by_cases hv : (m.go.bd.at (named E m.go x).1).v = (n.go.bd.at (named E m.go x).1).v
            · exact hv
            · exact absurd ⟨h3, hv⟩ hd
  · rw [followF_none E m x ho, followF_none F n x ho]; exact .inl h0
theorem ME.loop2 (hP : PO P E.all) (hE : EE P E F) (l : List Cd) (ha : ∀ x ∈ l, x.a < 8 ∧ x.b < 8) (hj : Join' P) : ∀ (k : Nat) (m n : Mc), ME P m n → Tell P m.shows n.shows → Tell P (loopF E l k m).shows (loopF F l k n).shows ∨ Diff P (loopF E l k m).shows (loopF F l k n).shows
  | 0, m, n, h, ht => by
    have hc2 : (n.err = 0 ∧ n.pc < l.length) ↔ (m.err = 0 ∧ m.pc < l.length) := by rw [h.err, h.pc]
    rw [loopF, loopF]
    by_cases hc : m.err = 0 ∧ m.pc < l.length
    · rw [if_pos hc, if_pos (hc2.2 hc)]; exact .inl ht
    · rw [if_neg hc, if_neg (fun q => hc (hc2.1 q))]; exact .inl ht
  | k + 1, m, n, h, ht => by
    have hc2 : (n.err = 0 ∧ n.pc < l.length) ↔ (m.err = 0 ∧ m.pc < l.length) := by rw [h.err, h.pc]
    rw [loopF, loopF]
    by_cases hc : m.err = 0 ∧ m.pc < l.length
    · rw [if_pos hc, if_pos (hc2.2 hc)]
      have hm := List.getElem_mem hc.2
      have hx : l.getD m.pc ⟨0, 0, 0, 0, 0, 0⟩ = l[m.pc] := by simp [hc.2]
      have hy : l.getD n.pc ⟨0, 0, 0, 0, 0, 0⟩ = l[m.pc] := by rw [← h.pc, hx]
      rw [hx, hy]
      have hu : ME P { m with used := m.used + 1 } { n with used := n.used + 1 } := ⟨h.bd, h.touched, h.shows, by show m.used + 1 = n.used + 1; rw [h.used], h.err, h.r, h.pc⟩
      by_cases h0 : l[m.pc].op = 0
      · rw [if_pos h0, if_pos h0]; exact .inl ht
      · rw [if_neg h0, if_neg h0]
        rcases follow_told hP hE hu l[m.pc] (ha _ hm).2 ht with h1 | h1
        · exact ME.loop2 hP hE l ha hj k _ _ (hu.follow hP hE l[m.pc] (ha _ hm).1 (ha _ hm).2 (fun _ => hj) h1) h1
        · obtain ⟨c, hc1⟩ := loopF_shows E l k (followF E { m with used := m.used + 1 } l[m.pc])
          obtain ⟨d, hd1⟩ := loopF_shows F l k (followF F { n with used := n.used + 1 } l[m.pc])
          rw [hc1, hd1]
          exact .inr h1.ext
    · rw [if_neg hc, if_neg (fun q => hc (hc2.1 q))]; exact .inl ht
theorem runF_shows (E : Me) (l : List Cd) (b : Bd) (d : Int) (h : rightL l b.l.length E.moves.length = true) : (runF E l b d).shows = (loopF E l 400 (Go.Proofs.Yticfcmaigffhmaa.G.start E b d)).shows := by
  unfold runF
  rw [if_neg (by rw [h]; decide)]
  split <;> rfl
theorem run_told (hP : PO P E.all) (hE : EE P E F) (hl : E.moves.length = F.moves.length) (l : List Cd) (hj : Join' P) {b c : Bd} (h : BE P b c) (d e : Int) : Tell P (runF E l b d).shows (runF F l c e).shows ∨ Diff P (runF E l b d).shows (runF F l c e).shows := by
  cases hR : rightL l b.l.length E.moves.length with
  | false =>
    left
    have e1 : (runF E l b d).shows = [] := by unfold runF; rw [if_pos hR]
    rw [e1]
    intro i s t h1; simp at h1
  | true =>
    rw [runF_shows E l b d hR, runF_shows F l c e (by rw [← hl, ← h.1]; exact hR)]
    have hall : ∀ x ∈ l, x.a < 8 ∧ x.b < 8 := fun x hx => by
      have h2 : l.length ≤ 96 ∧ ∀ x ∈ l, x.right l.length b.l.length E.moves.length = true := by simpa [rightL] using hR
      exact (right_ab (h2.2 x hx)).2
    exact ME.loop2 hP hE l hall hj 400 _ _ (ME.start hE h d e) (fun i s t h1 => by simp [Go.Proofs.Yticfcmaigffhmaa.G.start] at h1)
end Go.Proofs.Yticfcmaigffhmaa.G
namespace Go.Proofs.Yticfcmaigffhmaa.G
open Go
set_option linter.unusedSimpArgs false
set_option linter.unusedVariables false
set_option maxRecDepth 20000
set_option maxHeartbeats 2000000
theorem followF_sh1 (E : Me) (m : Mc) (x : Cd) : (followF E m x).shows.length ≤ m.shows.length + 1 := by
  by_cases h : x.op = 22
  · rw [follow_22 E m x h]
    unfold revealF
    split
    · exact Nat.le_succ _
    · show (m.shows ++ _).length ≤ _
      rw [List.length_append]
      split <;> simp
  · rw [followF_none E m x h]; exact Nat.le_succ _
theorem loopF_sh (E : Me) (l : List Cd) : ∀ (k : Nat) (m : Mc), (loopF E l k m).shows.length ≤ m.shows.length + k
  | 0, m => by rw [loopF]; split <;> exact Nat.le_refl _
  | k + 1, m => by
    rw [loopF]
    split
    · split
      · show m.shows.length ≤ _; omega
      · have h1 := loopF_sh E l k (followF E { m with used := m.used + 1 } (l.getD m.pc ⟨0, 0, 0, 0, 0, 0⟩))
        have h2 := followF_sh1 E { m with used := m.used + 1 } (l.getD m.pc ⟨0, 0, 0, 0, 0, 0⟩)
        have h3 : ({ m with used := m.used + 1 } : Mc).shows.length = m.shows.length := rfl
        omega
    · omega
theorem runF_few (E : Me) (l : List Cd) (b : Bd) (d : Int) : (runF E l b d).shows.length ≤ 100000 := by
  have h := loopF_sh E l 400 (Go.Proofs.Yticfcmaigffhmaa.G.start E b d)
  have h0 : (Go.Proofs.Yticfcmaigffhmaa.G.start E b d).shows.length = 0 := rfl
  unfold runF
  split
  · show 0 ≤ _; omega
  · split
    · show (loopF E l 400 (Go.Proofs.Yticfcmaigffhmaa.G.start E b d)).shows.length ≤ _; omega
    · show (loopF E l 400 (Go.Proofs.Yticfcmaigffhmaa.G.start E b d)).shows.length ≤ _; omega
end Go.Proofs.Yticfcmaigffhmaa.G
namespace Go.Proofs.Yticfcmaigffhmaa.G
open Go
set_option linter.unusedSimpArgs false
set_option linter.unusedVariables false
set_option maxRecDepth 20000
set_option maxHeartbeats 2000000
theorem step_few (g : Gm) (ms : List (BitVec 32)) (b : Bd) (d t : Int) : (g.run ms b d t).shows.length ≤ 100000 := runF_few _ _ _ _
end Go.Proofs.Yticfcmaigffhmaa.G
namespace Go.Proofs.Yticfcmaigffhmaa.G
open Go
set_option linter.unusedSimpArgs false
set_option linter.unusedVariables false
set_option maxRecDepth 20000
set_option maxHeartbeats 2000000
def Lik (p : Int) (a b : List Sh) (i : Nat) : Prop := ∀ k, k < i → ∀ (h1 : k < a.length) (h2 : k < b.length), hasM a[k].to p = true → a[k].v = b[k].v
theorem told_H {p : Nat} {a b : List Sh} (h : (Tell (fun s => hasM s (p : Int)) a b ∧ SE a b) ∨ Diff (fun s => hasM s (p : Int)) a b) (i : Nat) (h1 : i < a.length) (h2 : i < b.length) (hl : Lik p a b i) : a[i].cell = b[i].cell ∧ a[i].to = b[i].to := by
  have key : ∀ (c d : List Sh), SE c d → ∀ (h3 : i < c.length) (h4 : i < d.length), c[i].cell = d[i].cell ∧ c[i].to = d[i].to := fun c d e h3 h4 => by
    have := congrArg (fun l => l[i]?) e
    simp only [List.getElem?_map, List.getElem?_eq_getElem h3, List.getElem?_eq_getElem h4, Option.map_some, Option.some.injEq, Prod.mk.injEq] at this
    exact this
  rcases h with ⟨_, h⟩ | ⟨j, s, t, e1, e2, e3, e4, e5⟩
  · exact key a b h h1 h2
  · obtain ⟨l1, rfl⟩ := List.getElem?_eq_some_iff.1 e1
    obtain ⟨l2, rfl⟩ := List.getElem?_eq_some_iff.1 e2
    by_cases hji : j < i
    · exact absurd (hl j hji l1 l2 e3) e4
    · have := key _ _ e5 (by rw [List.length_take]; omega) (by rw [List.length_take]; omega)
      simpa using this
theorem told_end {p : Nat} {a b : List Sh} (h : Diff (fun s => hasM s (p : Int)) a b) (hl : Lik p a b (min a.length b.length)) : False := by
  obtain ⟨j, s, t, e1, e2, e3, e4, e5⟩ := h
  obtain ⟨l1, rfl⟩ := List.getElem?_eq_some_iff.1 e1
  obtain ⟨l2, rfl⟩ := List.getElem?_eq_some_iff.1 e2
  exact e4 (hl j (by omega) l1 l2 e3)
end Go.Proofs.Yticfcmaigffhmaa.G
namespace Go.Proofs.Yticfcmaigffhmaa.G
open Go
set_option linter.unusedSimpArgs false
set_option linter.unusedVariables false
set_option maxRecDepth 20000
set_option maxHeartbeats 2000000
theorem obs_nat {g : Gm} (hr : g.right = true) : ∃ n : Nat, g.obs = n ∧ 1 ≤ n ∧ n ≤ 32 := by
  obtain ⟨_, ⟨h1, h2⟩, _⟩ := right_48 hr
  exact ⟨g.obs.toNat, by omega, by omega, by omega⟩
theorem EE.refl (P : BitVec 32 → Bool) (E : Me) : EE P E E := ⟨rfl, rfl, fun _ _ => rfl⟩
theorem step_told (g : Gm) (n p : Nat) (hn : g.obs = n) (hp : p < n) (h32 : n ≤ 32) (ms : List (BitVec 32)) (b c : Bd) (hbc : BE (fun s => hasM s (p : Int)) b c) (d e t : Int) :
    (Tell (fun s => hasM s (p : Int)) (g.run ms b d t).shows (g.run ms c e t).shows ∧ RE (fun s => hasM s (p : Int)) (g.run ms b d t) (g.run ms c e t)) ∨ Diff (fun s => hasM s (p : Int)) (g.run ms b d t).shows (g.run ms c e t).shows := by
  have hP : PO (fun s => hasM s (p : Int)) (g.env ms t (.sc (.slice none 0 0))).all := by
    show PO _ (allM g.obs)
    rw [hn]; exact PO_has p n hp h32
  have hj := Join_has p (by omega)
  rcases run_told hP (EE.refl _ _) rfl g.code hj hbc d e with ht | ht
  · exact .inl ⟨ht, RE.run hP (EE.refl _ _) rfl g.code (fun _ => hj) hbc d e ht⟩
  · exact .inr ht
theorem bd0_BE (g : Gm) (h : g.cells.length ≤ 48) (H I : List Int) (p : Int) : BE (fun s => hasM s p) (g.bd0 h H) (g.bd0 h I) := by
  refine ⟨by rw [bd0_len, bd0_len], fun i => ?_⟩
  by_cases hi : i.toNat < g.cells.length
  · have e1 := bd0_at g h H hi
    have e2 := bd0_at g h I hi
    have f1 : (g.bd0 h H).at ((i.toNat : Nat) : Int) = (g.bd0 h H).at i := by simp only [Bd.at, Int.toNat_natCast]
    have f2 : (g.bd0 h I).at ((i.toNat : Nat) : Int) = (g.bd0 h I).at i := by simp only [Bd.at, Int.toNat_natCast]
    rw [← f1, ← f2, e1, e2]
    unfold hidC
    split
    · refine ⟨rfl, fun hc => ?_⟩
      simp [hasM] at hc
    · exact CE.refl _ _
  · have e1 : (g.bd0 h H).at i = Cl.z := by simp only [Bd.at]; rw [List.getD_eq_getElem?_getD, List.getElem?_eq_none (by rw [bd0_len]; omega)]; rfl
    have e2 : (g.bd0 h I).at i = Cl.z := by simp only [Bd.at]; rw [List.getD_eq_getElem?_getD, List.getElem?_eq_none (by rw [bd0_len]; omega)]; rfl
    rw [e1, e2]; exact CE.refl _ _
theorem sta_eq (b c : Bd) (d t : Int) (e u : Int) : iaggEq (stc b d t) (stc c e u) = some (decide (b = c) && (decide (d = e) && decide (t = u))) := by
  have hb := b.h
  have hc := c.h
  have key : ∀ (p q : List Cl) (n m : Nat), p.length = q.length → iaggEq ((p.map Cl.c).flatten ++ [nI n, .int .u64 d, .int .u32 t]) ((q.map Cl.c).flatten ++ [nI m, .int .u64 e, .int .u32 u]) = some (decide (p = q ∧ n = m) && (decide (d = e) && decide (t = u))) := by
    intro p
    induction p with
    | nil =>
      intro q n m h
      cases q with
      | nil =>
        simp only [List.map_nil, List.flatten_nil, List.nil_append, iaggEq, if_true, Bool.and_true, true_and]
        congr 1
        rw [Bool.eq_iff_iff]; simp; omega
      | cons _ _ => simp at h
    | cons a p ih =>
      intro q n m h
      cases q with
      | nil => simp at h
      | cons b q =>
        have ih := ih q n m (by simpa using h)
        obtain ⟨av, as1⟩ := a
        obtain ⟨bv, bs1⟩ := b
        simp only [List.map_cons, List.flatten_cons, Cl.c, List.cons_append, List.nil_append, iaggEq, if_true, List.append_eq, ih, beqB]
        congr 1
        rw [Bool.eq_iff_iff]
        simp [and_assoc]
  rw [stc, stc, bdc, bdc, Bd.pad, Bd.pad, List.append_assoc, List.append_assoc]
  simp only [List.cons_append, List.nil_append]
  rw [key _ _ _ _ (by simp; omega)]
  congr 2
  rw [decide_eq_decide]
  constructor
  · rintro ⟨h1, h2⟩
    apply Bd.ext
    rw [h2] at h1
    exact List.append_cancel_right h1
  · rintro rfl
    exact ⟨rfl, rfl⟩
attribute [go_sem] sta_eq
def Twin (g : Gm) (x y : IV) (b1 b2 : Bd) (d1 d2 t : Int) (J : JH) : Prop := J[0]? = some (.cells 0 (gmc g x y) false) ∧ J[1]? = some (.cells 0 (stc b1 d1 t) false) ∧ J[2]? = some (.cells 0 (stc b2 d2 t) false)
theorem modN (o n : Nat) (hn : 1 ≤ n) : (o : Int).tmod (n : Int) = ((o % n : Nat) : Int) := by
  rw [Int.tmod_eq_emod_of_nonneg (by omega)]; omega
end Go.Proofs.Yticfcmaigffhmaa.G
