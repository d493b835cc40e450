/- Joined: V4 to RT1. -/
import Derived.Test.YticfcmaigffhmaaGreatXF
import Derived.KernelRfl
set_option linter.unusedVariables false
set_option linter.unusedSimpArgs false
set_option maxRecDepth 20000
set_option maxHeartbeats 2000000
namespace Go.Proofs.YticfcmaigffhmaaGreat.G
open Go
variable {E : Me} {J : JH} {b : Nat} {sh : IV} {m : Mc}
theorem MAt.fr {J' : JH} {S : List Nat} (h : MAt E J b sh m) (hf : Fr J J' S) (hb : b ∉ S) (hs : ∀ c ∈ blk sh, c ∉ S) : MAt E J' b sh m :=
 ⟨by rw [hf.2 b (lt_get h.1) hb]; exact h.1, h.2.1, h.2.2.fr hf hs⟩
def fillN (m : Mc) (start : Nat) (out : List Int) : Nat → Mc
 | 0 => m
 | k + 1 => { fillN m start out k with bd := (fillN m start out k).bd.put ((start + k : Nat) : Int) ⟨out.getD k 0, 0#32⟩, touched := (fillN m start out k).touched ||| bit ((start + k : Nat) : Int) }
theorem put_len (b : Bd) (i : Int) (c : Cl) : (b.put i c).l.length = b.l.length := by
 unfold Bd.put; split
 ·simp [Bd.set]
 ·rfl
theorem fillN_len (m : Mc) (start : Nat) (out : List Int) : ∀ k, (fillN m start out k).bd.l.length = m.bd.l.length
 | 0 => rfl
 | k + 1 => by rw [fillN]; simp only [put_len, fillN_len m start out k]
def rowV (m : Mc) (start many : Nat) : List Int := (List.range many).map fun k => (m.bd.at ((start + k : Nat) : Int)).v
theorem rowV_len (m : Mc) (start many : Nat) : (rowV m start many).length = many := by simp [rowV]
def shuffleF (m : Mc) (start many : Nat) : Mc :=
 fillN { m with dice := (shufL m.dice (many - 1) (rowV m start many)).2 } start (shufL m.dice (many - 1) (rowV m start many)).1 many
theorem shufL_len : ∀ (i : Nat) (s : Int) (ys : List Int), (shufL s i ys).1.length = ys.length := by
 intro i
 induction i with
 | zero => intro s ys; rfl
 | succ i ih => intro s ys; rw [shufL, ih]; simp
theorem shuffle_fill (h : MAt E J b sh m) (start many : Nat) (out : List Int) (f : Bool) (ho : out.length = many) (hl : start + many ≤ m.bd.l.length) (K : Out IV → JH → Prop)
  (hK : ∀ J', MOut E b J sh J' (fillN m start out many) → K (.ret []) J') :
  WP (iter (dn BI l_vm_machine_shuffle_k1) 1 [.ptr b 0 0, nI start, .lst 1 f (out.map (IV.int .i32)), nI many, nI 0] J) K := by
 have hbl := m.bd.h
 refine WP_rangeT many (fun i vs J' => vs = [.ptr b 0 0, nI start, .lst 1 f (out.map (IV.int .i32)), nI many, nI i] ∧ MOut E b J sh J' (fillN m start out i)) ?_ ⟨rfl, .refl h⟩
 rintro i vs J1 ⟨rfl, sh1, h1, u1⟩ hi K1 g1 g2 g3
 unfold l_vm_machine_shuffle_k1
 by_cases hlt : i < many
 ·have hat := fun J => (Ls.lst (sz := 1) (f := f) (xs := out.map (IV.int .i32))).at (i := i) (by simp; omega) (J := J)
  simp only [List.getElem_map] at hat
  have hw : IntKind.i64.wrap ((start : Int) + (i : Int)) = ((start + i : Nat) : Int) := by rw [wrap_i64 (by omega) (by omega)]; omega
  have hth : (fillN m start out i).bd.there ((start + i : Nat) : Int) = true := by
   simp only [Bd.there, fillN_len, decide_eq_true_eq]; omega
  simp -implicitDefEqProofs only [go_sem, dnW_ite, go_sem_proc, show ((i : Int) < (many : Int)) by omega, hat, hw]
  refine WP_call (store_ok h1 ((start + i : Nat) : Int) ⟨out[i]'(by omega), 0#32⟩ hth) fun v J2 hv => ?_
  simp -implicitDefEqProofs only [go_sem, dnW_ite, go_sem_proc, wrapS hlt (show many ≤ 9223372036854775807 by omega)]
  refine g1 hlt _ _ ⟨rfl, MOut.trans u1 ?_⟩
  simp only [fillN, show out.getD i 0 = out[i]'(by omega) by simp [show i < out.length by omega]]
  exact hv
 ·simp -implicitDefEqProofs only [go_sem, dnW_ite, go_sem_proc, show ¬ ((i : Int) < (many : Int)) by omega]
  obtain rfl : i = many := by omega
  exact g3 _ _ (hK _ ⟨sh1, h1, u1⟩)
theorem shuffle_ok (h : MAt E J b sh m) (start many : Nat) (hm0 : 1 ≤ many) (hl : start + many ≤ m.bd.l.length) :
  RP (ic BI F_vm_machine_shuffle [.ptr b 0 0, nI start, nI many] J) fun v J' => MOut E b J sh J' (shuffleF m start many) := by
 refine RP_run fn_vm_machine_shuffle rfl fun K hK => ?_
 have hb := h.1
 have hbl := m.bd.h
 unfold l_vm_machine_shuffle
 simp -implicitDefEqProofs only [go_sem, dnW_ite, go_sem_proc, dn_loop]
 refine WP_range (by decide) many (fun i vs J' => ∃ ls, vs = [.ptr b 0 0, nI start, nI many, ls, nI (start + i)] ∧ Fr J J' [] ∧ (∀ c ∈ blk ls, J.size ≤ c) ∧ Grow J' ls 1 ((rowV m start i).map (IV.int .i32))) ?_ ⟨_, rfl, .refl _ _, by simp [blk, blkOf], .nil⟩
 rintro i vs J1 ⟨ls, rfl, hf, hbk, hg⟩ hi K1 g1 g2 g3
 have h1 := h.fr hf (by simp) (by simp)
 have hb1 := h1.1
 have hin1 := inb hb1
 have hws : IntKind.i64.wrap ((start : Int) + (many : Int)) = ((start + many : Nat) : Int) := by rw [wrap_i64 (by omega) (by omega)]; omega
 unfold l_vm_machine_shuffle_k0
 by_cases hlt : i < many
 ·have hth : m.bd.there ((start + i : Nat) : Int) = true := by
   simp only [Bd.there, decide_eq_true_eq]; omega
  have hat := At_ok m.bd ((start + i : Nat) : Int)
  rw [hth] at hat
  simp only [if_true, Cl.c] at hat
  simp -implicitDefEqProofs only [go_sem, dnW_ite, go_sem_proc, hws, show (((start + i : Nat) : Int) < ((start + many : Nat) : Int)) by omega, hb1, hin1, Array.getElem?_push, dcp hat (by simp [ipureL, ipure, bdc_pure]), ipureL, ipure, grp, mkE, List.headD]
  refine WP_bind ((hg.fr0 (.push _ _ _)).app (m := 1) (ds := [IV.int .i32 (m.bd.at ((start + i : Nat) : Int)).v]) (by omega) rfl rfl rfl rfl (fits4 (by simp [rowV]; omega))) fun ls' J2 hs => ?_
  obtain ⟨k1, k2, k3⟩ := hs
  have hw1 : IntKind.i64.wrap (((start + i : Nat) : Int) + 1) = ((start + (i + 1) : Nat) : Int) := by rw [wrap_i64 (by omega) (by omega)]; omega
  simp -implicitDefEqProofs only [go_sem, dnW_ite, go_sem_proc, hw1]
  refine g1 hlt _ _ ⟨ls', rfl, ?_, fun c hc => ?_, ?_⟩
  ·refine hf.trans (Fr.trans (Fr.push _ _ (blk ls)) k2 (fun _ _ h => h)) fun d hd hm => ?_
   have := hbk d hm; omega
  ·rcases k3 c hc with hc | hc
   ·exact hbk c hc
   ·have := hf.1; simp at hc; omega
  ·have e : rowV m start (i + 1) = rowV m start i ++ [(m.bd.at ((start + i : Nat) : Int)).v] := by simp [rowV, List.range_succ]
   rw [e, List.map_append]; exact k1
 ·simp -implicitDefEqProofs only [go_sem, dnW_ite, go_sem_proc, hws, show ¬ (((start + i : Nat) : Int) < ((start + many : Nat) : Int)) by omega]
  obtain rfl : i = many := by omega
  refine g2 _ _ ?_
  unfold l_vm_machine_shuffle_k2
  simp -implicitDefEqProofs only [go_sem, dnW_ite, go_sem_proc, hb1]
  obtain ⟨u, hu, hul⟩ := hg.frz1 ints_pure ints_ione
  obtain ⟨f, rfl⟩ := hul.ne (by intro hh; have := congrArg List.length hh; simp [rowV] at this; omega)
  have hsok := Shuffle_ok f m.dice (rowV m start i) (by intro hh; have := congrArg List.length hh; simp [rowV] at this; omega) (by rw [rowV_len]; omega)
  rw [rowV_len] at hsok
  refine WP_callF (blk ls) (as := [dice m.dice, .lst 1 f ((rowV m start i).map (IV.int .i32))]) ?_ hsok ?_ fun J2 hf2 hsz2 => ?_
  ·simp only [List.mapM_cons, List.mapM_nil, hu, frzP (show ipure (IV.agg [IV.int .u64 m.dice]) = true from rfl)]; rfl
  ·simp only [List.flatMap_cons, List.flatMap_nil, shows_pure J1 DEP (show ipure (IV.agg [IV.int .u64 m.dice]) = true from rfl), List.nil_append, List.append_nil]
   exact hg.shows ints_pure
  have h2 := h1.fr hf2 (fun hm => by have := hbk _ hm; have := lt_get hb; omega) (fun c hc hm => by have := hbk _ hm; have := h.2.2.low _ hc; omega)
  have hb2 := h2.1
  have hso := shufL_len (i - 1) m.dice (rowV m start i)
  rw [rowV_len] at hso
  simp -implicitDefEqProofs only [go_sem, dnW_ite, go_sem_proc, hb2, dice, dn_loop, List.length_map, hso]
  refine shuffle_fill (h2.set { m with dice := (shufL m.dice (i - 1) (rowV m start i)).2 } rfl) start i _ false hso hl K fun J3 h3 => hK _ _ ?_
  obtain ⟨sh3, h3, u3⟩ := h3
  have hff : Fr J J2 [] := hf.trans hf2 fun d hd hm => by have := hbk d hm; omega
  exact ⟨sh3, h3, Upd.trans (J1 := J2) (s1 := sh) ⟨⟨hff.1, fun d hd _ => hff.2 d hd (by simp)⟩, fun c hc => .inl hc⟩ (Upd.trans (.set _) u3)⟩
end Go.Proofs.YticfcmaigffhmaaGreat.G
namespace Go.Proofs.YticfcmaigffhmaaGreat.G
open Go
def w32 (z : Int) : Int := IntKind.i32.wrap z
def b32 (z : Int) : BitVec 32 := BitVec.ofInt 32 z
def sh5 (y : Int) : Nat := (b32 y &&& 31#32).toNat
def computeF (op : Nat) (x y : Int) : Int := match op with
 | 6 => w32 (x + y)
 | 7 => w32 (x - y)
 | 8 => w32 (x * y)
 | 9 => if y = 0 then 0 else w32 (x.tdiv y)
 | 10 => if y = 0 then 0 else x.tmod y
 | 11 => w32 (b32 x &&& b32 y).toNat
 | 12 => w32 (b32 x ||| b32 y).toNat
 | 13 => w32 (b32 x ^^^ b32 y).toNat
 | 14 => w32 (x * 2 ^ sh5 y)
 | 15 => x.fdiv (2 ^ sh5 y)
 | 16 => if x < y then 1 else 0
 | 17 => if x = y then 1 else 0
 | _ => 0
theorem divided_ok (x y : Int) (left : Bool) : pc BI F_vm_divided [.int .i32 x, .int .i32 y, .bool left] = some (.int .i32 (if y = 0 then 0 else if left then x.tmod y else w32 (x.tdiv y))) := by
 refine pcE fn_vm_divided rfl fun K hK => ?_
 unfold l_vm_divided
 by_cases h : y = 0
 ·subst h
  simp -implicitDefEqProofs only [go_sem, dnW_ite, go_sem_proc]
  exact hK _ _ (frzE rfl rfl)
 ·have h1 : (y == 0) = false := by simpa using h
  cases left with
  | true => simp -implicitDefEqProofs only [go_sem, dnW_ite, go_sem_proc, h1, h]; exact hK _ _ (frzE rfl (by simp [itup, h]))
  | false => simp -implicitDefEqProofs only [go_sem, dnW_ite, go_sem_proc, h1, h]; exact hK _ _ (frzE rfl (by simp [itup, h, w32]))
theorem one_ok' (c : Bool) : pc BI F_vm_one [.bool c] = some (.int .i32 (if c then 1 else 0)) := by
 refine pcE fn_vm_one rfl fun K hK => ?_
 unfold l_vm_one
 cases c with
 | true => simp -implicitDefEqProofs only [go_sem, dnW_ite, go_sem_proc]; exact hK _ _ (frzE rfl rfl)
 | false => simp -implicitDefEqProofs only [go_sem, dnW_ite, go_sem_proc]; exact hK _ _ (frzE rfl rfl)
theorem sh5_lt (y : Int) : sh5 y < 32 := by
 unfold sh5
 rw [BitVec.toNat_and]
 exact Nat.lt_of_le_of_lt Nat.and_le_right (by decide)
theorem convI32' (v : Int) : IntKind.u32.wrap v = ((BitVec.ofInt 32 v).toNat : Int) := by
 simp only [IntKind.wrap, IntKind.bits, IntKind.signed, BitVec.toNat_ofInt]; simp; omega
theorem castN (n : Nat) : ((no_index (@OfNat.ofNat Nat n (instOfNatNat n)) : Nat) : Int) = @OfNat.ofNat Int n instOfNat := rfl
theorem Compute_ok (op : Nat) (hop : op < 256) (x y : Int) : pc BI F_vm_Compute [.int .u8 (op : Int), .int .i32 x, .int .i32 y] = some (.int .i32 (computeF op x y)) := by
 refine pcE fn_vm_Compute rfl fun K hK => ?_
 unfold l_vm_Compute
 by_cases h6 : op = 6
 ·subst h6
  simp -implicitDefEqProofs only [go_sem, dnW_ite, go_sem_proc]
  exact hK _ _ (frzE rfl rfl)
 have g6 : (op == 6) = false := by simpa using h6
 by_cases h7 : op = 7
 ·subst h7
  simp -implicitDefEqProofs only [go_sem, dnW_ite, go_sem_proc]
  exact hK _ _ (frzE rfl rfl)
 have g7 : (op == 7) = false := by simpa using h7
 by_cases h8 : op = 8
 ·subst h8
  simp -implicitDefEqProofs only [go_sem, dnW_ite, go_sem_proc]
  exact hK _ _ (frzE rfl rfl)
 have g8 : (op == 8) = false := by simpa using h8
 by_cases h9 : op = 9
 ·subst h9
  unfold l_vm_Compute_k0
  simp -implicitDefEqProofs only [go_sem, dnW_ite, go_sem_proc, dcp (divided_ok x y false) rfl, castN]
  exact hK _ _ (frzE rfl rfl)
 have g9 : (op == 9) = false := by simpa using h9
 by_cases h10 : op = 10
 ·subst h10
  unfold l_vm_Compute_k0
  simp -implicitDefEqProofs only [go_sem, dnW_ite, go_sem_proc, dcp (divided_ok x y true) rfl, castN]
  exact hK _ _ (frzE rfl rfl)
 have g10 : (op == 10) = false := by simpa using h10
 by_cases h11 : op = 11
 ·subst h11
  unfold l_vm_Compute_k0
  simp -implicitDefEqProofs only [go_sem, dnW_ite, go_sem_proc]
  exact hK _ _ (frzE rfl rfl)
 have g11 : (op == 11) = false := by simpa using h11
 by_cases h12 : op = 12
 ·subst h12
  unfold l_vm_Compute_k0
  simp -implicitDefEqProofs only [go_sem, dnW_ite, go_sem_proc]
  exact hK _ _ (frzE rfl rfl)
 have g12 : (op == 12) = false := by simpa using h12
 by_cases h13 : op = 13
 ·subst h13
  unfold l_vm_Compute_k0
  simp -implicitDefEqProofs only [go_sem, dnW_ite, go_sem_proc]
  exact hK _ _ (frzE rfl rfl)
 have g13 : (op == 13) = false := by simpa using h13
 by_cases h14 : op = 14
 ·subst h14
  unfold l_vm_Compute_k0
  have e0 := sh5_lt y
  have e1 : min (sh5 y) 32 = sh5 y := by omega
  unfold sh5 b32 at e1 e0
  simp -implicitDefEqProofs only [go_sem, dnW_ite, go_sem_proc, convI32', e1, show ¬ (((BitVec.ofInt 32 y &&& 31#32).toNat : Int) < 0) by omega]
  exact hK _ _ (frzE rfl rfl)
 have g14 : (op == 14) = false := by simpa using h14
 by_cases h15 : op = 15
 ·subst h15
  unfold l_vm_Compute_k0
  have e0 := sh5_lt y
  have e1 : min (sh5 y) 32 = sh5 y := by omega
  unfold sh5 b32 at e1 e0
  simp -implicitDefEqProofs only [go_sem, dnW_ite, go_sem_proc, convI32', e1, show ¬ (((BitVec.ofInt 32 y &&& 31#32).toNat : Int) < 0) by omega]
  exact hK _ _ (frzE rfl rfl)
 have g15 : (op == 15) = false := by simpa using h15
 by_cases h16 : op = 16
 ·subst h16
  unfold l_vm_Compute_k0
  simp -implicitDefEqProofs only [go_sem, dnW_ite, go_sem_proc, dcp (one_ok' (decide (x < y))) rfl]
  exact hK _ _ (frzE rfl (by simp [itup, computeF]))
 have g16 : (op == 16) = false := by simpa using h16
 by_cases h17 : op = 17
 ·subst h17
  unfold l_vm_Compute_k0
  simp -implicitDefEqProofs only [go_sem, dnW_ite, go_sem_proc, dcp (one_ok' (x == y)) rfl]
  exact hK _ _ (frzE rfl (by simp [itup, computeF]))
 have g17 : (op == 17) = false := by simpa using h17
 unfold l_vm_Compute_k0
 simp -implicitDefEqProofs only [go_sem, dnW_ite, go_sem_proc, natBeqc, g6, g7, g8, g9, g10, g11, g12, g13, g14, g15, g16, g17]
 refine hK _ _ (frzE rfl ?_)
 have : computeF op x y = 0 := by unfold computeF; split <;> first | rfl | contradiction
 rw [this]; rfl
variable {E : Me} {J : JH} {b : Nat} {sh : IV} {m : Mc}
structure Me.ok (E : Me) : Prop where
 mv : Ls 1 E.mv (E.moves.map (IV.int .i32))
 rng : ∀ v ∈ E.moves, -2147483648 ≤ v ∧ v < 2147483648
 len : E.moves.length ≤ 1000000
def reachF (E : Me) (m : Mc) (x : Cd) : Mc :=
 match x.op with
 | 4 => if (named E m x).2.1 then { m with r := m.r.set x.a (m.bd.at (named E m x).1) } else { m with err := (named E m x).2.2 }
 | 5 => if (named E m x).2.1 then { m with bd := m.bd.put (named E m x).1 (m.r.at x.a), touched := m.touched ||| bit (named E m x).1 } else { m with err := (named E m x).2.2 }
 | 22 => revealF E m x
 | 24 => shuffleF m x.n.toNat x.c
 | _ => m
theorem right_ab {x : Cd} {size cells players : Nat} (h : x.right size cells players = true) : x.op ≤ 25 ∧ x.a < 8 ∧ x.b < 8 := by
 unfold Cd.right at h
 split at h
 ·simp at h
 ·refine ⟨by omega, ?_⟩
  split at h
  ·simp at h; omega
  ·simp [regOk] at h; omega
theorem reach_ok (h : MAt E J b sh m) (x : Cd) (hx : x.wf) (size : Nat) (hr : x.right size m.bd.l.length E.moves.length = true) (hok : m.r.ok) (h0 : m.err = 0) (hs : m.shows.length ≤ 1000) (hop : x.op = 4 ∨ x.op = 5 ∨ x.op = 22 ∨ x.op = 24) :
  RP (ic BI F_vm_machine_reach [.ptr b 0 0, x.e] J) fun v J' => MOut E b J sh J' (reachF E m x) := by
 refine RP_run fn_vm_machine_reach rfl fun K hK => ?_
 have hb := h.1
 have hin := inb hb
 obtain ⟨_, ha8, hb8⟩ := right_ab hr
 unfold l_vm_machine_reach Cd.e Cd.cs
 have hcs : x.cs = [.int .u8 (x.op : Int), .int .u8 (x.a : Int), .int .u8 (x.b : Int), .int .u8 (x.c : Int), .int .i32 x.n, m32 x.mask] := rfl
 have e0 : ({ m with err := 0 } : Mc) = m := by cases m; simp_all
 rcases hop with hop | hop | hop | hop
 ·have q4 : (x.op == 4) = true := by simp [hop]
  have hR : reachF E m x = if (named E m x).2.1 then { m with r := m.r.set x.a (m.bd.at (named E m x).1) } else { m with err := (named E m x).2.2 } := by simp [reachF, hop]
  rw [hR] at hK
  simp -implicitDefEqProofs only [go_sem, dnW_ite, go_sem_proc, natBeqc, q4, Array.getElem?_push, hin]
  refine WP_call (index_ok (h.push (IB.cells 0 x.cs false)) x hx hb8 hok h0) fun v J1 hv => ?_
  obtain ⟨rfl, sh1, h1, u1⟩ := hv
  have hbx := u1.keep (push_get J _) (by have := lt_get hb; omega) (fun hm => by have := (h.2.2.low _ hm); omega)
  simp only [hcs] at hbx
  cases hn : (named E m x).2.1 with
  | false =>
   simp -implicitDefEqProofs only [go_sem, dnW_ite, go_sem_proc, hn]
   rw [hn] at hK
   exact hK _ _ (MOut.trans (.push _) ⟨sh1, h1, u1⟩)
  | true =>
   obtain ⟨ht, he⟩ := named_ok hn
   rw [he, e0] at h1
   simp -implicitDefEqProofs only [go_sem, dnW_ite, go_sem_proc, hn, hbx]
   refine WP_call (load_ok h1 x.a ha8 _ ht) fun v J2 hv => ?_
   simp -implicitDefEqProofs only [go_sem, dnW_ite, go_sem_proc]
   rw [hn] at hK
   exact hK _ _ (MOut.trans (.push _) (MOut.trans u1 hv))
 ·have q4 : (x.op == 4) = false := by simp [hop]
  have q5 : (x.op == 5) = true := by simp [hop]
  have hR : reachF E m x = if (named E m x).2.1 then { m with bd := m.bd.put (named E m x).1 (m.r.at x.a), touched := m.touched ||| bit (named E m x).1 } else { m with err := (named E m x).2.2 } := by simp [reachF, hop]
  rw [hR] at hK
  simp -implicitDefEqProofs only [go_sem, dnW_ite, go_sem_proc, natBeqc, q4, q5, Array.getElem?_push, hin]
  refine WP_call (index_ok (h.push (IB.cells 0 x.cs false)) x hx hb8 hok h0) fun v J1 hv => ?_
  obtain ⟨rfl, sh1, h1, u1⟩ := hv
  have hbx := u1.keep (push_get J _) (by have := lt_get hb; omega) (fun hm => by have := (h.2.2.low _ hm); omega)
  simp only [hcs] at hbx
  cases hn : (named E m x).2.1 with
  | false =>
   simp -implicitDefEqProofs only [go_sem, dnW_ite, go_sem_proc, hn]
   rw [hn] at hK
   exact hK _ _ (MOut.trans (.push _) ⟨sh1, h1, u1⟩)
  | true =>
   obtain ⟨ht, he⟩ := named_ok hn
   rw [he, e0] at h1
   have hb1 := h1.1
   simp -implicitDefEqProofs only [go_sem, dnW_ite, go_sem_proc, hn, hbx, hb1, b8 ha8, ld_r E m sh1 ha8]
   refine WP_call (store_ok h1 _ (m.r.at x.a) ht) fun v J2 hv => ?_
   simp -implicitDefEqProofs only [go_sem, dnW_ite, go_sem_proc]
   rw [hn] at hK
   exact hK _ _ (MOut.trans (.push _) (MOut.trans u1 hv))
 ·have q4 : (x.op == 4) = false := by simp [hop]
  have q5 : (x.op == 5) = false := by simp [hop]
  have q22 : (x.op == 22) = true := by simp [hop]
  have hR : reachF E m x = revealF E m x := by simp [reachF, hop]
  rw [hR] at hK
  simp -implicitDefEqProofs only [go_sem, dnW_ite, go_sem_proc, natBeqc, q4, q5, q22, Array.getElem?_push, hin]
  refine WP_call (reveal_ok (h.push (IB.cells 0 x.cs false)) x hx hb8 hok h0 hs) fun v J1 hv => ?_
  simp -implicitDefEqProofs only [go_sem, dnW_ite, go_sem_proc]
  exact hK _ _ (MOut.trans (.push _) hv)
 ·have q4 : (x.op == 4) = false := by simp [hop]
  have q5 : (x.op == 5) = false := by simp [hop]
  have q22 : (x.op == 22) = false := by simp [hop]
  have q24 : (x.op == 24) = true := by simp [hop]
  have hR : reachF E m x = shuffleF m x.n.toNat x.c := by simp [reachF, hop]
  rw [hR] at hK
  simp [Cd.right, hop, useOf] at hr
  obtain ⟨⟨⟨⟨_, hr1⟩, hr2⟩, hr3⟩, hr4⟩ := hr
  obtain ⟨w1, w2, w3, w4, w5, w6⟩ := hx
  have e1 : IntKind.i64.wrap x.n = (x.n.toNat : Int) := by rw [wrap_i64 (by omega) (by omega)]; omega
  have e2 : IntKind.i64.wrap (x.c : Int) = x.c := wrap_i64 (by omega) (by omega)
  simp -implicitDefEqProofs only [go_sem, dnW_ite, go_sem_proc, natBeqc, q4, q5, q22, q24, Array.getElem?_push, hin, e1, e2]
  refine WP_call (shuffle_ok (h.push (IB.cells 0 x.cs false)) x.n.toNat x.c hr1.1 (by omega)) fun v J1 hv => ?_
  simp -implicitDefEqProofs only [go_sem, dnW_ite, go_sem_proc]
  exact hK _ _ (MOut.trans (.push _) hv)
end Go.Proofs.YticfcmaigffhmaaGreat.G
namespace Go.Proofs.YticfcmaigffhmaaGreat.G
open Go
variable {E : Me} {J : JH} {b : Nat} {sh : IV} {m : Mc}
theorem pre_use {l : L} {ρ : List IV} {K : Out IV → JH → Prop} {C A B Y Z1 Z2 Z3 : IB} {m1 : Mc} (h : MAt E J b sh m) (hs : m1.shows = m.shows)
  (hk : ∀ J1, MAt E J1 b sh m1 → Upd b J sh J1 sh → J1[J.size]? = some C → J1[J.size + 1]? = some A → J1[J.size + 2]? = some B → J1[J.size + 3]? = some Y → WP (dn BI l ρ J1) K) :
  WP (dn BI l ρ (((((((((J.push C).setIfInBounds b (IB.cells 0 (mc E m1 sh) false)).push Z1).push Z2).push Z3).setIfInBounds (J.size + 1) A).setIfInBounds (J.size + 2) B).setIfInBounds (J.size + 3) Y))) K := by
 have hlt := lt_get h.1
 have hg : ∀ d, d < J.size → d ≠ b → ((((((((J.push C).setIfInBounds b (IB.cells 0 (mc E m1 sh) false)).push Z1).push Z2).push Z3).setIfInBounds (J.size + 1) A).setIfInBounds (J.size + 2) B).setIfInBounds (J.size + 3) Y)[d]? = J[d]? := by
  intro d hd hne
  simp only [Array.getElem?_setIfInBounds, Array.getElem?_push, Array.size_push, Array.size_setIfInBounds]
  rw [if_neg (by omega), if_neg (by omega), if_neg (by omega), if_neg (by omega), if_neg (by omega), if_neg (by omega), if_neg (fun e => hne e.symm), if_neg (by omega)]
 have hf : Fr J ((((((((J.push C).setIfInBounds b (IB.cells 0 (mc E m1 sh) false)).push Z1).push Z2).push Z3).setIfInBounds (J.size + 1) A).setIfInBounds (J.size + 2) B).setIfInBounds (J.size + 3) Y) [b] :=
  ⟨by simp; omega, fun d hd hn => hg d hd (by simpa using hn)⟩
 refine hk _ ⟨?_, h.2.1, ?_⟩ ⟨⟨hf.1, fun d hd hn => hf.2 d hd (by simp at hn ⊢; exact hn.1)⟩, fun c hc => .inl hc⟩ ?_ ?_ ?_ ?_
 ·simp only [Array.getElem?_setIfInBounds, Array.getElem?_push, Array.size_push, Array.size_setIfInBounds]
  rw [if_neg (by omega), if_neg (by omega), if_neg (by omega), if_neg (by omega), if_neg (by omega), if_neg (by omega), if_true, if_pos (by omega)]
 ·rw [hs]
  exact h.2.2.fr hf fun c hc hm => by simp at hm; exact h.2.1 (hm ▸ hc)
 ·simp only [Array.getElem?_setIfInBounds, Array.getElem?_push, Array.size_push, Array.size_setIfInBounds]
  rw [if_neg (by omega), if_neg (by omega), if_neg (by omega), if_neg (by omega), if_neg (by omega), if_neg (by omega), if_neg (by omega), if_true]
 ·simp [Array.size_push, Array.size_setIfInBounds]
 ·simp [Array.size_push, Array.size_setIfInBounds]
 ·simp [Array.size_push, Array.size_setIfInBounds]
def Mc.go (m : Mc) : Mc := { m with pc := m.pc + 1 }
def followF (E : Me) (m0 : Mc) (x : Cd) : Mc :=
 let m := m0.go
 match x.op with
 | 1 => { m with r := m.r.set x.a ⟨x.n, E.all⟩ }
 | 2 => { m with r := m.r.set x.a (m.bd.at x.n) }
 | 3 => { m with bd := m.bd.put x.n (m.r.at x.a), touched := m.touched ||| bit x.n }
 | 18 => { m with r := m.r.set x.a ⟨if (m.r.at x.a).v = 0 then (m.r.at (x.c % 8)).v else (m.r.at x.b).v, (m.r.at x.a).s &&& (m.r.at x.b).s &&& (m.r.at (x.c % 8)).s⟩ }
 | 19 => if within E.all (m.r.at x.a).s then (if (m.r.at x.a).v = 0 then { m with pc := x.n.toNat } else m) else { m with err := 8 }
 | 20 => { m with pc := x.n.toNat }
 | 21 => { m with r := m.r.set x.a ⟨E.moves.getD x.n.toNat 0, oneM x.n⟩ }
 | 23 => { m with dice := sn m.dice, r := m.r.set x.a ⟨below m.dice x.n, 0#32⟩ }
 | 25 => { m with r := m.r.set x.a ⟨w32 E.tick, E.all⟩ }
 | 4 | 5 | 22 | 24 => reachF E m x
 | op => { m with r := m.r.set x.a ⟨computeF op (m.r.at x.b).v (m.r.at (x.c % 8)).v, (m.r.at x.b).s &&& (m.r.at (x.c % 8)).s⟩ }
theorem MAt.setO {d : Nat} (h : MAt E J b sh m) (hb : d ≠ b) (hs : d ∉ blk sh) (X : IB) : MAt E (J.setIfInBounds d X) b sh m :=
 h.fr (Fr.set J X (S := [d]) (by simp)) (by simpa using fun e => hb e.symm) (fun c hc hm => by simp at hm; exact hs (hm ▸ hc))
theorem Upd.setO {d : Nat} {J1 : JH} {s s1 : IV} (h : Upd b J s J1 s1) (hd : J.size ≤ d) (X : IB) : Upd b J s (J1.setIfInBounds d X) s1 :=
 ⟨⟨by rw [Array.size_setIfInBounds]; exact h.1.1, fun c hc hn => by rw [Array.getElem?_setIfInBounds, if_neg (by omega)]; exact h.1.2 c hc hn⟩, h.2⟩
def dropO : Nat → L → L
 | 0, l => l
 | n + 1, .op _ k => dropO n k
 | _, l => l
theorem dropO_o (n : Nat) (p : SOp) (k : L) : dropO (n + 1) (o p k) = dropO n k := rfl
theorem dropO_om (n : Nat) (md : Md) (p : SOp) (k : L) : dropO (n + 1) (om md p k) = dropO n k := rfl
theorem dropO_oc (n : Nat) (g : Option (Operand × Bool)) (p : SOp) (md : Md) (chk : List (Option (Operand × Bool) × SOp)) (k : L) : dropO (n + 1) (oc g p md chk k) = dropO n k := rfl
theorem dropO_0 (l : L) : dropO 0 l = l := by cases l <;> rfl
def folRho (b k : Nat) (m : Mc) (x : Cd) : List IV := [IV.ptr b 0 0, x.e, IV.ptr k 0 0, IV.ptr b 0 0, IV.ptr b 0 118, nI m.pc, IV.sc (Value.int IntKind.i64 ((m.pc + 1 : Nat) : Int)),
    IV.ptr b 0 0, IV.ptr b 0 118, IV.tup [], IV.ptr k 0 1, IV.int IntKind.u8 (x.a : Int), IV.ptr b 0 0,
    IV.ptr b 0 102, IV.ptr b 0 (102 + x.a * 2), IV.agg [IV.int IntKind.i32 (m.r.at x.a).v, m32 (m.r.at x.a).s],
    IV.ptr k 0 2, IV.int IntKind.u8 (x.b : Int), IV.ptr b 0 0, IV.ptr b 0 102, IV.ptr b 0 (102 + x.b * 2),
    IV.agg [IV.int IntKind.i32 (m.r.at x.b).v, m32 (m.r.at x.b).s], IV.ptr k 0 3,
    IV.int IntKind.u8 (x.c : Int), IV.sc (Value.int IntKind.u8 ((x.c % 8 : Nat) : Int)), IV.ptr b 0 0, IV.ptr b 0 102,
    IV.ptr b 0 (102 + x.c % 8 * 2), IV.agg [IV.int IntKind.i32 (m.r.at (x.c % 8)).v, m32 (m.r.at (x.c % 8)).s],
    IV.ptr (k + 1) 0 0, IV.ptr (k + 2) 0 0, IV.ptr (k + 3) 0 0, IV.tup [],
    IV.tup [], IV.tup [], IV.ptr k 0 0, IV.int IntKind.u8 (x.op : Int),
    IV.sc (Value.bool (decide (x.op = 1)))]
structure Fol (E : Me) (b : Nat) (J : JH) (sh : IV) (m : Mc) (x : Cd) (J1 : JH) : Prop where
 at' : MAt E J1 b sh m.go
 upd : Upd b J sh J1 sh
 C : J1[J.size]? = some (IB.cells 0 x.cs false)
 A : J1[J.size + 1]? = some (IB.cells 0 [IV.int .i32 (m.r.at x.a).v, m32 (m.r.at x.a).s] false)
 B : J1[J.size + 2]? = some (IB.cells 0 [IV.int .i32 (m.r.at x.b).v, m32 (m.r.at x.b).s] false)
 Y : J1[J.size + 3]? = some (IB.cells 0 [IV.int .i32 (m.r.at (x.c % 8)).v, m32 (m.r.at (x.c % 8)).s] false)
theorem follow_pre (h : MAt E J b sh m) (x : Cd) (size : Nat) (hr : x.right size m.bd.l.length E.moves.length = true) (hpc : m.pc ≤ 1000) (K : Out IV → JH → Prop)
  (hk : ∀ J1, Fol E b J sh m x J1 → WP (dn BI (dropO 36 l_vm_machine_follow.body) (folRho b J.size m x) J1) K) : WP (dn BI l_vm_machine_follow.body [.ptr b 0 0, x.e] J) K := by
 have hb := h.1
 have hin := inb hb
 obtain ⟨hop25, ha8, hb8⟩ := right_ab hr
 have hc8 : x.c % 8 < 8 := by omega
 have hrem : Int.tmod (x.c : Int) 8 = ((x.c % 8 : Nat) : Int) := rfl
 unfold folRho at hk
 simp only [l_vm_machine_follow, dropO_o, dropO_om, dropO_oc, dropO_0] at hk
 unfold l_vm_machine_follow
 unfold Cd.e Cd.cs at *
 simp -implicitDefEqProofs only [go_sem, go_sem_proc, natBeqc, hb, Array.getElem?_push, Array.getElem?_setIfInBounds, hin, b8 ha8, b8 hb8, b8 hc8, ld_r E { m with pc := m.pc + 1 } sh ha8, ld_r E { m with pc := m.pc + 1 } sh hb8, ld_r E { m with pc := m.pc + 1 } sh hc8, hrem, wrapS (show m.pc < 1001 by omega) (by omega), natBeqD]
 refine pre_use (m1 := m.go) h rfl fun J1 h1 u1 hC hA hB hY => ?_
 exact hk J1 ⟨h1, u1, hC, hA, hB, hY⟩
end Go.Proofs.YticfcmaigffhmaaGreat.G
namespace Go.Proofs.YticfcmaigffhmaaGreat.G
open Go
variable {E : Me} {J : JH} {b : Nat} {sh : IV} {m : Mc}
theorem fol_1 (h : MAt E J b sh m) (x : Cd) (hx : x.wf) (size : Nat) (hr : x.right size m.bd.l.length E.moves.length = true) (hop : x.op = 1) {J1 : JH} (f : Fol E b J sh m x J1) (K : Out IV → JH → Prop)
  (hK : ∀ J', MOut E b J sh J' (followF E m x) → K (.ret []) J') : WP (dn BI (dropO 36 l_vm_machine_follow.body) (folRho b J.size m x) J1) K := by
 have hb := h.1
 have hin := inb hb
 obtain ⟨hop25, ha8, hb8⟩ := right_ab hr
 have hc8 : x.c % 8 < 8 := by omega
 have w := hx
 obtain ⟨w1, w2, w3, w4, w5, w6⟩ := hx
 obtain ⟨h1, u1, hC, hA, hB, hY⟩ := f
 have hb1 := h1.1
 have hin1 := inb hb1
 have iC := inb hC
 have iA := inb hA
 have iB := inb hB
 have iY := inb hY
 have tt : ∀ j, (x.op = j) = (1 = j) := fun j => by rw [hop]
 simp only [followF, hop] at hK
 simp only [Cd.right, hop, useOf, nOk] at hr
 simp at hr
 unfold folRho
 simp only [l_vm_machine_follow, dropO_o, dropO_om, dropO_oc, dropO_0]
 unfold Cd.e
 unfold Cd.cs at *
 simp -implicitDefEqProofs only [go_sem, dnW_ite, go_sem_proc, natBeqc, natBeqD, tt, hb1, hC, hA, hB, hY, Array.getElem?_setIfInBounds, Array.getElem?_push, hin, hin1, iC, iA, iB, iY, b8 ha8, st_r E m.go sh ha8]
 exact hK _ (MOut.trans u1 (MOut.set h1 _ rfl))
theorem fol_25 (h : MAt E J b sh m) (x : Cd) (hx : x.wf) (size : Nat) (hr : x.right size m.bd.l.length E.moves.length = true) (hop : x.op = 25) {J1 : JH} (f : Fol E b J sh m x J1) (K : Out IV → JH → Prop)
  (hK : ∀ J', MOut E b J sh J' (followF E m x) → K (.ret []) J') : WP (dn BI (dropO 36 l_vm_machine_follow.body) (folRho b J.size m x) J1) K := by
 have hb := h.1
 have hin := inb hb
 obtain ⟨hop25, ha8, hb8⟩ := right_ab hr
 have hc8 : x.c % 8 < 8 := by omega
 have w := hx
 obtain ⟨w1, w2, w3, w4, w5, w6⟩ := hx
 obtain ⟨h1, u1, hC, hA, hB, hY⟩ := f
 have hb1 := h1.1
 have hin1 := inb hb1
 have iC := inb hC
 have iA := inb hA
 have iB := inb hB
 have iY := inb hY
 have tt : ∀ j, (x.op = j) = (25 = j) := fun j => by rw [hop]
 simp only [followF, hop] at hK
 simp only [Cd.right, hop, useOf, nOk] at hr
 simp at hr
 unfold folRho
 simp only [l_vm_machine_follow, dropO_o, dropO_om, dropO_oc, dropO_0]
 unfold Cd.e
 unfold Cd.cs at *
 simp -implicitDefEqProofs only [go_sem, dnW_ite, go_sem_proc, natBeqc, natBeqD, tt, hb1, hC, hA, hB, hY, Array.getElem?_setIfInBounds, Array.getElem?_push, hin, hin1, iC, iA, iB, iY, b8 ha8, st_r E m.go sh ha8]
 exact hK _ (MOut.trans u1 (MOut.set h1 _ rfl))
theorem fol_2 (h : MAt E J b sh m) (x : Cd) (hx : x.wf) (size : Nat) (hr : x.right size m.bd.l.length E.moves.length = true) (hop : x.op = 2) {J1 : JH} (f : Fol E b J sh m x J1) (K : Out IV → JH → Prop)
  (hK : ∀ J', MOut E b J sh J' (followF E m x) → K (.ret []) J') : WP (dn BI (dropO 36 l_vm_machine_follow.body) (folRho b J.size m x) J1) K := by
 have hb := h.1
 have hin := inb hb
 obtain ⟨hop25, ha8, hb8⟩ := right_ab hr
 have hc8 : x.c % 8 < 8 := by omega
 have w := hx
 obtain ⟨w1, w2, w3, w4, w5, w6⟩ := hx
 obtain ⟨h1, u1, hC, hA, hB, hY⟩ := f
 have hb1 := h1.1
 have hin1 := inb hb1
 have iC := inb hC
 have iA := inb hA
 have iB := inb hB
 have iY := inb hY
 have tt : ∀ j, (x.op = j) = (2 = j) := fun j => by rw [hop]
 simp only [followF, hop] at hK
 simp only [Cd.right, hop, useOf, nOk] at hr
 simp at hr
 unfold folRho
 simp only [l_vm_machine_follow, dropO_o, dropO_om, dropO_oc, dropO_0]
 unfold Cd.e
 unfold Cd.cs at *
 have e1 : IntKind.i64.wrap x.n = x.n := wrap_i64 (by omega) (by omega)
 have hth : m.go.bd.there x.n = true := decide_eq_true hr.1.1.1.1
 simp -implicitDefEqProofs only [go_sem, dnW_ite, go_sem_proc, natBeqc, natBeqD, tt, hb1, hC, hA, hB, hY, Array.getElem?_setIfInBounds, Array.getElem?_push, hin, hin1, iC, iA, iB, iY, e1]
 refine WP_call (load_ok h1 x.a ha8 x.n hth) fun v J2 hv => ?_
 simp -implicitDefEqProofs only [go_sem, dnW_ite, go_sem_proc]
 exact hK _ (MOut.trans u1 hv)
theorem fol_3 (h : MAt E J b sh m) (x : Cd) (hx : x.wf) (size : Nat) (hr : x.right size m.bd.l.length E.moves.length = true) (hop : x.op = 3) {J1 : JH} (f : Fol E b J sh m x J1) (K : Out IV → JH → Prop)
  (hK : ∀ J', MOut E b J sh J' (followF E m x) → K (.ret []) J') : WP (dn BI (dropO 36 l_vm_machine_follow.body) (folRho b J.size m x) J1) K := by
 have hb := h.1
 have hin := inb hb
 obtain ⟨hop25, ha8, hb8⟩ := right_ab hr
 have hc8 : x.c % 8 < 8 := by omega
 have w := hx
 obtain ⟨w1, w2, w3, w4, w5, w6⟩ := hx
 obtain ⟨h1, u1, hC, hA, hB, hY⟩ := f
 have hb1 := h1.1
 have hin1 := inb hb1
 have iC := inb hC
 have iA := inb hA
 have iB := inb hB
 have iY := inb hY
 have tt : ∀ j, (x.op = j) = (3 = j) := fun j => by rw [hop]
 simp only [followF, hop] at hK
 simp only [Cd.right, hop, useOf, nOk] at hr
 simp at hr
 unfold folRho
 simp only [l_vm_machine_follow, dropO_o, dropO_om, dropO_oc, dropO_0]
 unfold Cd.e
 unfold Cd.cs at *
 have e1 : IntKind.i64.wrap x.n = x.n := wrap_i64 (by omega) (by omega)
 have hth : m.go.bd.there x.n = true := decide_eq_true hr.1.1.1.1
 simp -implicitDefEqProofs only [go_sem, dnW_ite, go_sem_proc, natBeqc, natBeqD, tt, hb1, hC, hA, hB, hY, Array.getElem?_setIfInBounds, Array.getElem?_push, hin, hin1, iC, iA, iB, iY, e1]
 refine WP_call (store_ok h1 x.n (m.r.at x.a) hth) fun v J2 hv => ?_
 simp -implicitDefEqProofs only [go_sem, dnW_ite, go_sem_proc]
 exact hK _ (MOut.trans u1 hv)
end Go.Proofs.YticfcmaigffhmaaGreat.G
namespace Go.Proofs.YticfcmaigffhmaaGreat.G
open Go
variable {E : Me} {J : JH} {b : Nat} {sh : IV} {m : Mc}
theorem fol_18 (h : MAt E J b sh m) (x : Cd) (hx : x.wf) (size : Nat) (hr : x.right size m.bd.l.length E.moves.length = true) (hop : x.op = 18) {J1 : JH} (f : Fol E b J sh m x J1) (K : Out IV → JH → Prop)
  (hK : ∀ J', MOut E b J sh J' (followF E m x) → K (.ret []) J') : WP (dn BI (dropO 36 l_vm_machine_follow.body) (folRho b J.size m x) J1) K := by
 have hb := h.1
 have hin := inb hb
 obtain ⟨hop25, ha8, hb8⟩ := right_ab hr
 have hc8 : x.c % 8 < 8 := by omega
 have w := hx
 obtain ⟨w1, w2, w3, w4, w5, w6⟩ := hx
 obtain ⟨h1, u1, hC, hA, hB, hY⟩ := f
 have hb1 := h1.1
 have hin1 := inb hb1
 have iC := inb hC
 have iA := inb hA
 have iB := inb hB
 have iY := inb hY
 have tt : ∀ j, (x.op = j) = (18 = j) := fun j => by rw [hop]
 simp only [followF, hop] at hK
 simp only [Cd.right, hop, useOf, nOk] at hr
 simp at hr
 unfold folRho
 simp only [l_vm_machine_follow, dropO_o, dropO_om, dropO_oc, dropO_0]
 unfold Cd.e
 unfold Cd.cs at *
 have hmeet := fun f s => Meet_ok (m.r.at x.a).s (.lst 1 f [m32 s, m32 (m.r.at (x.c % 8)).s]) [s, (m.r.at (x.c % 8)).s] .lst (by simp)
 simp only [List.foldl] at hmeet
 have e : m.go.r.at x.a = m.r.at x.a := rfl
 by_cases hz : (m.r.at x.a).v = 0
 ·have hz' : ((m.r.at x.a).v == 0) = true := by simp [hz]
  simp -implicitDefEqProofs only [go_sem, dnW_ite, go_sem_proc, natBeqc, natBeqD, tt, hb1, hC, hA, hB, hY, Array.getElem?_setIfInBounds, Array.getElem?_push, hin, hin1, iC, iA, iB, iY, hz', l_vm_machine_follow_k0, ipureL, ipure, grp, mkE, List.headD, b8 ha8, st_r E m.go sh ha8, dcp (hmeet _ _) rfl]
  rw [e, if_pos hz] at hK
  exact hK _ (MOut.trans (u1.setO (by omega) _) (MOut.set (h1.setO (d := J.size + 2) (by have := lt_get hb; omega) (fun hm => by have := h.2.2.low _ hm; omega) _) _ rfl))
 ·have hz' : ((m.r.at x.a).v == 0) = false := by simp [hz]
  simp -implicitDefEqProofs only [go_sem, dnW_ite, go_sem_proc, natBeqc, natBeqD, tt, hb1, hC, hA, hB, hY, Array.getElem?_setIfInBounds, Array.getElem?_push, hin, hin1, iC, iA, iB, iY, hz', l_vm_machine_follow_k0, ipureL, ipure, grp, mkE, List.headD, b8 ha8, st_r E m.go sh ha8, dcp (hmeet _ _) rfl]
  rw [e, if_neg hz] at hK
  exact hK _ (MOut.trans u1 (MOut.set h1 _ rfl))
theorem fol_19 (h : MAt E J b sh m) (x : Cd) (hx : x.wf) (size : Nat) (hr : x.right size m.bd.l.length E.moves.length = true) (he0 : m.err = 0) (hop : x.op = 19) {J1 : JH} (f : Fol E b J sh m x J1) (K : Out IV → JH → Prop)
  (hK : ∀ J', MOut E b J sh J' (followF E m x) → K (.ret []) J') : WP (dn BI (dropO 36 l_vm_machine_follow.body) (folRho b J.size m x) J1) K := by
 have hb := h.1
 have hin := inb hb
 obtain ⟨hop25, ha8, hb8⟩ := right_ab hr
 have hc8 : x.c % 8 < 8 := by omega
 have w := hx
 obtain ⟨w1, w2, w3, w4, w5, w6⟩ := hx
 obtain ⟨h1, u1, hC, hA, hB, hY⟩ := f
 have hb1 := h1.1
 have hin1 := inb hb1
 have iC := inb hC
 have iA := inb hA
 have iB := inb hB
 have iY := inb hY
 have tt : ∀ j, (x.op = j) = (19 = j) := fun j => by rw [hop]
 simp only [followF, hop] at hK
 simp only [Cd.right, hop, useOf, nOk] at hr
 simp at hr
 unfold folRho
 simp only [l_vm_machine_follow, dropO_o, dropO_om, dropO_oc, dropO_0]
 unfold Cd.e
 unfold Cd.cs at *
 have e1 : IntKind.i64.wrap x.n = (x.n.toNat : Int) := by rw [wrap_i64 (by omega) (by omega)]; omega
 simp -implicitDefEqProofs only [go_sem, dnW_ite, go_sem_proc, natBeqc, natBeqD, tt, hb1, hC, hA, hB, hY, Array.getElem?_setIfInBounds, Array.getElem?_push, hin, hin1, iC, iA, iB, iY]
 refine WP_call (open_ok h1 x.a ha8) fun v J2 hv => ?_
 obtain ⟨rfl, rfl⟩ := hv
 cases hw : within E.all (m.go.r.at x.a).s with
 | false =>
  rw [hw] at hK
  simp -implicitDefEqProofs only [go_sem, dnW_ite, go_sem_proc]
  refine WP_call (fail_ok h1 8) fun v J2 hv => ?_
  simp -implicitDefEqProofs only [go_sem, dnW_ite, go_sem_proc]
  rw [if_pos (show m.go.err = 0 from he0)] at hv
  exact hK _ (MOut.trans u1 hv)
 | true =>
  rw [hw] at hK
  have e : m.go.r.at x.a = m.r.at x.a := rfl
  by_cases hz : (m.r.at x.a).v = 0
  ·have hz' : ((m.r.at x.a).v == 0) = true := by simp [hz]
   rw [e, if_pos hz] at hK
   simp -implicitDefEqProofs only [go_sem, dnW_ite, go_sem_proc, natBeqc, natBeqD, tt, hb1, hC, hA, hB, hY, Array.getElem?_setIfInBounds, Array.getElem?_push, hin, hin1, iC, iA, iB, iY, hz', e1]
   exact hK _ (MOut.trans u1 (MOut.set h1 _ rfl))
  ·have hz' : ((m.r.at x.a).v == 0) = false := by simp [hz]
   rw [e, if_neg hz] at hK
   simp -implicitDefEqProofs only [go_sem, dnW_ite, go_sem_proc, natBeqc, natBeqD, tt, hb1, hC, hA, hB, hY, Array.getElem?_setIfInBounds, Array.getElem?_push, hin, hin1, iC, iA, iB, iY, hz']
   exact hK _ (MOut.trans u1 (MOut.refl h1))
theorem fol_20 (h : MAt E J b sh m) (x : Cd) (hx : x.wf) (size : Nat) (hr : x.right size m.bd.l.length E.moves.length = true) (hop : x.op = 20) {J1 : JH} (f : Fol E b J sh m x J1) (K : Out IV → JH → Prop)
  (hK : ∀ J', MOut E b J sh J' (followF E m x) → K (.ret []) J') : WP (dn BI (dropO 36 l_vm_machine_follow.body) (folRho b J.size m x) J1) K := by
 have hb := h.1
 have hin := inb hb
 obtain ⟨hop25, ha8, hb8⟩ := right_ab hr
 have hc8 : x.c % 8 < 8 := by omega
 have w := hx
 obtain ⟨w1, w2, w3, w4, w5, w6⟩ := hx
 obtain ⟨h1, u1, hC, hA, hB, hY⟩ := f
 have hb1 := h1.1
 have hin1 := inb hb1
 have iC := inb hC
 have iA := inb hA
 have iB := inb hB
 have iY := inb hY
 have tt : ∀ j, (x.op = j) = (20 = j) := fun j => by rw [hop]
 simp only [followF, hop] at hK
 simp only [Cd.right, hop, useOf, nOk] at hr
 simp at hr
 unfold folRho
 simp only [l_vm_machine_follow, dropO_o, dropO_om, dropO_oc, dropO_0]
 unfold Cd.e
 unfold Cd.cs at *
 have e1 : IntKind.i64.wrap x.n = (x.n.toNat : Int) := by rw [wrap_i64 (by omega) (by omega)]; omega
 simp -implicitDefEqProofs only [go_sem, dnW_ite, go_sem_proc, natBeqc, natBeqD, tt, hb1, hC, hA, hB, hY, Array.getElem?_setIfInBounds, Array.getElem?_push, hin, hin1, iC, iA, iB, iY, e1]
 exact hK _ (MOut.trans u1 (MOut.set h1 _ rfl))
end Go.Proofs.YticfcmaigffhmaaGreat.G
namespace Go.Proofs.YticfcmaigffhmaaGreat.G
open Go
variable {E : Me} {J : JH} {b : Nat} {sh : IV} {m : Mc}
theorem roll_ex (s n : Int) (h0 : 0 < n) (h1 : n < 4294967296) : ∃ bv sv : Int, bv = below s n ∧ sv = sn s ∧ 0 ≤ bv ∧ bv < n := ⟨_, _, rfl, rfl, below_rng s n h0 h1⟩
theorem fol_21 (h : MAt E J b sh m) (x : Cd) (hx : x.wf) (size : Nat) (hr : x.right size m.bd.l.length E.moves.length = true) (hE : E.ok) (hop : x.op = 21) {J1 : JH} (f : Fol E b J sh m x J1) (K : Out IV → JH → Prop)
  (hK : ∀ J', MOut E b J sh J' (followF E m x) → K (.ret []) J') : WP (dn BI (dropO 36 l_vm_machine_follow.body) (folRho b J.size m x) J1) K := by
 have hb := h.1
 have hin := inb hb
 obtain ⟨hop25, ha8, hb8⟩ := right_ab hr
 have hc8 : x.c % 8 < 8 := by omega
 have w := hx
 obtain ⟨w1, w2, w3, w4, w5, w6⟩ := hx
 obtain ⟨h1, u1, hC, hA, hB, hY⟩ := f
 have hb1 := h1.1
 have hin1 := inb hb1
 have iC := inb hC
 have iA := inb hA
 have iB := inb hB
 have iY := inb hY
 have tt : ∀ j, (x.op = j) = (21 = j) := fun j => by rw [hop]
 simp only [followF, hop] at hK
 simp only [Cd.right, hop, useOf, nOk] at hr
 simp at hr
 unfold folRho
 simp only [l_vm_machine_follow, dropO_o, dropO_om, dropO_oc, dropO_0]
 unfold Cd.e
 unfold Cd.cs at *
 have e1 : IntKind.i64.wrap x.n = x.n := wrap_i64 (by omega) (by omega)
 have hmv : ∀ J, iaddrF 1 E.mv (.int .i32 x.n) J = some (.rptr (.int .i32 (E.moves.getD x.n.toNat 0)) 0, J) := fun J => by
  have hl : x.n.toNat < E.moves.length := by omega
  obtain ⟨f, hf⟩ := hE.mv.get (i := x.n.toNat) (by simpa using hl)
  rw [hf, iaddrF_lst]
  simp [iasNat, asNat, hr.1.1.1.1.1, hl]
 have hof := fun f => Of_ok (.lst 1 f [.int .i64 x.n]) [x.n] .lst (by simp)
 simp only [List.foldl, BitVec.zero_or] at hof
 simp -implicitDefEqProofs only [go_sem, dnW_ite, go_sem_proc, natBeqc, natBeqD, tt, hb1, hC, hA, hB, hY, Array.getElem?_setIfInBounds, Array.getElem?_push, hin, hin1, iC, iA, iB, iY, hmv, e1, ipureL, ipure, grp, mkE, List.headD, b8 ha8, st_r E m.go sh ha8, dcp (hof _) rfl]
 exact hK _ (MOut.trans u1 (MOut.set h1 _ rfl))
theorem fol_23 (h : MAt E J b sh m) (x : Cd) (hx : x.wf) (size : Nat) (hr : x.right size m.bd.l.length E.moves.length = true) (hop : x.op = 23) {J1 : JH} (f : Fol E b J sh m x J1) (K : Out IV → JH → Prop)
  (hK : ∀ J', MOut E b J sh J' (followF E m x) → K (.ret []) J') : WP (dn BI (dropO 36 l_vm_machine_follow.body) (folRho b J.size m x) J1) K := by
 have hb := h.1
 have hin := inb hb
 obtain ⟨hop25, ha8, hb8⟩ := right_ab hr
 have hc8 : x.c % 8 < 8 := by omega
 have w := hx
 obtain ⟨w1, w2, w3, w4, w5, w6⟩ := hx
 obtain ⟨h1, u1, hC, hA, hB, hY⟩ := f
 have hb1 := h1.1
 have hin1 := inb hb1
 have iC := inb hC
 have iA := inb hA
 have iB := inb hB
 have iY := inb hY
 have tt : ∀ j, (x.op = j) = (23 = j) := fun j => by rw [hop]
 simp only [followF, hop] at hK
 simp only [Cd.right, hop, useOf, nOk] at hr
 simp at hr
 unfold folRho
 simp only [l_vm_machine_follow, dropO_o, dropO_om, dropO_oc, dropO_0]
 unfold Cd.e
 unfold Cd.cs at *
 have e1 : IntKind.u32.wrap x.n = x.n := wrap_u32 (by omega) (by omega)
 have hbl := Below_ok m.dice x.n
 have hgd : m.go.dice = m.dice := rfl
 rw [hgd] at hK
 obtain ⟨bv, sv, hbv, hsv, hb0, hb2⟩ := roll_ex m.dice x.n (by omega) (by omega)
 rw [← hbv, ← hsv] at hbl hK
 clear hbv hsv
 unfold dice at hbl
 have e2 : IntKind.i32.wrap bv = bv := wrap_i32 (by omega) (by omega)
 simp -implicitDefEqProofs only [go_sem, dnW_ite, go_sem_proc, natBeqc, natBeqD, tt, hb1, hC, hA, hB, hY, Array.getElem?_setIfInBounds, Array.getElem?_push, hin, hin1, iC, iA, iB, iY, hgd, e1, e2, b8 ha8, dcp hbl rfl]
 have e3 : isplice (mc E { m.go with dice := sv } sh) (102 + x.a * 2) [IV.int .i32 bv, IV.sc (.int .u32 0)] = _ := st_r E { m.go with dice := sv } sh ha8 bv 0#32
 rw [e3]
 exact hK _ (MOut.trans u1 (MOut.set h1 _ rfl))
end Go.Proofs.YticfcmaigffhmaaGreat.G
namespace Go.Proofs.YticfcmaigffhmaaGreat.G
open Go
variable {E : Me} {J : JH} {b : Nat} {sh : IV} {m : Mc}
theorem fol_4 (h : MAt E J b sh m) (x : Cd) (hx : x.wf) (size : Nat) (hr : x.right size m.bd.l.length E.moves.length = true) (he0 : m.err = 0) (hok : m.r.ok) (hs : m.shows.length ≤ 1000) (hop : x.op = 4) {J1 : JH} (f : Fol E b J sh m x J1) (K : Out IV → JH → Prop)
  (hK : ∀ J', MOut E b J sh J' (followF E m x) → K (.ret []) J') : WP (dn BI (dropO 36 l_vm_machine_follow.body) (folRho b J.size m x) J1) K := by
 have hb := h.1
 have hin := inb hb
 obtain ⟨hop25, ha8, hb8⟩ := right_ab hr
 have hc8 : x.c % 8 < 8 := by omega
 have w := hx
 obtain ⟨w1, w2, w3, w4, w5, w6⟩ := hx
 obtain ⟨h1, u1, hC, hA, hB, hY⟩ := f
 have hb1 := h1.1
 have hin1 := inb hb1
 have iC := inb hC
 have iA := inb hA
 have iB := inb hB
 have iY := inb hY
 have tt : ∀ j, (x.op = j) = (4 = j) := fun j => by rw [hop]
 simp only [followF, hop] at hK
 have hr0 := hr
 simp only [Cd.right, hop, useOf, nOk] at hr
 simp at hr
 unfold folRho
 simp only [l_vm_machine_follow, dropO_o, dropO_om, dropO_oc, dropO_0]
 unfold Cd.e
 unfold Cd.cs at *
 simp -implicitDefEqProofs only [go_sem, dnW_ite, go_sem_proc, natBeqc, natBeqD, tt, hb1, hC, hA, hB, hY, Array.getElem?_setIfInBounds, Array.getElem?_push, hin, hin1, iC, iA, iB, iY, l_vm_machine_follow_k1]
 refine WP_call (reach_ok h1 x w size hr0 hok he0 hs (by omega)) fun v J2 hv => ?_
 simp -implicitDefEqProofs only [go_sem, dnW_ite, go_sem_proc]
 exact hK _ (MOut.trans u1 hv)
theorem fol_5 (h : MAt E J b sh m) (x : Cd) (hx : x.wf) (size : Nat) (hr : x.right size m.bd.l.length E.moves.length = true) (he0 : m.err = 0) (hok : m.r.ok) (hs : m.shows.length ≤ 1000) (hop : x.op = 5) {J1 : JH} (f : Fol E b J sh m x J1) (K : Out IV → JH → Prop)
  (hK : ∀ J', MOut E b J sh J' (followF E m x) → K (.ret []) J') : WP (dn BI (dropO 36 l_vm_machine_follow.body) (folRho b J.size m x) J1) K := by
 have hb := h.1
 have hin := inb hb
 obtain ⟨hop25, ha8, hb8⟩ := right_ab hr
 have hc8 : x.c % 8 < 8 := by omega
 have w := hx
 obtain ⟨w1, w2, w3, w4, w5, w6⟩ := hx
 obtain ⟨h1, u1, hC, hA, hB, hY⟩ := f
 have hb1 := h1.1
 have hin1 := inb hb1
 have iC := inb hC
 have iA := inb hA
 have iB := inb hB
 have iY := inb hY
 have tt : ∀ j, (x.op = j) = (5 = j) := fun j => by rw [hop]
 simp only [followF, hop] at hK
 have hr0 := hr
 simp only [Cd.right, hop, useOf, nOk] at hr
 simp at hr
 unfold folRho
 simp only [l_vm_machine_follow, dropO_o, dropO_om, dropO_oc, dropO_0]
 unfold Cd.e
 unfold Cd.cs at *
 simp -implicitDefEqProofs only [go_sem, dnW_ite, go_sem_proc, natBeqc, natBeqD, tt, hb1, hC, hA, hB, hY, Array.getElem?_setIfInBounds, Array.getElem?_push, hin, hin1, iC, iA, iB, iY, l_vm_machine_follow_k1]
 refine WP_call (reach_ok h1 x w size hr0 hok he0 hs (by omega)) fun v J2 hv => ?_
 simp -implicitDefEqProofs only [go_sem, dnW_ite, go_sem_proc]
 exact hK _ (MOut.trans u1 hv)
theorem fol_22 (h : MAt E J b sh m) (x : Cd) (hx : x.wf) (size : Nat) (hr : x.right size m.bd.l.length E.moves.length = true) (he0 : m.err = 0) (hok : m.r.ok) (hs : m.shows.length ≤ 1000) (hop : x.op = 22) {J1 : JH} (f : Fol E b J sh m x J1) (K : Out IV → JH → Prop)
  (hK : ∀ J', MOut E b J sh J' (followF E m x) → K (.ret []) J') : WP (dn BI (dropO 36 l_vm_machine_follow.body) (folRho b J.size m x) J1) K := by
 have hb := h.1
 have hin := inb hb
 obtain ⟨hop25, ha8, hb8⟩ := right_ab hr
 have hc8 : x.c % 8 < 8 := by omega
 have w := hx
 obtain ⟨w1, w2, w3, w4, w5, w6⟩ := hx
 obtain ⟨h1, u1, hC, hA, hB, hY⟩ := f
 have hb1 := h1.1
 have hin1 := inb hb1
 have iC := inb hC
 have iA := inb hA
 have iB := inb hB
 have iY := inb hY
 have tt : ∀ j, (x.op = j) = (22 = j) := fun j => by rw [hop]
 simp only [followF, hop] at hK
 have hr0 := hr
 simp only [Cd.right, hop, useOf, nOk] at hr
 simp at hr
 unfold folRho
 simp only [l_vm_machine_follow, dropO_o, dropO_om, dropO_oc, dropO_0]
 unfold Cd.e
 unfold Cd.cs at *
 simp -implicitDefEqProofs only [go_sem, dnW_ite, go_sem_proc, natBeqc, natBeqD, tt, hb1, hC, hA, hB, hY, Array.getElem?_setIfInBounds, Array.getElem?_push, hin, hin1, iC, iA, iB, iY, l_vm_machine_follow_k1]
 refine WP_call (reach_ok h1 x w size hr0 hok he0 hs (by omega)) fun v J2 hv => ?_
 simp -implicitDefEqProofs only [go_sem, dnW_ite, go_sem_proc]
 exact hK _ (MOut.trans u1 hv)
theorem fol_24 (h : MAt E J b sh m) (x : Cd) (hx : x.wf) (size : Nat) (hr : x.right size m.bd.l.length E.moves.length = true) (he0 : m.err = 0) (hok : m.r.ok) (hs : m.shows.length ≤ 1000) (hop : x.op = 24) {J1 : JH} (f : Fol E b J sh m x J1) (K : Out IV → JH → Prop)
  (hK : ∀ J', MOut E b J sh J' (followF E m x) → K (.ret []) J') : WP (dn BI (dropO 36 l_vm_machine_follow.body) (folRho b J.size m x) J1) K := by
 have hb := h.1
 have hin := inb hb
 obtain ⟨hop25, ha8, hb8⟩ := right_ab hr
 have hc8 : x.c % 8 < 8 := by omega
 have w := hx
 obtain ⟨w1, w2, w3, w4, w5, w6⟩ := hx
 obtain ⟨h1, u1, hC, hA, hB, hY⟩ := f
 have hb1 := h1.1
 have hin1 := inb hb1
 have iC := inb hC
 have iA := inb hA
 have iB := inb hB
 have iY := inb hY
 have tt : ∀ j, (x.op = j) = (24 = j) := fun j => by rw [hop]
 simp only [followF, hop] at hK
 have hr0 := hr
 simp only [Cd.right, hop, useOf, nOk] at hr
 simp at hr
 unfold folRho
 simp only [l_vm_machine_follow, dropO_o, dropO_om, dropO_oc, dropO_0]
 unfold Cd.e
 unfold Cd.cs at *
 simp -implicitDefEqProofs only [go_sem, dnW_ite, go_sem_proc, natBeqc, natBeqD, tt, hb1, hC, hA, hB, hY, Array.getElem?_setIfInBounds, Array.getElem?_push, hin, hin1, iC, iA, iB, iY, l_vm_machine_follow_k1]
 refine WP_call (reach_ok h1 x w size hr0 hok he0 hs (by omega)) fun v J2 hv => ?_
 simp -implicitDefEqProofs only [go_sem, dnW_ite, go_sem_proc]
 exact hK _ (MOut.trans u1 hv)
end Go.Proofs.YticfcmaigffhmaaGreat.G
namespace Go.Proofs.YticfcmaigffhmaaGreat.G
open Go
variable {E : Me} {J : JH} {b : Nat} {sh : IV} {m : Mc}
theorem fol_c (h : MAt E J b sh m) (x : Cd) (hx : x.wf) (size : Nat) (hr : x.right size m.bd.l.length E.moves.length = true) (hop : 6 ≤ x.op ∧ x.op ≤ 17) {J1 : JH} (f : Fol E b J sh m x J1) (K : Out IV → JH → Prop)
  (hK : ∀ J', MOut E b J sh J' (followF E m x) → K (.ret []) J') : WP (dn BI (dropO 36 l_vm_machine_follow.body) (folRho b J.size m x) J1) K := by
 have hb := h.1
 have hin := inb hb
 obtain ⟨hop25, ha8, hb8⟩ := right_ab hr
 have hc8 : x.c % 8 < 8 := by omega
 obtain ⟨w1, w2, w3, w4, w5, w6⟩ := hx
 obtain ⟨h1, u1, hC, hA, hB, hY⟩ := f
 have hb1 := h1.1
 have hin1 := inb hb1
 have iC := inb hC
 have iA := inb hA
 have iB := inb hB
 have iY := inb hY
 have hF : followF E m x = { m.go with r := m.go.r.set x.a ⟨computeF x.op (m.r.at x.b).v (m.r.at (x.c % 8)).v, (m.r.at x.b).s &&& (m.r.at (x.c % 8)).s⟩ } := by
  obtain ⟨o1, o2⟩ := hop
  unfold followF
  generalize hq : x.op = q at *
  clear hop25 w1
  split <;> first | (exfalso; omega) | rfl
 rw [hF] at hK
 have tt : ∀ j, (j < 6 ∨ 17 < j) → (x.op = j) = False := fun j hj => by simp; omega
 have t := fun j hj => tt j (by simpa using hj)
 unfold folRho
 simp only [l_vm_machine_follow, dropO_o, dropO_om, dropO_oc, dropO_0]
 unfold Cd.e
 unfold Cd.cs at *
 have hcm := Compute_ok x.op (by omega) (m.r.at x.b).v (m.r.at (x.c % 8)).v
 have hmd : BI.md F_vm_Compute = .pure := rfl
 have hmeet := fun f => Meet_ok (m.r.at x.b).s (.lst 1 f [m32 (m.r.at (x.c % 8)).s]) [(m.r.at (x.c % 8)).s] .lst (by simp)
 simp only [List.foldl] at hmeet
 have tl := And.intro (tt 1 (by omega)) (And.intro (tt 25 (by omega)) (And.intro (tt 2 (by omega)) (And.intro (tt 3 (by omega)) (And.intro (tt 18 (by omega)) (And.intro (tt 19 (by omega)) (And.intro (tt 20 (by omega)) (And.intro (tt 21 (by omega)) (And.intro (tt 23 (by omega)) (And.intro (tt 4 (by omega)) (And.intro (tt 5 (by omega)) (And.intro (tt 22 (by omega)) (tt 24 (by omega)))))))))))))
 simp -implicitDefEqProofs only [go_sem, dnW_ite, go_sem_proc, natBeqc, natBeqD, tl, hb1, hC, hA, hB, hY, Array.getElem?_setIfInBounds, Array.getElem?_push, hin, hin1, iC, iA, iB, iY, l_vm_machine_follow_k1, ipureL, ipure, grp, mkE, List.headD, b8 ha8, st_r E m.go sh ha8, hmd, dcp hcm rfl, dcp (hmeet _) rfl]
 exact hK _ (MOut.trans u1 (MOut.set h1 _ rfl))
end Go.Proofs.YticfcmaigffhmaaGreat.G
namespace Go.Proofs.YticfcmaigffhmaaGreat.G
open Go
variable {E : Me} {J : JH} {b : Nat} {sh : IV} {m : Mc}
theorem ops_of {x : Cd} (h : x.op ≤ 25) (h0 : x.op ≠ 0) : x.op = 1 ∨ x.op = 25 ∨ x.op = 2 ∨ x.op = 3 ∨ x.op = 18 ∨ x.op = 19 ∨ x.op = 20 ∨ x.op = 21 ∨ x.op = 23 ∨ (x.op = 4 ∨ x.op = 5 ∨ x.op = 22 ∨ x.op = 24) ∨ (6 ≤ x.op ∧ x.op ≤ 17) := by omega
theorem follow_ok (hE : E.ok) (h : MAt E J b sh m) (x : Cd) (hx : x.wf) (size : Nat) (hr : x.right size m.bd.l.length E.moves.length = true) (hpc : m.pc ≤ 1000) (h0 : x.op ≠ 0) (hok : m.r.ok) (he0 : m.err = 0) (hs : m.shows.length ≤ 1000) :
  RP (ic BI F_vm_machine_follow [.ptr b 0 0, x.e] J) fun v J' => MOut E b J sh J' (followF E m x) := by
 refine RP_run fn_vm_machine_follow rfl fun K hK => ?_
 refine follow_pre h x size hr hpc K fun J1 f => ?_
 have hk : ∀ J', MOut E b J sh J' (followF E m x) → K (.ret []) J' := fun J' h => hK [] J' h
 rcases ops_of (right_ab hr).1 h0 with hop | hop | hop | hop | hop | hop | hop | hop | hop | hop | hop
 ·exact fol_1 h x hx size hr hop f K hk
 ·exact fol_25 h x hx size hr hop f K hk
 ·exact fol_2 h x hx size hr hop f K hk
 ·exact fol_3 h x hx size hr hop f K hk
 ·exact fol_18 h x hx size hr hop f K hk
 ·exact fol_19 h x hx size hr he0 hop f K hk
 ·exact fol_20 h x hx size hr hop f K hk
 ·exact fol_21 h x hx size hr hE hop f K hk
 ·exact fol_23 h x hx size hr hop f K hk
 ·rcases hop with hop | hop | hop | hop
  ·exact fol_4 h x hx size hr he0 hok hs hop f K hk
  ·exact fol_5 h x hx size hr he0 hok hs hop f K hk
  ·exact fol_22 h x hx size hr he0 hok hs hop f K hk
  ·exact fol_24 h x hx size hr he0 hok hs hop f K hk
 ·exact fol_c h x hx size hr hop f K hk
def I32 (v : Int) : Prop := -2147483648 ≤ v ∧ v < 2147483648
theorem w32_rng (z : Int) : I32 (w32 z) := by
 simp only [I32, w32, IntKind.wrap, IntKind.bits, IntKind.signed]; simp; omega
theorem I32_0 : I32 0 := ⟨by decide, by decide⟩
theorem I32_1 : I32 1 := ⟨by decide, by decide⟩
theorem fdiv_rng {x : Int} (h : I32 x) (k : Nat) : I32 (x.fdiv (2 ^ k)) := by
 obtain ⟨h1, h2⟩ := h
 have hp : (1 : Int) ≤ 2 ^ k := by
  have : 0 < (2 : Nat) ^ k := Nat.pow_pos (by omega)
  have e : ((2 : Int) ^ k) = ((2 ^ k : Nat) : Int) := by simp
  omega
 generalize (2 : Int) ^ k = p at hp
 rw [Int.fdiv_eq_ediv_of_nonneg _ (by omega)]
 constructor
 ·refine (Int.le_ediv_iff_mul_le (by omega)).2 ?_
  have : -2147483648 * p ≤ -2147483648 * 1 := by omega
  omega
 ·refine (Int.ediv_lt_iff_lt_mul (by omega)).2 ?_
  have : 2147483648 * 1 ≤ 2147483648 * p := by omega
  omega
theorem tmod_rng {x : Int} (h : I32 x) (y : Int) : I32 (x.tmod y) := by
 obtain ⟨h1, h2⟩ := h
 have h3 : (x.tmod y).natAbs ≤ x.natAbs := by
  rw [Int.natAbs_tmod]; exact Nat.mod_le _ _
 constructor <;> first | skip | skip
 ·by_cases hx : 0 ≤ x
  ·have := Int.tmod_nonneg y hx; omega
  ·omega
 ·by_cases hx : 0 ≤ x
  ·omega
  ·have := Int.tmod_nonneg y (a := -x) (by omega)
   rw [Int.neg_tmod] at this
   omega
theorem computeF_rng (op : Nat) {x y : Int} (hx : I32 x) : I32 (computeF op x y) := by
 unfold computeF
 split <;> first | exact w32_rng _ | exact I32_0 | exact fdiv_rng hx _ | (split <;> first | exact I32_0 | exact w32_rng _ | exact tmod_rng hx _ | exact I32_1)
def Bd.ok (b : Bd) : Prop := ∀ c ∈ b.l, I32 c.v
theorem Bd.ok_at {b : Bd} (h : b.ok) (i : Int) : I32 (b.at i).v := by
 unfold Bd.at
 by_cases hl : i.toNat < b.l.length
 ·simp only [List.getD_eq_getElem?_getD, hl, List.getElem?_eq_getElem, Option.getD_some]
  exact h _ (List.getElem_mem hl)
 ·simp only [List.getD_eq_getElem?_getD, List.getElem?_eq_none (Nat.le_of_not_lt hl), Option.getD_none]
  exact I32_0
theorem Bd.ok_put {b : Bd} (h : b.ok) (i : Int) {c : Cl} (hc : I32 c.v) : (b.put i c).ok := by
 unfold Bd.put; split
 ·intro x hx
  rcases List.mem_or_eq_of_mem_set hx with hx | rfl
  ·exact h _ hx
  ·exact hc
 ·exact h
theorem Bd.ok_show {b : Bd} (h : b.ok) (i : Int) (to : BitVec 32) : (b.show i to).ok := by
 unfold Bd.show; split
 ·intro x hx
  rcases List.mem_or_eq_of_mem_set hx with hx | rfl
  ·exact h _ hx
  ·exact Bd.ok_at h i
 ·exact h
theorem show_len (b : Bd) (i : Int) (to : BitVec 32) : (b.show i to).l.length = b.l.length := by
 unfold Bd.show; split
 ·simp [Bd.set]
 ·rfl
theorem Rg.at_set (r : Rg) {i : Nat} (j : Nat) (c : Cl) (hi : i < 8) : (r.set i c).at j = if j = i then c else r.at j := by
 simp only [Rg.at, Rg.set, List.getD_eq_getElem?_getD, List.getElem?_set, r.h, hi, if_true]
 by_cases h : i = j
 ·subst h; simp
 ·simp [h, Ne.symm h]
theorem Rg.ok_set {r : Rg} (h : r.ok) {i : Nat} (hi : i < 8) {c : Cl} (hc : I32 c.v) : (r.set i c).ok := by
 intro j hj
 rw [Rg.at_set r j c hi]
 split
 ·exact hc
 ·exact h j hj
structure Mc.ok (n s : Nat) (m : Mc) : Prop where
 r : m.r.ok
 bd : m.bd.ok
 len : m.bd.l.length = n
 pc : m.pc ≤ s
theorem fillN_ok {out : List Int} (ho : ∀ v ∈ out, I32 v) (start : Nat) : ∀ (k : Nat) (m : Mc), m.bd.ok → (fillN m start out k).bd.ok
 | 0, m, h => h
 | k + 1, m, h => by
  simp only [fillN]
  refine Bd.ok_put (fillN_ok ho start k m h) _ ?_
  by_cases hk : k < out.length
  ·simp only [List.getD_eq_getElem?_getD, hk, List.getElem?_eq_getElem, Option.getD_some]; exact ho _ (List.getElem_mem hk)
  ·simp only [List.getD_eq_getElem?_getD, List.getElem?_eq_none (Nat.le_of_not_lt hk), Option.getD_none]; exact I32_0
theorem fillN_same (start : Nat) (out : List Int) : ∀ (k : Nat) (m : Mc), (fillN m start out k).r = m.r ∧ (fillN m start out k).pc = m.pc ∧ (fillN m start out k).shows = m.shows ∧ (fillN m start out k).used = m.used ∧ (fillN m start out k).err = m.err ∧ (fillN m start out k).dice = m.dice
 | 0, m => ⟨rfl, rfl, rfl, rfl, rfl, rfl⟩
 | k + 1, m => fillN_same start out k m
theorem shufL_mem' : ∀ (i : Nat) (s : Int) (ys : List Int), ∀ x ∈ (shufL s i ys).1, x ∈ ys ∨ x = 0
 | 0, s, ys, x, h => .inl h
 | i + 1, s, ys, x, h => by
  rw [shufL] at h
  rcases shufL_mem' i _ _ x h with h | h
  ·have key : ∀ k : Nat, ys.getD k 0 ∈ ys ∨ ys.getD k 0 = 0 := fun k => by
    by_cases hk : k < ys.length
    ·left; simp only [List.getD_eq_getElem?_getD, hk, List.getElem?_eq_getElem, Option.getD_some]; exact List.getElem_mem hk
    ·right; simp [List.getD_eq_getElem?_getD, List.getElem?_eq_none (Nat.le_of_not_lt hk)]
   rcases List.mem_or_eq_of_mem_set h with h | rfl
   ·rcases List.mem_or_eq_of_mem_set h with h | rfl
    ·exact .inl h
    ·exact key _
   ·exact key _
  ·exact .inr h
theorem shuffleF_ok {n s : Nat} (h : m.ok n s) (start many : Nat) : (shuffleF m start many).ok n s := by
 obtain ⟨h1, h2, h3, h4⟩ := h
 have hs := fillN_same start (shufL m.dice (many - 1) (rowV m start many)).1 many { m with dice := (shufL m.dice (many - 1) (rowV m start many)).2 }
 refine ⟨?_, ?_, ?_, ?_⟩
 ·rw [shuffleF, hs.1]; exact h1
 ·refine fillN_ok (fun v hv => ?_) start many _ h2
  rcases shufL_mem' _ _ _ v hv with hv | rfl
  ·obtain ⟨k, _, rfl⟩ := List.mem_map.1 hv
   exact Bd.ok_at h2 _
  ·exact I32_0
 ·rw [shuffleF, fillN_len]; exact h3
 ·rw [shuffleF, hs.2.1]; exact h4
end Go.Proofs.YticfcmaigffhmaaGreat.G
namespace Go.Proofs.YticfcmaigffhmaaGreat.G
open Go
variable {E : Me} {m : Mc}
structure Nice (n s : Nat) (m m' : Mc) : Prop where
 ok : m'.ok n s
 shows : m'.shows.length ≤ m.shows.length + 1
 used : m'.used = m.used
theorem Mc.ok.go {n s : Nat} (h : m.ok n s) (hp : m.pc < s) : m.go.ok n s := ⟨h.r, h.bd, h.len, hp⟩
theorem Nice.set {n s : Nat} (h : m.ok n s) {i : Nat} (hi : i < 8) {c : Cl} (hc : I32 c.v) : Nice n s m { m with r := m.r.set i c } := ⟨⟨Rg.ok_set h.r hi hc, h.bd, h.len, h.pc⟩, Nat.le_succ _, rfl⟩
theorem Nice.put {n s : Nat} (h : m.ok n s) (i : Int) {c : Cl} (hc : I32 c.v) (t : BitVec 64) : Nice n s m { m with bd := m.bd.put i c, touched := t } := ⟨⟨h.r, Bd.ok_put h.bd i hc, by rw [put_len]; exact h.len, h.pc⟩, Nat.le_succ _, rfl⟩
theorem Nice.err {n s : Nat} (h : m.ok n s) (e : Nat) : Nice n s m { m with err := e } := ⟨⟨h.r, h.bd, h.len, h.pc⟩, Nat.le_succ _, rfl⟩
theorem Nice.pc {n s : Nat} (h : m.ok n s) {p : Nat} (hp : p ≤ s) : Nice n s m { m with pc := p } := ⟨⟨h.r, h.bd, h.len, hp⟩, Nat.le_succ _, rfl⟩
theorem revealF_nice {n s : Nat} (h : m.ok n s) (x : Cd) : Nice n s m (revealF E m x) := by
 unfold revealF
 split
 ·exact Nice.err h _
 ·refine ⟨⟨h.r, Bd.ok_show h.bd _ _, by rw [show_len]; exact h.len, h.pc⟩, ?_, rfl⟩
  simp only [List.length_append]
  split <;> simp
theorem reachF_nice {n s : Nat} (h : m.ok n s) (x : Cd) (ha : x.a < 8) : Nice n s m (reachF E m x) := by
 unfold reachF
 split
 ·split
  ·exact Nice.set h ha (Bd.ok_at h.bd _)
  ·exact Nice.err h _
 ·split
  ·exact Nice.put h _ (h.r _ ha) _
  ·exact Nice.err h _
 ·exact revealF_nice h x
 ·have := fillN_same x.n.toNat (shufL m.dice (x.c - 1) (rowV m x.n.toNat x.c)).1 x.c { m with dice := (shufL m.dice (x.c - 1) (rowV m x.n.toNat x.c)).2 }
  exact ⟨shuffleF_ok h _ _, by rw [shuffleF, this.2.2.1]; exact Nat.le_succ _, by rw [shuffleF, this.2.2.2.1]⟩
 ·exact ⟨h, Nat.le_succ _, rfl⟩
theorem followF_nice (hE : E.ok) {n s : Nat} (h : m.ok n s) (hp : m.pc < s) (x : Cd) (hx : x.wf) (hr : x.right s n E.moves.length = true) : Nice n s m (followF E m x) := by
 have hg := h.go hp
 obtain ⟨hop25, ha8, hb8⟩ := right_ab hr
 obtain ⟨w1, w2, w3, w4, w5, w6⟩ := hx
 have up : ∀ m', Nice n s m.go m' → Nice n s m m' := fun m' k => ⟨k.ok, k.shows, k.used⟩
 refine up _ ?_
 unfold followF
 simp only
 split
 ·exact Nice.set hg ha8 ⟨w5, w6⟩
 ·exact Nice.set hg ha8 (Bd.ok_at hg.bd _)
 ·exact Nice.put hg _ (hg.r _ ha8) _
 ·refine Nice.set hg ha8 ?_
  show I32 (if _ then _ else _)
  split
  ·exact hg.r _ (Nat.mod_lt _ (by decide))
  ·exact hg.r _ hb8
 ·rename_i hop
  simp [Cd.right, hop, useOf, nOk] at hr
  split
  ·split
   ·exact Nice.pc hg (by omega)
   ·exact ⟨hg, Nat.le_succ _, rfl⟩
  ·exact Nice.err hg _
 ·rename_i hop
  simp [Cd.right, hop, useOf, nOk] at hr
  exact Nice.pc hg (by omega)
 ·refine Nice.set hg ha8 ?_
  show I32 (E.moves.getD x.n.toNat 0)
  by_cases hl : x.n.toNat < E.moves.length
  ·simp only [List.getD_eq_getElem?_getD, hl, List.getElem?_eq_getElem, Option.getD_some]; exact hE.rng _ (List.getElem_mem hl)
  ·simp only [List.getD_eq_getElem?_getD, List.getElem?_eq_none (Nat.le_of_not_lt hl), Option.getD_none]; exact I32_0
 ·rename_i hop
  simp [Cd.right, hop, useOf, nOk] at hr
  obtain ⟨bv, sv, hbv, hsv, hb0, hb2⟩ := roll_ex m.go.dice x.n (by omega) (by omega)
  rw [← hbv, ← hsv]
  have := Nice.set hg ha8 (c := ⟨bv, 0#32⟩) ⟨by show -2147483648 ≤ bv; omega, by show bv < 2147483648; omega⟩
  exact ⟨⟨this.ok.r, this.ok.bd, this.ok.len, this.ok.pc⟩, this.shows, this.used⟩
 ·exact Nice.set hg ha8 (w32_rng _)
 ·exact reachF_nice hg x ha8
 ·exact reachF_nice hg x ha8
 ·exact reachF_nice hg x ha8
 ·exact reachF_nice hg x ha8
 ·exact Nice.set hg ha8 (computeF_rng _ (hg.r _ hb8))
def loopF (E : Me) (l : List Cd) : Nat → Mc → Mc
 | 0, m => if m.err = 0 ∧ m.pc < l.length then { m with err := 9 } else m
 | k + 1, m => if m.err = 0 ∧ m.pc < l.length then
   (if (l.getD m.pc ⟨0, 0, 0, 0, 0, 0⟩).op = 0 then { m with used := m.used + 1 }
    else loopF E l k (followF E { m with used := m.used + 1 } (l.getD m.pc ⟨0, 0, 0, 0, 0, 0⟩)))
  else m
structure Rs where
 bd : Bd
 dice : Int
 touched : BitVec 64
 shows : List Sh
 used : Nat
 err : Nat
def regs0 (all : BitVec 32) : Rg := ⟨List.replicate 8 ⟨0, all⟩, rfl⟩
def start (E : Me) (bd : Bd) (d : Int) : Mc := ⟨bd, d, 0#64, [], 0, 0, regs0 E.all, 0⟩
def runF (E : Me) (l : List Cd) (bd : Bd) (d : Int) : Rs :=
 if rightL l bd.l.length E.moves.length = false then ⟨bd, d, 0#64, [], 0, 2⟩ else
 if (loopF E l 400 (start E bd d)).err ≠ 0 then ⟨bd, d, 0#64, (loopF E l 400 (start E bd d)).shows, (loopF E l 400 (start E bd d)).used, (loopF E l 400 (start E bd d)).err⟩
 else ⟨(loopF E l 400 (start E bd d)).bd, (loopF E l 400 (start E bd d)).dice, (loopF E l 400 (start E bd d)).touched, (loopF E l 400 (start E bd d)).shows, (loopF E l 400 (start E bd d)).used, 0⟩
end Go.Proofs.YticfcmaigffhmaaGreat.G
namespace Go.Proofs.YticfcmaigffhmaaGreat.G
open Go
def Sh.e (s : Sh) : IV := .agg s.c
def resB (r : Rs) (s : IV) : List IV := [.int .u64 r.dice, .int .u64 (r.touched.toNat : Int), s, nI r.used, nI r.err]
def resC (r : Rs) (s : IV) : List IV := bdc r.bd ++ resB r s
def ResR (u : IV) (r : Rs) : Prop := ∃ s, Ls 3 s (r.shows.map Sh.e) ∧ u = .agg (resC r s)
theorem sh3 (l : List Sh) : ∀ x ∈ l.map Sh.c, x.length = 3 := by
 intro e he
 obtain ⟨y, _, rfl⟩ := List.mem_map.1 he
 rfl
theorem sh_pure (l : List Sh) : ipureL (l.map Sh.c).flatten = true := ipureL_iff.2 fun x hx => by
 obtain ⟨e, he, hx⟩ := List.mem_flatten.1 hx
 obtain ⟨y, _, rfl⟩ := List.mem_map.1 he
 simp [Sh.c] at hx
 rcases hx with rfl | rfl | rfl <;> rfl
theorem sh_one (l : List Sh) : (l.map Sh.c).flatten.all ione = true := by
 rw [List.all_eq_true]
 intro x hx
 obtain ⟨e, he, hx⟩ := List.mem_flatten.1 hx
 obtain ⟨y, _, rfl⟩ := List.mem_map.1 he
 simp [Sh.c] at hx
 rcases hx with rfl | rfl | rfl <;> rfl
theorem frz_res {J : JH} {r : Rs} {s : IV} (hg : Grow J s 3 (r.shows.map Sh.c).flatten) : ∃ u, frz J DEP (.agg (resC r s)) = some u ∧ ResR u r := by
 obtain ⟨u, hu, hl⟩ := hg.frzX (sh3 _) (by omega) (sh_pure _) (sh_one _)
 refine ⟨.agg (resC r u), ?_, u, ?_, rfl⟩
 ·rw [frz12]
  refine frz_aggL ?_
  rw [resC, List.mapM_append, frzL_pure J 11 (bdc_pure r.bd)]
  simp only [resB, List.mapM_cons, List.mapM_nil, hu, frz_pure J 11 (v := IV.int .u64 r.dice) rfl, frz_pure J 11 (v := IV.int .u64 (r.touched.toNat : Int)) rfl, frz_pure J 11 (v := nI r.used) rfl, frz_pure J 11 (v := nI r.err) rfl]
  rfl
 ·rw [List.map_map] at hl
  exact hl
def Rs.z : Rs := ⟨Bd.z, 0, 0#64, [], 0, 0⟩
theorem zc_res : List.map IV.sc (reps 48 [Value.int .i32 0, Value.int .u32 0] ++ [Value.int .i64 0, Value.int .u64 0, Value.int .u64 0, Value.slice none 0 0, Value.int .i64 0, Value.int .i64 0]) = resC Rs.z (.sc (.slice none 0 0)) := by
 show _ = bdc Bd.z ++ resB Rs.z (.sc (.slice none 0 0))
 rw [← zc_bd, List.map_append, List.map_append, List.append_assoc]; rfl
theorem rs_len (r s) : (resC r s).length = 102 := by simp [resC, bdc_len, resB]
theorem rs_one (r s) (h : ione s = true) : (resC r s).all ione = true := by
 rw [resC, List.all_append, bdc_one, resB]; simp only [List.all_cons, h]; rfl
theorem rs_take (r s) : (resC r s).take 102 = resC r s := List.take_of_length_le (by rw [rs_len]; exact Nat.le_refl _)
theorem rs_all (r s q t) : isplice (resC r s) 0 (resC q t) = resC q t := by
 simp only [isplice, List.take_zero, List.nil_append, Nat.zero_add]
 rw [List.drop_of_length_le (by rw [rs_len, rs_len]; exact Nat.le_refl _), List.append_nil]
theorem rs_0 (r s) (b : Bd) : isplice (resC r s) 0 (bdc b) = resC { r with bd := b } s := by
 rw [resC, app_sp0 (by rw [bdc_len, bdc_len]; exact Nat.le_refl _), bdc_all]; rfl
theorem rs_97 (r s) (d : Int) : isplice (resC r s) 97 [.int .u64 d] = resC { r with dice := d } s := by rw [resC, app_sp (bdc_len r.bd) 0]; rfl
theorem rs_99 (r s) (d : IV) : isplice (resC r s) 99 [d] = resC r d := by rw [resC, app_sp (bdc_len r.bd) 2]; rfl
theorem rs_100 (r s) (d : Nat) : isplice (resC r s) 100 [nI d] = resC { r with used := d } s := by rw [resC, app_sp (bdc_len r.bd) 3]; rfl
theorem rs_101 (r s) (d : Nat) : isplice (resC r s) 101 [nI d] = resC { r with err := d } s := by rw [resC, app_sp (bdc_len r.bd) 4]; rfl
theorem rs_pure (r) : ipureL (resC r (.sc (.slice none 0 0))) = true := by
 rw [resC, ipureL_iff]
 intro x hx
 rcases List.mem_append.1 hx with hx | hx
 ·exact ipureL_iff.1 (bdc_pure r.bd) x hx
 ·simp [resB] at hx
  rcases hx with rfl | rfl | rfl | rfl | rfl <;> rfl
attribute [go_sem] rs_len rs_take rs_all rs_0 rs_97 rs_99 rs_100 rs_101
attribute [go_sem ↓] zc_res
def mcz : List IV := bdc Bd.z ++ ([.int .u64 0, .int .u64 0, .sc (.slice none 0 0), nI 0, nI 0] ++ (rgc ⟨List.replicate 8 Cl.z, rfl⟩ ++ [nI 0, .sc (.slice none 0 0), .int .u32 0, .int .u32 0, .sc .nilFunc]))
theorem zc_mc : List.map IV.sc (reps 48 [Value.int .i32 0, Value.int .u32 0] ++ (Value.int .i64 0 :: Value.int .u64 0 :: Value.int .u64 0 :: Value.slice none 0 0 :: Value.int .i64 0 :: Value.int .i64 0 :: (reps 8 [Value.int .i32 0, Value.int .u32 0] ++ [Value.int .i64 0, Value.slice none 0 0, Value.int .u32 0, Value.int .u32 0, Value.nilFunc]))) = mcz := by
 rw [mcz, ← zc_bd]
 simp only [List.map_append, List.append_assoc, List.map_cons, List.map_nil, List.cons_append, List.nil_append]
 rfl
attribute [go_sem ↓] zc_mc
theorem mcz_fill (mv : IV) (t : Int) (all : BitVec 32) (h : icells mv = [mv]) (ho : ione mv = true) : ifill mcz [(119, 1, mv), (120, 1, .int .u32 t), (121, 1, m32 all), (122, 1, .fn F_vm_Compute [] [])] = some (mc ⟨mv, [], t, all⟩ ⟨Bd.z, 0, 0#64, [], 0, 0, ⟨List.replicate 8 Cl.z, rfl⟩, 0⟩ (.sc (.slice none 0 0))) := by
 have hl : mcz.length = 123 := by simp [mcz, bdc_len, rgc_len]
 have sp : ∀ (D vs : List IV) (k : Nat), isplice (bdc Bd.z ++ ([.int .u64 0, .int .u64 0, .sc (.slice none 0 0), nI 0, nI 0] ++ (rgc ⟨List.replicate 8 Cl.z, rfl⟩ ++ D))) (118 + k) vs = bdc Bd.z ++ ([.int .u64 0, .int .u64 0, .sc (.slice none 0 0), nI 0, nI 0] ++ (rgc ⟨List.replicate 8 Cl.z, rfl⟩ ++ isplice D k vs)) := fun D vs k => by
  rw [show 118 + k = 97 + (5 + (16 + k)) by omega, app_sp (bdc_len _), app_sp (n := 5) rfl, app_sp (rgc_len _)]
 have ln : ∀ D : List IV, (bdc Bd.z ++ ([.int .u64 0, .int .u64 0, .sc (.slice none 0 0), nI 0, nI 0] ++ (rgc ⟨List.replicate 8 Cl.z, rfl⟩ ++ D))).length = 118 + D.length := fun D => by simp [bdc_len, rgc_len]; omega
 unfold mcz
 simp only [ifill, h, List.length_cons, List.length_nil, List.all_cons, ho, List.all_nil, Bool.and_true, ln, true_and, and_true, sp _ _ 1, sp _ _ 2, sp _ _ 3, sp _ _ 4, show (119 : Nat) = 118 + 1 from rfl, show (120 : Nat) = 118 + 2 from rfl, show (121 : Nat) = 118 + 3 from rfl, show (122 : Nat) = 118 + 4 from rfl]
 simp [icells, ione, isplice, mc, mcB, mcD, one]
def endF (bd : Bd) (d : Int) (m : Mc) : Rs :=
 if m.err ≠ 0 then ⟨bd, d, 0#64, m.shows, m.used, m.err⟩ else ⟨m.bd, m.dice, m.touched, m.shows, m.used, m.err⟩
theorem MAt.res {E : Me} {J : JH} {b : Nat} {sh : IV} {m : Mc} (h : MAt E J b sh m) : (mc E m sh).take 102 = resC ⟨m.bd, m.dice, m.touched, m.shows, m.used, m.err⟩ sh := ld_res E m sh
theorem run_end {E : Me} {J : JH} {sh : IV} {m : Mc} (bd : Bd) (d : Int) (h : MAt E J 3 sh m) (h0 : J[0]? = some (.cells 0 (bdc bd) false)) (h1 : J[1]? = some (.cells 0 [.int .u64 d] false)) (r0 : Rs) (h2 : J[2]? = some (.cells 0 (resC r0 (.sc (.slice none 0 0))) false)) (hs : 2 ∉ blk sh) (K : Out IV → JH → Prop)
  (hK : ∀ vs J' u, frz J' DEP (itup vs) = some u → ResR u (endF bd d m) → K (.ret vs) J') : WP (dn BI l_vm_Run_k3 [.ptr 0 0 0, .ptr 1 0 0, .ptr 2 0 0, .ptr 3 0 0] J) K := by
 have hb := h.1
 have hin := inb hb
 have i0 := inb h0
 have i1 := inb h1
 have i2 := inb h2
 have ho := h.2.2.one
 have hi := h.2.2.icells
 have hgr : ∀ X : IB, Grow (J.setIfInBounds 2 X) sh 3 (m.shows.map Sh.c).flatten := fun X => h.2.2.fr (Fr.set J X (S := [2]) (by simp)) fun c hc hm => by simp at hm; exact hs (hm ▸ hc)
 unfold l_vm_Run_k3
 by_cases he : m.err = 0
 ·have he' : ((m.err : Int) != 0) = false := by simp [he]
  have hone := rs_one ⟨m.bd, m.dice, m.touched, m.shows, m.used, m.err⟩ sh ho
  simp -implicitDefEqProofs only [go_sem, dnW_ite, go_sem_proc, hb, he', h0, h1, h2, h.res, hone, Array.getElem?_setIfInBounds, i2]
  obtain ⟨u, hu, hr⟩ := frz_res (J := J.setIfInBounds 2 (.cells 0 (resC ⟨m.bd, m.dice, m.touched, m.shows, m.used, m.err⟩ sh) false)) (r := ⟨m.bd, m.dice, m.touched, m.shows, m.used, m.err⟩) (hgr _)
  exact hK _ _ u hu (by rw [endF, if_neg (by simpa using he)]; exact hr)
 ·have he' : ((m.err : Int) != 0) = true := by simp; omega
  simp -implicitDefEqProofs only [go_sem, dnW_ite, go_sem_proc, hb, he', h0, h1, h2, Array.getElem?_setIfInBounds, i2, ↓ho, ↓hi, rs_one _ sh ho]
  obtain ⟨u, hu, hr⟩ := frz_res (J := J.setIfInBounds 2 (.cells 0 (resC ⟨bd, d, 0#64, m.shows, m.used, m.err⟩ sh) false)) (r := ⟨bd, d, 0#64, m.shows, m.used, m.err⟩) (hgr _)
  exact hK _ _ u hu (by rw [endF, if_pos he]; exact hr)
structure Sur (J : JH) (bd : Bd) (d : Int) (sh : IV) : Prop where
 c0 : J[0]? = some (.cells 0 (bdc bd) false)
 c1 : J[1]? = some (.cells 0 [.int .u64 d] false)
 c2 : J[2]? = some (.cells 0 (resC Rs.z (.sc (.slice none 0 0))) false)
 n0 : 0 ∉ blk sh
 n1 : 1 ∉ blk sh
 n2 : 2 ∉ blk sh
theorem Sur.upd {J J' : JH} {bd : Bd} {d : Int} {sh sh' : IV} (h : Sur J bd d sh) (u : Upd 3 J sh J' sh') : Sur J' bd d sh' :=
 ⟨u.keep h.c0 (by decide) h.n0, u.keep h.c1 (by decide) h.n1, u.keep h.c2 (by decide) h.n2, u.out (lt_get h.c0) h.n0, u.out (lt_get h.c1) h.n1, u.out (lt_get h.c2) h.n2⟩
theorem run_loop {E : Me} (hE : E.ok) (xl : IV) (l : List Cd) (hl : Ls 6 xl (l.map Cd.e)) (hw : ∀ c ∈ l, c.wf) (hl96 : l.length ≤ 96) (bd : Bd) (d : Int) (hr : ∀ x ∈ l, x.right l.length bd.l.length E.moves.length = true) (K : Out IV → JH → Prop)
  (m0 : Mc) (hK : ∀ vs J' u, frz J' DEP (itup vs) = some u → ResR u (endF bd d (loopF E l 400 m0)) → K (.ret vs) J')
  {J : JH} {sh : IV} (h : MAt E J 3 sh m0) (hs : Sur J bd d sh) (hok : m0.ok bd.l.length l.length) (h0 : m0.used = 0) (h1 : m0.shows.length = 0) :
  WP (dn BI l_vm_Run_k4 [xl, .ptr 0 0 0, .ptr 1 0 0, .ptr 2 0 0, .ptr 3 0 0] J) K := by
 unfold l_vm_Run_k4
 simp -implicitDefEqProofs only [go_sem, dnW_ite, go_sem_proc, dn_loop]
 refine WP_loop (by decide) (fun n vs J => ∃ m sh, vs = [xl, .ptr 0 0 0, .ptr 1 0 0, .ptr 2 0 0, .ptr 3 0 0] ∧ MAt E J 3 sh m ∧ Sur J bd d sh ∧ m.ok bd.l.length l.length ∧ m.shows.length ≤ m.used ∧ m.used + n = 400 ∧ loopF E l n m = loopF E l 400 m0) ?_ 400 _ _ ⟨m0, sh, rfl, h, hs, hok, by omega, by omega, rfl⟩
 rintro n vs J ⟨m, sh, rfl, h, hs, hok, hsh, hu, hf⟩ K1 g1 g2 g3
 have hb := h.1
 have hpc := hok.pc
 have fin : loopF E l 400 m0 = m → K1 (.goto 1 [.ptr 0 0 0, .ptr 1 0 0, .ptr 2 0 0, .ptr 3 0 0]) J := fun e => by
  refine g2 _ _ ?_
  rw [e] at hK
  exact run_end bd d h hs.c0 hs.c1 _ hs.c2 hs.n2 K hK
 unfold l_vm_Run_k2
 by_cases he : m.err = 0
 ·have he' : ((m.err : Int) == 0) = true := by simp [he]
  by_cases hp : m.pc < l.length
  ·simp -implicitDefEqProofs only [go_sem, dnW_ite, go_sem_proc, hb, he', hl.lenF, List.length_map, show ((m.pc : Int) < (l.length : Int)) by omega]
   unfold l_vm_Run_k1
   by_cases hn : n = 0
   ·subst hn
    have hu4 : ((m.used : Int) == 400) = true := by rw [beq_iff_eq]; omega
    simp -implicitDefEqProofs only [go_sem, dnW_ite, go_sem_proc, hb, hu4]
    refine WP_call (fail_ok h 9) fun v J2 hv => ?_
    simp -implicitDefEqProofs only [go_sem, dnW_ite, go_sem_proc]
    refine g2 _ _ ?_
    obtain ⟨sh2, k1, u1⟩ := hv
    have hs2 := hs.upd u1
    rw [if_pos he] at k1
    refine run_end bd d k1 hs2.c0 hs2.c1 _ hs2.c2 hs2.n2 K ?_
    rw [← hf, loopF, if_pos ⟨he, hp⟩] at hK
    exact hK
   ·obtain ⟨k, rfl⟩ : ∃ k, n = k + 1 := ⟨n - 1, by omega⟩
    have hu4 : ((m.used : Int) == 400) = false := by rw [beq_eq_false_iff_ne]; omega
    have hat := fun J => hl.at (i := m.pc) (by simpa using hp) (J := J)
    simp only [List.getElem_map, Cd.e, Cd.cs] at hat
    have hx : l.getD m.pc ⟨0, 0, 0, 0, 0, 0⟩ = l[m.pc] := by simp [hp]
    have hin := inb hb
    have h' := h.set { m with used := m.used + 1 } rfl
    have u' : Upd 3 J sh (J.setIfInBounds 3 (.cells 0 (mc E { m with used := m.used + 1 } sh) false)) sh := .set _
    have hs' := hs.upd u'
    rw [loopF, if_pos ⟨he, hp⟩, hx] at hf
    by_cases h00 : l[m.pc].op = 0
    ·have ho : ((l[m.pc].op : Int) == 0) = true := by simp [h00]
     simp -implicitDefEqProofs only [go_sem, dnW_ite, go_sem_proc, hb, hu4, wrapS (show m.used < 401 by omega) (by omega), hat, ho, Array.getElem?_setIfInBounds, hin]
     refine g2 _ _ ?_
     rw [if_pos h00] at hf
     refine run_end bd d h' hs'.c0 hs'.c1 _ hs'.c2 hs'.n2 K ?_
     rw [hf]; exact hK
    ·have ho : ((l[m.pc].op : Int) == 0) = false := by rw [beq_eq_false_iff_ne]; omega
     rw [if_neg h00] at hf
     simp -implicitDefEqProofs only [go_sem, dnW_ite, go_sem_proc, hb, hu4, wrapS (show m.used < 401 by omega) (by omega), hat, ho, Array.getElem?_setIfInBounds, hin]
     have hrx := hr _ (List.getElem_mem hp)
     have hwx := hw _ (List.getElem_mem hp)
     have hok' : ({ m with used := m.used + 1 } : Mc).ok bd.l.length l.length := ⟨hok.r, hok.bd, hok.len, hok.pc⟩
     refine WP_call (follow_ok hE h' l[m.pc] hwx l.length (by show l[m.pc].right l.length m.bd.l.length _ = true; rw [hok.len]; exact hrx) (by show m.pc ≤ 1000; omega) h00 hok.r he (by show m.shows.length ≤ 1000; omega)) fun v J2 hv => ?_
     obtain ⟨sh2, k1, u1⟩ := hv
     have hnice := followF_nice hE hok' hp l[m.pc] hwx hrx
     simp -implicitDefEqProofs only [go_sem, dnW_ite, go_sem_proc]
     refine g1 _ k _ (by omega) ⟨_, sh2, rfl, k1, hs'.upd u1, hnice.ok, ?_, ?_, hf⟩
     ·have a := hnice.shows; have b := hnice.used; rw [b]; show _ ≤ m.used + 1; have : ({ m with used := m.used + 1 } : Mc).shows.length = m.shows.length := rfl; omega
     ·rw [hnice.used]; show m.used + 1 + k = 400; omega
  ·simp -implicitDefEqProofs only [go_sem, dnW_ite, go_sem_proc, hb, he', hl.lenF, List.length_map, show ¬ ((m.pc : Int) < (l.length : Int)) by omega]
   refine fin ?_
   rw [← hf]; cases n <;> simp [loopF, hp]
 ·have he' : ((m.err : Int) == 0) = false := by rw [beq_eq_false_iff_ne]; omega
  simp -implicitDefEqProofs only [go_sem, dnW_ite, go_sem_proc, hb, he']
  refine fin ?_
  rw [← hf]; cases n <;> simp [loopF, he]
def regsN (all : BitVec 32) (i : Nat) : Rg := ⟨(List.replicate (min i 8) ⟨0, all⟩ ++ List.replicate (8 - min i 8) Cl.z), by simp; omega⟩
theorem regsN_set (all : BitVec 32) {i : Nat} (h : i < 8) : (regsN all i).set i ⟨((regsN all i).at i).v, all⟩ = regsN all (i + 1) := by
 have e : ((regsN all i).at i).v = 0 := by
  rw [rg_at _ h]
  simp [regsN, show min i 8 = i by omega, Cl.z, List.getElem_append]
 rw [e]
 unfold Rg.set regsN
 congr 1
 rw [List.set_append_right _ _ (by simp; omega)]
 simp only [List.length_replicate, show min i 8 = i by omega, Nat.sub_self, show min (i + 1) 8 = i + 1 by omega]
 rw [show 8 - i = (8 - (i + 1)) + 1 by omega, List.replicate_succ (n := 8 - (i + 1)), List.set_cons_zero, List.replicate_succ' (n := i)]
 simp
theorem mc_one (m : Mc) (E : Me) (sh : IV) (h : ione E.mv = true) (hs : ione sh = true := by rfl) : (mc E m sh).all ione = true := by
 have hr : (rgc m.r).all ione = true := flat_one _
 rw [mc, List.all_append, bdc_one, List.all_append, List.all_append, hr, mcB, mcD]
 simp only [List.all_cons, h, hs]; rfl
theorem Run_ok (xl : IV) (l : List Cd) (hl : Ls 6 xl (l.map Cd.e)) (hw : ∀ c ∈ l, c.wf) (hlen : l.length ≤ 9223372036854775807) (bd : Bd) (hbd : bd.ok) (d : Int) (E : Me) (hE : E.ok) :
  ∃ u, pc BI F_vm_Run [xl, .agg (bdc bd), .agg [.int .u64 d], E.mv, .int .u32 E.tick, m32 E.all] = some u ∧ ResR u (runF E l bd d) := by
 refine pcW fn_vm_Run rfl fun K hK => ?_
 have hbl := bd.h
 have hR := Right_ok xl l hl hw bd.l.length E.moves.length (by omega) hE.len
 have hml := fun J => hE.mv.lenF (J := J)
 simp only [List.length_map] at hml
 have hmp := hE.mv.pure
 have hmo := hE.mv.one
 have hmi := hE.mv.icells
 unfold l_vm_Run
 cases hr : rightL l bd.l.length E.moves.length with
 | false =>
  rw [hr] at hR
  simp -implicitDefEqProofs only [go_sem, dnW_ite, go_sem_proc, dcp (Len_ok bd) (by simp [ipureL, ipure, bdc_pure]), hml, dcp hR (by simp [ipureL, ipure, hl.pure]), rs_one _ (.sc (.slice none 0 0)) rfl, show ∀ r s, isplice (resC r s) 101 [IV.int .i64 2] = resC { r with err := 2 } s from fun r s => rs_101 r s 2]
  refine hK _ _ _ (frzP (by simp [itup, ipure, rs_pure])) ?_
  simp only [runF, hr, if_true]; exact ⟨_, .nil, rfl⟩
 | true =>
  rw [hr] at hR
  have hfill := mcz_fill E.mv E.tick E.all hmi hmo
  simp -implicitDefEqProofs only [go_sem, dnW_ite, go_sem_proc, dcp (Len_ok bd) (by simp [ipureL, ipure, bdc_pure]), hml, dcp hR (by simp [ipureL, ipure, hl.pure]), rs_one _ (.sc (.slice none 0 0)) rfl, ↓hmi, ↓hmo, hfill, mc_one _ ⟨E.mv, [], E.tick, E.all⟩ (.sc (.slice none 0 0)) hmo, dn_loop]
  have hall : l.length ≤ 96 ∧ ∀ x ∈ l, x.right l.length bd.l.length E.moves.length = true := by
   simpa [rightL] using hr
  refine WP_range (by decide) 8 (fun i vs J => vs = [xl, m32 E.all, .ptr 0 0 0, .ptr 1 0 0, .ptr 2 0 0, .ptr 3 0 0, nI i] ∧ J = [IB.cells 0 (bdc bd) false, IB.cells 0 [.int .u64 d] false, IB.cells 0 (resC Rs.z (.sc (.slice none 0 0))) false, IB.cells 0 (mc E ⟨bd, d, 0#64, [], 0, 0, regsN E.all i, 0⟩ (.sc (.slice none 0 0))) false].toArray) ?_ ⟨rfl, rfl⟩
  rintro i vs J ⟨rfl, rfl⟩ hi K1 g1 g2 g3
  unfold l_vm_Run_k0
  by_cases h : i < 8
  ·simp -implicitDefEqProofs only [go_sem, dnW_ite, go_sem_proc, show ((i : Int) < 8) by omega, b8 h, st_rs E ⟨bd, d, 0#64, [], 0, 0, regsN E.all i, 0⟩ (.sc (.slice none 0 0)) h, wrapS h (by omega)]
   refine g1 h _ _ ⟨rfl, ?_⟩
   rw [← regsN_set E.all h]
  ·simp -implicitDefEqProofs only [go_sem, dnW_ite, go_sem_proc, show ¬ ((i : Int) < 8) by omega]
   obtain rfl : i = 8 := by omega
   refine g2 _ _ ?_
   have hm : MAt E ([IB.cells 0 (bdc bd) false, IB.cells 0 [.int .u64 d] false, IB.cells 0 (resC Rs.z (.sc (.slice none 0 0))) false, IB.cells 0 (mc E ⟨bd, d, 0#64, [], 0, 0, regsN E.all 8, 0⟩ (.sc (.slice none 0 0))) false].toArray) 3 (.sc (.slice none 0 0)) (start E bd d) := ⟨rfl, by simp [blk, blkOf], .nil⟩
   refine run_loop hE xl l hl hw hall.1 bd d hall.2 K (start E bd d) ?_ hm ⟨rfl, rfl, rfl, by simp [blk, blkOf], by simp [blk, blkOf], by simp [blk, blkOf]⟩ ⟨?_, hbd, rfl, Nat.zero_le _⟩ rfl rfl
   ·intro vs J' u h1 h2
    refine hK vs J' u h1 ?_
    rw [runF, if_neg (by rw [hr]; decide)]
    unfold endF at h2
    by_cases he : (loopF E l 400 (start E bd d)).err = 0
    ·rw [if_neg (by simpa using he)] at h2 ⊢
     rw [he] at h2; exact h2
    ·rw [if_pos he] at h2 ⊢; exact h2
   ·intro i hi
    have : ((start E bd d).r.at i).v = 0 := by
     show ((regs0 E.all).at i).v = 0
     rw [rg_at _ hi]; simp only [regs0, List.getElem_replicate]
    rw [this]; exact I32_0
theorem rl_bd (r s) : (resC r s).take 97 = bdc r.bd := by rw [resC, List.take_append_of_le_length (by rw [bdc_len]; exact Nat.le_refl _), bdc_take]
theorem rl_97 (r s) : ((resC r s).drop 97).take 1 = [.int .u64 r.dice] := by rw [resC, app_ld (bdc_len r.bd) 0]; rfl
theorem rl_98 (r s) : ((resC r s).drop 98).take 1 = [.int .u64 (r.touched.toNat : Int)] := by rw [resC, app_ld (bdc_len r.bd) 1]; rfl
theorem rl_99 (r s) : ((resC r s).drop 99).take 1 = [s] := by rw [resC, app_ld (bdc_len r.bd) 2]; rfl
theorem rl_100 (r s) : ((resC r s).drop 100).take 1 = [nI r.used] := by rw [resC, app_ld (bdc_len r.bd) 3]; rfl
theorem rl_101 (r s) : ((resC r s).drop 101).take 1 = [nI r.err] := by rw [resC, app_ld (bdc_len r.bd) 4]; rfl
theorem rsz_one (r) : (resC r (.sc (.slice none 0 0))).all ione = true := rs_one _ _ rfl
attribute [go_sem] rsz_one rl_bd rl_97 rl_98 rl_99 rl_100 rl_101
theorem fits8 {n : Nat} (h : n ≤ 1000000) : fits n 8 = true := by
 simp only [fits, Bool.and_eq_true, decide_eq_true_eq]; omega
theorem fits12 {n : Nat} (h : n ≤ 1000000) : fits n 12 = true := by
 simp only [fits, Bool.and_eq_true, decide_eq_true_eq]; omega
theorem cl2 (l : List Cl) : ∀ x ∈ l.map Cl.c, x.length = 2 := by
 intro e he
 obtain ⟨y, _, rfl⟩ := List.mem_map.1 he
 rfl
theorem cl_pure (l : List Cl) : ipureL (l.map Cl.c).flatten = true := ipureL_iff.2 fun x hx => by
 obtain ⟨e, he, hx⟩ := List.mem_flatten.1 hx
 obtain ⟨y, _, rfl⟩ := List.mem_map.1 he
 simp [Cl.c] at hx
 rcases hx with rfl | rfl <;> rfl
theorem cl_mk (l : List Cl) : (l.map Cl.c).map (mkE 2) = l.map Cl.e := by rw [List.map_map]; rfl
def i1 (l : List Int) : List (List IV) := l.map fun v => [IV.int .i32 v]
theorem cd6 (l : List Cd) : ∀ x ∈ l.map Cd.cs, x.length = 6 := by
 intro e he
 obtain ⟨y, _, rfl⟩ := List.mem_map.1 he
 rfl
theorem cd_pure (l : List Cd) : ipureL (l.map Cd.cs).flatten = true := ipureL_iff.2 fun x hx => by
 obtain ⟨e, he, hx⟩ := List.mem_flatten.1 hx
 obtain ⟨y, _, rfl⟩ := List.mem_map.1 he
 simp [Cd.cs] at hx
 rcases hx with rfl | rfl | rfl | rfl | rfl | rfl <;> rfl
theorem cd_one (l : List Cd) : (l.map Cd.cs).flatten.all ione = true := by
 rw [List.all_eq_true]
 intro x hx
 obtain ⟨e, he, hx⟩ := List.mem_flatten.1 hx
 obtain ⟨y, _, rfl⟩ := List.mem_map.1 he
 simp [Cd.cs] at hx
 rcases hx with rfl | rfl | rfl | rfl | rfl | rfl <;> rfl
theorem cd_mk (l : List Cd) : (l.map Cd.cs).map (mkE 6) = l.map Cd.e := by rw [List.map_map]; rfl
theorem gm_s4 (g : Gm) (x y v : IV) : isplice (gmc g x y) 4 [v] = gmc g v y := rfl
theorem gm_s5 (g : Gm) (x y v : IV) : isplice (gmc g x y) 5 [v] = gmc g x v := rfl
theorem gm_all (g : Gm) (x y : IV) (g2 : Gm) (x2 y2 : IV) : isplice (gmc g x y) 0 (gmc g2 x2 y2) = gmc g2 x2 y2 := rfl
attribute [go_sem] gm_s4 gm_s5 gm_all
theorem Clip.icells {J J' : JH} {s : IV} {sz : Nat} {X : List (List IV)} (h : Clip J J' s sz X) : Go.Proofs.YticfcmaigffhmaaGreat.G.icells s = [s] := by
 rcases h with ⟨_, rfl, _⟩ | ⟨_, rfl, _⟩ <;> rfl
theorem Clip.one {J J' : JH} {s : IV} {sz : Nat} {X : List (List IV)} (h : Clip J J' s sz X) : ione s = true := by
 rcases h with ⟨_, rfl, _⟩ | ⟨_, rfl, _⟩ <;> rfl
theorem Clip.frzL {J J' J2 : JH} {s : IV} {sz : Nat} {X : List (List IV)} (h : Clip J J' s sz X) (hf : ∀ d, J.size ≤ d → d < J'.size → J2[d]? = J'[d]?) (hsz : 0 < sz) (hX : ∀ x ∈ X, x.length = sz) (hp : ipureL X.flatten = true) (ho : X.flatten.all ione = true) : ∃ u, (∀ k, Go.Proofs.YticfcmaigffhmaaGreat.G.frz J2 (k + 1) s = some u) ∧ Ls sz u (X.map (mkE sz)) := by
 rcases h with ⟨rfl, rfl, rfl⟩ | ⟨hne, rfl, rfl⟩
 ·exact ⟨_, fun k => frz_pure _ _ rfl, .lst⟩
 ·have hb : J2[J.size]? = some (.cells 0 X.flatten false) := by rw [hf J.size (Nat.le_refl _) (by simp), push_get]
  refine ⟨.lst sz (X.length == UNK + sz && decide (UNK + sz < UNK)) (X.map (mkE sz)), fun k => ?_, .lst⟩
  rw [frz_sl (cs := X.flatten) hsz ?_ hp ho, grp_flat hX]
  simp only [ird, hb, true_and, Nat.zero_add, List.drop_zero]
  rw [if_pos (by rw [flat_len hX]; exact Nat.le_refl _), List.take_of_length_le (by rw [flat_len hX]; exact Nat.le_refl _)]
def Gm.few (g : Gm) : Gm := { g with cells := g.cells.take 48, code := g.code.take 96 }
theorem gfew_ok (g : Gm) (x y : IV) (h : GR g x y) (hb : g.cells.length ≤ 9223372036854775807) (hb2 : g.code.length ≤ 9223372036854775807) :
  ∃ u, pc BI F_law20_few [.agg (gmc g x y)] = some u ∧ ∃ x2 y2, u = .agg (gmc g.few x2 y2) ∧ GR g.few x2 y2 := by
 refine pcW fn_law20_few rfl fun K hK => ?_
 obtain ⟨a, ha, hal⟩ := h.x.slice (h := min g.cells.length 48) (by simp; omega)
 obtain ⟨c, hc, hcl⟩ := h.y.slice (h := min g.code.length 96) (by simp; omega)
 have hm : min (g.cells.length : Int) 48 = ((min g.cells.length 48 : Nat) : Int) := by omega
 have hm2 : min (g.code.length : Int) 96 = ((min g.code.length 96 : Nat) : Int) := by omega
 unfold l_law20_few
 simp -implicitDefEqProofs only [go_sem, dnW_ite, go_sem_proc, h.one, h.x.lenF, List.length_map, ipureL, grp, hm, ha]
 have tk : ∀ {α : Type} (l : List α) (n : Nat), l.take (min l.length n) = l.take n := fun l n => by rw [Nat.min_comm, ← List.take_eq_take_min]
 have hal' : Ls 2 a (((g.cells.take 48).map Cl.c).map (mkE 2)) := by
  rw [cl_mk, List.map_take, ← tk, List.length_map]; exact hal
 have hcl' : Ls 6 c (((g.code.take 96).map Cd.cs).map (mkE 6)) := by
  rw [cd_mk, List.map_take, ← tk, List.length_map]; exact hcl
 refine WP_bind (app_clip hal' (by decide) (cl2 _) (flat_one _) (fits8 (by simp; omega))) fun s1 J1 k1 => ?_
 have f1 := k1.fr
 have h0 : J1[0]? = some (.cells 0 (gmc g x y) false) := by rw [f1.2 0 (by simp) (by simp)]; rfl
 have hin := inb h0
 simp -implicitDefEqProofs only [go_sem, dnW_ite, go_sem_proc, h0, hin, ↓k1.icells, ↓k1.one, h.y.lenF, List.length_map, hm2, hc, set_get _ (lt_get h0), ipureL, grp]
 have hz1 := f1.1
 have hl0 := lt_get h0
 refine WP_bind (app_clip hcl' (by decide) (cd6 _) (cd_one _) (fits12 (by simp; omega))) fun s2 J2 k2 => ?_
 have f2 := k2.fr
 have h02 : J2[0]? = some (.cells 0 (gmc g s1 y) false) := by rw [f2.2 0 (by simpa using hl0) (by simp)]; exact set_get _ hl0
 have hb1 : J1[1]? = some (.cells 0 (gmc ⟨0, 0, 0#32, 0#32, [], []⟩ (.sc (.slice none 0 0)) (.sc (.slice none 0 0))) false) := by rw [f1.2 1 (by simp) (by simp)]; rfl
 have hb2' : J2[1]? = some (.cells 0 (gmc ⟨0, 0, 0#32, 0#32, [], []⟩ (.sc (.slice none 0 0)) (.sc (.slice none 0 0))) false) := by
  rw [f2.2 1 (by have := lt_get hb1; simpa using this) (by simp), Array.getElem?_setIfInBounds, if_neg (by decide)]; exact hb1
 have hin2 := inb h02
 have ho2 : (gmc g s1 s2).all ione = true := by
  have a1 := k1.one
  have a2 := k2.one
  simp only [gmc, List.all_cons, List.all_nil, a1, a2]; rfl
 have hb3 : (J2.setIfInBounds 0 (.cells 0 (gmc g s1 s2) false))[1]? = some (.cells 0 (gmc ⟨0, 0, 0#32, 0#32, [], []⟩ (.sc (.slice none 0 0)) (.sc (.slice none 0 0))) false) := by
  rw [Array.getElem?_setIfInBounds, if_neg (by decide)]; exact hb2'
 have hl3 := lt_get hb3
 simp -implicitDefEqProofs only [go_sem, dnW_ite, go_sem_proc, h02, hin2, ↓k2.icells, ↓k2.one, set_get _ (lt_get h02), hb3, inb hb3, ho2, set_get _ hl3]
 have hsz : (2 : Nat) ≤ J1.size := by simpa using hz1
 obtain ⟨u1, hu1, hl1⟩ := k1.frzL (J2 := (J2.setIfInBounds 0 (.cells 0 (gmc g s1 s2) false)).setIfInBounds 1 (.cells 0 (gmc g s1 s2) false)) (fun d hd hd2 => by
  have hd' : 2 ≤ d := by simpa using hd
  rw [Array.getElem?_setIfInBounds, if_neg (by omega), Array.getElem?_setIfInBounds, if_neg (by omega), f2.2 d (by simpa using hd2) (by simp), Array.getElem?_setIfInBounds, if_neg (by omega)]) (by decide) (cl2 _) (cl_pure _) (flat_one _)
 obtain ⟨u2, hu2, hl2⟩ := k2.frzL (J2 := (J2.setIfInBounds 0 (.cells 0 (gmc g s1 s2) false)).setIfInBounds 1 (.cells 0 (gmc g s1 s2) false)) (fun d hd hd2 => by
  have hd' : 2 ≤ d := by have : J1.size ≤ d := by simpa using hd
                         omega
  rw [Array.getElem?_setIfInBounds, if_neg (by omega), Array.getElem?_setIfInBounds, if_neg (by omega)]) (by decide) (cd6 _) (cd_pure _) (cd_one _)
 rw [cl_mk] at hl1
 rw [cd_mk] at hl2
 generalize (J2.setIfInBounds 0 (.cells 0 (gmc g s1 s2) false)).setIfInBounds 1 (.cells 0 (gmc g s1 s2) false) = JF at *
 have fp : ∀ {v : IV}, ipure v = true → frz JF 11 v = some v := fun h => frz_pure _ _ h
 refine hK _ _ (.agg (gmc g u1 u2)) (frz_aggL (k := 11) ?_) ⟨u1, u2, rfl, hl1, hl2⟩
 simp only [gmc]
 rw [List.mapM_cons, List.mapM_cons, List.mapM_cons, List.mapM_cons, List.mapM_cons, List.mapM_cons, fp (v := .int .i64 g.obs) rfl, fp (v := .int .i64 g.players) rfl, fp (v := m32 g.moves) rfl, fp (v := m32 g.dflt) rfl, hu1 10, hu2 10]
 rfl
def rchF (J : JH) (l : List IV) : Option (List Nat) := reach J l
theorem dnW_ocr {ρ : List IV} {J : JH} {f : FuncId} {args : List Operand} {chk} {k : L} : dn BI (oc none (.call f args) .raw chk k) ρ J = thenC (ic BI f (args.map (evI ρ)) J) J chk (rchF J (args.map (evI ρ))) ρ k := by
 rw [dnW_oc, step_chk]
 have h : iexec BI (ic BI) .raw ρ (.call f args) J = ic BI f (args.map (evI ρ)) J := rfl
 have ht : itouch BI .raw ρ (.call f args) J = rchF J (args.map (evI ρ)) := rfl
 rw [h, ht]
 unfold thenC
 generalize ic BI f (args.map (evI ρ)) J = r
 cases r with
 | none => rfl
 | some q =>
  by_cases hh : chk.all (ichk J q.2 (rchF J (args.map (evI ρ))) ρ) = true
  ·simp only [hh, if_true]; rfl
  ·simp only [hh]; rfl
theorem PenAt.reach {J : JH} {b : Nat} {s y : IV} {l : List Byt} (h : PenAt J b s l) (hy : irefs y = []) : rchF J [.ptr b 0 0, y] = some (b :: blk s) := by
 obtain ⟨hb, hbs, hg⟩ := h
 rcases hg with ⟨rfl, h0⟩ | ⟨c, v, n, full, rfl, h1, h2, h3, h4⟩
 ·have hr : refsB J b = [] := by simp [refsB, hb, irefsL, irefs]
  have key : ∀ k, reachN J (k + 1) [b] = [b] := fun k => by simp [reachN, hr]
  have h40 := key 39
  simp only [rchF, Go.Proofs.YticfcmaigffhmaaGreat.G.reach, irefsL, irefs, hy, List.append_nil, h40]
  simp [hr, blk, blkOf]
 ·have hbc : b ≠ c := fun h => hbs (by simp [blk, blkOf, h])
  have hr : refsB J b = [c] := by simp [refsB, hb, irefsL, irefs]
  have hf : irefsL full = [] := by
   rw [← List.take_append_drop (n * 1) full, irefsL_append, h3, h4, irefsL_pure _ by8_pure]; rfl
  have hc : refsB J c = [] := by simp [refsB, h1, hf]
  have hcb : c ≠ b := fun h => hbc h.symm
  have key : ∀ k, reachN J (k + 1 + 1) [b] = [b, c] := fun k => by
   have hd : List.eraseDupsBy (fun x1 x2 : Nat => x1 == x2) [c] = [c] := by simp [List.eraseDupsBy, List.eraseDupsBy.loop]
   have hd0 : List.eraseDupsBy (fun x1 x2 : Nat => x1 == x2) [] = [] := by simp [List.eraseDupsBy, List.eraseDupsBy.loop]
   simp [reachN, hr, hc, hcb, hbc, List.eraseDups, hd, hd0]
  have h40 := key 38
  simp only [rchF, Go.Proofs.YticfcmaigffhmaaGreat.G.reach, irefsL, irefs, hy, List.append_nil, h40]
  simp [hr, hc, blk, blkOf]
section
variable {ρ : List IV} {J : JH} {chk : List (Option (Operand × Bool) × SOp)} {k : L} {b : Nat} {s : IV} {l : List Byt} {P : Out IV → JH → Prop}
theorem WP_penB {x : Byt} (h : PenAt J b s l) (hb : l.length + 1 ≤ 1000000) (hc : ∀ J', chk.all (ichk J J' (some (b :: blk s)) ρ) = true) (hk : ∀ J' s', PenAt J' b s' (l ++ [x]) → Upd b J s J' s' → WP (dn BI k (ρ ++ [.ptr b 0 0]) J') P) : WP (thenC (ic BI F_ink_Pen_Byte [.ptr b 0 0, by8 x] J) J chk (rchF J [.ptr b 0 0, by8 x]) ρ k) P := by
 rw [h.reach rfl]
 refine WP_bindC (PByte_ok J b s l x h hb) fun v J' hv => ⟨hc J', ?_⟩
 obtain ⟨rfl, s', h', u'⟩ := hv
 exact hk J' s' h' u'
theorem WP_penW {w : BitVec 32} (h : PenAt J b s l) (hb : l.length + 4 ≤ 1000000) (hc : ∀ J', chk.all (ichk J J' (some (b :: blk s)) ρ) = true) (hk : ∀ J' s', PenAt J' b s' (l ++ leW w) → Upd b J s J' s' → WP (dn BI k (ρ ++ [.ptr b 0 0]) J') P) : WP (thenC (ic BI F_ink_Pen_Word [.ptr b 0 0, m32 w] J) J chk (rchF J [.ptr b 0 0, m32 w]) ρ k) P := by
 rw [h.reach rfl]
 refine WP_bindC (Word_ok J b s l w h hb) fun v J' hv => ⟨hc J', ?_⟩
 obtain ⟨rfl, s', h', u'⟩ := hv
 exact hk J' s' h' u'
end
def Bes (J : JH) (d : Nat) (cs : List IV) (b : Nat) (s : IV) : Prop := J[d]? = some (.cells 0 cs false) ∧ d ≠ b ∧ d ∉ blk s
theorem Bes.upd {J J' : JH} {d b : Nat} {cs : List IV} {s s' : IV} (h : Bes J d cs b s) (u : Upd b J s J' s') : Bes J' d cs b s' := by
 obtain ⟨h1, h2, h3⟩ := h
 refine ⟨by rw [u.1.2 d (lt_get h1) (by simp [h2, h3])]; exact h1, h2, fun hm => ?_⟩
 rcases u.2 d hm with hm | hm
 ·exact h3 hm
 ·have := lt_get h1; omega
theorem Bes.no {J : JH} {d b : Nat} {cs : List IV} {s : IV} (h : Bes J d cs b s) : (b :: blk s).contains d = false := by
 simp [h.2.1, h.2.2]
theorem PenAt.fr {J J' : JH} {b : Nat} {s : IV} {l : List Byt} {S : List Nat} (h : PenAt J b s l) (hf : Fr J J' S) (hb : b ∉ S) (hs : ∀ c ∈ blk s, c ∉ S) : PenAt J' b s l :=
 ⟨by rw [hf.2 b (lt_get h.1) hb]; exact h.1, h.2.1, h.2.2.fr hf hs⟩
theorem PenAt.psh {J : JH} {b : Nat} {s : IV} {l : List Byt} (h : PenAt J b s l) (X : IB) : PenAt (J.push X) b s l := h.fr (.push _ _ []) (by simp) (by simp)
theorem PenAt.lo {J : JH} {b : Nat} {s : IV} {l : List Byt} (h : PenAt J b s l) : ∀ c ∈ b :: blk s, c < J.size := fun c hc => by
 rcases List.mem_cons.1 hc with rfl | hc
 ·exact lt_get h.1
 ·exact h.2.2.low c hc
theorem PenAt.bes {J : JH} {b : Nat} {s : IV} {l : List Byt} (h : PenAt J b s l) (cs : List IV) : Bes (J.push (.cells 0 cs false)) J.size cs b s :=
 ⟨push_get _ _, fun e => by have := h.lo b (by simp); omega, fun hm => by have := h.lo _ (List.mem_cons_of_mem b hm); omega⟩
def nB (n : Nat) : Byt := BitVec.ofNat 8 n
def iW (n : Int) : BitVec 32 := BitVec.ofInt 32 n
theorem nB_by8 {n : Nat} (h : n < 256) : (IV.int .u8 (n : Int)) = by8 (nB n) := by
 show _ = IV.int .u8 ((BitVec.ofNat 8 n).toNat : Int)
 rw [ofNat8 h]
theorem iW_m32 (n : Int) : IV.int .u32 (IntKind.u32.wrap n) = m32 (iW n) := by
 show _ = IV.int .u32 ((BitVec.ofInt 32 n).toNat : Int)
 congr 1
 simp only [IntKind.wrap, IntKind.bits, IntKind.signed, BitVec.toNat_ofInt]; simp
 omega
def cdB (c : Cd) : List Byt := [nB c.op, nB c.a, nB c.b, nB c.c] ++ leW (iW c.n) ++ leW c.mask
def codeB (l : List Cd) : List Byt := numL 9 l.length ++ l.flatMap cdB
theorem cdB_len (c : Cd) : (cdB c).length = 12 := by simp [cdB, leW4]
theorem codeB_len (l : List Cd) : (l.flatMap cdB).length = 12 * l.length := by
 induction l with
 | nil => rfl
 | cons a l ih => rw [List.flatMap_cons, List.length_append, cdB_len, ih, List.length_cons]; omega
theorem CBytes_ok {x : IV} {l : List Cd} (hx : Ls 6 x (l.map Cd.e)) (hw : ∀ c ∈ l, c.wf) (hb : l.length ≤ 96) : ∃ u, pc BI F_code_Bytes [x] = some u ∧ Ls 1 u ((codeB l).map by8) := by
 refine pcW fn_code_Bytes rfl fun K hK => ?_
 have hnl := numL_len 9 l.length
 have hw0 : IntKind.u64.wrap (l.length : Int) = (l.length : Int) := wrap_u64 (by omega) (by omega)
 unfold l_code_Bytes
 simp -implicitDefEqProofs only [go_sem, dnW_ite, go_sem_proc, hx.lenF, List.length_map, show ¬ ((l.length : Int) > 96) by omega, hw0]
 refine WP_call (PNum_ok 0 l.length (by omega) _ (.sc (.slice none 0 0)) [] ⟨rfl, by simp [blk, blkOf], .nil⟩ (by simp)) fun v J hv => ?_
 obtain ⟨rfl, s, h, u⟩ := hv
 rw [List.nil_append] at h
 simp -implicitDefEqProofs only [go_sem, dnW_ite, go_sem_proc, hx.lenF, List.length_map, dn_loop]
 refine WP_range (by decide) l.length (fun i vs J => ∃ s, vs = [.ptr 0 0 0, x, nI l.length, nI i] ∧ PenAt J 0 s (numL 9 l.length ++ (l.take i).flatMap cdB)) ?_ ⟨s, rfl, by simpa using h⟩
 rintro i vs J ⟨s, rfl, h⟩ hi K1 g1 g2 g3
 unfold l_code_Bytes_k0
 by_cases h2 : i < l.length
 ·have hat := fun J => hx.at (i := i) (by simpa using h2) (J := J)
  simp only [List.getElem_map, Cd.e, Cd.cs] at hat
  have hw1 := wrapS h2 (show l.length ≤ 9223372036854775807 by omega)
  have hc := hw l[i] (List.getElem_mem h2)
  simp -implicitDefEqProofs only [go_sem, dnW_ite, go_sem_proc, show ((i : Int) < (l.length : Int)) by omega, hat, ↓dnW_ocr, inb h.1, nB_by8 hc.op, nB_by8 hc.a, nB_by8 hc.b, nB_by8 hc.c, iW_m32]
  have hp := h.psh (.cells 0 [by8 (nB l[i].op), by8 (nB l[i].a), by8 (nB l[i].b), by8 (nB l[i].c), IV.int IntKind.i32 l[i].n, m32 l[i].mask] false)
  have hB := h.bes [by8 (nB l[i].op), by8 (nB l[i].a), by8 (nB l[i].b), by8 (nB l[i].c), IV.int IntKind.i32 l[i].n, m32 l[i].mask]
  have hL : (numL 9 l.length ++ (l.take i).flatMap cdB).length ≤ 2000 := by
   rw [List.length_append, codeB_len, List.length_take]; omega
  have hnext : numL 9 l.length ++ (l.take (i + 1)).flatMap cdB = numL 9 l.length ++ (l.take i).flatMap cdB ++ [nB l[i].op] ++ [nB l[i].a] ++ [nB l[i].b] ++ [nB l[i].c] ++ leW (iW l[i].n) ++ leW l[i].mask := by
   rw [List.take_succ_eq_append_getElem h2, List.flatMap_append]
   simp [cdB]
  generalize numL 9 l.length ++ (l.take i).flatMap cdB = L at *
  generalize hJ1 : J.push (IB.cells 0 [by8 (nB l[i].op), by8 (nB l[i].a), by8 (nB l[i].b), by8 (nB l[i].c), IV.int IntKind.i32 l[i].n, m32 l[i].mask] false) = J1 at *
  generalize J.size = d at *
  refine WP_penB hp (by omega) (fun J' => by simp -implicitDefEqProofs only [go_sem, dnW_ite, go_sem_proc, hB.1, hB.no]) fun J2 s2 p2 u2 => ?_
  have hB := hB.upd u2
  simp -implicitDefEqProofs only [go_sem, dnW_ite, go_sem_proc, ↓dnW_ocr]
  refine WP_penB p2 (by simp; omega) (fun J' => by simp -implicitDefEqProofs only [go_sem, dnW_ite, go_sem_proc, hB.1, hB.no]) fun J3 s3 p3 u3 => ?_
  have hB := hB.upd u3
  simp -implicitDefEqProofs only [go_sem, dnW_ite, go_sem_proc, ↓dnW_ocr]
  refine WP_penB p3 (by simp; omega) (fun J' => by simp -implicitDefEqProofs only [go_sem, dnW_ite, go_sem_proc, hB.1, hB.no]) fun J4 s4 p4 u4 => ?_
  have hB := hB.upd u4
  simp -implicitDefEqProofs only [go_sem, dnW_ite, go_sem_proc, ↓dnW_ocr]
  refine WP_penB p4 (by simp; omega) (fun J' => by simp -implicitDefEqProofs only [go_sem, dnW_ite, go_sem_proc, hB.1, hB.no]) fun J5 s5 p5 u5 => ?_
  have hB := hB.upd u5
  simp -implicitDefEqProofs only [go_sem, dnW_ite, go_sem_proc, ↓dnW_ocr]
  refine WP_penW p5 (by simp; omega) (fun J' => by simp -implicitDefEqProofs only [go_sem, dnW_ite, go_sem_proc, hB.1, hB.no]) fun J6 s6 p6 u6 => ?_
  have hl4 : ∀ w, (leW w).length = 4 := fun w => by rw [leW4]; rfl
  simp -implicitDefEqProofs only [go_sem, dnW_ite, go_sem_proc]
  refine WP_call (Word_ok J6 0 s6 _ _ p6 (by simp [hl4]; omega)) fun v J7 hv => ?_
  obtain ⟨rfl, s7, p7, u7⟩ := hv
  simp -implicitDefEqProofs only [go_sem, dnW_ite, go_sem_proc, hw1]
  refine g1 h2 _ _ ⟨s7, rfl, ?_⟩
  rw [hnext]
  exact p7
 ·simp -implicitDefEqProofs only [go_sem, dnW_ite, go_sem_proc, show ¬ ((i : Int) < (l.length : Int)) by omega]
  refine g2 _ _ ?_
  rw [List.take_of_length_le (by omega)] at h
  have hL := codeB_len l
  unfold l_code_Bytes_k1
  simp -implicitDefEqProofs only [go_sem, dnW_ite, go_sem_proc]
  refine WP_call (PBytes_ok J 0 s _ h (by rw [List.length_append, hL]; omega)) fun v J2 hv => ?_
  simp -implicitDefEqProofs only [go_sem, dnW_ite, go_sem_proc]
  exact hK _ _ _ (frzP (by simpa [itup] using hv.pure)) hv
end Go.Proofs.YticfcmaigffhmaaGreat.G
namespace Go.Proofs.YticfcmaigffhmaaGreat.G
open Go
def clB (c : Cl) : List Byt := leW (iW c.v) ++ leW c.s
def gameB (g : Gm) : List Byt := [nB g.obs.toNat] ++ [nB g.players.toNat] ++ leW g.moves ++ leW g.dflt ++ [nB g.cells.length] ++ g.cells.flatMap clB ++ numL 9 (codeB g.code).length ++ codeB g.code
theorem clB_len (l : List Cl) : (l.flatMap clB).length = 8 * l.length := by
 induction l with
 | nil => rfl
 | cons a l ih => rw [List.flatMap_cons, List.length_append, clB, List.length_append, leW_len, leW_len, ih, List.length_cons]; omega
theorem right_fits {g : Gm} (h : g.right = true) : (1 ≤ g.obs ∧ g.obs ≤ 32) ∧ (1 ≤ g.players ∧ g.players ≤ 6) ∧ g.cells.length ≤ 48 ∧ g.code.length ≤ 96 := by
 simp only [Gm.right, Bool.and_eq_true, decide_eq_true_eq] at h
 obtain ⟨⟨⟨⟨⟨h1, h2⟩, h3⟩, h4⟩, h5⟩, h6⟩ := h
 refine ⟨h1, ⟨h2.1, h2.2.1⟩, h4, ?_⟩
 simp only [rightL, Bool.and_eq_true, decide_eq_true_eq] at h6
 omega
theorem nB_i {n : Int} (h0 : 0 ≤ n) (h : n < 256) : IV.int .u8 (IntKind.u8.wrap n) = by8 (nB n.toNat) := by
 rw [← nB_by8 (by omega)]
 congr 1
 simp only [IntKind.wrap, IntKind.bits, IntKind.signed]; simp; omega
theorem GBytes_ok (g : Gm) (x y : IV) (h : GR g x y) (hw : ∀ c ∈ g.code, c.wf) (hr : g.right = true) : ∃ u, pc BI F_rules_Game_Bytes [.agg (gmc g x y)] = some u ∧ Ls 1 u ((gameB g).map by8) := by
 refine pcW fn_rules_Game_Bytes rfl fun K hK => ?_
 obtain ⟨⟨ho0, ho1⟩, ⟨hp0, hp1⟩, hc, hd⟩ := right_fits hr
 have hg := gRight_ok g x y h hw (by omega)
 obtain ⟨cb, hcb, hcl⟩ := CBytes_ok h.y hw hd
 have hnl := numL_len 9 g.code.length
 have hcbl : (codeB g.code).length ≤ 1200 := by rw [codeB, List.length_append, codeB_len]; omega
 unfold l_rules_Game_Bytes
 simp -implicitDefEqProofs only [go_sem, dnW_ite, go_sem_proc, h.one, dcp hg (by simp [ipureL, ipure, h.pure]), hr, ↓dnW_ocr, h.x.lenF, List.length_map, nB_i (show 0 ≤ g.obs by omega) (show g.obs < 256 by omega), nB_i (show 0 ≤ g.players by omega) (show g.players < 256 by omega), nB_i (show (0 : Int) ≤ (g.cells.length : Int) by omega) (show (g.cells.length : Int) < 256 by omega), Int.toNat_natCast]
 refine WP_penB (s := .sc (.slice none 0 0)) (l := []) (b := 1) ⟨rfl, by simp [blk, blkOf], .nil⟩ (by simp) (fun J' => by simp -implicitDefEqProofs only [go_sem, dnW_ite, go_sem_proc, blk, blkOf, Option.getD_some]) fun J2 s2 p2 u2 => ?_
 have hB := (show Bes #[IB.cells 0 (gmc g x y) false, IB.cells 0 [.sc (.slice none 0 0)] false] 0 (gmc g x y) 1 (.sc (.slice none 0 0)) from ⟨rfl, by decide, by simp [blk, blkOf]⟩).upd u2
 simp -implicitDefEqProofs only [go_sem, dnW_ite, go_sem_proc, ↓dnW_ocr]
 refine WP_penB p2 (by simp) (fun J' => by simp -implicitDefEqProofs only [go_sem, dnW_ite, go_sem_proc, hB.1, hB.no]) fun J3 s3 p3 u3 => ?_
 have hB := hB.upd u3
 simp -implicitDefEqProofs only [go_sem, dnW_ite, go_sem_proc, ↓dnW_ocr]
 refine WP_penW p3 (by simp) (fun J' => by simp -implicitDefEqProofs only [go_sem, dnW_ite, go_sem_proc, hB.1, hB.no]) fun J4 s4 p4 u4 => ?_
 have hB := hB.upd u4
 simp -implicitDefEqProofs only [go_sem, dnW_ite, go_sem_proc, ↓dnW_ocr]
 refine WP_penW p4 (by simp [leW_len]) (fun J' => by simp -implicitDefEqProofs only [go_sem, dnW_ite, go_sem_proc, hB.1, hB.no]) fun J5 s5 p5 u5 => ?_
 have hB := hB.upd u5
 simp -implicitDefEqProofs only [go_sem, dnW_ite, go_sem_proc]
 refine WP_call (PByte_ok J5 1 s5 _ _ p5 (by simp [leW_len])) fun v J6 hv => ?_
 obtain ⟨rfl, s6, p6, u6⟩ := hv
 have hB := hB.upd u6
 simp -implicitDefEqProofs only [go_sem, dnW_ite, go_sem_proc, hB.1, h.x.lenF, List.length_map, dn_loop]
 have hHd : (([] : List Byt) ++ [nB g.obs.toNat] ++ [nB g.players.toNat] ++ leW g.moves ++ leW g.dflt ++ [nB g.cells.length]).length = 11 := by simp [leW_len]
 have hG : gameB g = ([] ++ [nB g.obs.toNat] ++ [nB g.players.toNat] ++ leW g.moves ++ leW g.dflt ++ [nB g.cells.length]) ++ g.cells.flatMap clB ++ numL 9 (codeB g.code).length ++ codeB g.code := by simp [gameB]
 rw [hG] at hK
 generalize ([] : List Byt) ++ [nB g.obs.toNat] ++ [nB g.players.toNat] ++ leW g.moves ++ leW g.dflt ++ [nB g.cells.length] = H at *
 refine WP_range (by decide) g.cells.length (fun i vs J => ∃ s, vs = [.ptr 0 0 0, .ptr 1 0 0, x, nI g.cells.length, nI i] ∧ PenAt J 1 s (H ++ (g.cells.take i).flatMap clB) ∧ Bes J 0 (gmc g x y) 1 s) ?_ ⟨s6, rfl, by simpa using p6, hB⟩
 rintro i vs J ⟨s, rfl, h1, hB⟩ hi K1 g1 g2 g3
 unfold l_rules_Game_Bytes_k0
 have hL : (H ++ (g.cells.take i).flatMap clB).length ≤ 2000 := by
  rw [List.length_append, clB_len, List.length_take]; omega
 by_cases h2 : i < g.cells.length
 ·have hat := fun J => h.x.at (i := i) (by simpa using h2) (J := J)
  simp only [List.getElem_map, Cl.e, Cl.c] at hat
  have hw1 := wrapS h2 (show g.cells.length ≤ 9223372036854775807 by omega)
  simp -implicitDefEqProofs only [go_sem, dnW_ite, go_sem_proc, show ((i : Int) < (g.cells.length : Int)) by omega, hat, ↓dnW_ocr, inb h1.1, iW_m32]
  have hp := h1.psh (.cells 0 [IV.int IntKind.i32 g.cells[i].v, m32 g.cells[i].s] false)
  have hC := h1.bes [IV.int IntKind.i32 g.cells[i].v, m32 g.cells[i].s]
  have hB : Bes (J.push (.cells 0 [IV.int IntKind.i32 g.cells[i].v, m32 g.cells[i].s] false)) 0 (gmc g x y) 1 s := hB.upd (.push _)
  have hnext : H ++ (g.cells.take (i + 1)).flatMap clB = H ++ (g.cells.take i).flatMap clB ++ leW (iW g.cells[i].v) ++ leW g.cells[i].s := by
   rw [List.take_succ_eq_append_getElem h2, List.flatMap_append]
   simp [clB]
  generalize H ++ (g.cells.take i).flatMap clB = L at *
  generalize hJ1 : J.push (IB.cells 0 [IV.int IntKind.i32 g.cells[i].v, m32 g.cells[i].s] false) = J1 at *
  generalize J.size = d at *
  refine WP_penW hp (by omega) (fun J' => by simp -implicitDefEqProofs only [go_sem, dnW_ite, go_sem_proc, hC.1, hC.no]) fun J2 s2 p2 u2 => ?_
  have hB := hB.upd u2
  simp -implicitDefEqProofs only [go_sem, dnW_ite, go_sem_proc]
  refine WP_call (Word_ok J2 1 s2 _ _ p2 (by simp [leW_len]; omega)) fun v J7 hv => ?_
  obtain ⟨rfl, s7, p7, u7⟩ := hv
  have hB := hB.upd u7
  simp -implicitDefEqProofs only [go_sem, dnW_ite, go_sem_proc, hw1]
  refine g1 h2 _ _ ⟨s7, rfl, ?_, hB⟩
  rw [hnext]
  exact p7
 ·simp -implicitDefEqProofs only [go_sem, dnW_ite, go_sem_proc, show ¬ ((i : Int) < (g.cells.length : Int)) by omega]
  refine g2 _ _ ?_
  rw [List.take_of_length_le (by omega)] at h1
  have hL := clB_len g.cells
  have hnl2 := numL_len 9 (codeB g.code).length
  unfold l_rules_Game_Bytes_k1
  simp -implicitDefEqProofs only [go_sem, dnW_ite, go_sem_proc, hB.1, dcp hcb (by simp [ipureL, h.y.pure])]
  refine WP_call (PBlob_ok 1 J s cb _ _ hcl h1 (by rw [List.length_append, hL]; omega)) fun v J2 hv => ?_
  obtain ⟨rfl, s8, p8, u8⟩ := hv
  simp -implicitDefEqProofs only [go_sem, dnW_ite, go_sem_proc]
  refine WP_call (PBytes_ok J2 1 s8 _ p8 (by simp only [List.length_append, hL]; omega)) fun v J2 hv => ?_
  simp -implicitDefEqProofs only [go_sem, dnW_ite, go_sem_proc]
  exact hK _ _ _ (frzP (by simpa [itup] using hv.pure)) hv
abbrev BR (e : IV) (p : List Byt) : Prop := Ls 1 e (p.map by8)
theorem wrap_nB (n : Nat) : IntKind.u8.wrap (n : Int) = ((nB n).toNat : Int) := by
 simp only [IntKind.wrap, IntKind.bits, IntKind.signed, nB, BitVec.toNat_ofNat]; simp
theorem by8_grow (a b : List Byt) : a.map by8 ++ b.map by8 = (a ++ b).map by8 := by simp
theorem flat_le {ps : List (List Byt)} (i : Nat) : (ps.take i).flatten.length ≤ ps.flatten.length := by
 conv => rhs; rw [← List.take_append_drop i ps, List.flatten_append, List.length_append]
 omega
theorem RJoin_ok {x : IV} {ps : List (List Byt)} (hx : LsR 1 BR x ps) (hn : ps.length ≤ 1000) (hb : ps.flatten.length ≤ 1000000) : ∃ u, pc BI F_ref01_Join [x] = some u ∧ Ls 1 u (ps.flatten.map by8) := by
 refine pcW fn_ref01_Join rfl fun K hK => ?_
 unfold l_ref01_Join
 simp -implicitDefEqProofs only [go_sem, dnW_ite, go_sem_proc, hx.lenF, dn_loop]
 refine WP_range (by decide) ps.length (fun i vs J => ∃ out, vs = [out, x, nI ps.length, nI i] ∧ Grow J out 1 ((ps.take i).flatten.map by8)) ?_ ⟨(.sc (.slice none 0 0)), rfl, .nil⟩
 rintro i vs J ⟨out, rfl, hg⟩ hi K1 g1 g2 g3
 unfold l_ref01_Join_k0
 by_cases h : i < ps.length
 ·obtain ⟨e, he, hat⟩ := hx.at h
  have hw1 := wrapS h (show ps.length ≤ 9223372036854775807 by omega)
  have hfl := flat_le (ps := ps) (i + 1)
  rw [List.take_succ_eq_append_getElem h, List.flatten_append] at hfl
  simp only [List.flatten_cons, List.flatten_nil, List.append_nil, List.length_append] at hfl
  simp -implicitDefEqProofs only [go_sem, dnW_ite, go_sem_proc, show ((i : Int) < (ps.length : Int)) by omega, hat, ↓he.icells]
  refine WP_bind (hg.app (m := ps[i].length) (ds := ps[i].map by8) (by omega) (by rw [he.cells, by8_cells]) (by rw [he.ilen, List.length_map]) (by simp) by8_one (fits1 ?_)) fun out' J' hs => ?_
  ·simp only [List.length_map]; omega
  simp -implicitDefEqProofs only [go_sem, dnW_ite, go_sem_proc, hw1]
  refine g1 h _ _ ⟨out', rfl, ?_⟩
  rw [List.take_succ_eq_append_getElem h, List.flatten_append]
  simp only [List.flatten_cons, List.flatten_nil, List.append_nil]
  rw [← by8_grow]
  exact hs.1
 ·simp -implicitDefEqProofs only [go_sem, dnW_ite, go_sem_proc, show ¬ ((i : Int) < (ps.length : Int)) by omega]
  refine g2 _ _ ?_
  unfold l_ref01_Join_k1
  simp -implicitDefEqProofs only [go_sem, dnW_ite, go_sem_proc]
  rw [List.take_of_length_le (by omega)] at hg
  obtain ⟨u, hu, hl⟩ := hg.frz1 by8_pure by8_one
  exact hK _ _ u hu hl
theorem LsR.cons {α : Type} {sz : Nat} {R : IV → α → Prop} {f : Bool} {xs : List IV} {as : List α} (hl : xs.length = as.length) (h : ∀ i (h : i < xs.length) (h' : i < as.length), R xs[i] as[i]) : LsR sz R (.lst sz f xs) as := ⟨xs, .lst, hl, h⟩
theorem LsR2 {sz : Nat} {f : Bool} {a b : IV} {p q : List Byt} (ha : BR a p) (hb : BR b q) : LsR sz BR (.lst sz f [a, b]) [p, q] := .cons rfl fun i h h' => by
 match i, h with
 | 0, _ => exact ha
 | 1, _ => exact hb
theorem RLow_ok (w : BitVec 32) : ∃ u, pc BI F_ref01_Low [.int .u64 (w.toNat : Int), nI 4] = some u ∧ BR u (leW w) := by
 refine pcW fn_ref01_Low rfl fun K hK => ?_
 have hw := w.isLt
 unfold l_ref01_Low
 simp -implicitDefEqProofs only [go_sem, dnW_ite, go_sem_proc, dn_loop]
 refine WP_range (by decide) 4 (fun i vs J => ∃ out, vs = [.int .u64 ((w.toNat / 256 ^ i : Nat) : Int), nI 4, out, nI i] ∧ Grow J out 1 (((List.range i).map fun j => nB (w.toNat / 256 ^ j)).map by8)) ?_ ⟨(.sc (.slice none 0 0)), by simp, .nil⟩
 rintro i vs J ⟨out, rfl, hg⟩ hi K1 g1 g2 g3
 unfold l_ref01_Low_k0
 by_cases h : i < 4
 ·have hw1 : IntKind.i64.wrap ((i : Int) + 1) = ((i + 1 : Nat) : Int) := by rw [wrap_i64 (by omega) (by omega)]; omega
  have hle := Nat.div_le_self w.toNat (256 ^ i)
  have hd : w.toNat / 256 ^ (i + 1) = w.toNat / 256 ^ i / 256 := by rw [Nat.pow_succ, Nat.div_div_eq_div_mul]
  have hnb : nB (w.toNat / 256 ^ i) = nB (w.toNat / 256 ^ i % 256) := by
   apply BitVec.eq_of_toNat_eq
   simp only [nB, BitVec.toNat_ofNat]; omega
  have hgr : ((List.range (i + 1)).map fun j => nB (w.toNat / 256 ^ j)).map by8 = ((List.range i).map fun j => nB (w.toNat / 256 ^ j)).map by8 ++ [by8 (nB (w.toNat / 256 ^ i % 256))] := by
   rw [List.range_succ, ← hnb]; simp
  have hln : (((List.range i).map fun j => nB (w.toNat / 256 ^ j)).map by8).length = i := by simp
  generalize ((List.range i).map fun j => nB (w.toNat / 256 ^ j)).map by8 = cs at *
  have hnx : ∀ out' J', Grow J' out' 1 (cs ++ [by8 (nB (w.toNat / 256 ^ i % 256))]) → K1 (.goto 1 [.int .u64 ((w.toNat / 256 ^ i / 256 : Nat) : Int), nI 4, out', nI (i + 1)]) J' := fun out' J' hg' => g1 h _ _ ⟨out', by rw [hd], by rw [hgr]; exact hg'⟩
  generalize w.toNat / 256 ^ i = n at *
  have hm : ((n : Int).tmod 256) = ((n % 256 : Nat) : Int) := by rw [Int.tmod_eq_emod_of_nonneg (by omega)]; omega
  have hq : ((n : Int).tdiv 256) = ((n / 256 : Nat) : Int) := by rw [Int.tdiv_eq_ediv_of_nonneg (by omega)]; omega
  simp -implicitDefEqProofs only [go_sem, dnW_ite, go_sem_proc, show ((i : Int) < ((4 : Nat) : Int)) by omega, hm, hq, wrap_nB, ipureL, ipure, grp, mkE, List.headD]
  refine WP_bind (hg.app (m := 1) (ds := [by8 (nB (n % 256))]) (by omega) rfl rfl rfl rfl (fits1 (by simp; omega))) fun out' J' hs => ?_
  have hqw : IntKind.u64.wrap ((n / 256 : Nat) : Int) = ((n / 256 : Nat) : Int) := wrap_u64 (by omega) (by omega)
  simp -implicitDefEqProofs only [go_sem, dnW_ite, go_sem_proc, hq, hqw, hw1]
  exact hnx _ _ hs.1
 ·simp -implicitDefEqProofs only [go_sem, dnW_ite, go_sem_proc, show ¬ ((i : Int) < ((4 : Nat) : Int)) by omega]
  refine g2 _ _ ?_
  unfold l_ref01_Low_k1
  simp -implicitDefEqProofs only [go_sem, dnW_ite, go_sem_proc]
  obtain rfl : i = 4 := by omega
  obtain ⟨u, hu, hl⟩ := hg.frz1 by8_pure by8_one
  have e : (List.range 4).map (fun j => nB (w.toNat / 256 ^ j)) = leW w := by
   rw [leW4]
   have hb : ∀ k, nB (w.toNat / 2 ^ k) = (w >>> k).setWidth 8 := fun k => by
    apply BitVec.eq_of_toNat_eq
    simp only [nB, BitVec.toNat_ofNat, BitVec.toNat_setWidth, BitVec.toNat_ushiftRight, Nat.shiftRight_eq_div_pow]
   have h0 := hb 0
   have h1 := hb 8
   have h2 := hb 16
   have h3 := hb 24
   simp only [Nat.pow_zero, BitVec.ushiftRight_zero] at h0
   rw [← h0, ← h1, ← h2, ← h3]
   rfl
  rw [e] at hl
  exact hK _ _ u hu hl
def polyC : BitVec 32 := 2197175160#32
def stB (s : BitVec 32) (b : Bool) : BitVec 32 := if (s.getLsbD 0 ^^ b) = true then (s >>> 1) ^^^ polyC else s >>> 1
def reg (s : BitVec 32) (bs : List Bool) : BitVec 32 := bs.foldl stB s
theorem stB_lin (s t : BitVec 32) (b c : Bool) : stB (s ^^^ t) (b ^^ c) = stB s b ^^^ stB t c := by
 unfold stB
 rw [BitVec.getLsbD_xor, BitVec.ushiftRight_xor_distrib]
 have hp : polyC ^^^ polyC = 0#32 := BitVec.xor_self
 cases h1 : s.getLsbD 0 <;> cases h2 : t.getLsbD 0 <;> cases b <;> cases c <;> simp [BitVec.xor_assoc] <;> (try ac_rfl)
 all_goals (rw [BitVec.xor_comm polyC, BitVec.xor_assoc, hp, BitVec.xor_zero])
theorem reg_lin : ∀ (bs cs : List Bool) (s t : BitVec 32), bs.length = cs.length → reg (s ^^^ t) (List.zipWith xor bs cs) = reg s bs ^^^ reg t cs
 | [], [], s, t, _ => rfl
 | b :: bs, c :: cs, s, t, h => by
  show reg (stB (s ^^^ t) (b ^^ c)) (List.zipWith xor bs cs) = reg (stB s b) bs ^^^ reg (stB t c) cs
  rw [stB_lin]
  exact reg_lin bs cs _ _ (by simpa using h)
 | [], _ :: _, _, _, h => by simp at h
 | _ :: _, [], _, _, h => by simp at h
def Z (s : BitVec 32) : BitVec 32 := stB s false
theorem Z_lin (s t : BitVec 32) : Z (s ^^^ t) = Z s ^^^ Z t := by
 have := stB_lin s t false false
 simpa [Z] using this
theorem Z_zero : Z 0#32 = 0#32 := by decide
theorem Z_ker {s : BitVec 32} (h : Z s = 0#32) : s = 0#32 := by
 unfold Z stB at h
 cases h0 : s.getLsbD 0 with
 | true =>
  rw [h0] at h
  simp only [Bool.xor_false, if_true] at h
  have h1 := congrArg (fun x => x.getLsbD 31) h
  simp only [BitVec.getLsbD_xor, BitVec.getLsbD_ushiftRight] at h1
  have h2 : s.getLsbD (1 + 31) = false := BitVec.getLsbD_of_ge _ _ (by omega)
  rw [h2] at h1
  exact absurd h1 (by decide)
 | false =>
  rw [h0] at h
  simp only [Bool.xor_false, Bool.false_eq_true, if_false] at h
  apply BitVec.eq_of_getLsbD_eq
  intro i hi
  cases i with
  | zero => rw [h0]; rfl
  | succ i =>
   have h1 := congrArg (fun x => x.getLsbD i) h
   simp only [BitVec.getLsbD_ushiftRight] at h1
   rw [show i + 1 = 1 + i by omega, h1]
   simp
def Zn : Nat → BitVec 32 → BitVec 32
 | 0, s => s
 | n + 1, s => Zn n (Z s)
theorem Zn_lin : ∀ (n : Nat) (s t : BitVec 32), Zn n (s ^^^ t) = Zn n s ^^^ Zn n t
 | 0, s, t => rfl
 | n + 1, s, t => by rw [Zn, Z_lin, Zn_lin n]; rfl
theorem Zn_ker : ∀ (n : Nat) {s : BitVec 32}, Zn n s = 0#32 → s = 0#32
 | 0, s, h => h
 | n + 1, s, h => Z_ker (Zn_ker n h)
theorem reg_zeros : ∀ (n : Nat) (s : BitVec 32), reg s (List.replicate n false) = Zn n s
 | 0, s => rfl
 | n + 1, s => by
  rw [List.replicate_succ]
  show reg (stB s false) (List.replicate n false) = _
  rw [reg_zeros n]; rfl
theorem Zn_zero : ∀ n, Zn n 0#32 = 0#32
 | 0 => rfl
 | n + 1 => by rw [Zn, Z_zero, Zn_zero n]
def wordB : List Bool → BitVec 32
 | [] => 0#32
 | b :: r => (if b = true then 1#32 else 0#32) ^^^ (wordB r <<< 1)
theorem wordB_at : ∀ (w : List Bool) (i : Nat), i < 32 → (wordB w).getLsbD i = w.getD i false
 | [], i, h => by simp [wordB]
 | b :: r, 0, h => by
  rw [wordB, BitVec.getLsbD_xor]
  cases b <;> simp
 | b :: r, i + 1, h => by
  rw [wordB, BitVec.getLsbD_xor, BitVec.getLsbD_shiftLeft]
  have ih := wordB_at r i (by omega)
  cases b <;> simp [ih, h]
theorem Z_shl {y : BitVec 32} (h : y.getLsbD 31 = false) : Z (y <<< 1) = y := by
 unfold Z stB
 have h0 : (y <<< 1).getLsbD 0 = false := by simp
 rw [h0]
 simp only [Bool.xor_false, Bool.false_eq_true, if_false]
 apply BitVec.eq_of_getLsbD_eq
 intro i hi
 rw [BitVec.getLsbD_ushiftRight, BitVec.getLsbD_shiftLeft]
 by_cases h31 : i = 31
 ·subst h31; simp; rw [← BitVec.getLsbD_eq_getElem]; exact h
 ·have : 1 + i < 32 := by omega
  have h2 : 1 + i - 1 = i := by omega
  simp [this, h2]
theorem stB_Z (s : BitVec 32) (b : Bool) : stB s b = Z (s ^^^ (if b = true then 1#32 else 0#32)) := by
 have h := stB_lin s 0#32 false b
 have h2 := Z_lin s (if b = true then 1#32 else 0#32)
 rw [h2]
 rw [BitVec.xor_zero, Bool.false_xor] at h
 rw [h]
 congr 1
 cases b <;> decide
theorem reg_word : ∀ (w : List Bool) (s : BitVec 32), w.length ≤ 32 → reg s w = Zn w.length (s ^^^ wordB w)
 | [], s, _ => by simp [reg, Zn, wordB]
 | b :: r, s, h => by
  have hr : r.length ≤ 31 := by simpa using h
  show reg (stB s b) r = Zn r.length (Z (s ^^^ wordB (b :: r)))
  rw [reg_word r _ (by omega), stB_Z, wordB, ← BitVec.xor_assoc, Z_lin (s ^^^ _) (wordB r <<< 1), Z_shl]
  rw [wordB_at r 31 (by omega)]
  rw [List.getD_eq_getElem?_getD, List.getElem?_eq_none (by omega)]; rfl
theorem wordB_ne {w : List Bool} (hl : w.length ≤ 32) (h : true ∈ w) : wordB w ≠ 0#32 := by
 intro e
 obtain ⟨i, hi, hw⟩ := List.mem_iff_getElem.1 h
 have h1 := wordB_at w i (by omega)
 rw [e] at h1
 simp [List.getD_eq_getElem?_getD, hi, hw] at h1
theorem reg_burst {bs cs : List Bool} (s : BitVec 32) (hl : bs.length = cs.length) (a c : Nat) (w : List Bool) (hw : w.length ≤ 32) (ht : true ∈ w) (he : List.zipWith xor bs cs = List.replicate a false ++ w ++ List.replicate c false) : reg s bs ≠ reg s cs := by
 intro e
 have h1 := reg_lin bs cs s s hl
 rw [BitVec.xor_self, e, BitVec.xor_self, he] at h1
 unfold reg at h1
 rw [List.foldl_append, List.foldl_append] at h1
 have h2 := reg_zeros a 0#32
 rw [Zn_zero] at h2
 unfold reg at h2
 rw [h2] at h1
 have h3 := reg_word w 0#32 hw
 unfold reg at h3
 rw [h3, BitVec.zero_xor] at h1
 have h4 := reg_zeros c (Zn w.length (wordB w))
 unfold reg at h4
 rw [h4] at h1
 exact wordB_ne hw ht (Zn_ker _ (Zn_ker _ h1))
def bitsB (b : Byt) : List Bool := (List.range 8).map fun j => b.getLsbD j
def bitsL (l : List Byt) : List Bool := l.flatMap bitsB
theorem bit_at (b : Byt) (j : Nat) : b.getLsbD j = decide (b.toNat / 2 ^ j % 2 = 1) := by
 rw [← BitVec.testBit_toNat, Nat.testBit_eq_decide_div_mod_eq]
theorem bit0 (s : BitVec 32) : s.getLsbD 0 = decide (s.toNat % 2 = 1) := by
 rw [← BitVec.testBit_toNat, Nat.testBit_eq_decide_div_mod_eq]; simp
theorem sum_step (s : BitVec 32) (b : Byt) (x : IV) (n i j : Nat) (hj : j < 8) (J : JH) (K : Out IV → JH → Prop)
  (hK : K (.goto 3 [.int .u64 ((stB s (b.getLsbD j)).toNat : Int), by8 b, nI (j + 1), x, nI n, nI i]) J) :
  WP (dn BI l_ref02_Sum_k0 [.int .u64 (s.toNat : Int), by8 b, nI j, x, nI n, nI i] J) K := by
 have hs := s.isLt
 have hb := b.isLt
 have e1 : (s.toNat : Int).tmod 2 = ((s.toNat % 2 : Nat) : Int) := by rw [Int.tmod_eq_emod_of_nonneg (by omega)]; omega
 have e2 : IntKind.u64.wrap (b.toNat : Int) = (b.toNat : Int) := wrap_u64 (by omega) (by omega)
 have e3 : (b.toNat : Int).fdiv (2 ^ j) = ((b.toNat / 2 ^ j : Nat) : Int) := by
  rw [Int.fdiv_eq_ediv_of_nonneg _ (Int.pow_nonneg (by omega))]; push_cast; rfl
 have hx : (s.getLsbD 0 ^^ b.getLsbD j) = decide ((s.toNat % 2 + b.toNat / 2 ^ j) % 2 = 1) := by
  rw [bit0, bit_at]
  by_cases h1 : s.toNat % 2 = 1 <;> by_cases h2 : b.toNat / 2 ^ j % 2 = 1 <;> simp only [h1, h2, decide_true, decide_false, Bool.xor_true, Bool.xor_false, Bool.true_xor, Bool.false_xor, Bool.not_true, Bool.not_false] <;> (first | (symm; rw [decide_eq_true_eq]; omega) | (symm; rw [decide_eq_false_iff_not]; omega))
 have hle := Nat.div_le_self b.toNat (2 ^ j)
 generalize b.toNat / 2 ^ j = t at *
 have e4 : IntKind.u64.wrap (((s.toNat % 2 : Nat) : Int) + ((t : Nat) : Int)) = ((s.toNat % 2 + t : Nat) : Int) := by rw [wrap_u64 (by omega) (by omega)]; omega
 have e5 : ((s.toNat % 2 + t : Nat) : Int).tmod 2 = (((s.toNat % 2 + t) % 2 : Nat) : Int) := by rw [Int.tmod_eq_emod_of_nonneg (by omega)]; omega
 have e6 : (s.toNat : Int).tdiv 2 = ((s.toNat / 2 : Nat) : Int) := by rw [Int.tdiv_eq_ediv_of_nonneg (by omega)]; omega
 have e7 : IntKind.u64.wrap ((s.toNat / 2 : Nat) : Int) = ((s.toNat / 2 : Nat) : Int) := wrap_u64 (by omega) (by omega)
 have e8 : IntKind.i64.wrap ((j : Int) + 1) = ((j + 1 : Nat) : Int) := by rw [wrap_i64 (by omega) (by omega)]; omega
 have e9 : (BitVec.ofInt 64 ((s.toNat / 2 : Nat) : Int) ^^^ 2197175160#64).toNat = s.toNat / 2 ^^^ 2197175160 := by
  rw [BitVec.toNat_xor, BitVec.ofInt_natCast, BitVec.toNat_ofNat, Nat.mod_eq_of_lt (by omega)]; rfl
 have hm : min j 64 = j := by omega
 unfold l_ref02_Sum_k0
 unfold stB at hK
 rw [hx] at hK
 by_cases h : (s.toNat % 2 + t) % 2 = 1
 ·have hc : ((((s.toNat % 2 + t) % 2 : Nat) : Int) == 1) = true := by rw [h]; rfl
  rw [if_pos (by simpa using h)] at hK
  have e10 : (((s >>> 1) ^^^ polyC).toNat : Int) = ((s.toNat / 2 ^^^ 2197175160 : Nat) : Int) := by
   rw [BitVec.toNat_xor, BitVec.toNat_ushiftRight, Nat.shiftRight_eq_div_pow]; rfl
  rw [e10] at hK
  simp -implicitDefEqProofs only [go_sem, dnW_ite, go_sem_proc, show ((j : Int) < 8) by omega, e1, e2, show ¬ ((j : Int) < 0) by omega, hm, e3, e4, e5, e6, e7, hc, e8]
  rw [← e9] at hK
  exact hK
 ·have hc : ((((s.toNat % 2 + t) % 2 : Nat) : Int) == 1) = false := by rw [beq_eq_false_iff_ne]; omega
  rw [if_neg (by simpa using h)] at hK
  have e10 : ((s >>> 1).toNat : Int) = ((s.toNat / 2 : Nat) : Int) := by
   rw [BitVec.toNat_ushiftRight, Nat.shiftRight_eq_div_pow]
  rw [e10] at hK
  simp -implicitDefEqProofs only [go_sem, dnW_ite, go_sem_proc, show ((j : Int) < 8) by omega, e1, e2, show ¬ ((j : Int) < 0) by omega, hm, e3, e4, e5, e6, e7, hc, e8]
  exact hK
theorem bitsB_len (b : Byt) : (bitsB b).length = 8 := by simp [bitsB]
theorem bitsL_cons (b : Byt) (r : List Byt) : bitsL (b :: r) = bitsB b ++ bitsL r := by simp [bitsL]
theorem bitsL_app (a b : List Byt) : bitsL (a ++ b) = bitsL a ++ bitsL b := by simp [bitsL]
theorem bitsL_len : ∀ l : List Byt, (bitsL l).length = 8 * l.length
 | [] => rfl
 | b :: r => by rw [bitsL_cons, List.length_append, bitsB_len, bitsL_len r, List.length_cons]; omega
theorem bitsL_at (b : Byt) (r : List Byt) (i : Nat) : (bitsL (b :: r)).getD i false = if i < 8 then b.getLsbD i else (bitsL r).getD (i - 8) false := by
 rw [bitsL_cons, List.getD_eq_getElem?_getD, List.getElem?_append, bitsB_len]
 split
 ·next h => simp [bitsB, h]
 ·rw [List.getD_eq_getElem?_getD]
theorem reg_app (s : BitVec 32) (a b : List Bool) : reg s (a ++ b) = reg (reg s a) b := by simp [reg, List.foldl_append]
theorem RSum_ok {x : IV} {l : List Byt} (hx : BR x l) (hb : l.length ≤ 1000000) : pc BI F_ref02_Sum [x] = some (m32 (~~~ (reg (BitVec.allOnes 32) (bitsL l)))) := by
 refine pcE fn_ref02_Sum rfl fun K hK => ?_
 unfold l_ref02_Sum
 simp -implicitDefEqProofs only [go_sem, dnW_ite, go_sem_proc, hx.lenF, List.length_map, dn_loop]
 refine WP_range (by decide) l.length (fun i vs J => vs = [.int .u64 ((reg (BitVec.allOnes 32) (bitsL (l.take i))).toNat : Int), x, nI l.length, nI i]) ?_ rfl
 rintro i vs J rfl hi K1 g1 g2 g3
 unfold l_ref02_Sum_k2
 generalize hs : reg (BitVec.allOnes 32) (bitsL (l.take i)) = s
 by_cases h : i < l.length
 ·have hat := fun J => hx.at (i := i) (by simpa using h) (J := J)
  simp only [List.getElem_map] at hat
  have hw1 := wrapS h (show l.length ≤ 9223372036854775807 by omega)
  have hnx : reg (BitVec.allOnes 32) (bitsL (l.take (i + 1))) = reg s (bitsB l[i]) := by
   rw [List.take_succ_eq_append_getElem h, bitsL_app, reg_app, hs]
   congr 1
  simp -implicitDefEqProofs only [go_sem, dnW_ite, go_sem_proc, show ((i : Int) < (l.length : Int)) by omega, hat, dn_loop]
  refine WP_range (by decide) 8 (fun j vs J => vs = [.int .u64 ((reg s ((List.range j).map fun k => l[i].getLsbD k)).toNat : Int), by8 l[i], nI j, x, nI l.length, nI i]) ?_ rfl
  rintro j vs J rfl hj K2 k1 k2 k3
  by_cases h8 : j < 8
  ·refine sum_step _ l[i] x l.length i j h8 J K2 (k1 h8 _ _ ?_)
   rw [List.range_succ, List.map_append, reg_app]; rfl
  ·obtain rfl : j = 8 := by omega
   unfold l_ref02_Sum_k0
   simp -implicitDefEqProofs only [go_sem, dnW_ite, go_sem_proc, show ¬ (((8 : Nat) : Int) < 8) by omega]
   refine k2 _ _ ?_
   unfold l_ref02_Sum_k1
   simp -implicitDefEqProofs only [go_sem, dnW_ite, go_sem_proc, hw1]
   refine g1 h _ _ ?_
   rw [hnx]; rfl
 ·simp -implicitDefEqProofs only [go_sem, dnW_ite, go_sem_proc, show ¬ ((i : Int) < (l.length : Int)) by omega]
  refine g2 _ _ ?_
  rw [List.take_of_length_le (by omega)] at hs
  rw [hs] at hK
  have hsl := s.isLt
  have e1 : IntKind.u64.wrap (4294967295 - (s.toNat : Int)) = (((~~~ s).toNat : Nat) : Int) := by
   rw [BitVec.toNat_not, wrap_u64 (by omega) (by omega)]; omega
  have e2 : IntKind.u32.wrap (((~~~ s).toNat : Nat) : Int) = (((~~~ s).toNat : Nat) : Int) := by
   have := (~~~ s).isLt
   exact wrap_u32 (by omega) (by omega)
  unfold l_ref02_Sum_k3
  simp -implicitDefEqProofs only [go_sem, dnW_ite, go_sem_proc, e1, e2]
  exact hK _ _ (frzE rfl rfl)
theorem RSeal_ok {x : IV} {l : List Byt} (hx : BR x l) (hb : l.length ≤ 100000) : ∃ u, pc BI F_ref02_Seal [x] = some u ∧ BR u (l ++ leW (~~~ (reg (BitVec.allOnes 32) (bitsL l)))) := by
 have hS := RSum_ok hx (by omega)
 generalize ~~~ (reg (BitVec.allOnes 32) (bitsL l)) = v at *
 obtain ⟨a, ha, hal⟩ := RLow_ok v
 obtain ⟨u, hu, hul⟩ := RJoin_ok (LsR2 (sz := 1) (f := true) hx hal) (by simp) (by simp [leW_len]; omega)
 have ha' : pc BI F_ref01_Low [.int .u64 (v.toNat : Int), .int .i64 4] = some a := ha
 have hw : IntKind.u64.wrap (v.toNat : Int) = (v.toNat : Int) := by have := v.isLt; exact wrap_u64 (by omega) (by omega)
 refine ⟨u, pcE fn_ref02_Seal rfl fun K hK => ?_, by rw [show l ++ leW v = [l, leW v].flatten by simp]; exact hul⟩
 unfold l_ref02_Seal
 simp -implicitDefEqProofs only [go_sem, dnW_ite, go_sem_proc, dcp hS (by simp [ipureL, hx.pure]), hw, dcp ha' rfl, ipureL, ipure, grp, mkE, List.headD, List.drop_one, List.drop_succ_cons, ↓hx.icells, ↓hx.one, ↓hx.pure, ↓hal.icells, ↓hal.one, ↓hal.pure, dcp hu (by simp [ipureL, ipure, hx.pure, hal.pure])]
 exact hK [_] _ (frzE (by simpa [itup] using hul.pure) rfl)
def Gm.mv (g : Gm) (ms : List (BitVec 32)) (j : Nat) : BitVec 32 := if h : j < ms.length then (if g.legal ms[j] then ms[j] else g.dflt) else g.dflt
def Gm.allF (g : Gm) (ms : List (BitVec 32)) (n : Nat) : List Int := (List.range n).map fun j => IntKind.i32.wrap ((g.mv ms j).toNat : Int)
theorem allF_succ (g ms n) : Gm.allF g ms (n + 1) = Gm.allF g ms n ++ [IntKind.i32.wrap ((g.mv ms n).toNat : Int)] := by
 simp [Gm.allF, List.range_succ]
theorem allF_len (g ms n) : (Gm.allF g ms n).length = n := by simp [Gm.allF]
theorem fits4r {n : Nat} (h : n ≤ 1000000) : fits n 4 = true := by
 simp only [fits, Bool.and_eq_true, decide_eq_true_eq]; omega
theorem gall_ok (g : Gm) (x y : IV) (h : GR g x y) (p : Nat) (hp : g.players = p) (hp6 : p ≤ 1000) (mv : IV) (ms : List (BitVec 32)) (hm : Ls 1 mv (ms.map m32)) : ∃ u, pc BI F_rules_Game_all [.agg (gmc g x y), mv] = some u ∧ Ls 1 u ((g.allF ms p).map (IV.int .i32)) := by
 refine pcW fn_rules_Game_all rfl fun K hK => ?_
 unfold l_rules_Game_all
 simp -implicitDefEqProofs only [go_sem, dnW_ite, go_sem_proc, h.one, hp, dn_loop]
 refine WP_range (by decide) p (fun i vs J' => ∃ out, vs = [mv, .ptr 0 0 0, out, nI p, nI i] ∧ J'[0]? = some (.cells 0 (gmc g x y) false) ∧ 0 ∉ blk out ∧ Grow J' out 1 ((g.allF ms i).map (IV.int .i32))) ?_ ⟨_, rfl, rfl, by simp [blk, blkOf], .nil⟩
 rintro i vs J ⟨out, rfl, h0, hb, hg⟩ hi K1 g1 g2 g3
 have hin := inb h0
 unfold l_rules_Game_all_k1
 by_cases hlt : i < p
 ·have hw1 := wrapS hlt (show p ≤ 9223372036854775807 by omega)
  have fin : WP (dn BI l_rules_Game_all_k0 [mv, .ptr 0 0 0, out, m32 (g.mv ms i), nI p, nI i] J) K1 := by
   unfold l_rules_Game_all_k0
   simp -implicitDefEqProofs only [go_sem, dnW_ite, go_sem_proc, ipureL, ipure, grp, mkE, List.headD]
   refine WP_bind (hg.app (m := 1) (ds := [.int .i32 (IntKind.i32.wrap ((g.mv ms i).toNat : Int))]) (by omega) rfl rfl rfl rfl (fits4r ?_)) fun out' J2 hs2 => ?_
   ·simp [Gm.allF]; omega
   obtain ⟨k1, k2, k3⟩ := hs2
   simp -implicitDefEqProofs only [go_sem, dnW_ite, go_sem_proc, hw1]
   refine g1 hlt _ _ ⟨out', rfl, by rw [k2.2 0 (lt_get h0) hb]; exact h0, fun hm0 => ?_, ?_⟩
   ·rcases k3 0 hm0 with hc | hc
    ·exact hb hc
    ·have := lt_get h0; omega
   ·rw [allF_succ, List.map_append]; exact k1
  by_cases hv : i < ms.length
  ·have hat := fun J => hm.at (i := i) (by simpa using hv) (J := J)
   simp only [List.getElem_map] at hat
   have hL := Legal_ok g x y h ms[i]
   cases hc : g.legal ms[i] with
   | true =>
    rw [hc] at hL
    have e : g.mv ms i = ms[i] := by simp [Gm.mv, hv, hc]
    rw [e] at fin
    simp -implicitDefEqProofs only [go_sem, dnW_ite, go_sem_proc, show ((i : Int) < (p : Int)) by omega, h0, hm.lenF, List.length_map, show ((i : Int) < (ms.length : Int)) by omega, hat, dcp hL (by simp [ipureL, ipure, h.pure])]
    exact fin
   | false =>
    rw [hc] at hL
    have e : g.mv ms i = g.dflt := by simp [Gm.mv, hv, hc]
    rw [e] at fin
    simp -implicitDefEqProofs only [go_sem, dnW_ite, go_sem_proc, show ((i : Int) < (p : Int)) by omega, h0, hm.lenF, List.length_map, show ((i : Int) < (ms.length : Int)) by omega, hat, dcp hL (by simp [ipureL, ipure, h.pure])]
    exact fin
  ·have e : g.mv ms i = g.dflt := by simp [Gm.mv, hv]
   rw [e] at fin
   simp -implicitDefEqProofs only [go_sem, dnW_ite, go_sem_proc, show ((i : Int) < (p : Int)) by omega, h0, hm.lenF, List.length_map, show ¬ ((i : Int) < (ms.length : Int)) by omega]
   exact fin
 ·simp -implicitDefEqProofs only [go_sem, dnW_ite, go_sem_proc, show ¬ ((i : Int) < (p : Int)) by omega]
  refine g2 _ _ ?_
  unfold l_rules_Game_all_k2
  simp -implicitDefEqProofs only [go_sem, dnW_ite, go_sem_proc]
  obtain rfl : i = p := by omega
  obtain ⟨u, hu, hul⟩ := hg.frzE1 ints_pure ints_ione
  exact hK _ _ u (hu 11) hul
def stc (b : Bd) (d t : Int) : List IV := bdc b ++ [.int .u64 d, .int .u32 t]
theorem sta_len (b d t) : (stc b d t).length = 99 := by simp [stc, bdc_len]
theorem sta_take (b d t) : (stc b d t).take 99 = stc b d t := List.take_of_length_le (by rw [sta_len]; exact Nat.le_refl _)
theorem sta_bd (b d t) : (stc b d t).take 97 = bdc b := by rw [stc, List.take_append_of_le_length (by rw [bdc_len]; exact Nat.le_refl _), bdc_take]
theorem sta_97 (b d t) : ((stc b d t).drop 97).take 1 = [.int .u64 d] := by rw [stc, app_ld (bdc_len b) 0]; rfl
theorem sta_98 (b d t) : ((stc b d t).drop 98).take 1 = [.int .u32 t] := by rw [stc, app_ld (bdc_len b) 1]; rfl
theorem sta_one (b d t) : (stc b d t).all ione = true := by
 have := bdc_one b
 rw [stc, List.all_append, this]; rfl
theorem sta_pure (b d t) : ipureL (stc b d t) = true := by
 rw [stc, ipureL_iff]
 intro x hx
 rcases List.mem_append.1 hx with hx | hx
 ·exact ipureL_iff.1 (bdc_pure b) x hx
 ·simp at hx; rcases hx with rfl | rfl <;> rfl
attribute [go_sem] sta_len sta_take sta_bd sta_97 sta_98 sta_one
theorem sta_z : List.map IV.sc (reps 48 [Value.int IntKind.i32 0, Value.int IntKind.u32 0] ++ [Value.int IntKind.i64 0, Value.int IntKind.u64 0, Value.int IntKind.u32 0]) = stc Bd.z 0 0 := by kernel_rfl
theorem sta_all (b d t b2 d2 t2) : isplice (stc b d t) 0 (stc b2 d2 t2) = stc b2 d2 t2 := by
 simp only [isplice, List.take_zero, List.nil_append, Nat.zero_add]
 rw [List.drop_of_length_le (by rw [sta_len, sta_len]; exact Nat.le_refl _), List.append_nil]
theorem sta_sbd (b d t b2) : isplice (stc b d t) 0 (bdc b2) = stc b2 d t := by
 simp only [isplice, List.take_zero, List.nil_append, Nat.zero_add, stc]
 rw [bdc_len, List.drop_append_of_le_length (by rw [bdc_len]; exact Nat.le_refl _), List.drop_of_length_le (by rw [bdc_len]; exact Nat.le_refl _), List.nil_append]
theorem sta_s98 (b d t t2) : isplice (stc b d t) 98 [.int .u32 t2] = stc b d t2 := by
 have h := bdc_len b
 simp only [isplice, stc]
 rw [List.take_append, List.drop_append, List.take_of_length_le (by omega), List.drop_of_length_le (by rw [h]; simp only [List.length_cons, List.length_nil]; omega), h]; simp
theorem sta_s97 (b d t d2) : isplice (stc b d t) 97 [.int .u64 d2] = stc b d2 t := by
 have h := bdc_len b
 simp only [isplice, stc]
 rw [List.take_append, List.drop_append, List.take_of_length_le (by omega), List.drop_of_length_le (by rw [h]; simp only [List.length_cons, List.length_nil]; omega), h]; simp
attribute [go_sem] sta_all sta_sbd sta_s98 sta_s97
theorem SView_ok (b : Bd) (d t p : Int) : pc BI F_rules_State_View [.agg (stc b d t), .int .i64 p] = some (.agg (stc (b.view p) 0 t)) := by
 refine pcE fn_rules_State_View rfl fun K hK => ?_
 unfold l_rules_State_View
 have hm : BI.md F_board_Board_View = .pure := rfl
 simp -implicitDefEqProofs only [go_sem, dnW_ite, go_sem_proc, sta_z, hm, dcp (View_ok b p) (by simp [ipureL, ipure, bdc_pure])]
 exact hK _ _ (frzE (by simp [ipure, itup, sta_pure]) rfl)
theorem i32_rng (v : Int) : I32 (IntKind.i32.wrap v) := by
 unfold I32
 simp only [IntKind.wrap, IntKind.bits, IntKind.signed]
 simp; split <;> omega
theorem allF_rng (g : Gm) (ms) (n : Nat) : ∀ v ∈ g.allF ms n, I32 v := by
 intro v hv
 simp only [Gm.allF, List.mem_map] at hv
 obtain ⟨j, _, rfl⟩ := hv
 exact i32_rng _
def Gm.env (g : Gm) (ms : List (BitVec 32)) (t : Int) (q : IV) : Me := ⟨q, g.allF ms g.players.toNat, IntKind.u32.wrap (t + 1), allM g.obs⟩
theorem right_players {g : Gm} (h : g.right = true) : 1 ≤ g.players ∧ g.players ≤ 6 ∧ rightL g.code g.cells.length g.players.toNat = true := by
 simp only [Gm.right, Bool.and_eq_true, decide_eq_true_eq] at h
 exact ⟨h.1.1.1.1.2.1, h.1.1.1.1.2.2.1, h.2⟩
theorem Step_ok (g : Gm) (x y : IV) (h : GR g x y) (hr : g.right = true) (hw : ∀ c ∈ g.code, c.wf) (hb : g.code.length ≤ 9223372036854775807) (b : Bd) (hbk : b.ok) (d t : Int) (mv : IV) (ms : List (BitVec 32)) (hm : Ls 1 mv (ms.map m32)) :
  ∃ u, pc BI F_rules_Game_Step [.agg (gmc g x y), .agg (stc b d t), mv] = some u ∧ ∃ q s, Ls 1 q ((g.env ms t q).moves.map (IV.int .i32)) ∧ Ls 3 s ((runF (g.env ms t q) g.code b d).shows.map Sh.e) ∧
   u = .tup [.agg (stc (runF (g.env ms t q) g.code b d).bd (runF (g.env ms t q) g.code b d).dice (IntKind.u32.wrap (t + 1))), .agg [.int .u64 ((runF (g.env ms t q) g.code b d).touched.toNat : Int), s, nI (runF (g.env ms t q) g.code b d).err]] := by
 refine pcW fn_rules_Game_Step rfl fun K hK => ?_
 obtain ⟨h1, h6, hR⟩ := right_players hr
 obtain ⟨p, hp⟩ : ∃ p : Nat, g.players = p := ⟨g.players.toNat, by omega⟩
 have hpn : g.players.toNat = p := by omega
 obtain ⟨q, hq, hql⟩ := gall_ok g x y h p hp (by omega) mv ms hm
 rw [← hpn] at hql
 have hE : (g.env ms t q).ok := ⟨hql, allF_rng _ _ _, by show (g.allF ms g.players.toNat).length ≤ _; rw [allF_len]; omega⟩
 have hcl : g.code.length ≤ 96 := by
  have : g.code.length ≤ 96 ∧ ∀ x ∈ g.code, x.right g.code.length g.cells.length g.players.toNat = true := by simpa [rightL] using hR
  exact this.1
 obtain ⟨_, hr1, s, hs, rfl⟩ := Run_ok y g.code h.y hw (by omega) b hbk d (g.env ms t q) hE
 have hr1' : pc BI F_vm_Run [y, .agg (bdc b), .agg [.int .u64 d], q, .int .u32 (IntKind.u32.wrap (t + 1)), m32 (allM g.obs)] = _ := hr1
 have hg := gRight_ok g x y h hw hb
 rw [hr] at hg
 have hcon : ∀ J', K (.ret [.agg (stc (runF (g.env ms t q) g.code b d).bd (runF (g.env ms t q) g.code b d).dice (IntKind.u32.wrap (t + 1))), .agg [.int .u64 ((runF (g.env ms t q) g.code b d).touched.toNat : Int), s, nI (runF (g.env ms t q) g.code b d).err]]) J' := fun J' => by
  have hpu : ipure (itup [.agg (stc (runF (g.env ms t q) g.code b d).bd (runF (g.env ms t q) g.code b d).dice (IntKind.u32.wrap (t + 1))), .agg [.int .u64 ((runF (g.env ms t q) g.code b d).touched.toNat : Int), s, nI (runF (g.env ms t q) g.code b d).err]]) = true := by
   simp [itup, ipure, ipureL, sta_pure, hs.pure]
  exact hK _ _ _ (frzP hpu) ⟨q, s, hql, hs, rfl⟩
 generalize runF (g.env ms t q) g.code b d = R at *
 unfold l_rules_Game_Step
 simp -implicitDefEqProofs only [go_sem, dnW_ite, go_sem_proc, h.one, sta_z, dcp hg (by simp [ipureL, ipure, h.pure]), dcp hq (by simp [ipureL, ipure, h.pure, hm.pure]), dcp (All10_ok g x y h) (by simp [ipureL, ipure, h.pure]), dcp hr1' (by simp [ipureL, ipure, h.y.pure, hql.pure, bdc_pure]), rs_one _ _ hs.one, ↓h.y.icells, ↓hs.icells, ↓hs.one, castN]
 exact hcon _
theorem foldl_take_succ' {α β : Type} (f : β → α → β) (l : List α) (i : Nat) (h : i < l.length) (z : β) : (l.take (i + 1)).foldl f z = f ((l.take i).foldl f z) l[i] := by
 rw [List.take_succ_eq_append_getElem h, List.foldl_append]; rfl
def hidS (p : List Cl × List Int) (c : Cl) : List Cl × List Int := if c.s = 0#32 then (match p.2 with | [] => (p.1 ++ [c], []) | h :: r => (p.1 ++ [⟨h, 0#32⟩], r)) else (p.1 ++ [c], p.2)
def hid (C : List Cl) (H : List Int) : List Cl × List Int := C.foldl hidS ([], H)
theorem hidS_len (p c) : (hidS p c).1.length = p.1.length + 1 := by
 unfold hidS
 split
 ·split <;> simp
 ·simp
theorem hid_len (C : List Cl) : ∀ p, (C.foldl hidS p).1.length = p.1.length + C.length := by
 induction C with
 | nil => intro p; rfl
 | cons c C ih => intro p; rw [List.foldl_cons, ih, hidS_len, List.length_cons]; omega
theorem hidS_suf (p c) : (hidS p c).2.length ≤ p.2.length := by
 unfold hidS
 split
 ·split <;> simp_all
 ·simp
theorem hid_suf (C : List Cl) : ∀ p, (C.foldl hidS p).2.length ≤ p.2.length := by
 induction C with
 | nil => intro p; exact Nat.le_refl _
 | cons c C ih => intro p; rw [List.foldl_cons]; exact Nat.le_trans (ih _) (hidS_suf p c)
def hidB (C : List Cl) (h : C.length ≤ 48) (H : List Int) (i : Nat) : Bd := ⟨(hid (C.take i) H).1 ++ C.drop i, by
 have := hid_len (C.take i) ([], H)
 simp only [hid, List.length_append, this, List.length_take, List.length_drop, List.length_nil]; omega⟩
theorem hidB_len (C h H i) : (hidB C h H i).l.length = C.length := by
 have := hid_len (C.take i) ([], H)
 simp only [hidB, hid, List.length_append, this, List.length_take, List.length_drop, List.length_nil]; omega
theorem hidB_succ (C h H) {i : Nat} (hi : i < C.length) (c : Cl) (r : List Int) (he : hidS (hid (C.take i) H) C[i] = ((hid (C.take i) H).1 ++ [c], r)) : (hidB C h H i).set i c = hidB C h H (i + 1) ∧ (hid (C.take (i + 1)) H).2 = r := by
 have hs : hid (C.take (i + 1)) H = hidS (hid (C.take i) H) C[i] := foldl_take_succ' _ _ _ hi _
 have hl : (hid (C.take i) H).1.length = i := by
  have := hid_len (C.take i) ([], H)
  simp only [hid, this, List.length_take, List.length_nil]; omega
 refine ⟨?_, by rw [hs, he]⟩
 apply Bd.ext
 simp only [Bd.set, hidB]
 rw [hs, he, List.drop_eq_getElem_cons hi, List.set_append_right _ _ (by omega), hl, Nat.sub_self, List.set_cons_zero, List.append_assoc]; rfl
theorem hidB_same (C h H) {i : Nat} (hi : i < C.length) (r : List Int) (he : hidS (hid (C.take i) H) C[i] = ((hid (C.take i) H).1 ++ [C[i]], r)) : hidB C h H i = hidB C h H (i + 1) ∧ (hid (C.take (i + 1)) H).2 = r := by
 obtain ⟨h1, h2⟩ := hidB_succ C h H hi C[i] r he
 refine ⟨?_, h2⟩
 rw [← h1]
 have hl : (hid (C.take i) H).1.length = i := by
  have := hid_len (C.take i) ([], H)
  simp only [hid, this, List.length_take, List.length_nil]; omega
 apply Bd.ext
 simp only [Bd.set, hidB]
 rw [List.drop_eq_getElem_cons hi, List.set_append_right _ _ (by omega), hl, Nat.sub_self, List.set_cons_zero]
theorem start_loop (g : Gm) (x y : IV) (h : GR g x y) (h48 : g.cells.length ≤ 48) (hv : IV) (H : List Int) (hh : Ls 1 hv (H.map (IV.int .i32))) (hb : H.length ≤ 9223372036854775807) (sd : IV) (st : IV) (J : JH) (hJ : J[2]? = some (.cells 0 (bdc (hidB g.cells h48 H 0)) false)) (K : Out IV → JH → Prop)
  (hK : ∀ J', Fr J J' [2] → J'[2]? = some (.cells 0 (bdc (hidB g.cells h48 H g.cells.length)) false) → WP (dn BI l_rules_Game_Start_k1 [sd, st, .ptr 2 0 0] J') K) :
  WP (onJoinD 0 (iter (dn BI l_rules_Game_Start_k0) 1 [sd, hv, st, .ptr 2 0 0, x, nI g.cells.length, nI 0] J) l_rules_Game_Start_k1) K := by
 refine WP_range (by decide) g.cells.length (fun i vs J' => ∃ hw, vs = [sd, hw, st, .ptr 2 0 0, x, nI g.cells.length, nI i] ∧ Fr J J' [2] ∧ J'[2]? = some (.cells 0 (bdc (hidB g.cells h48 H i)) false) ∧ Ls 1 hw ((hid (g.cells.take i) H).2.map (IV.int .i32))) ?_ ⟨hv, rfl, .refl _ _, hJ, hh⟩
 rintro i vs J1 ⟨hw, rfl, hf, h2, hwl⟩ hi K1 g1 g2 g3
 have hin := inb h2
 have hl2 := lt_get h2
 unfold l_rules_Game_Start_k0
 by_cases hi2 : i < g.cells.length
 ·have hat := fun J => h.x.at (i := i) (by simpa using hi2) (J := J)
  simp only [List.getElem_map, Cl.e, Cl.c] at hat
  have hsuf := hid_suf (g.cells.take i) ([], H)
  have hw1 := wrapS hi2 (show g.cells.length ≤ 9223372036854775807 by omega)
  have hp2 : ∀ X : IB, (J1.push X)[2]? = J1[2]? := fun X => by rw [Array.getElem?_push, if_neg (by omega)]
  have hp3 : ∀ X : IB, (J1.push X)[J1.size]? = some X := fun X => by simp
  have fr2 : ∀ X : IB, Fr J (J1.push X) [2] := fun X => hf.trans (Fr.push _ _ [2]) (fun _ _ h => h)
  by_cases hc : g.cells[i].s = 0#32
  ·cases hr : (hid (g.cells.take i) H).2 with
   | nil =>
    obtain ⟨e1, e2⟩ := hidB_same g.cells h48 H hi2 [] (by simp [hidS, hc, hr])
    rw [hr] at hwl
    simp -implicitDefEqProofs only [go_sem, dnW_ite, go_sem_proc, show ((i : Int) < (g.cells.length : Int)) by omega, hat, hp3, hp2, hc, hwl.lenF, List.length_map, hw1, BitVec.toNat_ofNat, show ((((0 % 2 ^ 32 : Nat)) : Int) == 0) = true from rfl]
    refine g1 hi2 _ _ ⟨hw, rfl, fr2 _, ?_, ?_⟩
    ·rw [hp2, ← e1]; exact h2
    ·rw [e2]; exact hwl
   | cons v r =>
    obtain ⟨e1, e2⟩ := hidB_succ g.cells h48 H hi2 ⟨v, 0#32⟩ r (by simp [hidS, hc, hr])
    rw [hr] at hwl
    have hat0 := fun J => hwl.at (i := 0) (by simp) (J := J)
    simp only [List.map_cons, List.getElem_cons_zero, Int.natCast_zero] at hat0
    obtain ⟨hw', hsl0, hwl'⟩ := hwl.sliceLo (l := 1) (by simp)
    have hsl : ∀ J, sliceF 1 hw (some (.int .i64 1)) none none J = some (hw', J) := hsl0
    have hP : pc BI F_board_Board_Put [.agg (bdc (hidB g.cells h48 H i)), .int .i64 (i : Int), .agg [.int .i32 v, .sc (.int .u32 0)]] = _ := Put_ok (hidB g.cells h48 H i) i ⟨v, 0#32⟩
    have hth : (hidB g.cells h48 H i).there i = true := by simp [Bd.there, hidB_len]; omega
    rw [hth, Bd.put, if_pos hth, if_pos rfl, Int.toNat_natCast, e1] at hP
    simp -implicitDefEqProofs only [go_sem, dnW_ite, go_sem_proc, show ((i : Int) < (g.cells.length : Int)) by omega, hat, hp3, hp2, h2, hc, hwl.lenF, List.length_map, hw1, BitVec.toNat_ofNat, show ((((0 % 2 ^ 32 : Nat)) : Int) == 0) = true from rfl, show ((r.length + 1 : Nat) : Int) > 0 by omega, hat0, dcp hP (by simp [ipureL, ipure, bdc_pure]), hin, hsl, show ∀ k, 2 < J1.size + k by omega]
    refine g1 hi2 _ _ ⟨hw', rfl, (fr2 _).trans (Fr.set _ (b := 2) _ (S := [2]) (by simp)) (fun _ _ h => h), ?_, ?_⟩
    ·exact set_get _ (by simp; omega)
    ·rw [e2]; simpa using hwl'
  ·obtain ⟨e1, e2⟩ := hidB_same g.cells h48 H hi2 (hid (g.cells.take i) H).2 (by simp [hidS, hc])
   have hc' : (((g.cells[i].s).toNat : Int) == 0) = false := by rw [beqB0]; simp [hc]
   simp -implicitDefEqProofs only [go_sem, dnW_ite, go_sem_proc, show ((i : Int) < (g.cells.length : Int)) by omega, hat, hp3, hp2, ↓hc', hw1]
   refine g1 hi2 _ _ ⟨hw, rfl, fr2 _, ?_, ?_⟩
   ·rw [hp2, ← e1]; exact h2
   ·rw [e2]; exact hwl
 ·simp -implicitDefEqProofs only [go_sem, dnW_ite, go_sem_proc, show ¬ ((i : Int) < (g.cells.length : Int)) by omega]
  obtain rfl : i = g.cells.length := by omega
  exact g2 _ _ (hK _ hf h2)
theorem right_48 {g : Gm} (h : g.right = true) : g.cells.length ≤ 48 ∧ (1 ≤ g.obs ∧ g.obs ≤ 32) ∧ g.players ≤ g.obs ∧ g.dflt.toNat < g.moves.toNat ∧ g.code.length ≤ 96 := by
 have h2 := (right_players h).2.2
 have h3 : g.code.length ≤ 96 ∧ ∀ x ∈ g.code, x.right g.code.length g.cells.length g.players.toNat = true := by simpa [rightL] using h2
 simp only [Gm.right, Bool.and_eq_true, decide_eq_true_eq] at h
 exact ⟨h.1.1.2, h.1.1.1.1.1, h.1.1.1.1.2.2.2, h.1.1.1.2, h3.1⟩
def Gm.bd0 (g : Gm) (h : g.cells.length ≤ 48) (H : List Int) : Bd := hidB g.cells h H g.cells.length
theorem Start_ok (g : Gm) (x y : IV) (h : GR g x y) (hr : g.right = true) (hw : ∀ c ∈ g.code, c.wf) (hv : IV) (H : List Int) (hh : Ls 1 hv (H.map (IV.int .i32))) (hb : H.length ≤ 9223372036854775807) (sd : Int) :
  pc BI F_rules_Game_Start [.agg (gmc g x y), .int .u64 sd, hv] = some (.tup [.agg (stc (g.bd0 (right_48 hr).1 H) sd 0), nI 0]) := by
 refine pcE fn_rules_Game_Start rfl fun K hK => ?_
 obtain ⟨h48, _, _, _, h96⟩ := right_48 hr
 have hg := gRight_ok g x y h hw (by omega)
 rw [hr] at hg
 have hN := New_ok x g.cells h.x (by omega)
 have hz : Bd.new g.cells = hidB g.cells h48 H 0 := by
  unfold Bd.new
  rw [dif_pos h48]
  apply Bd.ext; simp [hidB, hid]
 rw [hz, if_pos h48] at hN
 unfold l_rules_Game_Start
 simp -implicitDefEqProofs only [go_sem, dnW_ite, go_sem_proc, h.one, sta_z, dcp hg (by simp [ipureL, ipure, h.pure]), dcp hN (by simp [ipureL, h.x.pure]), h.x.lenF, List.length_map, dn_loop]
 refine start_loop g x y h h48 hv H hh hb _ _ _ rfl K fun J' hf h2 => ?_
 have h1 : J'[1]? = some (.cells 0 (stc Bd.z 0 0) false) := by rw [hf.2 1 (by simp) (by simp)]; rfl
 have hl := lt_get h1
 unfold l_rules_Game_Start_k1
 simp -implicitDefEqProofs only [go_sem, dnW_ite, go_sem_proc, h1, h2, inb h1, sta_z, show isplice (isplice (stc Bd.z 0 0) 0 (bdc (hidB g.cells h48 H g.cells.length))) 97 [.int .u64 sd] = stc (g.bd0 h48 H) sd 0 from by rw [sta_sbd, sta_s97]; rfl]
 exact hK _ _ (frzE (by simp [ipure, ipureL, itup, sta_pure]) rfl)
theorem Start0_ok (g : Gm) (x y : IV) (h : GR g x y) (hr : g.right = false) (hw : ∀ c ∈ g.code, c.wf) (hb : g.code.length ≤ 9223372036854775807) (hv : IV) (sd : Int) :
  pc BI F_rules_Game_Start [.agg (gmc g x y), .int .u64 sd, hv] = some (.tup [.agg (stc Bd.z 0 0), nI 2]) := by
 refine pcE fn_rules_Game_Start rfl fun K hK => ?_
 have hg := gRight_ok g x y h hw hb
 rw [hr] at hg
 unfold l_rules_Game_Start
 simp -implicitDefEqProofs only [go_sem, dnW_ite, go_sem_proc, h.one, sta_z, dcp hg (by simp [ipureL, ipure, h.pure])]
 exact hK _ _ (frzE (by simp [ipure, ipureL, itup, sta_pure]) rfl)
theorem bd0_len (g : Gm) (h : g.cells.length ≤ 48) (H : List Int) : (g.bd0 h H).l.length = g.cells.length := hidB_len _ _ _ _
theorem few_len (g : Gm) : g.few.cells.length ≤ 55 ∧ g.few.code.length ≤ 100 := by simp [Gm.few]; omega
theorem few_wf {g : Gm} (h : ∀ c ∈ g.code, c.wf) : ∀ c ∈ g.few.code, c.wf := fun c hc => h c (List.mem_of_mem_take hc)
theorem few_I32 {g : Gm} (h : ∀ c ∈ g.cells, I32 c.v) : ∀ c ∈ g.few.cells, I32 c.v := fun c hc => h c (List.mem_of_mem_take hc)
theorem evI_str {ρ : List IV} {s : ByteArray} : evI ρ (.const (.string s)) = .sc (.string s) := rfl
attribute [go_sem] evI_str
theorem Cl.c_flat (l : List Cl) (c : Cl) : (l.map Cl.c).flatten ++ c.c = ((l ++ [c]).map Cl.c).flatten := by simp
theorem Cd.c_flat (l : List Cd) (c : Cd) : (l.map Cd.cs).flatten ++ c.cs = ((l ++ [c]).map Cd.cs).flatten := by simp
theorem gm_one' (g : Gm) {x y : IV} (h1 : ione x = true) (h2 : ione y = true) : (gmc g x y).all ione = true := by
 simp only [gmc, List.all_cons, List.all_nil, h1, h2]; rfl
theorem wrapI32 (w : BitVec 32) : IntKind.i32.wrap (w.toNat : Int) = w.toInt := by
 have := w.isLt
 simp only [IntKind.wrap, IntKind.bits, IntKind.signed, BitVec.toInt]; simp
 split <;> split <;> omega
theorem iW_toInt (w : BitVec 32) : iW w.toInt = w := BitVec.ofInt_toInt
theorem toInt_iW {n : Int} (h : I32 n) : (iW n).toInt = n := by
 obtain ⟨h0, h1⟩ := h
 rw [iW, BitVec.toInt_ofInt]
 simp only [Int.bmod]; split <;> omega
theorem nB_toNat (x : Byt) : nB x.toNat = x := by simp [nB]
theorem toNat_nB {n : Nat} (h : n < 256) : (nB n).toNat = n := ofNat8 h
def eCd (st : Option (List Byt)) : Cd × Option (List Byt) :=
 (⟨(eByte st).1.toNat, (eByte (eByte st).2).1.toNat, (eByte (eByte (eByte st).2).2).1.toNat, (eByte (eByte (eByte (eByte st).2).2).2).1.toNat, (eWord (eByte (eByte (eByte (eByte st).2).2).2).2).1.toInt, (eWord (eWord (eByte (eByte (eByte (eByte st).2).2).2).2).2).1⟩, (eWord (eWord (eByte (eByte (eByte (eByte st).2).2).2).2).2).2)
def eCds : Nat → Option (List Byt) → List Cd × Option (List Byt)
 | 0, st => ([], st)
 | k + 1, st => ((eCd st).1 :: (eCds k (eCd st).2).1, (eCds k (eCd st).2).2)
def codeP (bs : List Byt) : Option (List Cd) := if eDone (eCds (eNum (some bs) 96).1 (eNum (some bs) 96).2).2 then some (eCds (eNum (some bs) 96).1 (eNum (some bs) 96).2).1 else none
theorem eCd_wf (st : Option (List Byt)) : (eCd st).1.wf := by
 have h := fun x : Byt => x.isLt
 refine ⟨h _, h _, h _, h _, ?_, ?_⟩
 ·exact BitVec.le_toInt _
 ·exact BitVec.toInt_lt
theorem eCds_wf : ∀ (k : Nat) (st : Option (List Byt)), ∀ c ∈ (eCds k st).1, c.wf
 | 0, st, c, h => by cases h
 | k + 1, st, c, h => by
  rcases List.mem_cons.1 h with rfl | h
  ·exact eCd_wf st
  ·exact eCds_wf k _ c h
theorem eCds_len : ∀ (k : Nat) (st : Option (List Byt)), (eCds k st).1.length = k
 | 0, st => rfl
 | k + 1, st => by rw [eCds, List.length_cons, eCds_len k]
theorem cParse_step {J : JH} {st : Option (List Byt)} {out : IV} {cs : List IV} (n i : Nat) (hi : i < n) (hn : n ≤ 96) (h : EyeAt J 0 st) (hg : Grow J out 6 cs) (hn0 : 0 ∉ blk out) (hl : cs.length ≤ 2000) (K : Out IV → JH → Prop)
  (hk : ∀ out' J', EyeAt J' 0 (eCd st).2 → Grow J' out' 6 (cs ++ (eCd st).1.cs) → 0 ∉ blk out' → K (.goto 1 [.ptr 0 0 0, out', .int .u64 (n : Int), .int .u64 ((i + 1 : Nat) : Int)]) J') :
  WP (dn BI l_code_Parse_k0 [.ptr 0 0 0, out, .int .u64 (n : Int), .int .u64 (i : Int)] J) K := by
 have hw1 : IntKind.u64.wrap ((i : Int) + 1) = ((i + 1 : Nat) : Int) := by rw [wrap_u64 (by omega) (by omega)]; omega
 unfold eCd at hk
 unfold l_code_Parse_k0
 have keep : ∀ {J1 J2 : JH} {cs : List IV}, Grow J1 out 6 cs → Fr J1 J2 [0] → Grow J2 out 6 cs := fun hg hf => hg.fr hf (fun c hc hm => by simp at hm; subst hm; exact hn0 hc)
 simp -implicitDefEqProofs only [go_sem, dnW_ite, go_sem_proc, show ((i : Int) < (n : Int)) by omega]
 refine WP_call (EByte_ok h) fun v J1 hv => ?_
 obtain ⟨rfl, h1, f1⟩ := hv
 have hg := keep hg f1
 simp -implicitDefEqProofs only [go_sem, dnW_ite, go_sem_proc]
 refine WP_call (EByte_ok h1) fun v J2 hv => ?_
 obtain ⟨rfl, h2, f2⟩ := hv
 have hg := keep hg f2
 simp -implicitDefEqProofs only [go_sem, dnW_ite, go_sem_proc]
 refine WP_call (EByte_ok h2) fun v J3 hv => ?_
 obtain ⟨rfl, h3, f3⟩ := hv
 have hg := keep hg f3
 simp -implicitDefEqProofs only [go_sem, dnW_ite, go_sem_proc]
 refine WP_call (EByte_ok h3) fun v J4 hv => ?_
 obtain ⟨rfl, h4, f4⟩ := hv
 have hg := keep hg f4
 simp -implicitDefEqProofs only [go_sem, dnW_ite, go_sem_proc]
 refine WP_call (EWord_ok h4) fun v J5 hv => ?_
 obtain ⟨rfl, h5, f5⟩ := hv
 have hg := keep hg f5
 generalize eByte st = e1 at *
 generalize eByte e1.2 = e2 at *
 generalize eByte e2.2 = e3 at *
 generalize eByte e3.2 = e4 at *
 generalize eWord e4.2 = w1 at *
 simp -implicitDefEqProofs only [go_sem, dnW_ite, go_sem_proc, wrapI32]
 have h6 : EyeAt (J5.push (IB.cells 0 [by8 e1.fst, by8 e2.fst, by8 e3.fst, by8 e4.fst, IV.int IntKind.i32 w1.fst.toInt, IV.sc (Value.int IntKind.u32 0)] false)) 0 w1.2 := h5.fr (.push _ _ []) (by simp)
 have hg := hg.fr0 (.push _ (IB.cells 0 [by8 e1.fst, by8 e2.fst, by8 e3.fst, by8 e4.fst, IV.int IntKind.i32 w1.fst.toInt, IV.sc (Value.int IntKind.u32 0)] false) _)
 have hJ := push_get J5 (IB.cells 0 [by8 e1.fst, by8 e2.fst, by8 e3.fst, by8 e4.fst, IV.int IntKind.i32 w1.fst.toInt, IV.sc (Value.int IntKind.u32 0)] false)
 have h50 := lt_get h5.choose_spec.1
 have hod : ∀ c ∈ blk out, c ≠ J5.size := fun c hc e => by
  subst e
  have := (keep (J1 := J4) (J2 := J5) (by assumption) f5).low _ hc
  omega
 generalize hd : J5.size = d at *
 generalize J5.push (IB.cells 0 [by8 e1.fst, by8 e2.fst, by8 e3.fst, by8 e4.fst, IV.int IntKind.i32 w1.fst.toInt, IV.sc (Value.int IntKind.u32 0)] false) = J6 at *
 refine WP_call (EWord_ok h6) fun v J7 hv => ?_
 obtain ⟨rfl, h7, f7⟩ := hv
 have hg := keep hg f7
 have hJ7 : J7[d]? = some (IB.cells 0 [by8 e1.fst, by8 e2.fst, by8 e3.fst, by8 e4.fst, IV.int IntKind.i32 w1.fst.toInt, IV.sc (Value.int IntKind.u32 0)] false) := by
  rw [f7.2 d (lt_get hJ) (by simp; omega)]; exact hJ
 generalize eWord w1.2 = w2 at *
 have h70 := lt_get hJ7
 have hg8 : Grow (J7.setIfInBounds d (IB.cells 0 [by8 e1.fst, by8 e2.fst, by8 e3.fst, by8 e4.fst, IV.int IntKind.i32 w1.fst.toInt, m32 w2.1] false)) out 6 cs := hg.fr (Fr.set _ _ (S := [d]) (by simp)) (fun c hc hm => hod c hc (by simpa using hm))
 have h8 : EyeAt (J7.setIfInBounds d (IB.cells 0 [by8 e1.fst, by8 e2.fst, by8 e3.fst, by8 e4.fst, IV.int IntKind.i32 w1.fst.toInt, m32 w2.1] false)) 0 w2.2 := h7.fr (Fr.set _ _ (S := [d]) (by simp)) (by simp; omega)
 simp -implicitDefEqProofs only [go_sem, dnW_ite, go_sem_proc, hJ7, inb hJ7, ipureL, ipure, grp, mkE, List.headD]
 refine WP_bind (hg8.app (m := 1) (ds := [by8 e1.fst, by8 e2.fst, by8 e3.fst, by8 e4.fst, IV.int IntKind.i32 w1.fst.toInt, m32 w2.1]) (by omega) rfl rfl rfl rfl (fits12 (by omega))) fun out' J9 hs2 => ?_
 obtain ⟨k1, k2, k3⟩ := hs2
 simp -implicitDefEqProofs only [go_sem, dnW_ite, go_sem_proc, hw1]
 refine hk _ _ (h8.fr k2 hn0) k1 (fun hm => ?_)
 rcases k3 0 hm with hm | hm
 ·exact hn0 hm
 ·rw [Array.size_setIfInBounds] at hm; omega
theorem CParse_ok {x : IV} {bs : List Byt} (hx : Ls 1 x (bs.map by8)) (hb : bs.length ≤ 1000000) : ∃ u, pc BI F_code_Parse [x] = some u ∧ match codeP bs with | some l => ∃ y, u = .tup [y, nI 0] ∧ Ls 6 y (l.map Cd.e) | none => u = .tup [.sc (.slice none 0 0), nI 2] := by
 refine pcW fn_code_Parse rfl fun K hK => ?_
 unfold l_code_Parse
 simp -implicitDefEqProofs only [go_sem, dnW_ite, go_sem_proc]
 refine WP_call (Read_ok hx hb) fun v J hv => ?_
 obtain ⟨rfl, h, f, hs⟩ := hv
 have e0 : (#[] : JH).size = 0 := rfl
 rw [e0] at h
 simp -implicitDefEqProofs only [go_sem, dnW_ite, go_sem_proc]
 refine WP_join fun K2 j1 j2 j3 => ?_
 refine WP_call (ENum_ok h 96 (by omega)) fun v J2 hv => ?_
 obtain ⟨rfl, h2, f2⟩ := hv
 have hle := eNum_le (some bs) 96
 unfold codeP at hK
 generalize eNum (some bs) 96 = n at *
 simp -implicitDefEqProofs only [go_sem, dnW_ite, go_sem_proc, dn_loop]
 refine WP_rangeT n.1 (fun i vs J => ∃ out st l, vs = [.ptr 0 0 0, out, .int .u64 (n.1 : Int), .int .u64 (i : Int)] ∧ EyeAt J 0 st ∧ Grow J out 6 (l.map Cd.cs).flatten ∧ 0 ∉ blk out ∧ l.length = i ∧ eCds n.1 n.2 = (l ++ (eCds (n.1 - i) st).1, (eCds (n.1 - i) st).2)) ?_ ⟨_, n.2, [], rfl, h2, .nil, by simp [blk, blkOf], rfl, by simp⟩
 rintro i vs J ⟨out, st, l, rfl, h, hg, hn, hl, he⟩ hi K1 g1 g2 g3
 by_cases hlt : i < n.1
 ·refine cParse_step n.1 i hlt hle h hg hn (by rw [flat_len (cd6 _), List.length_map]; omega) _ fun out' J' h' hg' hn' => ?_
  refine g1 hlt _ _ ⟨out', (eCd st).2, l ++ [(eCd st).1], rfl, h', by rw [← Cd.c_flat]; exact hg', hn', by simp [hl], ?_⟩
  rw [he, show n.1 - i = (n.1 - (i + 1)) + 1 by omega, eCds]
  simp
 ·unfold l_code_Parse_k0
  simp -implicitDefEqProofs only [go_sem, dnW_ite, go_sem_proc, show ¬ ((i : Int) < (n.1 : Int)) by omega]
  refine g2 _ _ _ (by decide) (j1 _ _ ?_)
  obtain rfl : i = n.1 := by omega
  rw [Nat.sub_self, eCds, List.append_nil] at he
  simp only [he] at hK
  unfold l_code_Parse_k1
  simp -implicitDefEqProofs only [go_sem, dnW_ite, go_sem_proc]
  refine WP_call (EDone_ok h) fun v J3 hv => ?_
  obtain ⟨rfl, rfl⟩ := hv
  cases hd : eDone st with
  | false =>
   simp -implicitDefEqProofs only [go_sem, dnW_ite, go_sem_proc]
   exact hK _ _ _ (frzP rfl) (by rw [hd]; rfl)
  | true =>
   simp -implicitDefEqProofs only [go_sem, dnW_ite, go_sem_proc]
   obtain ⟨u, hu, hul⟩ := hg.frzX (cd6 l) (by decide) (cd_pure l) (cd_one l)
   rw [cd_mk] at hul
   refine hK _ _ (.tup [u, nI 0]) ?_ (by rw [hd]; exact ⟨u, rfl, hul⟩)
   have hz : frz J3 11 (.int .i64 0) = some (nI 0) := frz_pure _ _ rfl
   exact frz_tupL (by simp only [List.mapM_cons, List.mapM_nil, hu, hz]; rfl)
theorem WP_callS {f : FuncId} {args as : List IV} {u : IV} {J : JH} {k : L} {ρ : List IV} {P} (ha : args.mapM (frz J DEP) = some as) (hp : pc BI f as = some u) (hu : iscal u = true) (hk : WP (dn BI k (ρ ++ [u]) J) P) : WP (thenD (doCall (ic BI) .pure f args J) k ρ) P := by
 rw [dcf ha hp, if_pos hu]
 exact hk
def eCl (st : Option (List Byt)) : Cl × Option (List Byt) := (⟨(eWord st).1.toInt, (eWord (eWord st).2).1⟩, (eWord (eWord st).2).2)
def eCls : Nat → Option (List Byt) → List Cl × Option (List Byt)
 | 0, st => ([], st)
 | k + 1, st => ((eCl st).1 :: (eCls k (eCl st).2).1, (eCls k (eCl st).2).2)
theorem eCls_len : ∀ (k : Nat) (st : Option (List Byt)), (eCls k st).1.length = k
 | 0, st => rfl
 | k + 1, st => by rw [eCls, List.length_cons, eCls_len k]
def Gz : Gm := ⟨0, 0, 0#32, 0#32, [], []⟩
abbrev nilS : IV := .sc (.slice none 0 0)
theorem rParse_step {J : JH} {x : IV} {st : Option (List Byt)} {out : IV} {l : List Cl} {g : Gm} (q : Nat) (hq : 2 ≤ q) (n : Byt) (i : Nat) (hi : i < n.toNat) (h : EyeAt J 1 st) (h2 : J[q]? = some (.cells 0 (gmc g out nilS) false)) (hg : Grow J out 2 (l.map Cl.c).flatten) (n1 : 1 ∉ blk out) (n2 : q ∉ blk out) (n0 : 0 ∉ blk out) (hl : l.length = i) (K : Out IV → JH → Prop)
  (hk : ∀ out' J', EyeAt J' 1 (eCl st).2 → J'[q]? = some (.cells 0 (gmc g out' nilS) false) → Grow J' out' 2 ((l ++ [(eCl st).1]).map Cl.c).flatten → 1 ∉ blk out' → q ∉ blk out' → 0 ∉ blk out' → J'[0]? = J[0]? → K (.goto 1 [x, .ptr 0 0 0, .ptr 1 0 0, .ptr q 0 0, by8 n, .int .u8 ((i + 1 : Nat) : Int)]) J') :
  WP (dn BI l_rules_Parse_k0 [x, .ptr 0 0 0, .ptr 1 0 0, .ptr q 0 0, by8 n, .int .u8 (i : Int)] J) K := by
 have hnl := n.isLt
 have hw1 : IntKind.u8.wrap ((i : Int) + 1) = ((i + 1 : Nat) : Int) := by
  simp only [IntKind.wrap, IntKind.bits, IntKind.signed]; simp; omega
 unfold eCl at hk
 unfold l_rules_Parse_k0
 have keep : ∀ {J1 J2 : JH} {cs : List IV}, Grow J1 out 2 cs → Fr J1 J2 [1] → Grow J2 out 2 cs := fun hg hf => hg.fr hf (fun c hc hm => by simp at hm; subst hm; exact n1 hc)
 simp -implicitDefEqProofs only [go_sem, dnW_ite, go_sem_proc, show ((i : Int) < (n.toNat : Int)) by omega]
 refine WP_call (EWord_ok h) fun v J1 hv => ?_
 obtain ⟨rfl, h1, f1⟩ := hv
 have hg := keep hg f1
 simp -implicitDefEqProofs only [go_sem, dnW_ite, go_sem_proc]
 refine WP_call (EWord_ok h1) fun v J3 hv => ?_
 obtain ⟨rfl, h3, f3⟩ := hv
 have hg := keep hg f3
 have f13 := f1.trans f3 (fun _ _ h => h)
 have k2 : J3[q]? = some (.cells 0 (gmc g out nilS) false) := by rw [f13.2 q (lt_get h2) (by simp; omega)]; exact h2
 have e0 : J3[0]? = J[0]? := f13.2 0 (by have := lt_get h2; omega) (by simp)
 generalize eWord st = w1 at *
 generalize eWord w1.2 = w2 at *
 simp -implicitDefEqProofs only [go_sem, dnW_ite, go_sem_proc, k2, wrapI32, ipureL, ipure, grp, mkE, List.headD]
 refine WP_bind (hg.app (m := 1) (ds := [.int .i32 w1.1.toInt, m32 w2.1]) (by omega) rfl rfl rfl rfl (fits8 ?_)) fun out' J4 hs2 => ?_
 ·rw [flat_len (cl2 _), List.length_map]; simp; omega
 obtain ⟨k3, k4, k5⟩ := hs2
 have k6 : J4[q]? = some (.cells 0 (gmc g out nilS) false) := by rw [k4.2 q (lt_get k2) n2]; exact k2
 have nn : ∀ d, d < J3.size → d ∉ blk out → d ∉ blk out' := fun d hd hn hm => by
  rcases k5 d hm with hm | hm
  ·exact hn hm
  ·omega
 have hlt3 := lt_get k2
 simp -implicitDefEqProofs only [go_sem, dnW_ite, go_sem_proc, hw1, k6, inb k6, gm_s4, gm_one' g k3.one (show ione nilS = true from rfl), ↓k3.icells, ↓k3.one]
 have fs := Fr.set J4 (b := q) (.cells 0 (gmc g out' nilS) false) (S := [q]) (by simp)
 refine hk _ _ ((h3.fr k4 n1).fr fs (by simp; omega)) (set_get _ (lt_get k6)) ?_ (nn 1 (by omega) n1) (nn q (by omega) n2) (nn 0 (by omega) n0) ?_
 ·rw [← Cl.c_flat]
  exact k3.fr fs (fun c hc hm => by simp at hm; exact nn q (by omega) n2 (hm ▸ hc))
 ·rw [fs.2 0 (by have := k4.1; omega) (by simp; omega), k4.2 0 (by omega) n0, e0]
def gmOf (o p : Byt) (m d : BitVec 32) (cs : List Cl) (cd : List Cd) : Gm := ⟨(o.toNat : Int), (p.toNat : Int), m, d, cs, cd⟩
def eHead (bs : List Byt) : (Byt × Byt × BitVec 32 × BitVec 32 × Byt) × Option (List Byt) :=
 (((eByte (some bs)).1, (eByte (eByte (some bs)).2).1, (eWord (eByte (eByte (some bs)).2).2).1, (eWord (eWord (eByte (eByte (some bs)).2).2).2).1, (eByte (eWord (eWord (eByte (eByte (some bs)).2).2).2).2).1), (eByte (eWord (eWord (eByte (eByte (some bs)).2).2).2).2).2)
def gameP (bs : List Byt) : Option Gm :=
 match codeP (eBlob (eCls (eHead bs).1.2.2.2.2.toNat (eHead bs).2).2 bs.length).1 with
 | none => none
 | some cd =>
  if eDone (eBlob (eCls (eHead bs).1.2.2.2.2.toNat (eHead bs).2).2 bs.length).2 = true ∧ (gmOf (eHead bs).1.1 (eHead bs).1.2.1 (eHead bs).1.2.2.1 (eHead bs).1.2.2.2.1 (eCls (eHead bs).1.2.2.2.2.toNat (eHead bs).2).1 cd).right = true then
   some (gmOf (eHead bs).1.1 (eHead bs).1.2.1 (eHead bs).1.2.2.1 (eHead bs).1.2.2.2.1 (eCls (eHead bs).1.2.2.2.2.toNat (eHead bs).2).1 cd)
  else none
theorem eBlob_len (st : Option (List Byt)) (most : Nat) : (eBlob st most).1.length ≤ most := by
 have h := eNum_le st most
 unfold eBlob
 generalize eNum st most = g at *
 match g, h with
 | (n, some l), h =>
  simp only at h ⊢
  split
  ·rw [List.length_take]; exact Nat.le_trans (Nat.min_le_left _ _) h
  ·exact Nat.zero_le _
 | (n, none), h => exact Nat.zero_le _
theorem GParse_ok {x : IV} {bs : List Byt} (hx : Ls 1 x (bs.map by8)) (hb : bs.length ≤ 1000000) : ∃ u, pc BI F_rules_Parse [x] = some u ∧ match gameP bs with | some G => ∃ x2 y2, u = .tup [.agg (gmc G x2 y2), nI 0] ∧ GR G x2 y2 ∧ (∀ c ∈ G.code, c.wf) | none => u = .tup [.agg (gmc Gz nilS nilS), nI 2] := by
 refine pcW fn_rules_Parse rfl fun K hK => ?_
 unfold l_rules_Parse
 simp -implicitDefEqProofs only [go_sem, dnW_ite, go_sem_proc]
 refine WP_call (Read_ok hx hb) fun v J1 hv => ?_
 obtain ⟨hr, h1, f1, hs⟩ := hv
 have hr : v = .ptr 1 0 0 := hr
 subst hr
 have h1 : EyeAt J1 1 (some bs) := h1
 have hs1 : J1.size = 2 := hs
 have z1 : J1[0]? = some (.cells 0 (gmc Gz nilS nilS) false) := by rw [f1.2 0 (by simp) (by simp)]; rfl
 have hwi : ∀ y : Byt, IntKind.i64.wrap (y.toNat : Int) = (y.toNat : Int) := fun y => by have := y.isLt; exact wrap_i64 (by omega) (by omega)
 have keep : ∀ {J J' : JH}, J[0]? = some (.cells 0 (gmc Gz nilS nilS) false) → Fr J J' [1] → J'[0]? = some (.cells 0 (gmc Gz nilS nilS) false) := fun h f => by rw [f.2 0 (lt_get h) (by simp)]; exact h
 unfold gameP eHead at hK
 simp -implicitDefEqProofs only [go_sem, dnW_ite, go_sem_proc]
 refine WP_call (EByte_ok h1) fun v J2 hv => ?_
 obtain ⟨rfl, h2, f2⟩ := hv
 have z2 := keep z1 f2
 generalize eByte (some bs) = o at *
 simp -implicitDefEqProofs only [go_sem, dnW_ite, go_sem_proc, hwi]
 refine WP_call (EByte_ok h2) fun v J3 hv => ?_
 obtain ⟨rfl, h3, f3⟩ := hv
 have z3 := keep z2 f3
 generalize eByte o.2 = p at *
 simp -implicitDefEqProofs only [go_sem, dnW_ite, go_sem_proc, hwi]
 refine WP_call (EWord_ok h3) fun v J4 hv => ?_
 obtain ⟨rfl, h4, f4⟩ := hv
 have z4 := keep z3 f4
 generalize eWord p.2 = m at *
 simp -implicitDefEqProofs only [go_sem, dnW_ite, go_sem_proc]
 refine WP_call (EWord_ok h4) fun v J5 hv => ?_
 obtain ⟨rfl, h5, f5⟩ := hv
 have z5 := keep z4 f5
 generalize eWord m.2 = d at *
 have hs5 : 2 ≤ J5.size := by have := f2.1; have := f3.1; have := f4.1; have := f5.1; omega
 simp -implicitDefEqProofs only [go_sem, dnW_ite, go_sem_proc]
 have h6 : EyeAt (J5.push (IB.cells 0 (gmc (gmOf o.1 p.1 m.1 d.1 [] []) nilS nilS) false)) 1 d.2 := h5.fr (.push _ _ []) (by simp)
 have z6 : (J5.push (IB.cells 0 (gmc (gmOf o.1 p.1 m.1 d.1 [] []) nilS nilS) false))[0]? = some (.cells 0 (gmc Gz nilS nilS) false) := by
  rw [Array.getElem?_push, if_neg (by omega)]; exact z5
 have hJ6 := push_get J5 (IB.cells 0 (gmc (gmOf o.1 p.1 m.1 d.1 [] []) nilS nilS) false)
 refine WP_join fun K2 j1 j2 j3 => ?_
 refine WP_call (EByte_ok h6) fun v J7 hv => ?_
 obtain ⟨rfl, h7, f7⟩ := hv
 have z7 := keep z6 f7
 have hJ7 : J7[J5.size]? = some (IB.cells 0 (gmc (gmOf o.1 p.1 m.1 d.1 [] []) nilS nilS) false) := by rw [f7.2 J5.size (lt_get hJ6) (by simp; omega)]; exact hJ6
 generalize J5.size = q at *
 generalize eByte d.2 = c at *
 simp -implicitDefEqProofs only [go_sem, dnW_ite, go_sem_proc, dn_loop]
 have hcl := c.1.isLt
 refine WP_rangeT c.1.toNat (fun i vs J => ∃ out st l, vs = [x, .ptr 0 0 0, .ptr 1 0 0, .ptr q 0 0, by8 c.1, .int .u8 (i : Int)] ∧ EyeAt J 1 st ∧ J[0]? = some (.cells 0 (gmc Gz nilS nilS) false) ∧ J[q]? = some (.cells 0 (gmc (gmOf o.1 p.1 m.1 d.1 [] []) out nilS) false) ∧ Grow J out 2 (l.map Cl.c).flatten ∧ 1 ∉ blk out ∧ q ∉ blk out ∧ 0 ∉ blk out ∧ l.length = i ∧ eCls c.1.toNat c.2 = (l ++ (eCls (c.1.toNat - i) st).1, (eCls (c.1.toNat - i) st).2)) ?_ ⟨nilS, c.2, [], rfl, h7, z7, hJ7, .nil, by simp [blk, blkOf], by simp [blk, blkOf], by simp [blk, blkOf], rfl, by simp⟩
 rintro i vs J ⟨out, st, l, rfl, h, z, hq, hg, n1, n2, n0, hl, he⟩ hi K1 g1 g2 g3
 by_cases hlt : i < c.1.toNat
 ·refine rParse_step q hs5 c.1 i hlt h hq hg n1 n2 n0 hl _ fun out' J' h' hq' hg' m1 m2 m0 e0 => ?_
  refine g1 hlt _ _ ⟨out', (eCl st).2, l ++ [(eCl st).1], rfl, h', by rw [e0]; exact z, hq', hg', m1, m2, m0, by simp [hl], ?_⟩
  rw [he, show c.1.toNat - i = (c.1.toNat - (i + 1)) + 1 by omega, eCls]
  simp
 ·unfold l_rules_Parse_k0
  simp -implicitDefEqProofs only [go_sem, dnW_ite, go_sem_proc, show ¬ ((i : Int) < (c.1.toNat : Int)) by omega]
  refine g2 _ _ _ (by decide) (j1 _ _ ?_)
  obtain rfl : i = c.1.toNat := by omega
  rw [Nat.sub_self, eCls, List.append_nil] at he
  simp only [he] at hK
  have hql := lt_get hq
  unfold l_rules_Parse_k1
  simp -implicitDefEqProofs only [go_sem, dnW_ite, go_sem_proc, hx.lenF, List.length_map]
  refine WP_call (EBlob_ok h bs.length hb) fun v J8 hv => ?_
  obtain ⟨hbl, h8, f8⟩ := hv
  have z8 := keep z f8
  have hq8 : J8[q]? = some (.cells 0 (gmc (gmOf o.1 p.1 m.1 d.1 [] []) out nilS) false) := by rw [f8.2 q (lt_get hq) (by simp; omega)]; exact hq
  have hg8 : Grow J8 out 2 (l.map Cl.c).flatten := hg.fr f8 (fun c hc hm => by simp at hm; exact n1 (hm ▸ hc))
  have hbbl : (eBlob st bs.length).1.length ≤ 1000000 := Nat.le_trans (eBlob_len _ _) hb
  generalize eBlob st bs.length = B at *
  obtain ⟨u, hu, hu2⟩ := CParse_ok hbl hbbl
  have hout := hg8.one
  have houi := hg8.icells
  have hq0 : ¬ (q = 0) := by omega
  have hq0' : ¬ (0 = q) := by omega
  have h2t : (((2 : Nat) : Int) != 0) = true := rfl
  have h0f : (((0 : Nat) : Int) != 0) = false := rfl
  have hzz : ∀ a b, isplice (gmc (gmOf o.1 p.1 m.1 d.1 [] []) a b) 0 [IV.sc (Value.int IntKind.i64 0), IV.sc (Value.int IntKind.i64 0), IV.sc (Value.int IntKind.u32 0), IV.sc (Value.int IntKind.u32 0), nilS, nilS] = gmc Gz nilS nilS := fun a b => rfl
  have hz2 : isplice (gmc Gz nilS nilS) 0 [IV.sc (Value.int IntKind.i64 0), IV.sc (Value.int IntKind.i64 0), IV.sc (Value.int IntKind.u32 0), IV.sc (Value.int IntKind.u32 0), nilS, nilS] = gmc Gz nilS nilS := rfl
  cases hc : codeP B.1 with
  | none =>
   rw [hc] at hu2 hK
   simp only at hu2 hK
   subst hu2
   simp -implicitDefEqProofs only [go_sem, dnW_ite, go_sem_proc, dcp hu (by simp [ipureL, hbl.pure]), hq8, inb hq8, gm_s5, hq0, hq0', gm_one' _ hout (show ione nilS = true from rfl), h2t, z8, inb z8, hz2]
   exact hK [_, _] _ _ (frzP rfl) rfl
  | some cd =>
   rw [hc] at hu2
   obtain ⟨y, rfl, hy⟩ := hu2
   have hone := fun g : Gm => gm_one' g hout hy.one
   simp -implicitDefEqProofs only [go_sem, dnW_ite, go_sem_proc, dcp hu (by simp [ipureL, hbl.pure]), hq8, inb hq8, gm_s5, hq0, hq0', hone, h0f, z8, inb z8, ↓hy.icells, ↓hy.one]
   rw [hc] at hK
   simp only at hK
   have f9 := Fr.set J8 (b := q) (IB.cells 0 (gmc (gmOf o.1 p.1 m.1 d.1 [] []) out y) false) (S := [q]) (by simp)
   have hg9 := hg8.fr f9 (fun c hc hm => by simp at hm; exact n2 (hm ▸ hc))
   have h9 := h8.fr f9 (by simp; omega)
   have hq9 : (J8.setIfInBounds q (IB.cells 0 (gmc (gmOf o.1 p.1 m.1 d.1 [] []) out y) false))[q]? = some (IB.cells 0 (gmc (gmOf o.1 p.1 m.1 d.1 [] []) out y) false) := set_get _ (lt_get hq8)
   have z9 : (J8.setIfInBounds q (IB.cells 0 (gmc (gmOf o.1 p.1 m.1 d.1 [] []) out y) false))[0]? = some (.cells 0 (gmc Gz nilS nilS) false) := by rw [f9.2 0 (lt_get z8) (by simp; omega)]; exact z8
   generalize J8.setIfInBounds q (IB.cells 0 (gmc (gmOf o.1 p.1 m.1 d.1 [] []) out y) false) = J9 at *
   refine WP_call (EDone_ok h9) fun v J10 hv => ?_
   obtain ⟨rfl, rfl⟩ := hv
   cases hd : eDone B.2 with
   | false =>
    rw [hd] at hK
    simp -implicitDefEqProofs only [go_sem, dnW_ite, go_sem_proc, h2t, z9, inb z9, hz2]
    exact hK [_, _] _ _ (frzP rfl) (by rw [if_neg (by simp)]; rfl)
   | true =>
    rw [hd] at hK
    obtain ⟨uo, huo, hul⟩ := hg9.frzX (cl2 l) (by decide) (cl_pure l) (flat_one l)
    rw [cl_mk] at hul
    have hGR : GR (gmOf o.1 p.1 m.1 d.1 l cd) uo y := ⟨hul, hy⟩
    have hwf : ∀ c ∈ cd, c.wf := by
     intro c hcm
     unfold codeP at hc
     split at hc
     ·cases hc; exact eCds_wf _ _ c hcm
     ·cases hc
    have hcdl : cd.length ≤ 96 := by
     unfold codeP at hc
     split at hc
     ·cases hc; rw [eCds_len]; exact eNum_le _ _
     ·cases hc
    have hrg := gRight_ok _ uo y hGR hwf (show cd.length ≤ _ by omega)
    have hfz : ∀ k, frz J10 (k + 2) (.agg (gmc (gmOf o.1 p.1 m.1 d.1 [] []) out y)) = some (.agg (gmc (gmOf o.1 p.1 m.1 d.1 l cd) uo y)) := fun k => frz_aggL (by
     have hp := fun v (h : ipure v = true) => frz_pure J10 (k + 1) h
     simp only [gmc, List.mapM_cons, List.mapM_nil, huo, hp (.int .i64 _) rfl, hp (m32 _) rfl, hp y hy.pure]; rfl)
    have hargs : [IV.agg (gmc (gmOf o.1 p.1 m.1 d.1 [] []) out y)].mapM (frz J10 DEP) = some [.agg (gmc (gmOf o.1 p.1 m.1 d.1 l cd) uo y)] := by
     have := hfz 10
     simp only [List.mapM_cons, List.mapM_nil, show frz J10 DEP _ = _ from this]; rfl
    simp -implicitDefEqProofs only [go_sem, dnW_ite, go_sem_proc, h0f, hq9, inb hq9]
    refine WP_callS hargs hrg rfl ?_
    cases hr : (gmOf o.1 p.1 m.1 d.1 l cd).right with
    | false =>
     rw [hr] at hK
     simp -implicitDefEqProofs only [go_sem, dnW_ite, go_sem_proc, z9, inb z9, hz2]
     exact hK [_, _] _ _ (frzP rfl) (by rw [if_neg (by simp)]; rfl)
    | true =>
     rw [hr] at hK
     simp -implicitDefEqProofs only [go_sem, dnW_ite, go_sem_proc, hq9, inb hq9, z9, inb z9, hone, gm_all]
     have hg10 := hg9.fr (Fr.set J10 (b := 0) (IB.cells 0 (gmc (gmOf o.1 p.1 m.1 d.1 [] []) out y) false) (S := [0]) (by simp)) (fun c hc hm => by simp at hm; exact n0 (hm ▸ hc))
     generalize J10.setIfInBounds 0 (IB.cells 0 (gmc (gmOf o.1 p.1 m.1 d.1 [] []) out y) false) = J11 at *
     obtain ⟨uo, huo, hul⟩ := hg10.frzX (cl2 l) (by decide) (cl_pure l) (flat_one l)
     rw [cl_mk] at hul
     have hfz : frz J11 11 (.agg (gmc (gmOf o.1 p.1 m.1 d.1 [] []) out y)) = some (.agg (gmc (gmOf o.1 p.1 m.1 d.1 l cd) uo y)) := frz_aggL (by
      have hp := fun v (h : ipure v = true) => frz_pure J11 10 h
      simp only [gmc, List.mapM_cons, List.mapM_nil, huo, hp (.int .i64 _) rfl, hp (m32 _) rfl, hp y hy.pure]; rfl)
     refine hK [_, _] _ (.tup [.agg (gmc (gmOf o.1 p.1 m.1 d.1 l cd) uo y), nI 0]) ?_ (by rw [if_pos (by simp)]; exact ⟨uo, y, rfl, ⟨hul, hy⟩, hwf⟩)
     have hz : frz J11 11 (.int .i64 0) = some (nI 0) := frz_pure _ _ rfl
     exact frz_tupL (by simp only [List.mapM_cons, List.mapM_nil, hfz, hz]; rfl)
theorem eDone_iff {st : Option (List Byt)} : eDone st = true ↔ st = some [] := by simp [eDone]
theorem eCd_on {c : Cd} (h : c.wf) (r : List Byt) : eCd (some (cdB c ++ r)) = (c, some r) := by
 have e : cdB c ++ r = nB c.op :: nB c.a :: nB c.b :: nB c.c :: (leW (iW c.n) ++ (leW c.mask ++ r)) := by simp [cdB]
 rw [e]
 unfold eCd
 simp only [eByte_on, eWord_on, toNat_nB h.op, toNat_nB h.a, toNat_nB h.b, toNat_nB h.c, toInt_iW (⟨h.n0, by have := h.n1; omega⟩ : I32 c.n)]
theorem eCds_on : ∀ (l : List Cd) (r : List Byt), (∀ c ∈ l, c.wf) → eCds l.length (some (l.flatMap cdB ++ r)) = (l, some r)
 | [], r, h => rfl
 | c :: l, r, h => by
  rw [List.length_cons, eCds, List.flatMap_cons, List.append_assoc, eCd_on (h c (by simp)), eCds_on l r (fun c hc => h c (by simp [hc]))]
theorem codeP_on {l : List Cd} (h : ∀ c ∈ l, c.wf) (hl : l.length ≤ 96) : codeP (codeB l) = some l := by
 have e := eCds_on l [] h
 rw [List.append_nil] at e
 unfold codeP codeB
 rw [eNum_on _ (by omega) hl]
 simp only [e]
 rw [if_pos (by rfl)]
theorem eCd_inv {st : Option (List Byt)} {r : List Byt} (h : (eCd st).2 = some r) : st = some (cdB (eCd st).1 ++ r) := by
 unfold eCd at h ⊢
 have h6 := eWord_inv h
 have h5 := eWord_inv h6
 have h4 := eByte_inv h5
 have h3 := eByte_inv h4
 have h2 := eByte_inv h3
 have h1 := eByte_inv h2
 simp only [cdB, nB_toNat, iW_toInt]
 conv => lhs; rw [h1]
 simp
theorem eCds_inv : ∀ (k : Nat) (st : Option (List Byt)) (r : List Byt), (eCds k st).2 = some r → st = some ((eCds k st).1.flatMap cdB ++ r)
 | 0, st, r, h => h
 | k + 1, st, r, h => by
  rw [eCds] at h
  have h1 := eCds_inv k _ r h
  have h2 := eCd_inv h1
  rw [eCds, List.flatMap_cons, List.append_assoc]
  exact h2
theorem codeP_inv {bs : List Byt} {l : List Cd} (h : codeP bs = some l) : codeB l = bs ∧ l.length ≤ 96 ∧ ∀ c ∈ l, c.wf := by
 unfold codeP at h
 split at h
 ·next hd =>
  cases h
  have h1 := eCds_inv _ _ _ (eDone_iff.1 hd)
  have h2 := eNum_inv h1
  refine ⟨?_, ?_, eCds_wf _ _⟩
  ·have := h2.1
   rw [codeB, eCds_len]
   rw [List.append_nil] at this
   exact (Option.some.inj this).symm
  ·rw [eCds_len]; exact h2.2
 ·cases h
theorem eCl_on {c : Cl} (h : I32 c.v) (r : List Byt) : eCl (some (clB c ++ r)) = (c, some r) := by
 rw [clB, List.append_assoc]
 unfold eCl
 simp only [eWord_on, toInt_iW h]
theorem eCls_on : ∀ (l : List Cl) (r : List Byt), (∀ c ∈ l, I32 c.v) → eCls l.length (some (l.flatMap clB ++ r)) = (l, some r)
 | [], r, h => rfl
 | c :: l, r, h => by
  rw [List.length_cons, eCls, List.flatMap_cons, List.append_assoc, eCl_on (h c (by simp)), eCls_on l r (fun c hc => h c (by simp [hc]))]
theorem eCl_inv {st : Option (List Byt)} {r : List Byt} (h : (eCl st).2 = some r) : st = some (clB (eCl st).1 ++ r) := by
 unfold eCl at h ⊢
 have h2 := eWord_inv h
 have h1 := eWord_inv h2
 simp only [clB, iW_toInt]
 conv => lhs; rw [h1]
 simp
theorem eCls_inv : ∀ (k : Nat) (st : Option (List Byt)) (r : List Byt), (eCls k st).2 = some r → st = some ((eCls k st).1.flatMap clB ++ r)
 | 0, st, r, h => h
 | k + 1, st, r, h => by
  rw [eCls] at h
  have h1 := eCls_inv k _ r h
  have h2 := eCl_inv h1
  rw [eCls, List.flatMap_cons, List.append_assoc]
  exact h2
theorem gameP_on {g : Gm} (hr : g.right = true) (hw : ∀ c ∈ g.code, c.wf) (hv : ∀ c ∈ g.cells, I32 c.v) : gameP (gameB g) = some g := by
 obtain ⟨⟨ho0, ho1⟩, ⟨hp0, hp1⟩, hc, hd⟩ := right_fits hr
 have e : gameB g = nB g.obs.toNat :: nB g.players.toNat :: (leW g.moves ++ (leW g.dflt ++ (nB g.cells.length :: (g.cells.flatMap clB ++ (numL 9 (codeB g.code).length ++ codeB g.code ++ []))))) := by simp [gameB]
 have hh : eHead (gameB g) = ((nB g.obs.toNat, nB g.players.toNat, g.moves, g.dflt, nB g.cells.length), some (g.cells.flatMap clB ++ (numL 9 (codeB g.code).length ++ codeB g.code ++ []))) := by
  rw [e]
  unfold eHead
  simp only [eByte_on, eWord_on]
 have hlen : (codeB g.code).length ≤ (gameB g).length := by
  rw [e]; simp; omega
 have hcl : (codeB g.code).length ≤ 1200 := by
  have := numL_len 9 g.code.length
  rw [codeB, List.length_append, codeB_len]; omega
 have hml : (gameB g).length < 18446744073709551616 := by
  have h1 := numL_len 9 (codeB g.code).length
  have h2 := clB_len g.cells
  rw [e]; simp only [List.length_cons, List.length_append, leW_len, h2, List.length_nil]; omega
 have hG : gmOf (nB g.obs.toNat) (nB g.players.toNat) g.moves g.dflt g.cells g.code = g := by
  unfold gmOf
  rw [toNat_nB (by omega), toNat_nB (by omega)]
  cases g
  congr 1 <;> simp only at * <;> omega
 unfold gameP
 rw [hh]
 simp only [toNat_nB (show g.cells.length < 256 by omega), eCls_on g.cells _ hv, eBlob_on [] hlen hml, codeP_on hw hd, hG, hr]
 rw [if_pos ⟨rfl, trivial⟩]
theorem gameP_inv {bs : List Byt} {g : Gm} (h : gameP bs = some g) : gameB g = bs ∧ g.right = true ∧ (∀ c ∈ g.code, c.wf) ∧ ∀ c ∈ g.cells, I32 c.v := by
 unfold gameP at h
 split at h
 ·cases h
 ·next cd hcd =>
  split at h
  ·next hdr =>
   obtain ⟨hd, hr⟩ := hdr
   obtain ⟨c1, c2, c3⟩ := codeP_inv hcd
   have hb := eBlob_inv (eDone_iff.1 hd)
   have hcl := eCls_inv _ _ _ hb.1
   rw [← c1] at hcl
   unfold eHead at hcl hr h
   simp only at hcl hr h
   have h5 := eByte_inv hcl
   have h4 := eWord_inv h5
   have h3 := eWord_inv h4
   have h2 := eByte_inv h3
   have h1 := eByte_inv h2
   have hg := Option.some.inj h
   subst hg
   refine ⟨?_, hr, c3, ?_⟩
   ·have e := Option.some.inj h1
    conv => rhs; rw [e]
    unfold gameB gmOf
    simp only [Int.toNat_natCast, nB_toNat, eCls_len, List.append_assoc, List.cons_append, List.nil_append, List.append_nil, c1]
   ·intro c hc
    have hcls : ∀ (k : Nat) (st : Option (List Byt)), ∀ c ∈ (eCls k st).1, I32 c.v := by
     intro k
     induction k with
     | zero => intro st c hc; cases hc
     | succ k ih =>
      intro st c hc
      rcases List.mem_cons.1 hc with rfl | hc
      ·exact ⟨BitVec.le_toInt _, BitVec.toInt_lt⟩
      ·exact ih _ c hc
    exact hcls _ _ c hc
  ·cases h
def crcB (l : List Byt) : BitVec 32 := sumF crcT [l]
def tail4 (l : List Byt) : List Byt := leW (crcB l)
theorem tail4_len (l) : (tail4 l).length = 4 := rfl
theorem tail_ok {x : IV} {l : List Byt} (hx : Ls 1 x (l.map by8)) (hb : l.length ≤ 9223372036854775807) : pc BI F_wax_Table_tail [.agg (tabL crcT), x] = some (.agg ((tail4 l).map by8)) := by
 refine pcE fn_wax_Table_tail rfl fun K hK => ?_
 unfold l_wax_Table_tail
 have hp : LsR 1 (fun e p => Ls 1 e (p.map by8)) (.lst 1 true [x]) [l] := ⟨[x], .lst, rfl, fun i h h' => by
  have : i = 0 := by simpa using h
  subst this; exact hx⟩
 have hS := Sum_ok crcT (.lst 1 true [x]) [l] hp (by simp) (by simpa using hb)
 have hxp := hx.pure
 have hxi := hx.icells
 have hxo := hx.one
 simp -implicitDefEqProofs only [go_sem, dnW_ite, go_sem_proc, tabL_len, tabL_one, tabL_take, ipureL, ipure, grp, mkE, List.headD, hxp, ↓hxi, ↓hxo, dcp hS (by simp [ipureL, ipure, tabL_pure])]
 exact hK _ _ (frzE rfl (by simp only [itup, tail4, leW4, crcB, List.map_cons, List.map_nil]))
theorem by8_eq : ∀ (a b : List Byt), a.length = b.length → iaggEq (a.map by8) (b.map by8) = some (decide (a = b))
 | [], [], _ => rfl
 | [], _ :: _, h => by simp at h
 | _ :: _, [], h => by simp at h
 | x :: a, y :: b, h => by
  simp only [List.map_cons, iaggEq, if_true]
  rw [by8_eq a b (by simpa using h)]
  simp only [beqB, Option.some.injEq, List.cons.injEq]
  by_cases h1 : x = y <;> by_cases h2 : a = b <;> simp [h1, h2]
theorem bCloneR {x : IV} {l : List Byt} (hx : Ls 1 x (l.map by8)) (hb : l.length ≤ 1000000) (J : JH) : RP (ic BI F_bytes_Clone [x] J) fun s J' => Fr J J' [] ∧ ((l = [] ∧ s = .lst 1 true []) ∨ (Grow J' s 1 (l.map by8) ∧ ∀ q ∈ blk s, J.size ≤ q)) := by
 rcases hx with ⟨rfl, h0⟩ | ⟨f, rfl⟩
 ·rw [bClone_nil]
  have : l = [] := by simpa using h0
  subst this
  exact ⟨.refl _ _, .inr ⟨.nil, by simp [blk, blkOf]⟩⟩
 ·by_cases hl : l = []
  ·subst hl
   rw [show (List.map by8 [] : List IV) = [] from rfl, bClone_0]
   exact ⟨.refl _ _, .inl ⟨rfl, rfl⟩⟩
  ·have hc := bClone_ok f (l.map fun b => (b.toNat : Int)) (by simpa using hl) (by simpa using hb) J
   rw [← pmap_by8] at hc
   rw [hc]
   refine ⟨Fr.push _ _ _, .inr ⟨.inr ⟨J.size, 0, l.length, l.map by8, by simp, push_get _ _, by simp, by rw [List.take_of_length_le (by simp)], by rw [List.drop_of_length_le (by simp)]; rfl⟩, by simp [blk, blkOf]⟩⟩
theorem app_lst0 {J : JH} {y : IV} {by' m : Nat} {ds : List IV} (hy : iscells J 1 y = some ds) (hm : ilen y = some m) (hd : ds.length = m) (ho : ds.all ione = true) (hf : fits m by' = true) (h0 : m ≠ 0) : RP (appF 1 by' (.lst 1 true []) y J) fun s J' => Grow J' s 1 ds ∧ Fr J J' [] ∧ ∀ q ∈ blk s, J.size ≤ q := by
 simp only [appF, Nat.zero_lt_one, if_true, iappend, hy, hm, if_neg h0, List.length_nil, Nat.zero_add, beq_self_eq_true, Bool.true_and, hf, ho, Bool.and_self, List.flatMap_nil, List.nil_append, RP]
 exact ⟨.inr ⟨J.size, 0, m, ds, rfl, push_get _ _, by omega, by rw [List.take_of_length_le (by omega)], by rw [List.drop_of_length_le (by omega)]; rfl⟩, Fr.push _ _ _, by simp [blk, blkOf]⟩
theorem Seal_ok {x : IV} {l : List Byt} (hx : Ls 1 x (l.map by8)) (hb : l.length ≤ 900000) : ∃ u, pc BI F_wax_Table_Seal [.agg (tabL crcT), x] = some u ∧ Ls 1 u ((l ++ tail4 l).map by8) := by
 refine pcW fn_wax_Table_Seal rfl fun K hK => ?_
 unfold l_wax_Table_Seal
 have hT := tail_ok hx (by omega)
 have ho : (List.map by8 (tail4 l)).all ione = true := by8_one
 have h4 : (List.map by8 (tail4 l)).length = 4 := rfl
 have h4t : (List.map by8 (tail4 l)).take 4 = List.map by8 (tail4 l) := rfl
 have hs0 : isplice [IV.sc (.int .u8 0), IV.sc (.int .u8 0), IV.sc (.int .u8 0), IV.sc (.int .u8 0)] 0 (List.map by8 (tail4 l)) = List.map by8 (tail4 l) := rfl
 generalize hG : List.map by8 (tail4 l) = T at *
 simp -implicitDefEqProofs only [go_sem, dnW_ite, go_sem_proc, tabL_len, tabL_one, tabL_take, dcp hT (by simp [ipureL, ipure, tabL_pure, hx.pure]), ho, h4, hs0, islice, ibnd, capOf, lt_UNK]
 refine WP_call (bCloneR hx (by omega) _) fun s J1 hv => ?_
 obtain ⟨f1, hs⟩ := hv
 have h1 : J1[1]? = some (.cells 0 T false) := by rw [f1.2 1 (by simp) (by simp)]; rfl
 have hcl : iscells J1 1 (.sl 1 0 0 4 4 1) = some T := by
  simp only [iscells, ird, h1, true_and, Nat.zero_add, List.drop_zero, Nat.mul_one, h4, Nat.le_refl, if_true, h4t]
 have hil : ilen (.sl 1 0 0 4 4 1) = some 4 := rfl
 have fin : ∀ s2 J2, Grow J2 s2 1 ((l ++ tail4 l).map by8) → WP (dn BI (L.ret [Operand.tmp 9]) ([IV.agg (tabL crcT), x, .ptr 0 0 0, .agg (tabL crcT), .agg T, .ptr 1 0 0, .tup [], .sl 1 0 0 4 4 1, s] ++ [s2]) J2) K := by
  intro s2 J2 hg
  simp -implicitDefEqProofs only [go_sem, dnW_ite, go_sem_proc]
  obtain ⟨u, hu, hul⟩ := hg.frzE1 by8_pure by8_one
  exact hK _ _ u (hu 11) hul
 simp -implicitDefEqProofs only [go_sem, dnW_ite, go_sem_proc]
 rcases hs with ⟨rfl, rfl⟩ | ⟨hg, hlo⟩
 ·refine WP_bind (app_lst0 hcl hil h4 ho (fits1 (by omega)) (by omega)) fun s2 J2 hv => ?_
  have := hv.1
  rw [← hG] at this
  exact fin s2 J2 this
 ·refine WP_bind (hg.app (m := 4) (ds := T) (by omega) hcl hil (by omega) ho (fits1 (by simp; omega))) fun s2 J2 hv => ?_
  have := hv.1
  rw [← hG, ← List.map_append] at this
  exact fin s2 J2 this
theorem Open_ok {x : IV} {l : List Byt} (hx : Ls 1 x (l.map by8)) (hb : l.length ≤ 900000) : ∃ u, pc BI F_wax_Table_Open [.agg (tabL crcT), x] = some u ∧
  if l.length < 4 then u = .tup [.sc (.slice none 0 0), nI 2] else if l.drop (l.length - 4) = tail4 (l.take (l.length - 4)) then ∃ y, u = .tup [y, nI 0] ∧ Ls 1 y ((l.take (l.length - 4)).map by8) else u = .tup [.sc (.slice none 0 0), nI 5] := by
 refine pcW fn_wax_Table_Open rfl fun K hK => ?_
 unfold l_wax_Table_Open
 have hw : IntKind.i64.wrap ((l.length : Int) - 4) = (l.length : Int) - 4 := wrap_i64 (by omega) (by omega)
 by_cases h4 : l.length < 4
 ·simp -implicitDefEqProofs only [go_sem, dnW_ite, go_sem_proc, tabL_len, tabL_one, tabL_take, hx.lenF, List.length_map, hw, show (l.length : Int) - 4 < 0 by omega]
  exact hK _ _ _ (frzE rfl rfl) (by rw [if_pos h4]; rfl)
 ·obtain ⟨k, hk⟩ : ∃ k, l.length = k + 4 := ⟨l.length - 4, by omega⟩
  have hw2 : (l.length : Int) - 4 = (k : Int) := by omega
  replace hw := hw.trans hw2
  obtain ⟨y, hy, hyl⟩ := hx.sliceLo (l := k) (by simp; omega)
  obtain ⟨z, hz, hzl⟩ := hx.slice (h := k) (by simp; omega)
  rw [← List.map_drop] at hyl
  rw [← List.map_take] at hzl
  have hT := tail_ok hzl (by simp; omega)
  obtain ⟨f, rfl⟩ := hyl.ne (by intro e; have := congrArg List.length e; simp at this; omega)
  have ho : (List.map by8 (l.drop k)).all ione = true := by8_one
  have hp : ipureL (List.map by8 (l.drop k)) = true := by8_pure
  have h5 : (List.map by8 (l.drop k)).take 4 = List.map by8 (l.drop k) := List.take_of_length_le (by simp; omega)
  have h6 : (List.map by8 (l.drop k)).length = 4 := by simp; omega
  have hq := by8_eq (l.drop k) (tail4 (l.take k)) (by simp [tail4_len]; omega)
  have h7 : (List.map by8 (tail4 (l.take k))).length = 4 := rfl
  have e1 : l.length - 4 = k := by omega
  simp only [e1] at hK
  simp -implicitDefEqProofs only [go_sem, dnW_ite, go_sem_proc, tabL_len, tabL_one, tabL_take, hx.lenF, List.length_map, hw, show ¬ ((k : Int) < 0) by omega, hy, hz, is2ap, ho, hp, h5, h6, h7, hq, dcp hT (by simp [ipureL, ipure, tabL_pure, hzl.pure])]
  simp only [if_neg h4] at hK
  by_cases heq : l.drop k = tail4 (l.take k)
  ·rw [if_neg (by simp [heq])]
   obtain ⟨w, hw1, hw2⟩ := bClone8 hzl (by simp; omega)
   simp -implicitDefEqProofs only [go_sem, dnW_ite, go_sem_proc, dcp hw1 (by simp [ipureL, hzl.pure])]
   refine hK _ _ _ (frzE (by simp [itup, ipure, ipureL, hw2.pure]) rfl) ?_
   rw [if_pos heq]; exact ⟨w, rfl, hw2⟩
  ·rw [if_pos (by simp [heq])]
   exact hK _ _ _ (frzE rfl rfl) (by rw [if_neg heq]; rfl)
def Gm.preM (g : Gm) (o : Int) (m : BitVec 32) : List (BitVec 32) := if 0 ≤ o then (List.replicate g.players.toNat g.dflt).set o.toNat m else List.replicate g.players.toNat g.dflt
def Gm.pre (g : Gm) (b : Bd) (d t : Int) (o : Int) (m : BitVec 32) (q : IV) : Rs := runF (g.env (g.preM o m) t q) g.code b d
set_option maxHeartbeats 1000000
set_option maxHeartbeats 1000000
theorem bit_get {i : Int} (h0 : 0 ≤ i) (h : i < 64) (j : Nat) : (bit i).getLsbD j = decide (j = i.toNat) := by
 unfold bit
 rw [BitVec.getLsbD_shiftLeft]
 by_cases e : j = i.toNat
 ·subst e
  simp; omega
 ·by_cases hlt : j < i.toNat
  ·simp [hlt, e]
  ·have : j - i.toNat ≠ 0 := by omega
   simp [e, BitVec.getLsbD_one, this]
theorem within_self (m : BitVec 32) : within m m = true := by
 unfold within
 rw [beq_iff_eq]
 apply BitVec.eq_of_getLsbD_eq
 intro i hi
 simp
theorem within_or (m n : BitVec 32) : within m (m ||| n) = true := by
 unfold within
 rw [beq_iff_eq]
 apply BitVec.eq_of_getLsbD_eq
 intro i hi
 simp only [BitVec.getLsbD_and, BitVec.getLsbD_not, BitVec.getLsbD_or, BitVec.getLsbD_zero]
 cases m.getLsbD i <;> simp
theorem within_iff {m n : BitVec 32} : within m n = true ↔ ∀ i, m.getLsbD i = true → n.getLsbD i = true := by
 unfold within
 rw [beq_iff_eq]
 constructor
 ·intro h i hi
  have := congrArg (fun z => BitVec.getLsbD z i) h
  simp only [BitVec.getLsbD_and, BitVec.getLsbD_not, BitVec.getLsbD_zero, hi, Bool.true_and] at this
  have hlt : i < 32 := BitVec.lt_of_getLsbD hi
  simpa [hlt] using this
 ·intro h
  apply BitVec.eq_of_getLsbD_eq
  intro i hi
  simp only [BitVec.getLsbD_and, BitVec.getLsbD_not, BitVec.getLsbD_zero]
  cases hm : m.getLsbD i with
  | false => simp
  | true => simp [h i hm]
theorem within_trans {a b c : BitVec 32} (h : within a b = true) (k : within b c = true) : within a c = true := by
 rw [within_iff] at *
 exact fun i hi => k i (h i hi)
structure KP (b : Bd) (ns : Bool) (m : Mc) : Prop where
 len : m.bd.l.length = b.l.length
 kept : ∀ i, m.touched.getLsbD i = false → m.bd.l[i]? = b.l[i]?
 high : ∀ i, b.l.length ≤ i → m.touched.getLsbD i = false
 lab : ns = true → ∀ (i : Nat) (c : Cl), b.l[i]? = some c → ∃ c' : Cl, m.bd.l[i]? = some c' ∧ c'.v = c.v ∧ within c.s c'.s = true
variable {b : Bd} {ns : Bool} {m : Mc} {E : Me}
theorem KP.set (h : KP b ns m) {i : Int} (hi : m.bd.there i = true) (c : Cl) (bd : Bd) (hb : bd.l = m.bd.l.set i.toNat c) (hc : ns = true → c.v = (m.bd.at i).v ∧ within (m.bd.at i).s c.s = true) : KP b ns { m with bd := bd, touched := m.touched ||| bit i } := by
 have hbl := b.h
 have hlen := h.len
 obtain ⟨h0, h1⟩ : 0 ≤ i ∧ i < (m.bd.l.length : Int) := by simpa [Bd.there] using hi
 refine ⟨by rw [hb, List.length_set]; exact h.len, fun j hj => ?_, fun j hj => ?_, fun hn j d hd => ?_⟩
 ·simp only [BitVec.getLsbD_or, bit_get h0 (by omega), Bool.or_eq_false_iff, decide_eq_false_iff_not] at hj
  rw [hb, List.getElem?_set_ne (fun e => hj.2 e.symm)]
  exact h.kept j hj.1
 ·simp only [BitVec.getLsbD_or, bit_get h0 (by omega), Bool.or_eq_false_iff, decide_eq_false_iff_not]
  exact ⟨h.high j hj, by omega⟩
 ·obtain ⟨c', k1, k2, k3⟩ := h.lab hn j d hd
  rw [hb]
  by_cases e : i.toNat = j
  ·subst e
   have hlt : i.toNat < m.bd.l.length := by omega
   refine ⟨c, by simp [hlt], ?_⟩
   obtain ⟨c1, c2⟩ := hc hn
   have ea : m.bd.at i = c' := by simp [Bd.at, List.getD_eq_getElem?_getD, k1]
   rw [ea] at c1 c2
   exact ⟨c1.trans k2, within_trans k3 c2⟩
  ·rw [List.getElem?_set_ne e]
   exact ⟨c', k1, k2, k3⟩
theorem KP.same (h : KP b ns m) {m' : Mc} (h1 : m'.bd = m.bd) (h2 : m'.touched = m.touched) : KP b ns m' := ⟨by rw [h1]; exact h.len, by rw [h1, h2]; exact h.kept, by rw [h2]; exact h.high, by rw [h1]; exact h.lab⟩
theorem KP.put (h : KP b false m) {i : Int} (hi : m.bd.there i = true) (c : Cl) : KP b false { m with bd := m.bd.put i c, touched := m.touched ||| bit i } :=
 h.set hi c _ (by rw [Bd.put, if_pos hi]; rfl) (fun e => by cases e)
theorem KP.show (h : KP b ns m) {i : Int} (hi : m.bd.there i = true) (to : BitVec 32) : KP b ns { m with bd := m.bd.show i to, touched := m.touched ||| bit i } :=
 h.set hi ⟨(m.bd.at i).v, (m.bd.at i).s ||| to⟩ _ (by rw [Bd.show, if_pos hi]; rfl) (fun _ => ⟨rfl, within_or _ _⟩)
theorem KP.fill {start : Nat} {out : List Int} : ∀ (k : Nat) (m : Mc), KP b false m → start + k ≤ m.bd.l.length → KP b false (fillN m start out k)
 | 0, m, h, _ => h
 | k + 1, m, h, hk => by
  have ih := KP.fill (start := start) (out := out) k m h (by omega)
  have hl := fillN_len m start out k
  exact ih.put (by simp only [Bd.there, hl, decide_eq_true_eq]; omega) _
def isStore (x : Cd) : Bool := x.op == 3 || x.op == 5 || x.op == 24
theorem KP.reach (h : KP b ns m) (x : Cd) {size : Nat} (hr : x.right size m.bd.l.length E.moves.length = true) (hn : ns = true → isStore x = false) : KP b ns (reachF E m x) := by
 have hf : isStore x = true → ns = false := fun e => by cases ns with | false => rfl | true => rw [hn rfl] at e; cases e
 unfold reachF
 split
 ·split
  ·exact h.same rfl rfl
  ·exact h.same rfl rfl
 ·rename_i hop
  obtain rfl := hf (by simp [isStore, hop])
  split
  ·rename_i hnm
   exact h.put (named_ok hnm).1 _
  ·exact h.same rfl rfl
 ·unfold revealF
  split
  ·exact h.same rfl rfl
  ·rename_i hnm
   have := h.show (named_ok (by simpa using hnm)).1 (Sh.one m x E.all (named E m x).1)
   exact this.same rfl rfl
 ·rename_i hop
  obtain rfl := hf (by simp [isStore, hop])
  simp [Cd.right, hop, useOf] at hr
  have h' : KP b false { m with dice := (shufL m.dice (x.c - 1) (rowV m x.n.toNat x.c)).2 } := h.same rfl rfl
  exact KP.fill x.c _ h' (by show x.n.toNat + x.c ≤ m.bd.l.length; omega)
 ·exact h
theorem KP.follow (h : KP b ns m) (x : Cd) {size : Nat} (hr : x.right size m.bd.l.length E.moves.length = true) (hn : ns = true → isStore x = false) : KP b ns (followF E m x) := by
 have hg : KP b ns m.go := h.same rfl rfl
 have hf : isStore x = true → ns = false := fun e => by cases ns with | false => rfl | true => rw [hn rfl] at e; cases e
 unfold followF
 simp only
 split
 all_goals first
  | exact hg.same rfl rfl
  | exact hg.reach x hr hn
  | skip
 ·rename_i hop
  obtain rfl := hf (by simp [isStore, hop])
  simp [Cd.right, hop, useOf, nOk] at hr
  exact hg.put (decide_eq_true hr.1.1.1.1) _
 ·split
  ·split
   ·exact hg.same rfl rfl
   ·exact hg
  ·exact hg.same rfl rfl
theorem KP.loop (l : List Cd) (hr : ∀ x ∈ l, x.right l.length b.l.length E.moves.length = true) (hn : ns = true → ∀ x ∈ l, isStore x = false) : ∀ (k : Nat) (m : Mc), KP b ns m → KP b ns (loopF E l k m)
 | 0, m, h => by
  rw [loopF]; split
  ·exact h.same rfl rfl
  ·exact h
 | k + 1, m, h => by
  rw [loopF]
  split
  ·rename_i hc
   have hm := List.getElem_mem hc.2
   have e : l.getD m.pc ⟨0, 0, 0, 0, 0, 0⟩ = l[m.pc] := by simp [hc.2]
   rw [e]
   split
   ·exact h.same rfl rfl
   ·have h' : KP b ns { m with used := m.used + 1 } := h.same rfl rfl
    exact KP.loop l hr hn k _ (h'.follow l[m.pc] (by show l[m.pc].right l.length m.bd.l.length _ = true; rw [h.len]; exact hr _ hm) (fun e => hn e _ hm))
  ·exact h
theorem KP.start (d : Int) : KP b ns (Go.Proofs.YticfcmaigffhmaaGreat.G.start E b d) := ⟨rfl, fun _ _ => rfl, fun _ _ => by simp [Go.Proofs.YticfcmaigffhmaaGreat.G.start], fun _ i c h => ⟨c, h, rfl, within_self _⟩⟩
theorem loop_used (l : List Cd) (hr : ∀ x ∈ l, x.right l.length b.l.length E.moves.length = true) (hE : E.ok) (hw : ∀ x ∈ l, x.wf) : ∀ (k : Nat) (m : Mc), m.ok b.l.length l.length → (loopF E l k m).used ≤ m.used + k
 | 0, m, h => by
  rw [loopF]; split
  ·exact Nat.le_refl _
  ·exact Nat.le_refl _
 | k + 1, m, h => by
  rw [loopF]
  split
  ·rename_i hc
   have hm := List.getElem_mem hc.2
   have e : l.getD m.pc ⟨0, 0, 0, 0, 0, 0⟩ = l[m.pc] := by simp [hc.2]
   rw [e]
   split
   ·show m.used + 1 ≤ _; omega
   ·have hok' : ({ m with used := m.used + 1 } : Mc).ok b.l.length l.length := ⟨h.r, h.bd, h.len, h.pc⟩
    have hnice := followF_nice hE hok' hc.2 l[m.pc] (hw _ hm) (hr _ hm)
    have := loop_used l hr hE hw k _ hnice.ok
    rw [hnice.used] at this
    have e2 : ({ m with used := m.used + 1 } : Mc).used = m.used + 1 := rfl
    omega
  ·omega
end Go.Proofs.YticfcmaigffhmaaGreat.G
namespace Go.Proofs.YticfcmaigffhmaaGreat.G
open Go
theorem keeps_run {E : Me} (hE : E.ok) (l : List Cd) (hw : ∀ x ∈ l, x.wf) (b : Bd) (hb : b.ok) (d : Int) (ns : Bool) (hn : ns = true → ∀ x ∈ l, isStore x = false) :
  ((runF E l b d).err ≠ 0 → (runF E l b d).bd = b ∧ (runF E l b d).dice = d ∧ (runF E l b d).touched = 0#64 ∧ (runF E l b d).used ≤ 400) ∧
  ((runF E l b d).err = 0 → ∃ m : Mc, KP b ns m ∧ (runF E l b d).bd = m.bd ∧ (runF E l b d).touched = m.touched) := by
 unfold runF
 split
 ·exact ⟨fun _ => ⟨rfl, rfl, rfl, Nat.zero_le _⟩, fun h => by cases h⟩
 ·rename_i hR
  have hall : l.length ≤ 96 ∧ ∀ x ∈ l, x.right l.length b.l.length E.moves.length = true := by
   simpa [rightL] using hR
  have hst : (start E b d).ok b.l.length l.length := ⟨fun i hi => by
   have : ((start E b d).r.at i).v = 0 := by
    show ((regs0 E.all).at i).v = 0
    rw [rg_at _ hi]; simp only [regs0, List.getElem_replicate]
   rw [this]; exact I32_0, hb, rfl, Nat.zero_le _⟩
  split
  ·refine ⟨fun _ => ⟨rfl, rfl, rfl, ?_⟩, fun h => absurd h (by assumption)⟩
   have := loop_used l hall.2 hE hw 400 (start E b d) hst
   have e : (start E b d).used = 0 := rfl
   show (loopF E l 400 (start E b d)).used ≤ 400
   omega
  ·exact ⟨fun h => absurd rfl h, fun _ => ⟨loopF E l 400 (start E b d), KP.loop l hall.2 hn 400 _ (KP.start d), rfl, rfl⟩⟩
theorem push_set1 {α : Type} (J : Array α) (A X Y : α) : ((J.push A).push X).setIfInBounds (J.size + 1) Y = (J.push A).push Y := by
 have := push_set (J.push A) X Y
 rwa [Array.size_push] at this
attribute [go_sem] push_set1
set_option maxHeartbeats 1000000
def CE (P : BitVec 32 → Bool) (a b : Cl) : Prop := a.s = b.s ∧ (P a.s = true → a.v = b.v)
theorem CE.refl (P) (a : Cl) : CE P a a := ⟨rfl, fun _ => rfl⟩
def BE (P : BitVec 32 → Bool) (a b : Bd) : Prop := a.l.length = b.l.length ∧ ∀ i : Int, CE P (a.at i) (b.at i)
def SE (a b : List Sh) : Prop := a.map (fun s => (s.cell, s.to)) = b.map (fun s => (s.cell, s.to))
structure ME (P : BitVec 32 → Bool) (m n : Mc) : Prop where
 bd : BE P m.bd n.bd
 touched : m.touched = n.touched
 shows : SE m.shows n.shows
 used : m.used = n.used
 err : m.err = n.err
 r : ∀ i, i < 8 → CE P (m.r.at i) (n.r.at i)
 pc : m.pc = n.pc
structure PO (P : BitVec 32 → Bool) (all : BitVec 32) : Prop where
 all : ∀ s, within all s = true → P s = true
 meet : ∀ a b, P (a &&& b) = true → P a = true ∧ P b = true
 zero : P 0#32 = false
structure EE (P : BitVec 32 → Bool) (E F : Me) : Prop where
 all : E.all = F.all
 tick : E.tick = F.tick
 moves : ∀ i : Int, P (oneM i) = true → E.moves.getD i.toNat 0 = F.moves.getD i.toNat 0
variable {P : BitVec 32 → Bool} {E F : Me} {m n : Mc}
theorem BE.there {a b : Bd} (h : BE P a b) (i : Int) : a.there i = b.there i := by simp only [Bd.there, h.1]
theorem Bd.at_set (b : Bd) {i : Nat} (hi : i < b.l.length) (c : Cl) (j : Int) : (b.set i c).at j = if j.toNat = i then c else b.at j := by
 simp only [Bd.at, Bd.set, List.getD_eq_getElem?_getD, List.getElem?_set]
 by_cases h : i = j.toNat
 ·subst h; simp [hi]
 ·simp [h, Ne.symm h]
theorem BE.put {a b : Bd} (h : BE P a b) (i : Int) {c d : Cl} (hc : CE P c d) : BE P (a.put i c) (b.put i d) := by
 refine ⟨by rw [put_len, put_len]; exact h.1, fun j => ?_⟩
 unfold Bd.put
 rw [h.there i]
 by_cases ht : b.there i = true
 ·have h1 : i.toNat < b.l.length := by simp [Bd.there] at ht; omega
  rw [if_pos ht, if_pos ht, Bd.at_set _ (by rw [h.1]; exact h1), Bd.at_set _ h1]
  split
  ·exact hc
  ·exact h.2 j
 ·rw [if_neg ht, if_neg ht]; exact h.2 j
theorem BE.show {a b : Bd} (h : BE P a b) (i : Int) {to : BitVec 32} (hc : P ((a.at i).s ||| to) = true → (a.at i).v = (b.at i).v) : BE P (a.show i to) (b.show i to) := by
 refine ⟨by rw [show_len, show_len]; exact h.1, fun j => ?_⟩
 unfold Bd.show
 rw [h.there i]
 by_cases ht : b.there i = true
 ·have h1 : i.toNat < b.l.length := by simp [Bd.there] at ht; omega
  rw [if_pos ht, if_pos ht, Bd.at_set _ (by rw [h.1]; exact h1), Bd.at_set _ h1]
  split
  ·exact ⟨by show _ ||| to = _ ||| to; rw [(h.2 i).1], hc⟩
  ·exact h.2 j
 ·rw [if_neg ht, if_neg ht]; exact h.2 j
theorem Rset {r q : Rg} (h : ∀ i, i < 8 → CE P (r.at i) (q.at i)) {k : Nat} (hk : k < 8) {c d : Cl} (hc : CE P c d) : ∀ i, i < 8 → CE P ((r.set k c).at i) ((q.set k d).at i) := by
 intro i hi
 rw [Rg.at_set _ _ _ hk, Rg.at_set _ _ _ hk]
 split
 ·exact hc
 ·exact h i hi
theorem named_eq (hP : PO P E.all) (hE : EE P E F) (h : ME P m n) (x : Cd) (hb : x.b < 8) : named E m x = named F n x := by
 have hr := h.r x.b hb
 unfold named
 rw [← hE.all, ← hr.1, ← h.bd.1]
 by_cases hw : within E.all (m.r.at x.b).s = false
 ·rw [if_pos hw, if_pos hw]
 ·rw [if_neg hw, if_neg hw, ← hr.2 (hP.all _ (by simpa using hw))]
theorem ME.setR (h : ME P m n) {k : Nat} (hk : k < 8) {c d : Cl} (hc : CE P c d) : ME P { m with r := m.r.set k c } { n with r := n.r.set k d } := ⟨h.bd, h.touched, h.shows, h.used, h.err, Rset h.r hk hc, h.pc⟩
theorem ME.put (h : ME P m n) (i : Int) {c d : Cl} (hc : CE P c d) : ME P { m with bd := m.bd.put i c, touched := m.touched ||| bit i } { n with bd := n.bd.put i d, touched := n.touched ||| bit i } := ⟨h.bd.put i hc, by show _ ||| _ = _ ||| _; rw [h.touched], h.shows, h.used, h.err, h.r, h.pc⟩
theorem CE.z (hz : P 0#32 = false) (a b : Int) : CE P ⟨a, 0#32⟩ ⟨b, 0#32⟩ := ⟨rfl, fun h => by rw [hz] at h; cases h⟩
theorem ME.fill (hz : P 0#32 = false) (start : Nat) (o1 o2 : List Int) : ∀ (k : Nat) (m n : Mc), ME P m n → ME P (fillN m start o1 k) (fillN n start o2 k)
 | 0, m, n, h => h
 | k + 1, m, n, h => (ME.fill hz start o1 o2 k m n h).put _ (CE.z hz _ _)
theorem ME.errs (h : ME P m n) (e : Nat) : ME P { m with err := e } { n with err := e } := ⟨h.bd, h.touched, h.shows, h.used, rfl, h.r, h.pc⟩
theorem SE.app {a b c d : List Sh} (h : SE a b) (k : SE c d) : SE (a ++ c) (b ++ d) := by
 unfold SE at *
 rw [List.map_append, List.map_append, h, k]
def Tell (P : BitVec 32 → Bool) (a b : List Sh) : Prop := ∀ (i : Nat) (s t : Sh), a[i]? = some s → b[i]? = some t → P s.to = true → s.v = t.v
def Join' (P : BitVec 32 → Bool) : Prop := ∀ s t, P (s ||| t) = true → P s = true ∨ P t = true
theorem ME.reveal (hP : PO P E.all) (hE : EE P E F) (h : ME P m n) (x : Cd) (hb : x.b < 8) (hj : Join' P) (ht : Tell P (revealF E m x).shows (revealF F n x).shows) : ME P (revealF E m x) (revealF F n x) := by
 have hn := named_eq hP hE h x hb
 unfold revealF at ht ⊢
 rw [← hn] at ht ⊢
 by_cases hk : (named E m x).2.1 = false
 ·rw [if_pos hk, if_pos hk]; exact h.errs _
 ·rw [if_neg hk, if_neg hk] at ht ⊢
  have hc := h.bd.2 (named E m x).1
  have ho : Sh.one n x F.all (named E m x).1 = Sh.one m x E.all (named E m x).1 := by unfold Sh.one; rw [← hE.all, ← hc.1]
  rw [ho] at ht ⊢
  have hlen : m.shows.length = n.shows.length := by have := congrArg List.length h.shows; simpa using this
  have hv : P (Sh.one m x E.all (named E m x).1) = true → (m.bd.at (named E m x).1).v = (n.bd.at (named E m x).1).v := fun hp => by
   have hz : Sh.one m x E.all (named E m x).1 ≠ 0#32 := fun e => by rw [e, hP.zero] at hp; cases hp
   simp only [if_neg hz] at ht
   have := ht m.shows.length ⟨(named E m x).1, Sh.one m x E.all (named E m x).1, (m.bd.at (named E m x).1).v⟩ ⟨(named E m x).1, Sh.one m x E.all (named E m x).1, (n.bd.at (named E m x).1).v⟩ (by simp) (by rw [hlen]; simp) hp
   exact this
  refine ⟨h.bd.show _ fun hp => ?_, by show _ ||| _ = _ ||| _; rw [h.touched], SE.app h.shows ?_, h.used, rfl, h.r, h.pc⟩
  ·rcases hj _ _ hp with hp | hp
   ·exact hc.2 hp
   ·exact hv hp
  ·by_cases hz : Sh.one m x E.all (named E m x).1 = 0#32
   ·rw [if_pos hz, if_pos hz]; rfl
   ·rw [if_neg hz, if_neg hz]; rfl
theorem ME.reach (hP : PO P E.all) (hE : EE P E F) (h : ME P m n) (x : Cd) (ha : x.a < 8) (hb : x.b < 8) (hj : x.op = 22 → Join' P) (ht : Tell P (reachF E m x).shows (reachF F n x).shows) : ME P (reachF E m x) (reachF F n x) := by
 have hn := named_eq hP hE h x hb
 unfold reachF at ht ⊢
 split
 ·rw [← hn]
  split
  ·exact h.setR ha (h.bd.2 _)
  ·exact h.errs _
 ·rw [← hn]
  split
  ·exact h.put _ (h.r _ ha)
  ·exact h.errs _
 ·rename_i hop
  simp only [hop] at ht
  exact ME.reveal hP hE h x hb (hj hop) ht
 ·have hd : ME P { m with dice := (shufL m.dice (x.c - 1) (rowV m x.n.toNat x.c)).2 } { n with dice := (shufL n.dice (x.c - 1) (rowV n x.n.toNat x.c)).2 } := ⟨h.bd, h.touched, h.shows, h.used, h.err, h.r, h.pc⟩
  exact ME.fill hP.zero _ _ _ _ _ _ hd
 ·exact h
theorem CE.meet (hP : PO P E.all) {a b c d : Cl} (h : CE P a b) (k : CE P c d) (f : Int → Int → Int) : CE P ⟨f a.v c.v, a.s &&& c.s⟩ ⟨f b.v d.v, b.s &&& d.s⟩ := by
 refine ⟨by show a.s &&& c.s = b.s &&& d.s; rw [h.1, k.1], fun hp => ?_⟩
 obtain ⟨h1, h2⟩ := hP.meet _ _ hp
 show f a.v c.v = f b.v d.v
 rw [h.2 h1, k.2 h2]
theorem ME.follow (hP : PO P E.all) (hE : EE P E F) (h : ME P m n) (x : Cd) (ha : x.a < 8) (hb : x.b < 8) (hj : x.op = 22 → Join' P) (ht : Tell P (followF E m x).shows (followF F n x).shows) : ME P (followF E m x) (followF F n x) := by
 have hg : ME P m.go n.go := ⟨h.bd, h.touched, h.shows, h.used, h.err, h.r, by show m.pc + 1 = n.pc + 1; rw [h.pc]⟩
 have hc8 : x.c % 8 < 8 := by omega
 unfold followF at ht ⊢
 simp only at ht ⊢
 split
 ·exact hg.setR ha (by rw [hE.all]; exact CE.refl _ _)
 ·exact hg.setR ha (hg.bd.2 _)
 ·exact hg.put _ (hg.r _ ha)
 ·refine hg.setR ha ⟨?_, fun hp => ?_⟩
  ·show _ &&& _ &&& _ = _ &&& _ &&& _
   rw [(hg.r _ ha).1, (hg.r _ hb).1, (hg.r _ hc8).1]
  ·obtain ⟨h1, h2⟩ := hP.meet _ _ hp
   obtain ⟨h3, h4⟩ := hP.meet _ _ h1
   show (if _ then _ else _) = (if _ then _ else _)
   rw [(hg.r _ ha).2 h3, (hg.r _ hb).2 h4, (hg.r _ hc8).2 h2]
 ·rw [← hE.all, ← (hg.r _ ha).1]
  by_cases hw : within E.all (m.go.r.at x.a).s = true
  ·rw [if_pos hw, if_pos hw, ← (hg.r _ ha).2 (hP.all _ hw)]
   split
   ·exact ⟨hg.bd, hg.touched, hg.shows, hg.used, hg.err, hg.r, rfl⟩
   ·exact hg
  ·rw [if_neg hw, if_neg hw]; exact hg.errs _
 ·exact ⟨hg.bd, hg.touched, hg.shows, hg.used, hg.err, hg.r, rfl⟩
 ·exact hg.setR ha ⟨rfl, fun hp => hE.moves _ hp⟩
 ·have := hg.setR ha (CE.z hP.zero (below m.go.dice x.n) (below n.go.dice x.n))
  exact ⟨this.bd, this.touched, this.shows, this.used, this.err, this.r, this.pc⟩
 ·exact hg.setR ha (by rw [hE.all, hE.tick]; exact CE.refl _ _)
 ·rename_i hop; simp only [hop] at ht; exact ME.reach hP hE hg x ha hb hj ht
 ·rename_i hop; simp only [hop] at ht; exact ME.reach hP hE hg x ha hb hj ht
 ·rename_i hop; simp only [hop] at ht; exact ME.reach hP hE hg x ha hb hj ht
 ·rename_i hop; simp only [hop] at ht; exact ME.reach hP hE hg x ha hb hj ht
 ·exact hg.setR ha (CE.meet hP (hg.r _ hb) (hg.r _ hc8) _)
end Go.Proofs.YticfcmaigffhmaaGreat.G
namespace Go.Proofs.YticfcmaigffhmaaGreat.G
open Go
set_option maxHeartbeats 1000000
variable {P : BitVec 32 → Bool} {E F : Me} {m n : Mc}
theorem Tell.pre {P : BitVec 32 → Bool} {a b c d : List Sh} (h : Tell P (a ++ c) (b ++ d)) : Tell P a b := by
 intro i s t h1 h2 h3
 refine h i s t ?_ ?_ h3
 ·rw [List.getElem?_append_left (by have := List.getElem?_eq_some_iff.1 h1; exact this.1)]; exact h1
 ·rw [List.getElem?_append_left (by have := List.getElem?_eq_some_iff.1 h2; exact this.1)]; exact h2
theorem reachF_shows (E : Me) (m : Mc) (x : Cd) : ∃ c, (reachF E m x).shows = m.shows ++ c := by
 unfold reachF
 split
 ·split
  ·exact ⟨[], (List.append_nil _).symm⟩
  ·exact ⟨[], (List.append_nil _).symm⟩
 ·split
  ·exact ⟨[], (List.append_nil _).symm⟩
  ·exact ⟨[], (List.append_nil _).symm⟩
 ·unfold revealF; split
  ·exact ⟨[], (List.append_nil _).symm⟩
  ·exact ⟨_, rfl⟩
 ·have := fillN_same x.n.toNat (shufL m.dice (x.c - 1) (rowV m x.n.toNat x.c)).1 x.c { m with dice := (shufL m.dice (x.c - 1) (rowV m x.n.toNat x.c)).2 }
  refine ⟨[], ?_⟩
  rw [List.append_nil, shuffleF]
  simp_all
 ·exact ⟨[], (List.append_nil _).symm⟩
theorem followF_shows (E : Me) (m : Mc) (x : Cd) : ∃ c, (followF E m x).shows = m.shows ++ c := by
 unfold followF
 simp only
 split <;> first | exact ⟨[], (List.append_nil _).symm⟩ | exact reachF_shows E m.go x | skip
 split
 ·split <;> exact ⟨[], (List.append_nil _).symm⟩
 ·exact ⟨[], (List.append_nil _).symm⟩
theorem loopF_shows (E : Me) (l : List Cd) : ∀ (k : Nat) (m : Mc), ∃ c, (loopF E l k m).shows = m.shows ++ c
 | 0, m => by
  rw [loopF]; split
  ·exact ⟨[], (List.append_nil _).symm⟩
  ·exact ⟨[], (List.append_nil _).symm⟩
 | k + 1, m => by
  rw [loopF]
  split
  ·split
   ·exact ⟨[], (List.append_nil _).symm⟩
   ·obtain ⟨c, hc⟩ := loopF_shows E l k (followF E { m with used := m.used + 1 } (l.getD m.pc ⟨0, 0, 0, 0, 0, 0⟩))
    obtain ⟨d, hd⟩ := followF_shows E { m with used := m.used + 1 } (l.getD m.pc ⟨0, 0, 0, 0, 0, 0⟩)
    refine ⟨d ++ c, ?_⟩
    rw [hc, hd, List.append_assoc]
  ·exact ⟨[], (List.append_nil _).symm⟩
theorem ME.loop (hP : PO P E.all) (hE : EE P E F) (l : List Cd) (ha : ∀ x ∈ l, x.a < 8 ∧ x.b < 8) (hj : (∃ x ∈ l, x.op = 22) → Join' P) : ∀ (k : Nat) (m n : Mc), ME P m n → Tell P (loopF E l k m).shows (loopF F l k n).shows → ME P (loopF E l k m) (loopF F l k n)
 | 0, m, n, h, ht => by
  have hc2 : (n.err = 0 ∧ n.pc < l.length) ↔ (m.err = 0 ∧ m.pc < l.length) := by rw [h.err, h.pc]
  rw [loopF, loopF]
  by_cases hc : m.err = 0 ∧ m.pc < l.length
  ·rw [if_pos hc, if_pos (hc2.2 hc)]; exact h.errs _
  ·rw [if_neg hc, if_neg (fun q => hc (hc2.1 q))]; exact h
 | k + 1, m, n, h, ht => by
  have hc2 : (n.err = 0 ∧ n.pc < l.length) ↔ (m.err = 0 ∧ m.pc < l.length) := by rw [h.err, h.pc]
  rw [loopF, loopF] at ht ⊢
  by_cases hc : m.err = 0 ∧ m.pc < l.length
  ·rw [if_pos hc, if_pos (hc2.2 hc)] at ht ⊢
   have hm := List.getElem_mem hc.2
   have hx : l.getD m.pc ⟨0, 0, 0, 0, 0, 0⟩ = l[m.pc] := by simp [hc.2]
   have hy : l.getD n.pc ⟨0, 0, 0, 0, 0, 0⟩ = l[m.pc] := by rw [← h.pc, hx]
   rw [hx, hy] at ht ⊢
   have hu : ME P { m with used := m.used + 1 } { n with used := n.used + 1 } := ⟨h.bd, h.touched, h.shows, by show m.used + 1 = n.used + 1; rw [h.used], h.err, h.r, h.pc⟩
   by_cases h0 : l[m.pc].op = 0
   ·rw [if_pos h0, if_pos h0]; exact hu
   ·rw [if_neg h0, if_neg h0] at ht ⊢
    have ht' := ht
    obtain ⟨c, hc1⟩ := loopF_shows E l k (followF E { m with used := m.used + 1 } l[m.pc])
    obtain ⟨d, hd1⟩ := loopF_shows F l k (followF F { n with used := n.used + 1 } l[m.pc])
    rw [hc1, hd1] at ht'
    exact ME.loop hP hE l ha hj k _ _ (hu.follow hP hE l[m.pc] (ha _ hm).1 (ha _ hm).2 (fun e => hj ⟨_, hm, e⟩) ht'.pre) ht
  ·rw [if_neg hc, if_neg (fun q => hc (hc2.1 q))]; exact h
theorem ME.start (hE : EE P E F) {b c : Bd} (h : BE P b c) (d e : Int) : ME P (Go.Proofs.YticfcmaigffhmaaGreat.G.start E b d) (Go.Proofs.YticfcmaigffhmaaGreat.G.start F c e) :=
 ⟨h, rfl, rfl, rfl, rfl, fun i _ => by show CE P ((regs0 E.all).at i) ((regs0 F.all).at i); rw [hE.all]; exact CE.refl _ _, rfl⟩
structure RE (P : BitVec 32 → Bool) (r s : Rs) : Prop where
 bd : BE P r.bd s.bd
 touched : r.touched = s.touched
 shows : SE r.shows s.shows
 used : r.used = s.used
 err : r.err = s.err
theorem RE.run (hP : PO P E.all) (hE : EE P E F) (hl : E.moves.length = F.moves.length) (l : List Cd) (hj : (∃ x ∈ l, x.op = 22) → Join' P) {b c : Bd} (h : BE P b c) (d e : Int) (ht : Tell P (runF E l b d).shows (runF F l c e).shows) : RE P (runF E l b d) (runF F l c e) := by
 unfold runF at ht ⊢
 rw [← hl, ← h.1] at ht ⊢
 by_cases hR : rightL l b.l.length E.moves.length = false
 ·rw [if_pos hR, if_pos hR]; exact ⟨h, rfl, rfl, rfl, rfl⟩
 ·rw [if_neg hR, if_neg hR] at ht ⊢
  have hall : ∀ x ∈ l, x.a < 8 ∧ x.b < 8 := fun x hx => by
   have h2 : l.length ≤ 96 ∧ ∀ x ∈ l, x.right l.length b.l.length E.moves.length = true := by simpa [rightL] using hR
   exact (right_ab (h2.2 x hx)).2
  have hk := fun g => ME.loop hP hE l hall hj 400 _ _ (ME.start hE h d e) g
  have he : (loopF E l 400 (Go.Proofs.YticfcmaigffhmaaGreat.G.start E b d)).shows = (if (loopF E l 400 (Go.Proofs.YticfcmaigffhmaaGreat.G.start E b d)).err ≠ 0 then (⟨b, d, 0#64, (loopF E l 400 (Go.Proofs.YticfcmaigffhmaaGreat.G.start E b d)).shows, (loopF E l 400 (Go.Proofs.YticfcmaigffhmaaGreat.G.start E b d)).used, (loopF E l 400 (Go.Proofs.YticfcmaigffhmaaGreat.G.start E b d)).err⟩ : Rs) else ⟨(loopF E l 400 (Go.Proofs.YticfcmaigffhmaaGreat.G.start E b d)).bd, (loopF E l 400 (Go.Proofs.YticfcmaigffhmaaGreat.G.start E b d)).dice, (loopF E l 400 (Go.Proofs.YticfcmaigffhmaaGreat.G.start E b d)).touched, (loopF E l 400 (Go.Proofs.YticfcmaigffhmaaGreat.G.start E b d)).shows, (loopF E l 400 (Go.Proofs.YticfcmaigffhmaaGreat.G.start E b d)).used, 0⟩).shows := by split <;> rfl
  have hf : (loopF F l 400 (Go.Proofs.YticfcmaigffhmaaGreat.G.start F c e)).shows = (if (loopF F l 400 (Go.Proofs.YticfcmaigffhmaaGreat.G.start F c e)).err ≠ 0 then (⟨c, e, 0#64, (loopF F l 400 (Go.Proofs.YticfcmaigffhmaaGreat.G.start F c e)).shows, (loopF F l 400 (Go.Proofs.YticfcmaigffhmaaGreat.G.start F c e)).used, (loopF F l 400 (Go.Proofs.YticfcmaigffhmaaGreat.G.start F c e)).err⟩ : Rs) else ⟨(loopF F l 400 (Go.Proofs.YticfcmaigffhmaaGreat.G.start F c e)).bd, (loopF F l 400 (Go.Proofs.YticfcmaigffhmaaGreat.G.start F c e)).dice, (loopF F l 400 (Go.Proofs.YticfcmaigffhmaaGreat.G.start F c e)).touched, (loopF F l 400 (Go.Proofs.YticfcmaigffhmaaGreat.G.start F c e)).shows, (loopF F l 400 (Go.Proofs.YticfcmaigffhmaaGreat.G.start F c e)).used, 0⟩).shows := by split <;> rfl
  rw [← he, ← hf] at ht
  have hM := hk ht
  rw [← hM.err]
  split
  ·exact ⟨h, rfl, hM.shows, hM.used, rfl⟩
  ·exact ⟨hM.bd, hM.touched, hM.shows, hM.used, rfl⟩
end Go.Proofs.YticfcmaigffhmaaGreat.G
namespace Go.Proofs.YticfcmaigffhmaaGreat.G
open Go
set_option maxHeartbeats 1000000
variable {b : Bd} {ns : Bool} {m : Mc} {E : Me}
structure SOk (b : Bd) (ns : Bool) (all : BitVec 32) (m : Bd) (s : Sh) : Prop where
 there : b.there s.cell = true
 to0 : s.to ≠ 0#32
 all : within s.to all = true
 was : ns = true → s.to &&& (b.at s.cell).s = 0#32 ∧ s.v = (b.at s.cell).v ∧ within s.to (m.at s.cell).s = true
def LG (m n : Bd) : Prop := ∀ i : Int, within (m.at i).s (n.at i).s = true
theorem LG.refl (m : Bd) : LG m m := fun i => within_self _
theorem SOk.grow {all : BitVec 32} {m n : Bd} {s : Sh} (h : SOk b ns all m s) (hg : ns = true → LG m n) : SOk b ns all n s :=
 ⟨h.there, h.to0, h.all, fun e => ⟨(h.was e).1, (h.was e).2.1, within_trans (h.was e).2.2 (hg e _)⟩⟩
theorem KP.lg (h : KP b true m) : LG b m.bd := by
 intro i
 by_cases hi : i.toNat < b.l.length
 ·obtain ⟨c', k1, k2, k3⟩ := h.lab rfl i.toNat _ (List.getElem?_eq_getElem hi)
  have e1 : m.bd.at i = c' := by simp [Bd.at, List.getD_eq_getElem?_getD, k1]
  have e2 : b.at i = b.l[i.toNat] := by simp [Bd.at, hi]
  rw [e1, e2]; exact k3
 ·have e1 : b.at i = Cl.z := by simp [Bd.at, List.getD_eq_getElem?_getD, List.getElem?_eq_none (Nat.not_lt.1 hi)]
  rw [e1]
  unfold within Cl.z; simp
theorem run_len (l : List Cd) (b : Bd) (d : Int) : (runF E l b d).bd.l.length = b.l.length := by
 unfold runF
 split
 ·rfl
 ·rename_i hR
  split
  ·rfl
  ·have hall : ∀ x ∈ l, x.right l.length b.l.length E.moves.length = true := by
    have h2 : l.length ≤ 96 ∧ ∀ x ∈ l, x.right l.length b.l.length E.moves.length = true := by simpa [rightL] using hR
    exact h2.2
   exact (KP.loop (ns := false) l hall (fun e => by cases e) 400 _ (KP.start d)).len
theorem run_err (l : List Cd) (b : Bd) (d : Int) (h : (runF E l b d).err ≠ 0) : (runF E l b d).bd = b ∧ (runF E l b d).dice = d ∧ (runF E l b d).touched = 0#64 := by
 revert h
 unfold runF
 split
 ·intro _; exact ⟨rfl, rfl, rfl⟩
 ·split
  ·intro _; exact ⟨rfl, rfl, rfl⟩
  ·intro h; exact absurd rfl h
end Go.Proofs.YticfcmaigffhmaaGreat.G
namespace Go.Proofs.YticfcmaigffhmaaGreat.G
open Go
theorem followF_mv (q q' : IV) (ms : List Int) (t : Int) (a : BitVec 32) (m : Mc) (x : Cd) : followF ⟨q, ms, t, a⟩ m x = followF ⟨q', ms, t, a⟩ m x := by
 unfold followF reachF revealF named
 rfl
theorem loopF_mv (q q' : IV) (ms : List Int) (t : Int) (a : BitVec 32) (l : List Cd) : ∀ (k : Nat) (m : Mc), loopF ⟨q, ms, t, a⟩ l k m = loopF ⟨q', ms, t, a⟩ l k m
 | 0, m => rfl
 | k + 1, m => by
  rw [loopF, loopF, followF_mv q q', loopF_mv q q' ms t a l k]
theorem runF_mv (q q' : IV) (ms : List Int) (t : Int) (a : BitVec 32) (l : List Cd) (b : Bd) (d : Int) : runF ⟨q, ms, t, a⟩ l b d = runF ⟨q', ms, t, a⟩ l b d := by
 unfold runF
 have e : start ⟨q, ms, t, a⟩ b d = start ⟨q', ms, t, a⟩ b d := rfl
 rw [e, loopF_mv q q']
def Gm.run (g : Gm) (ms : List (BitVec 32)) (b : Bd) (d t : Int) : Rs := runF (g.env ms t (.sc (.slice none 0 0))) g.code b d
theorem run_mv (g : Gm) (ms : List (BitVec 32)) (b : Bd) (d t : Int) (q : IV) : runF (g.env ms t q) g.code b d = g.run ms b d t := runF_mv _ _ _ _ _ _ _ _
def outC (r : Rs) (s : IV) : List IV := [.int .u64 (r.touched.toNat : Int), s, nI r.err]
theorem StepR_ok (g : Gm) (x y : IV) (h : GR g x y) (hr : g.right = true) (hw : ∀ c ∈ g.code, c.wf) (b : Bd) (hbk : b.ok) (d t : Int) (mv : IV) (ms : List (BitVec 32)) (hm : Ls 1 mv (ms.map m32)) :
  ∃ s, pc BI F_rules_Game_Step [.agg (gmc g x y), .agg (stc b d t), mv] = some (.tup [.agg (stc (g.run ms b d t).bd (g.run ms b d t).dice (IntKind.u32.wrap (t + 1))), .agg (outC (g.run ms b d t) s)]) ∧ Ls 3 s ((g.run ms b d t).shows.map Sh.e) := by
 obtain ⟨_, _, _, _, h96⟩ := right_48 hr
 obtain ⟨_, h1, q, s, hq, hs, rfl⟩ := Step_ok g x y h hr hw (by omega) b hbk d t mv ms hm
 rw [run_mv] at h1 hs
 exact ⟨s, h1, hs⟩
variable {b : Bd} {E : Me}
theorem loop_mok (l : List Cd) (hr : ∀ x ∈ l, x.right l.length b.l.length E.moves.length = true) (hE : E.ok) (hw : ∀ x ∈ l, x.wf) : ∀ (k : Nat) (m : Mc), m.ok b.l.length l.length → (loopF E l k m).bd.ok
 | 0, m, h => by
  rw [loopF]; split <;> exact h.bd
 | k + 1, m, h => by
  rw [loopF]
  split
  ·rename_i hc
   have hm := List.getElem_mem hc.2
   have e : l.getD m.pc ⟨0, 0, 0, 0, 0, 0⟩ = l[m.pc] := by simp [hc.2]
   rw [e]
   split
   ·exact h.bd
   ·have hok' : ({ m with used := m.used + 1 } : Mc).ok b.l.length l.length := ⟨h.r, h.bd, h.len, h.pc⟩
    exact loop_mok l hr hE hw k _ (followF_nice hE hok' hc.2 l[m.pc] (hw _ hm) (hr _ hm)).1
  ·exact h.bd
theorem run_bok (l : List Cd) (hE : E.ok) (hw : ∀ x ∈ l, x.wf) (b : Bd) (hb : b.ok) (d : Int) : (runF E l b d).bd.ok := by
 unfold runF
 split
 ·exact hb
 ·rename_i hR
  split
  ·exact hb
  ·have hall : ∀ x ∈ l, x.right l.length b.l.length E.moves.length = true := by
    have h2 : l.length ≤ 96 ∧ ∀ x ∈ l, x.right l.length b.l.length E.moves.length = true := by simpa [rightL] using hR
    exact h2.2
   refine loop_mok l hall hE hw 400 _ ⟨fun i hi => ?_, hb, rfl, Nat.zero_le _⟩
   have : ((start E b d).r.at i).v = 0 := by
    show ((regs0 E.all).at i).v = 0
    rw [rg_at _ hi]; simp only [regs0, List.getElem_replicate]
   rw [this]; exact I32_0
theorem step_bok (g : Gm) (hr : g.right = true) (hw : ∀ c ∈ g.code, c.wf) (ms : List (BitVec 32)) (b : Bd) (hb : b.ok) (d t : Int) : (g.run ms b d t).bd.ok := by
 obtain ⟨h1, h6, _⟩ := right_players hr
 have hE : (g.env ms t (.lst 1 true ((g.allF ms g.players.toNat).map (IV.int .i32)))).ok := ⟨.lst, allF_rng _ _ _, by show (g.allF ms g.players.toNat).length ≤ _; rw [allF_len]; omega⟩
 rw [← run_mv g ms b d t (.lst 1 true ((g.allF ms g.players.toNat).map (IV.int .i32)))]
 exact run_bok g.code hE hw b hb d
theorem step_len (g : Gm) (ms : List (BitVec 32)) (b : Bd) (d t : Int) : (g.run ms b d t).bd.l.length = b.l.length := run_len _ _ _
theorem step_err (g : Gm) (ms : List (BitVec 32)) (b : Bd) (d t : Int) (h : (g.run ms b d t).err ≠ 0) : (g.run ms b d t).bd = b ∧ (g.run ms b d t).dice = d ∧ (g.run ms b d t).touched = 0#64 := run_err _ _ _ h
theorem hidS_I32 {p : List Cl × List Int} {c : Cl} (h1 : ∀ x ∈ p.1, I32 x.v) (h2 : ∀ v ∈ p.2, I32 v) (hc : I32 c.v) : (∀ x ∈ (hidS p c).1, I32 x.v) ∧ ∀ v ∈ (hidS p c).2, I32 v := by
 obtain ⟨L, R⟩ := p
 unfold hidS
 split
 ·split
  ·rename_i e
   simp only at e h1 h2 ⊢
   subst e
   refine ⟨fun x hx => ?_, by simp⟩
   rcases List.mem_append.1 hx with hx | hx
   ·exact h1 x hx
   ·simp at hx; subst hx; exact hc
  ·rename_i v r e
   simp only at e h1 h2 ⊢
   subst e
   refine ⟨fun x hx => ?_, fun w hw => h2 w (by simp [hw])⟩
   rcases List.mem_append.1 hx with hx | hx
   ·exact h1 x hx
   ·simp at hx; subst hx; exact h2 v (by simp)
 ·refine ⟨fun x hx => ?_, h2⟩
  rcases List.mem_append.1 hx with hx | hx
  ·exact h1 x hx
  ·simp at hx; subst hx; exact hc
theorem hid_I32 (C : List Cl) : ∀ (p : List Cl × List Int), (∀ x ∈ p.1, I32 x.v) → (∀ v ∈ p.2, I32 v) → (∀ c ∈ C, I32 c.v) → ∀ x ∈ (C.foldl hidS p).1, I32 x.v := by
 induction C with
 | nil => intro p h1 _ _; exact h1
 | cons c C ih =>
  intro p h1 h2 h3
  rw [List.foldl_cons]
  obtain ⟨k1, k2⟩ := hidS_I32 h1 h2 (h3 c (by simp))
  exact ih _ k1 k2 fun c hc => h3 c (by simp [hc])
theorem bd0_ok (g : Gm) (h : g.cells.length ≤ 48) (H : List Int) (hv : ∀ c ∈ g.cells, I32 c.v) (hH : ∀ v ∈ H, I32 v) : (g.bd0 h H).ok := by
 intro c hc
 simp only [Gm.bd0, hidB, List.take_length, List.drop_length, List.append_nil] at hc
 exact hid_I32 g.cells ([], H) (by simp) hH hv c hc
end Go.Proofs.YticfcmaigffhmaaGreat.G
namespace Go.Proofs.YticfcmaigffhmaaGreat.G
open Go
theorem outC_one (r : Rs) {s : IV} (h : ione s = true) : (outC r s).all ione = true := by
 simp only [outC, List.all_cons, List.all_nil, h]; rfl
theorem out_len (r s) : (outC r s).length = 3 := rfl
theorem out_take (r s) : (outC r s).take 3 = outC r s := rfl
theorem out_0 (r s) : (outC r s).take 1 = [.int .u64 (r.touched.toNat : Int)] := rfl
theorem out_00 (r s) : ((outC r s).drop 0).take 1 = [.int .u64 (r.touched.toNat : Int)] := rfl
theorem out_1 (r s) : ((outC r s).drop 1).take 1 = [s] := rfl
theorem out_2 (r s) : ((outC r s).drop 2).take 1 = [nI r.err] := rfl
theorem out_z (r s) : isplice [IV.sc (Value.int IntKind.u64 0), IV.sc (Value.slice none 0 0), IV.sc (Value.int IntKind.i64 0)] 0 (outC r s) = outC r s := rfl
attribute [go_sem] out_len out_take out_0 out_00 out_1 out_2
attribute [go_sem ↓] out_z
end Go.Proofs.YticfcmaigffhmaaGreat.G
