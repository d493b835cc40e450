/- Joined: V8 to SO4. -/
import Derived.Test.YtccbcbnglnloiaaXF
import Derived.KernelRfl
import Derived.Below
set_option linter.unusedVariables false
set_option linter.unusedSimpArgs false
set_option maxRecDepth 20000
set_option maxHeartbeats 2000000
namespace Go.Proofs.Ytccbcbnglnloiaa.G
open Go
variable {E : Me} {J : JH} {b : Nat} {sh : IV} {m : Mc}
theorem ops_of {x : Cd} (h : x.op ≤ 25) (h0 : x.op ≠ 0) : x.op = 1 ∨ x.op = 25 ∨ x.op = 2 ∨ x.op = 3 ∨ x.op = 18 ∨ x.op = 19 ∨ x.op = 20 ∨ x.op = 21 ∨ x.op = 23 ∨ (x.op = 4 ∨ x.op = 5 ∨ x.op = 22 ∨ x.op = 24) ∨ (6 ≤ x.op ∧ x.op ≤ 17) := by omega
theorem follow_ok (hE : E.ok) (h : MAt E J b sh m) (x : Cd) (hx : x.wf) (size : Nat) (hr : x.right size m.bd.l.length E.moves.length = true) (hpc : m.pc ≤ 1000) (h0 : x.op ≠ 0) (hok : m.r.ok) (he0 : m.err = 0) (hs : m.shows.length ≤ 1000) :
  RP (ic BI F_vm_machine_follow [.ptr b 0 0, x.e] J) fun v J' => MOut E b J sh J' (followF E m x) := by
 refine RP_run fn_vm_machine_follow rfl fun K hK => ?_
 refine follow_pre h x size hr hpc K fun J1 f => ?_
 have hk : ∀ J', MOut E b J sh J' (followF E m x) → K (.ret []) J' := fun J' h => hK [] J' h
 rcases ops_of (right_ab hr).1 h0 with hop | hop | hop | hop | hop | hop | hop | hop | hop | hop | hop
 ·exact fol_1 h x hx size hr hop f K hk
 ·exact fol_25 h x hx size hr hop f K hk
 ·exact fol_2 h x hx size hr hop f K hk
 ·exact fol_3 h x hx size hr hop f K hk
 ·exact fol_18 h x hx size hr hop f K hk
 ·exact fol_19 h x hx size hr he0 hop f K hk
 ·exact fol_20 h x hx size hr hop f K hk
 ·exact fol_21 h x hx size hr hE hop f K hk
 ·exact fol_23 h x hx size hr hop f K hk
 ·rcases hop with hop | hop | hop | hop
  ·exact fol_4 h x hx size hr he0 hok hs hop f K hk
  ·exact fol_5 h x hx size hr he0 hok hs hop f K hk
  ·exact fol_22 h x hx size hr he0 hok hs hop f K hk
  ·exact fol_24 h x hx size hr he0 hok hs hop f K hk
 ·exact fol_c h x hx size hr hop f K hk
def I32 (v : Int) : Prop := -2147483648 ≤ v ∧ v < 2147483648
theorem w32_rng (z : Int) : I32 (w32 z) := by
 simp only [I32, w32, IntKind.wrap, IntKind.bits, IntKind.signed]; simp; omega
theorem I32_0 : I32 0 := ⟨by decide, by decide⟩
theorem I32_1 : I32 1 := ⟨by decide, by decide⟩
theorem fdiv_rng {x : Int} (h : I32 x) (k : Nat) : I32 (x.fdiv (2 ^ k)) := by
 obtain ⟨h1, h2⟩ := h
 have hp : (1 : Int) ≤ 2 ^ k := by
  have : 0 < (2 : Nat) ^ k := Nat.pow_pos (by omega)
  have e : ((2 : Int) ^ k) = ((2 ^ k : Nat) : Int) := by simp
  omega
 generalize (2 : Int) ^ k = p at hp
 rw [Int.fdiv_eq_ediv_of_nonneg _ (by omega)]
 constructor
 ·refine (Int.le_ediv_iff_mul_le (by omega)).2 ?_
  have : -2147483648 * p ≤ -2147483648 * 1 := by omega
  omega
 ·refine (Int.ediv_lt_iff_lt_mul (by omega)).2 ?_
  have : 2147483648 * 1 ≤ 2147483648 * p := by omega
  omega
theorem tmod_rng {x : Int} (h : I32 x) (y : Int) : I32 (x.tmod y) := by
 obtain ⟨h1, h2⟩ := h
 have h3 : (x.tmod y).natAbs ≤ x.natAbs := by
  rw [Int.natAbs_tmod]; exact Nat.mod_le _ _
 constructor <;> first | skip | skip
 ·by_cases hx : 0 ≤ x
  ·have := Int.tmod_nonneg y hx; omega
  ·omega
 ·by_cases hx : 0 ≤ x
  ·omega
  ·have := Int.tmod_nonneg y (a := -x) (by omega)
   rw [Int.neg_tmod] at this
   omega
theorem computeF_rng (op : Nat) {x y : Int} (hx : I32 x) : I32 (computeF op x y) := by
 unfold computeF
 split <;> first | exact w32_rng _ | exact I32_0 | exact fdiv_rng hx _ | (split <;> first | exact I32_0 | exact w32_rng _ | exact tmod_rng hx _ | exact I32_1)
def Bd.ok (b : Bd) : Prop := ∀ c ∈ b.l, I32 c.v
theorem Bd.ok_at {b : Bd} (h : b.ok) (i : Int) : I32 (b.at i).v := by
 unfold Bd.at
 by_cases hl : i.toNat < b.l.length
 ·simp only [List.getD_eq_getElem?_getD, hl, List.getElem?_eq_getElem, Option.getD_some]
  exact h _ (List.getElem_mem hl)
 ·simp only [List.getD_eq_getElem?_getD, List.getElem?_eq_none (Nat.le_of_not_lt hl), Option.getD_none]
  exact I32_0
theorem Bd.ok_put {b : Bd} (h : b.ok) (i : Int) {c : Cl} (hc : I32 c.v) : (b.put i c).ok := by
 unfold Bd.put; split
 ·intro x hx
  rcases List.mem_or_eq_of_mem_set hx with hx | rfl
  ·exact h _ hx
  ·exact hc
 ·exact h
theorem Bd.ok_show {b : Bd} (h : b.ok) (i : Int) (to : BitVec 32) : (b.show i to).ok := by
 unfold Bd.show; split
 ·intro x hx
  rcases List.mem_or_eq_of_mem_set hx with hx | rfl
  ·exact h _ hx
  ·exact Bd.ok_at h i
 ·exact h
theorem show_len (b : Bd) (i : Int) (to : BitVec 32) : (b.show i to).l.length = b.l.length := by
 unfold Bd.show; split
 ·simp [Bd.set]
 ·rfl
theorem Rg.at_set (r : Rg) {i : Nat} (j : Nat) (c : Cl) (hi : i < 8) : (r.set i c).at j = if j = i then c else r.at j := by
 simp only [Rg.at, Rg.set, List.getD_eq_getElem?_getD, List.getElem?_set, r.h, hi, if_true]
 by_cases h : i = j
 ·subst h; simp
 ·simp [h, Ne.symm h]
theorem Rg.ok_set {r : Rg} (h : r.ok) {i : Nat} (hi : i < 8) {c : Cl} (hc : I32 c.v) : (r.set i c).ok := by
 intro j hj
 rw [Rg.at_set r j c hi]
 split
 ·exact hc
 ·exact h j hj
structure Mc.ok (n s : Nat) (m : Mc) : Prop where
 r : m.r.ok
 bd : m.bd.ok
 len : m.bd.l.length = n
 pc : m.pc ≤ s
theorem fillN_ok {out : List Int} (ho : ∀ v ∈ out, I32 v) (start : Nat) : ∀ (k : Nat) (m : Mc), m.bd.ok → (fillN m start out k).bd.ok
 | 0, m, h => h
 | k + 1, m, h => by
  simp only [fillN]
  refine Bd.ok_put (fillN_ok ho start k m h) _ ?_
  by_cases hk : k < out.length
  ·simp only [List.getD_eq_getElem?_getD, hk, List.getElem?_eq_getElem, Option.getD_some]; exact ho _ (List.getElem_mem hk)
  ·simp only [List.getD_eq_getElem?_getD, List.getElem?_eq_none (Nat.le_of_not_lt hk), Option.getD_none]; exact I32_0
theorem fillN_same (start : Nat) (out : List Int) : ∀ (k : Nat) (m : Mc), (fillN m start out k).r = m.r ∧ (fillN m start out k).pc = m.pc ∧ (fillN m start out k).shows = m.shows ∧ (fillN m start out k).used = m.used ∧ (fillN m start out k).err = m.err ∧ (fillN m start out k).dice = m.dice
 | 0, m => ⟨rfl, rfl, rfl, rfl, rfl, rfl⟩
 | k + 1, m => fillN_same start out k m
theorem shufL_mem' : ∀ (i : Nat) (s : Int) (ys : List Int), ∀ x ∈ (shufL s i ys).1, x ∈ ys ∨ x = 0
 | 0, s, ys, x, h => .inl h
 | i + 1, s, ys, x, h => by
  rw [shufL] at h
  rcases shufL_mem' i _ _ x h with h | h
  ·have key : ∀ k : Nat, ys.getD k 0 ∈ ys ∨ ys.getD k 0 = 0 := fun k => by
    by_cases hk : k < ys.length
    ·left; simp only [List.getD_eq_getElem?_getD, hk, List.getElem?_eq_getElem, Option.getD_some]; exact List.getElem_mem hk
    ·right; simp [List.getD_eq_getElem?_getD, List.getElem?_eq_none (Nat.le_of_not_lt hk)]
   rcases List.mem_or_eq_of_mem_set h with h | rfl
   ·rcases List.mem_or_eq_of_mem_set h with h | rfl
    ·exact .inl h
    ·exact key _
   ·exact key _
  ·exact .inr h
theorem shuffleF_ok {n s : Nat} (h : m.ok n s) (start many : Nat) : (shuffleF m start many).ok n s := by
 obtain ⟨h1, h2, h3, h4⟩ := h
 have hs := fillN_same start (shufL m.dice (many - 1) (rowV m start many)).1 many { m with dice := (shufL m.dice (many - 1) (rowV m start many)).2 }
 refine ⟨?_, ?_, ?_, ?_⟩
 ·rw [shuffleF, hs.1]; exact h1
 ·refine fillN_ok (fun v hv => ?_) start many _ h2
  rcases shufL_mem' _ _ _ v hv with hv | rfl
  ·obtain ⟨k, _, rfl⟩ := List.mem_map.1 hv
   exact Bd.ok_at h2 _
  ·exact I32_0
 ·rw [shuffleF, fillN_len]; exact h3
 ·rw [shuffleF, hs.2.1]; exact h4
end Go.Proofs.Ytccbcbnglnloiaa.G
namespace Go.Proofs.Ytccbcbnglnloiaa.G
open Go
variable {E : Me} {m : Mc}
structure Nice (n s : Nat) (m m' : Mc) : Prop where
 ok : m'.ok n s
 shows : m'.shows.length ≤ m.shows.length + 1
 used : m'.used = m.used
theorem Mc.ok.go {n s : Nat} (h : m.ok n s) (hp : m.pc < s) : m.go.ok n s := ⟨h.r, h.bd, h.len, hp⟩
theorem Nice.set {n s : Nat} (h : m.ok n s) {i : Nat} (hi : i < 8) {c : Cl} (hc : I32 c.v) : Nice n s m { m with r := m.r.set i c } := ⟨⟨Rg.ok_set h.r hi hc, h.bd, h.len, h.pc⟩, Nat.le_succ _, rfl⟩
theorem Nice.put {n s : Nat} (h : m.ok n s) (i : Int) {c : Cl} (hc : I32 c.v) (t : BitVec 64) : Nice n s m { m with bd := m.bd.put i c, touched := t } := ⟨⟨h.r, Bd.ok_put h.bd i hc, by rw [put_len]; exact h.len, h.pc⟩, Nat.le_succ _, rfl⟩
theorem Nice.err {n s : Nat} (h : m.ok n s) (e : Nat) : Nice n s m { m with err := e } := ⟨⟨h.r, h.bd, h.len, h.pc⟩, Nat.le_succ _, rfl⟩
theorem Nice.pc {n s : Nat} (h : m.ok n s) {p : Nat} (hp : p ≤ s) : Nice n s m { m with pc := p } := ⟨⟨h.r, h.bd, h.len, hp⟩, Nat.le_succ _, rfl⟩
theorem revealF_nice {n s : Nat} (h : m.ok n s) (x : Cd) : Nice n s m (revealF E m x) := by
 unfold revealF
 split
 ·exact Nice.err h _
 ·refine ⟨⟨h.r, Bd.ok_show h.bd _ _, by rw [show_len]; exact h.len, h.pc⟩, ?_, rfl⟩
  simp only [List.length_append]
  split <;> simp
theorem reachF_nice {n s : Nat} (h : m.ok n s) (x : Cd) (ha : x.a < 8) : Nice n s m (reachF E m x) := by
 unfold reachF
 split
 ·split
  ·exact Nice.set h ha (Bd.ok_at h.bd _)
  ·exact Nice.err h _
 ·split
  ·exact Nice.put h _ (h.r _ ha) _
  ·exact Nice.err h _
 ·exact revealF_nice h x
 ·have := fillN_same x.n.toNat (shufL m.dice (x.c - 1) (rowV m x.n.toNat x.c)).1 x.c { m with dice := (shufL m.dice (x.c - 1) (rowV m x.n.toNat x.c)).2 }
  exact ⟨shuffleF_ok h _ _, by rw [shuffleF, this.2.2.1]; exact Nat.le_succ _, by rw [shuffleF, this.2.2.2.1]⟩
 ·exact ⟨h, Nat.le_succ _, rfl⟩
theorem followF_nice (hE : E.ok) {n s : Nat} (h : m.ok n s) (hp : m.pc < s) (x : Cd) (hx : x.wf) (hr : x.right s n E.moves.length = true) : Nice n s m (followF E m x) := by
 have hg := h.go hp
 obtain ⟨hop25, ha8, hb8⟩ := right_ab hr
 obtain ⟨w1, w2, w3, w4, w5, w6⟩ := hx
 have up : ∀ m', Nice n s m.go m' → Nice n s m m' := fun m' k => ⟨k.ok, k.shows, k.used⟩
 refine up _ ?_
 unfold followF
 simp only
 split
 ·exact Nice.set hg ha8 ⟨w5, w6⟩
 ·exact Nice.set hg ha8 (Bd.ok_at hg.bd _)
 ·exact Nice.put hg _ (hg.r _ ha8) _
 ·refine Nice.set hg ha8 ?_
  show I32 (if _ then _ else _)
  split
  ·exact hg.r _ (Nat.mod_lt _ (by decide))
  ·exact hg.r _ hb8
 ·rename_i hop
  simp [Cd.right, hop, useOf, nOk] at hr
  split
  ·split
   ·exact Nice.pc hg (by omega)
   ·exact ⟨hg, Nat.le_succ _, rfl⟩
  ·exact Nice.err hg _
 ·rename_i hop
  simp [Cd.right, hop, useOf, nOk] at hr
  exact Nice.pc hg (by omega)
 ·refine Nice.set hg ha8 ?_
  show I32 (E.moves.getD x.n.toNat 0)
  by_cases hl : x.n.toNat < E.moves.length
  ·simp only [List.getD_eq_getElem?_getD, hl, List.getElem?_eq_getElem, Option.getD_some]; exact hE.rng _ (List.getElem_mem hl)
  ·simp only [List.getD_eq_getElem?_getD, List.getElem?_eq_none (Nat.le_of_not_lt hl), Option.getD_none]; exact I32_0
 ·rename_i hop
  simp [Cd.right, hop, useOf, nOk] at hr
  obtain ⟨bv, sv, hbv, hsv, hb0, hb2⟩ := roll_ex m.go.dice x.n (by omega) (by omega)
  rw [← hbv, ← hsv]
  have := Nice.set hg ha8 (c := ⟨bv, 0#32⟩) ⟨by show -2147483648 ≤ bv; omega, by show bv < 2147483648; omega⟩
  exact ⟨⟨this.ok.r, this.ok.bd, this.ok.len, this.ok.pc⟩, this.shows, this.used⟩
 ·exact Nice.set hg ha8 (w32_rng _)
 ·exact reachF_nice hg x ha8
 ·exact reachF_nice hg x ha8
 ·exact reachF_nice hg x ha8
 ·exact reachF_nice hg x ha8
 ·exact Nice.set hg ha8 (computeF_rng _ (hg.r _ hb8))
def loopF (E : Me) (l : List Cd) : Nat → Mc → Mc
 | 0, m => if m.err = 0 ∧ m.pc < l.length then { m with err := 9 } else m
 | k + 1, m => if m.err = 0 ∧ m.pc < l.length then
   (if (l.getD m.pc ⟨0, 0, 0, 0, 0, 0⟩).op = 0 then { m with used := m.used + 1 }
    else loopF E l k (followF E { m with used := m.used + 1 } (l.getD m.pc ⟨0, 0, 0, 0, 0, 0⟩)))
  else m
structure Rs where
 bd : Bd
 dice : Int
 touched : BitVec 64
 shows : List Sh
 used : Nat
 err : Nat
def regs0 (all : BitVec 32) : Rg := ⟨List.replicate 8 ⟨0, all⟩, rfl⟩
def start (E : Me) (bd : Bd) (d : Int) : Mc := ⟨bd, d, 0#64, [], 0, 0, regs0 E.all, 0⟩
def runF (E : Me) (l : List Cd) (bd : Bd) (d : Int) : Rs :=
 if rightL l bd.l.length E.moves.length = false then ⟨bd, d, 0#64, [], 0, 2⟩ else
 if (loopF E l 400 (start E bd d)).err ≠ 0 then ⟨bd, d, 0#64, (loopF E l 400 (start E bd d)).shows, (loopF E l 400 (start E bd d)).used, (loopF E l 400 (start E bd d)).err⟩
 else ⟨(loopF E l 400 (start E bd d)).bd, (loopF E l 400 (start E bd d)).dice, (loopF E l 400 (start E bd d)).touched, (loopF E l 400 (start E bd d)).shows, (loopF E l 400 (start E bd d)).used, 0⟩
end Go.Proofs.Ytccbcbnglnloiaa.G
namespace Go.Proofs.Ytccbcbnglnloiaa.G
open Go
def Sh.e (s : Sh) : IV := .agg s.c
def resB (r : Rs) (s : IV) : List IV := [.int .u64 r.dice, .int .u64 (r.touched.toNat : Int), s, nI r.used, nI r.err]
def resC (r : Rs) (s : IV) : List IV := bdc r.bd ++ resB r s
def ResR (u : IV) (r : Rs) : Prop := ∃ s, Ls 3 s (r.shows.map Sh.e) ∧ u = .agg (resC r s)
theorem sh3 (l : List Sh) : ∀ x ∈ l.map Sh.c, x.length = 3 := by
 intro e he
 obtain ⟨y, _, rfl⟩ := List.mem_map.1 he
 rfl
theorem sh_pure (l : List Sh) : ipureL (l.map Sh.c).flatten = true := ipureL_iff.2 fun x hx => by
 obtain ⟨e, he, hx⟩ := List.mem_flatten.1 hx
 obtain ⟨y, _, rfl⟩ := List.mem_map.1 he
 simp [Sh.c] at hx
 rcases hx with rfl | rfl | rfl <;> rfl
theorem sh_one (l : List Sh) : (l.map Sh.c).flatten.all ione = true := by
 rw [List.all_eq_true]
 intro x hx
 obtain ⟨e, he, hx⟩ := List.mem_flatten.1 hx
 obtain ⟨y, _, rfl⟩ := List.mem_map.1 he
 simp [Sh.c] at hx
 rcases hx with rfl | rfl | rfl <;> rfl
theorem frz_res {J : JH} {r : Rs} {s : IV} (hg : Grow J s 3 (r.shows.map Sh.c).flatten) : ∃ u, frz J DEP (.agg (resC r s)) = some u ∧ ResR u r := by
 obtain ⟨u, hu, hl⟩ := hg.frzX (sh3 _) (by omega) (sh_pure _) (sh_one _)
 refine ⟨.agg (resC r u), ?_, u, ?_, rfl⟩
 ·rw [frz12]
  refine frz_aggL ?_
  rw [resC, List.mapM_append, frzL_pure J 11 (bdc_pure r.bd)]
  simp only [resB, List.mapM_cons, List.mapM_nil, hu, frz_pure J 11 (v := IV.int .u64 r.dice) rfl, frz_pure J 11 (v := IV.int .u64 (r.touched.toNat : Int)) rfl, frz_pure J 11 (v := nI r.used) rfl, frz_pure J 11 (v := nI r.err) rfl]
  rfl
 ·rw [List.map_map] at hl
  exact hl
def Rs.z : Rs := ⟨Bd.z, 0, 0#64, [], 0, 0⟩
theorem zc_res : List.map IV.sc (reps 48 [Value.int .i32 0, Value.int .u32 0] ++ [Value.int .i64 0, Value.int .u64 0, Value.int .u64 0, Value.slice none 0 0, Value.int .i64 0, Value.int .i64 0]) = resC Rs.z (.sc (.slice none 0 0)) := by
 show _ = bdc Bd.z ++ resB Rs.z (.sc (.slice none 0 0))
 rw [← zc_bd, List.map_append, List.map_append, List.append_assoc]; rfl
theorem rs_len (r s) : (resC r s).length = 102 := by simp [resC, bdc_len, resB]
theorem rs_one (r s) (h : ione s = true) : (resC r s).all ione = true := by
 rw [resC, List.all_append, bdc_one, resB]; simp only [List.all_cons, h]; rfl
theorem rs_take (r s) : (resC r s).take 102 = resC r s := List.take_of_length_le (by rw [rs_len]; exact Nat.le_refl _)
theorem rs_all (r s q t) : isplice (resC r s) 0 (resC q t) = resC q t := by
 simp only [isplice, List.take_zero, List.nil_append, Nat.zero_add]
 rw [List.drop_of_length_le (by rw [rs_len, rs_len]; exact Nat.le_refl _), List.append_nil]
theorem rs_0 (r s) (b : Bd) : isplice (resC r s) 0 (bdc b) = resC { r with bd := b } s := by
 rw [resC, app_sp0 (by rw [bdc_len, bdc_len]; exact Nat.le_refl _), bdc_all]; rfl
theorem rs_97 (r s) (d : Int) : isplice (resC r s) 97 [.int .u64 d] = resC { r with dice := d } s := by rw [resC, app_sp (bdc_len r.bd) 0]; rfl
theorem rs_99 (r s) (d : IV) : isplice (resC r s) 99 [d] = resC r d := by rw [resC, app_sp (bdc_len r.bd) 2]; rfl
theorem rs_100 (r s) (d : Nat) : isplice (resC r s) 100 [nI d] = resC { r with used := d } s := by rw [resC, app_sp (bdc_len r.bd) 3]; rfl
theorem rs_101 (r s) (d : Nat) : isplice (resC r s) 101 [nI d] = resC { r with err := d } s := by rw [resC, app_sp (bdc_len r.bd) 4]; rfl
theorem rs_pure (r) : ipureL (resC r (.sc (.slice none 0 0))) = true := by
 rw [resC, ipureL_iff]
 intro x hx
 rcases List.mem_append.1 hx with hx | hx
 ·exact ipureL_iff.1 (bdc_pure r.bd) x hx
 ·simp [resB] at hx
  rcases hx with rfl | rfl | rfl | rfl | rfl <;> rfl
attribute [go_sem] rs_len rs_take rs_all rs_0 rs_97 rs_99 rs_100 rs_101
attribute [go_sem ↓] zc_res
def mcz : List IV := bdc Bd.z ++ ([.int .u64 0, .int .u64 0, .sc (.slice none 0 0), nI 0, nI 0] ++ (rgc ⟨List.replicate 8 Cl.z, rfl⟩ ++ [nI 0, .sc (.slice none 0 0), .int .u32 0, .int .u32 0, .sc .nilFunc]))
theorem zc_mc : List.map IV.sc (reps 48 [Value.int .i32 0, Value.int .u32 0] ++ (Value.int .i64 0 :: Value.int .u64 0 :: Value.int .u64 0 :: Value.slice none 0 0 :: Value.int .i64 0 :: Value.int .i64 0 :: (reps 8 [Value.int .i32 0, Value.int .u32 0] ++ [Value.int .i64 0, Value.slice none 0 0, Value.int .u32 0, Value.int .u32 0, Value.nilFunc]))) = mcz := by
 rw [mcz, ← zc_bd]
 simp only [List.map_append, List.append_assoc, List.map_cons, List.map_nil, List.cons_append, List.nil_append]
 rfl
attribute [go_sem ↓] zc_mc
theorem mcz_fill (mv : IV) (t : Int) (all : BitVec 32) (h : icells mv = [mv]) (ho : ione mv = true) : ifill mcz [(119, 1, mv), (120, 1, .int .u32 t), (121, 1, m32 all), (122, 1, .fn F_vm_Compute [] [])] = some (mc ⟨mv, [], t, all⟩ ⟨Bd.z, 0, 0#64, [], 0, 0, ⟨List.replicate 8 Cl.z, rfl⟩, 0⟩ (.sc (.slice none 0 0))) := by
 have hl : mcz.length = 123 := by simp [mcz, bdc_len, rgc_len]
 have sp : ∀ (D vs : List IV) (k : Nat), isplice (bdc Bd.z ++ ([.int .u64 0, .int .u64 0, .sc (.slice none 0 0), nI 0, nI 0] ++ (rgc ⟨List.replicate 8 Cl.z, rfl⟩ ++ D))) (118 + k) vs = bdc Bd.z ++ ([.int .u64 0, .int .u64 0, .sc (.slice none 0 0), nI 0, nI 0] ++ (rgc ⟨List.replicate 8 Cl.z, rfl⟩ ++ isplice D k vs)) := fun D vs k => by
  rw [show 118 + k = 97 + (5 + (16 + k)) by omega, app_sp (bdc_len _), app_sp (n := 5) rfl, app_sp (rgc_len _)]
 have ln : ∀ D : List IV, (bdc Bd.z ++ ([.int .u64 0, .int .u64 0, .sc (.slice none 0 0), nI 0, nI 0] ++ (rgc ⟨List.replicate 8 Cl.z, rfl⟩ ++ D))).length = 118 + D.length := fun D => by simp [bdc_len, rgc_len]; omega
 unfold mcz
 simp only [ifill, h, List.length_cons, List.length_nil, List.all_cons, ho, List.all_nil, Bool.and_true, ln, true_and, and_true, sp _ _ 1, sp _ _ 2, sp _ _ 3, sp _ _ 4, show (119 : Nat) = 118 + 1 from rfl, show (120 : Nat) = 118 + 2 from rfl, show (121 : Nat) = 118 + 3 from rfl, show (122 : Nat) = 118 + 4 from rfl]
 simp [icells, ione, isplice, mc, mcB, mcD, one]
def endF (bd : Bd) (d : Int) (m : Mc) : Rs :=
 if m.err ≠ 0 then ⟨bd, d, 0#64, m.shows, m.used, m.err⟩ else ⟨m.bd, m.dice, m.touched, m.shows, m.used, m.err⟩
theorem MAt.res {E : Me} {J : JH} {b : Nat} {sh : IV} {m : Mc} (h : MAt E J b sh m) : (mc E m sh).take 102 = resC ⟨m.bd, m.dice, m.touched, m.shows, m.used, m.err⟩ sh := ld_res E m sh
theorem run_end {E : Me} {J : JH} {sh : IV} {m : Mc} (bd : Bd) (d : Int) (h : MAt E J 3 sh m) (h0 : J[0]? = some (.cells 0 (bdc bd) false)) (h1 : J[1]? = some (.cells 0 [.int .u64 d] false)) (r0 : Rs) (h2 : J[2]? = some (.cells 0 (resC r0 (.sc (.slice none 0 0))) false)) (hs : 2 ∉ blk sh) (K : Out IV → JH → Prop)
  (hK : ∀ vs J' u, frz J' DEP (itup vs) = some u → ResR u (endF bd d m) → K (.ret vs) J') : WP (dn BI l_vm_Run_k3 [.ptr 0 0 0, .ptr 1 0 0, .ptr 2 0 0, .ptr 3 0 0] J) K := by
 have hb := h.1
 have hin := inb hb
 have i0 := inb h0
 have i1 := inb h1
 have i2 := inb h2
 have ho := h.2.2.one
 have hi := h.2.2.icells
 have hgr : ∀ X : IB, Grow (J.setIfInBounds 2 X) sh 3 (m.shows.map Sh.c).flatten := fun X => h.2.2.fr (Fr.set J X (S := [2]) (by simp)) fun c hc hm => by simp at hm; exact hs (hm ▸ hc)
 unfold l_vm_Run_k3
 by_cases he : m.err = 0
 ·have he' : ((m.err : Int) != 0) = false := by simp [he]
  have hone := rs_one ⟨m.bd, m.dice, m.touched, m.shows, m.used, m.err⟩ sh ho
  simp -implicitDefEqProofs only [go_sem, dnW_ite, go_sem_proc, hb, he', h0, h1, h2, h.res, hone, Array.getElem?_setIfInBounds, i2]
  obtain ⟨u, hu, hr⟩ := frz_res (J := J.setIfInBounds 2 (.cells 0 (resC ⟨m.bd, m.dice, m.touched, m.shows, m.used, m.err⟩ sh) false)) (r := ⟨m.bd, m.dice, m.touched, m.shows, m.used, m.err⟩) (hgr _)
  exact hK _ _ u hu (by rw [endF, if_neg (by simpa using he)]; exact hr)
 ·have he' : ((m.err : Int) != 0) = true := by simp; omega
  simp -implicitDefEqProofs only [go_sem, dnW_ite, go_sem_proc, hb, he', h0, h1, h2, Array.getElem?_setIfInBounds, i2, ↓ho, ↓hi, rs_one _ sh ho]
  obtain ⟨u, hu, hr⟩ := frz_res (J := J.setIfInBounds 2 (.cells 0 (resC ⟨bd, d, 0#64, m.shows, m.used, m.err⟩ sh) false)) (r := ⟨bd, d, 0#64, m.shows, m.used, m.err⟩) (hgr _)
  exact hK _ _ u hu (by rw [endF, if_pos he]; exact hr)
structure Sur (J : JH) (bd : Bd) (d : Int) (sh : IV) : Prop where
 c0 : J[0]? = some (.cells 0 (bdc bd) false)
 c1 : J[1]? = some (.cells 0 [.int .u64 d] false)
 c2 : J[2]? = some (.cells 0 (resC Rs.z (.sc (.slice none 0 0))) false)
 n0 : 0 ∉ blk sh
 n1 : 1 ∉ blk sh
 n2 : 2 ∉ blk sh
theorem Sur.upd {J J' : JH} {bd : Bd} {d : Int} {sh sh' : IV} (h : Sur J bd d sh) (u : Upd 3 J sh J' sh') : Sur J' bd d sh' :=
 ⟨u.keep h.c0 (by decide) h.n0, u.keep h.c1 (by decide) h.n1, u.keep h.c2 (by decide) h.n2, u.out (lt_get h.c0) h.n0, u.out (lt_get h.c1) h.n1, u.out (lt_get h.c2) h.n2⟩
theorem run_loop {E : Me} (hE : E.ok) (xl : IV) (l : List Cd) (hl : Ls 6 xl (l.map Cd.e)) (hw : ∀ c ∈ l, c.wf) (hl96 : l.length ≤ 96) (bd : Bd) (d : Int) (hr : ∀ x ∈ l, x.right l.length bd.l.length E.moves.length = true) (K : Out IV → JH → Prop)
  (m0 : Mc) (hK : ∀ vs J' u, frz J' DEP (itup vs) = some u → ResR u (endF bd d (loopF E l 400 m0)) → K (.ret vs) J')
  {J : JH} {sh : IV} (h : MAt E J 3 sh m0) (hs : Sur J bd d sh) (hok : m0.ok bd.l.length l.length) (h0 : m0.used = 0) (h1 : m0.shows.length = 0) :
  WP (dn BI l_vm_Run_k4 [xl, .ptr 0 0 0, .ptr 1 0 0, .ptr 2 0 0, .ptr 3 0 0] J) K := by
 unfold l_vm_Run_k4
 simp -implicitDefEqProofs only [go_sem, dnW_ite, go_sem_proc, dn_loop]
 refine WP_loop (by decide) (fun n vs J => ∃ m sh, vs = [xl, .ptr 0 0 0, .ptr 1 0 0, .ptr 2 0 0, .ptr 3 0 0] ∧ MAt E J 3 sh m ∧ Sur J bd d sh ∧ m.ok bd.l.length l.length ∧ m.shows.length ≤ m.used ∧ m.used + n = 400 ∧ loopF E l n m = loopF E l 400 m0) ?_ 400 _ _ ⟨m0, sh, rfl, h, hs, hok, by omega, by omega, rfl⟩
 rintro n vs J ⟨m, sh, rfl, h, hs, hok, hsh, hu, hf⟩ K1 g1 g2 g3
 have hb := h.1
 have hpc := hok.pc
 have fin : loopF E l 400 m0 = m → K1 (.goto 1 [.ptr 0 0 0, .ptr 1 0 0, .ptr 2 0 0, .ptr 3 0 0]) J := fun e => by
  refine g2 _ _ ?_
  rw [e] at hK
  exact run_end bd d h hs.c0 hs.c1 _ hs.c2 hs.n2 K hK
 unfold l_vm_Run_k2
 by_cases he : m.err = 0
 ·have he' : ((m.err : Int) == 0) = true := by simp [he]
  by_cases hp : m.pc < l.length
  ·simp -implicitDefEqProofs only [go_sem, dnW_ite, go_sem_proc, hb, he', hl.lenF, List.length_map, show ((m.pc : Int) < (l.length : Int)) by omega]
   unfold l_vm_Run_k1
   by_cases hn : n = 0
   ·subst hn
    have hu4 : ((m.used : Int) == 400) = true := by rw [beq_iff_eq]; omega
    simp -implicitDefEqProofs only [go_sem, dnW_ite, go_sem_proc, hb, hu4]
    refine WP_call (fail_ok h 9) fun v J2 hv => ?_
    simp -implicitDefEqProofs only [go_sem, dnW_ite, go_sem_proc]
    refine g2 _ _ ?_
    obtain ⟨sh2, k1, u1⟩ := hv
    have hs2 := hs.upd u1
    rw [if_pos he] at k1
    refine run_end bd d k1 hs2.c0 hs2.c1 _ hs2.c2 hs2.n2 K ?_
    rw [← hf, loopF, if_pos ⟨he, hp⟩] at hK
    exact hK
   ·obtain ⟨k, rfl⟩ : ∃ k, n = k + 1 := ⟨n - 1, by omega⟩
    have hu4 : ((m.used : Int) == 400) = false := by rw [beq_eq_false_iff_ne]; omega
    have hat := fun J => hl.at (i := m.pc) (by simpa using hp) (J := J)
    simp only [List.getElem_map, Cd.e, Cd.cs] at hat
    have hx : l.getD m.pc ⟨0, 0, 0, 0, 0, 0⟩ = l[m.pc] := by simp [hp]
    have hin := inb hb
    have h' := h.set { m with used := m.used + 1 } rfl
    have u' : Upd 3 J sh (J.setIfInBounds 3 (.cells 0 (mc E { m with used := m.used + 1 } sh) false)) sh := .set _
    have hs' := hs.upd u'
    rw [loopF, if_pos ⟨he, hp⟩, hx] at hf
    by_cases h00 : l[m.pc].op = 0
    ·have ho : ((l[m.pc].op : Int) == 0) = true := by simp [h00]
     simp -implicitDefEqProofs only [go_sem, dnW_ite, go_sem_proc, hb, hu4, wrapS (show m.used < 401 by omega) (by omega), hat, ho, Array.getElem?_setIfInBounds, hin]
     refine g2 _ _ ?_
     rw [if_pos h00] at hf
     refine run_end bd d h' hs'.c0 hs'.c1 _ hs'.c2 hs'.n2 K ?_
     rw [hf]; exact hK
    ·have ho : ((l[m.pc].op : Int) == 0) = false := by rw [beq_eq_false_iff_ne]; omega
     rw [if_neg h00] at hf
     simp -implicitDefEqProofs only [go_sem, dnW_ite, go_sem_proc, hb, hu4, wrapS (show m.used < 401 by omega) (by omega), hat, ho, Array.getElem?_setIfInBounds, hin]
     have hrx := hr _ (List.getElem_mem hp)
     have hwx := hw _ (List.getElem_mem hp)
     have hok' : ({ m with used := m.used + 1 } : Mc).ok bd.l.length l.length := ⟨hok.r, hok.bd, hok.len, hok.pc⟩
     refine WP_call (follow_ok hE h' l[m.pc] hwx l.length (by show l[m.pc].right l.length m.bd.l.length _ = true; rw [hok.len]; exact hrx) (by show m.pc ≤ 1000; omega) h00 hok.r he (by show m.shows.length ≤ 1000; omega)) fun v J2 hv => ?_
     obtain ⟨sh2, k1, u1⟩ := hv
     have hnice := followF_nice hE hok' hp l[m.pc] hwx hrx
     simp -implicitDefEqProofs only [go_sem, dnW_ite, go_sem_proc]
     refine g1 _ k _ (by omega) ⟨_, sh2, rfl, k1, hs'.upd u1, hnice.ok, ?_, ?_, hf⟩
     ·have a := hnice.shows; have b := hnice.used; rw [b]; show _ ≤ m.used + 1; have : ({ m with used := m.used + 1 } : Mc).shows.length = m.shows.length := rfl; omega
     ·rw [hnice.used]; show m.used + 1 + k = 400; omega
  ·simp -implicitDefEqProofs only [go_sem, dnW_ite, go_sem_proc, hb, he', hl.lenF, List.length_map, show ¬ ((m.pc : Int) < (l.length : Int)) by omega]
   refine fin ?_
   rw [← hf]; cases n <;> simp [loopF, hp]
 ·have he' : ((m.err : Int) == 0) = false := by rw [beq_eq_false_iff_ne]; omega
  simp -implicitDefEqProofs only [go_sem, dnW_ite, go_sem_proc, hb, he']
  refine fin ?_
  rw [← hf]; cases n <;> simp [loopF, he]
def regsN (all : BitVec 32) (i : Nat) : Rg := ⟨(List.replicate (min i 8) ⟨0, all⟩ ++ List.replicate (8 - min i 8) Cl.z), by simp; omega⟩
theorem regsN_set (all : BitVec 32) {i : Nat} (h : i < 8) : (regsN all i).set i ⟨((regsN all i).at i).v, all⟩ = regsN all (i + 1) := by
 have e : ((regsN all i).at i).v = 0 := by
  rw [rg_at _ h]
  simp [regsN, show min i 8 = i by omega, Cl.z, List.getElem_append]
 rw [e]
 unfold Rg.set regsN
 congr 1
 rw [List.set_append_right _ _ (by simp; omega)]
 simp only [List.length_replicate, show min i 8 = i by omega, Nat.sub_self, show min (i + 1) 8 = i + 1 by omega]
 rw [show 8 - i = (8 - (i + 1)) + 1 by omega, List.replicate_succ (n := 8 - (i + 1)), List.set_cons_zero, List.replicate_succ' (n := i)]
 simp
theorem mc_one (m : Mc) (E : Me) (sh : IV) (h : ione E.mv = true) (hs : ione sh = true := by rfl) : (mc E m sh).all ione = true := by
 have hr : (rgc m.r).all ione = true := flat_one _
 rw [mc, List.all_append, bdc_one, List.all_append, List.all_append, hr, mcB, mcD]
 simp only [List.all_cons, h, hs]; rfl
theorem Run_ok (xl : IV) (l : List Cd) (hl : Ls 6 xl (l.map Cd.e)) (hw : ∀ c ∈ l, c.wf) (hlen : l.length ≤ 9223372036854775807) (bd : Bd) (hbd : bd.ok) (d : Int) (E : Me) (hE : E.ok) :
  ∃ u, pc BI F_vm_Run [xl, .agg (bdc bd), .agg [.int .u64 d], E.mv, .int .u32 E.tick, m32 E.all] = some u ∧ ResR u (runF E l bd d) := by
 refine pcW fn_vm_Run rfl fun K hK => ?_
 have hbl := bd.h
 have hR := Right_ok xl l hl hw bd.l.length E.moves.length (by omega) hE.len
 have hml := fun J => hE.mv.lenF (J := J)
 simp only [List.length_map] at hml
 have hmp := hE.mv.pure
 have hmo := hE.mv.one
 have hmi := hE.mv.icells
 unfold l_vm_Run
 cases hr : rightL l bd.l.length E.moves.length with
 | false =>
  rw [hr] at hR
  simp -implicitDefEqProofs only [go_sem, dnW_ite, go_sem_proc, dcp (Len_ok bd) (by simp [ipureL, ipure, bdc_pure]), hml, dcp hR (by simp [ipureL, ipure, hl.pure]), rs_one _ (.sc (.slice none 0 0)) rfl, show ∀ r s, isplice (resC r s) 101 [IV.int .i64 2] = resC { r with err := 2 } s from fun r s => rs_101 r s 2]
  refine hK _ _ _ (frzP (by simp [itup, ipure, rs_pure])) ?_
  simp only [runF, hr, if_true]; exact ⟨_, .nil, rfl⟩
 | true =>
  rw [hr] at hR
  have hfill := mcz_fill E.mv E.tick E.all hmi hmo
  simp -implicitDefEqProofs only [go_sem, dnW_ite, go_sem_proc, dcp (Len_ok bd) (by simp [ipureL, ipure, bdc_pure]), hml, dcp hR (by simp [ipureL, ipure, hl.pure]), rs_one _ (.sc (.slice none 0 0)) rfl, ↓hmi, ↓hmo, hfill, mc_one _ ⟨E.mv, [], E.tick, E.all⟩ (.sc (.slice none 0 0)) hmo, dn_loop]
  have hall : l.length ≤ 96 ∧ ∀ x ∈ l, x.right l.length bd.l.length E.moves.length = true := by
   simpa [rightL] using hr
  refine WP_range (by decide) 8 (fun i vs J => vs = [xl, m32 E.all, .ptr 0 0 0, .ptr 1 0 0, .ptr 2 0 0, .ptr 3 0 0, nI i] ∧ J = [IB.cells 0 (bdc bd) false, IB.cells 0 [.int .u64 d] false, IB.cells 0 (resC Rs.z (.sc (.slice none 0 0))) false, IB.cells 0 (mc E ⟨bd, d, 0#64, [], 0, 0, regsN E.all i, 0⟩ (.sc (.slice none 0 0))) false].toArray) ?_ ⟨rfl, rfl⟩
  rintro i vs J ⟨rfl, rfl⟩ hi K1 g1 g2 g3
  unfold l_vm_Run_k0
  by_cases h : i < 8
  ·simp -implicitDefEqProofs only [go_sem, dnW_ite, go_sem_proc, show ((i : Int) < 8) by omega, b8 h, st_rs E ⟨bd, d, 0#64, [], 0, 0, regsN E.all i, 0⟩ (.sc (.slice none 0 0)) h, wrapS h (by omega)]
   refine g1 h _ _ ⟨rfl, ?_⟩
   rw [← regsN_set E.all h]
  ·simp -implicitDefEqProofs only [go_sem, dnW_ite, go_sem_proc, show ¬ ((i : Int) < 8) by omega]
   obtain rfl : i = 8 := by omega
   refine g2 _ _ ?_
   have hm : MAt E ([IB.cells 0 (bdc bd) false, IB.cells 0 [.int .u64 d] false, IB.cells 0 (resC Rs.z (.sc (.slice none 0 0))) false, IB.cells 0 (mc E ⟨bd, d, 0#64, [], 0, 0, regsN E.all 8, 0⟩ (.sc (.slice none 0 0))) false].toArray) 3 (.sc (.slice none 0 0)) (start E bd d) := ⟨rfl, by simp [blk, blkOf], .nil⟩
   refine run_loop hE xl l hl hw hall.1 bd d hall.2 K (start E bd d) ?_ hm ⟨rfl, rfl, rfl, by simp [blk, blkOf], by simp [blk, blkOf], by simp [blk, blkOf]⟩ ⟨?_, hbd, rfl, Nat.zero_le _⟩ rfl rfl
   ·intro vs J' u h1 h2
    refine hK vs J' u h1 ?_
    rw [runF, if_neg (by rw [hr]; decide)]
    unfold endF at h2
    by_cases he : (loopF E l 400 (start E bd d)).err = 0
    ·rw [if_neg (by simpa using he)] at h2 ⊢
     rw [he] at h2; exact h2
    ·rw [if_pos he] at h2 ⊢; exact h2
   ·intro i hi
    have : ((start E bd d).r.at i).v = 0 := by
     show ((regs0 E.all).at i).v = 0
     rw [rg_at _ hi]; simp only [regs0, List.getElem_replicate]
    rw [this]; exact I32_0
theorem rl_bd (r s) : (resC r s).take 97 = bdc r.bd := by rw [resC, List.take_append_of_le_length (by rw [bdc_len]; exact Nat.le_refl _), bdc_take]
theorem rl_97 (r s) : ((resC r s).drop 97).take 1 = [.int .u64 r.dice] := by rw [resC, app_ld (bdc_len r.bd) 0]; rfl
theorem rl_98 (r s) : ((resC r s).drop 98).take 1 = [.int .u64 (r.touched.toNat : Int)] := by rw [resC, app_ld (bdc_len r.bd) 1]; rfl
theorem rl_99 (r s) : ((resC r s).drop 99).take 1 = [s] := by rw [resC, app_ld (bdc_len r.bd) 2]; rfl
theorem rl_100 (r s) : ((resC r s).drop 100).take 1 = [nI r.used] := by rw [resC, app_ld (bdc_len r.bd) 3]; rfl
theorem rl_101 (r s) : ((resC r s).drop 101).take 1 = [nI r.err] := by rw [resC, app_ld (bdc_len r.bd) 4]; rfl
theorem rsz_one (r) : (resC r (.sc (.slice none 0 0))).all ione = true := rs_one _ _ rfl
attribute [go_sem] rsz_one rl_bd rl_97 rl_98 rl_99 rl_100 rl_101
def stc (b : Bd) (d t : Int) : List IV := bdc b ++ [.int .u64 d, .int .u32 t]
theorem sta_len (b d t) : (stc b d t).length = 99 := by simp [stc, bdc_len]
theorem sta_take (b d t) : (stc b d t).take 99 = stc b d t := List.take_of_length_le (by rw [sta_len]; exact Nat.le_refl _)
theorem sta_bd (b d t) : (stc b d t).take 97 = bdc b := by rw [stc, List.take_append_of_le_length (by rw [bdc_len]; exact Nat.le_refl _), bdc_take]
theorem sta_97 (b d t) : ((stc b d t).drop 97).take 1 = [.int .u64 d] := by rw [stc, app_ld (bdc_len b) 0]; rfl
theorem sta_98 (b d t) : ((stc b d t).drop 98).take 1 = [.int .u32 t] := by rw [stc, app_ld (bdc_len b) 1]; rfl
theorem sta_one (b d t) : (stc b d t).all ione = true := by
 have := bdc_one b
 rw [stc, List.all_append, this]; rfl
theorem sta_pure (b d t) : ipureL (stc b d t) = true := by
 rw [stc, ipureL_iff]
 intro x hx
 rcases List.mem_append.1 hx with hx | hx
 ·exact ipureL_iff.1 (bdc_pure b) x hx
 ·simp at hx; rcases hx with rfl | rfl <;> rfl
attribute [go_sem] sta_len sta_take sta_bd sta_97 sta_98 sta_one
theorem sta_z : List.map IV.sc (reps 48 [Value.int IntKind.i32 0, Value.int IntKind.u32 0] ++ [Value.int IntKind.i64 0, Value.int IntKind.u64 0, Value.int IntKind.u32 0]) = stc Bd.z 0 0 := by kernel_rfl
theorem sta_all (b d t b2 d2 t2) : isplice (stc b d t) 0 (stc b2 d2 t2) = stc b2 d2 t2 := by
 simp only [isplice, List.take_zero, List.nil_append, Nat.zero_add]
 rw [List.drop_of_length_le (by rw [sta_len, sta_len]; exact Nat.le_refl _), List.append_nil]
theorem sta_sbd (b d t b2) : isplice (stc b d t) 0 (bdc b2) = stc b2 d t := by
 simp only [isplice, List.take_zero, List.nil_append, Nat.zero_add, stc]
 rw [bdc_len, List.drop_append_of_le_length (by rw [bdc_len]; exact Nat.le_refl _), List.drop_of_length_le (by rw [bdc_len]; exact Nat.le_refl _), List.nil_append]
theorem sta_s98 (b d t t2) : isplice (stc b d t) 98 [.int .u32 t2] = stc b d t2 := by
 have h := bdc_len b
 simp only [isplice, stc]
 rw [List.take_append, List.drop_append, List.take_of_length_le (by omega), List.drop_of_length_le (by rw [h]; simp only [List.length_cons, List.length_nil]; omega), h]; simp
theorem sta_s97 (b d t d2) : isplice (stc b d t) 97 [.int .u64 d2] = stc b d2 t := by
 have h := bdc_len b
 simp only [isplice, stc]
 rw [List.take_append, List.drop_append, List.take_of_length_le (by omega), List.drop_of_length_le (by rw [h]; simp only [List.length_cons, List.length_nil]; omega), h]; simp
attribute [go_sem] sta_all sta_sbd sta_s98 sta_s97
theorem SView_ok (b : Bd) (d t p : Int) : pc BI F_rules_State_View [.agg (stc b d t), .int .i64 p] = some (.agg (stc (b.view p) 0 t)) := by
 refine pcE fn_rules_State_View rfl fun K hK => ?_
 unfold l_rules_State_View
 have hm : BI.md F_board_Board_View = .pure := rfl
 simp -implicitDefEqProofs only [go_sem, dnW_ite, go_sem_proc, sta_z, hm, dcp (View_ok b p) (by simp [ipureL, ipure, bdc_pure])]
 exact hK _ _ (frzE (by simp [ipure, itup, sta_pure]) rfl)
theorem i32_rng (v : Int) : I32 (IntKind.i32.wrap v) := by
 unfold I32
 simp only [IntKind.wrap, IntKind.bits, IntKind.signed]
 simp; split <;> omega
theorem allF_rng (g : Gm) (ms) (n : Nat) : ∀ v ∈ g.allF ms n, I32 v := by
 intro v hv
 simp only [Gm.allF, List.mem_map] at hv
 obtain ⟨j, _, rfl⟩ := hv
 exact i32_rng _
def Gm.env (g : Gm) (ms : List (BitVec 32)) (t : Int) (q : IV) : Me := ⟨q, g.allF ms g.players.toNat, IntKind.u32.wrap (t + 1), allM g.obs⟩
theorem right_players {g : Gm} (h : g.right = true) : 1 ≤ g.players ∧ g.players ≤ 6 ∧ rightL g.code g.cells.length g.players.toNat = true := by
 simp only [Gm.right, Bool.and_eq_true, decide_eq_true_eq] at h
 exact ⟨h.1.1.1.1.2.1, h.1.1.1.1.2.2.1, h.2⟩
theorem Step_ok (g : Gm) (x y : IV) (h : GR g x y) (hr : g.right = true) (hw : ∀ c ∈ g.code, c.wf) (hb : g.code.length ≤ 9223372036854775807) (b : Bd) (hbk : b.ok) (d t : Int) (mv : IV) (ms : List (BitVec 32)) (hm : Ls 1 mv (ms.map m32)) :
  ∃ u, pc BI F_rules_Game_Step [.agg (gmc g x y), .agg (stc b d t), mv] = some u ∧ ∃ q s, Ls 1 q ((g.env ms t q).moves.map (IV.int .i32)) ∧ Ls 3 s ((runF (g.env ms t q) g.code b d).shows.map Sh.e) ∧
   u = .tup [.agg (stc (runF (g.env ms t q) g.code b d).bd (runF (g.env ms t q) g.code b d).dice (IntKind.u32.wrap (t + 1))), .agg [.int .u64 ((runF (g.env ms t q) g.code b d).touched.toNat : Int), s, nI (runF (g.env ms t q) g.code b d).err]] := by
 refine pcW fn_rules_Game_Step rfl fun K hK => ?_
 obtain ⟨h1, h6, hR⟩ := right_players hr
 obtain ⟨p, hp⟩ : ∃ p : Nat, g.players = p := ⟨g.players.toNat, by omega⟩
 have hpn : g.players.toNat = p := by omega
 obtain ⟨q, hq, hql⟩ := gall_ok g x y h p hp (by omega) mv ms hm
 rw [← hpn] at hql
 have hE : (g.env ms t q).ok := ⟨hql, allF_rng _ _ _, by show (g.allF ms g.players.toNat).length ≤ _; rw [allF_len]; omega⟩
 have hcl : g.code.length ≤ 96 := by
  have : g.code.length ≤ 96 ∧ ∀ x ∈ g.code, x.right g.code.length g.cells.length g.players.toNat = true := by simpa [rightL] using hR
  exact this.1
 obtain ⟨_, hr1, s, hs, rfl⟩ := Run_ok y g.code h.y hw (by omega) b hbk d (g.env ms t q) hE
 have hr1' : pc BI F_vm_Run [y, .agg (bdc b), .agg [.int .u64 d], q, .int .u32 (IntKind.u32.wrap (t + 1)), m32 (allM g.obs)] = _ := hr1
 have hg := gRight_ok g x y h hw hb
 rw [hr] at hg
 have hcon : ∀ J', K (.ret [.agg (stc (runF (g.env ms t q) g.code b d).bd (runF (g.env ms t q) g.code b d).dice (IntKind.u32.wrap (t + 1))), .agg [.int .u64 ((runF (g.env ms t q) g.code b d).touched.toNat : Int), s, nI (runF (g.env ms t q) g.code b d).err]]) J' := fun J' => by
  have hpu : ipure (itup [.agg (stc (runF (g.env ms t q) g.code b d).bd (runF (g.env ms t q) g.code b d).dice (IntKind.u32.wrap (t + 1))), .agg [.int .u64 ((runF (g.env ms t q) g.code b d).touched.toNat : Int), s, nI (runF (g.env ms t q) g.code b d).err]]) = true := by
   simp [itup, ipure, ipureL, sta_pure, hs.pure]
  exact hK _ _ _ (frzP hpu) ⟨q, s, hql, hs, rfl⟩
 generalize runF (g.env ms t q) g.code b d = R at *
 unfold l_rules_Game_Step
 simp -implicitDefEqProofs only [go_sem, dnW_ite, go_sem_proc, h.one, sta_z, dcp hg (by simp [ipureL, ipure, h.pure]), dcp hq (by simp [ipureL, ipure, h.pure, hm.pure]), dcp (All10_ok g x y h) (by simp [ipureL, ipure, h.pure]), dcp hr1' (by simp [ipureL, ipure, h.y.pure, hql.pure, bdc_pure]), rs_one _ _ hs.one, ↓h.y.icells, ↓hs.icells, ↓hs.one, castN]
 exact hcon _
theorem foldl_take_succ' {α β : Type} (f : β → α → β) (l : List α) (i : Nat) (h : i < l.length) (z : β) : (l.take (i + 1)).foldl f z = f ((l.take i).foldl f z) l[i] := by
 rw [List.take_succ_eq_append_getElem h, List.foldl_append]; rfl
def hidS (p : List Cl × List Int) (c : Cl) : List Cl × List Int := if c.s = 0#32 then (match p.2 with | [] => (p.1 ++ [c], []) | h :: r => (p.1 ++ [⟨h, 0#32⟩], r)) else (p.1 ++ [c], p.2)
def hid (C : List Cl) (H : List Int) : List Cl × List Int := C.foldl hidS ([], H)
theorem hidS_len (p c) : (hidS p c).1.length = p.1.length + 1 := by
 unfold hidS
 split
 ·split <;> simp
 ·simp
theorem hid_len (C : List Cl) : ∀ p, (C.foldl hidS p).1.length = p.1.length + C.length := by
 induction C with
 | nil => intro p; rfl
 | cons c C ih => intro p; rw [List.foldl_cons, ih, hidS_len, List.length_cons]; omega
theorem hidS_suf (p c) : (hidS p c).2.length ≤ p.2.length := by
 unfold hidS
 split
 ·split <;> simp_all
 ·simp
theorem hid_suf (C : List Cl) : ∀ p, (C.foldl hidS p).2.length ≤ p.2.length := by
 induction C with
 | nil => intro p; exact Nat.le_refl _
 | cons c C ih => intro p; rw [List.foldl_cons]; exact Nat.le_trans (ih _) (hidS_suf p c)
def hidB (C : List Cl) (h : C.length ≤ 48) (H : List Int) (i : Nat) : Bd := ⟨(hid (C.take i) H).1 ++ C.drop i, by
 have := hid_len (C.take i) ([], H)
 simp only [hid, List.length_append, this, List.length_take, List.length_drop, List.length_nil]; omega⟩
theorem hidB_len (C h H i) : (hidB C h H i).l.length = C.length := by
 have := hid_len (C.take i) ([], H)
 simp only [hidB, hid, List.length_append, this, List.length_take, List.length_drop, List.length_nil]; omega
theorem hidB_succ (C h H) {i : Nat} (hi : i < C.length) (c : Cl) (r : List Int) (he : hidS (hid (C.take i) H) C[i] = ((hid (C.take i) H).1 ++ [c], r)) : (hidB C h H i).set i c = hidB C h H (i + 1) ∧ (hid (C.take (i + 1)) H).2 = r := by
 have hs : hid (C.take (i + 1)) H = hidS (hid (C.take i) H) C[i] := foldl_take_succ' _ _ _ hi _
 have hl : (hid (C.take i) H).1.length = i := by
  have := hid_len (C.take i) ([], H)
  simp only [hid, this, List.length_take, List.length_nil]; omega
 refine ⟨?_, by rw [hs, he]⟩
 apply Bd.ext
 simp only [Bd.set, hidB]
 rw [hs, he, List.drop_eq_getElem_cons hi, List.set_append_right _ _ (by omega), hl, Nat.sub_self, List.set_cons_zero, List.append_assoc]; rfl
theorem hidB_same (C h H) {i : Nat} (hi : i < C.length) (r : List Int) (he : hidS (hid (C.take i) H) C[i] = ((hid (C.take i) H).1 ++ [C[i]], r)) : hidB C h H i = hidB C h H (i + 1) ∧ (hid (C.take (i + 1)) H).2 = r := by
 obtain ⟨h1, h2⟩ := hidB_succ C h H hi C[i] r he
 refine ⟨?_, h2⟩
 rw [← h1]
 have hl : (hid (C.take i) H).1.length = i := by
  have := hid_len (C.take i) ([], H)
  simp only [hid, this, List.length_take, List.length_nil]; omega
 apply Bd.ext
 simp only [Bd.set, hidB]
 rw [List.drop_eq_getElem_cons hi, List.set_append_right _ _ (by omega), hl, Nat.sub_self, List.set_cons_zero]
theorem start_loop (g : Gm) (x y : IV) (h : GR g x y) (h48 : g.cells.length ≤ 48) (hv : IV) (H : List Int) (hh : Ls 1 hv (H.map (IV.int .i32))) (hb : H.length ≤ 9223372036854775807) (sd : IV) (st : IV) (J : JH) (hJ : J[2]? = some (.cells 0 (bdc (hidB g.cells h48 H 0)) false)) (K : Out IV → JH → Prop)
  (hK : ∀ J', Fr J J' [2] → J'[2]? = some (.cells 0 (bdc (hidB g.cells h48 H g.cells.length)) false) → WP (dn BI l_rules_Game_Start_k1 [sd, st, .ptr 2 0 0] J') K) :
  WP (onJoinD 0 (iter (dn BI l_rules_Game_Start_k0) 1 [sd, hv, st, .ptr 2 0 0, x, nI g.cells.length, nI 0] J) l_rules_Game_Start_k1) K := by
 refine WP_range (by decide) g.cells.length (fun i vs J' => ∃ hw, vs = [sd, hw, st, .ptr 2 0 0, x, nI g.cells.length, nI i] ∧ Fr J J' [2] ∧ J'[2]? = some (.cells 0 (bdc (hidB g.cells h48 H i)) false) ∧ Ls 1 hw ((hid (g.cells.take i) H).2.map (IV.int .i32))) ?_ ⟨hv, rfl, .refl _ _, hJ, hh⟩
 rintro i vs J1 ⟨hw, rfl, hf, h2, hwl⟩ hi K1 g1 g2 g3
 have hin := inb h2
 have hl2 := lt_get h2
 unfold l_rules_Game_Start_k0
 by_cases hi2 : i < g.cells.length
 ·have hat := fun J => h.x.at (i := i) (by simpa using hi2) (J := J)
  simp only [List.getElem_map, Cl.e, Cl.c] at hat
  have hsuf := hid_suf (g.cells.take i) ([], H)
  have hw1 := wrapS hi2 (show g.cells.length ≤ 9223372036854775807 by omega)
  have hp2 : ∀ X : IB, (J1.push X)[2]? = J1[2]? := fun X => by rw [Array.getElem?_push, if_neg (by omega)]
  have hp3 : ∀ X : IB, (J1.push X)[J1.size]? = some X := fun X => by simp
  have fr2 : ∀ X : IB, Fr J (J1.push X) [2] := fun X => hf.trans (Fr.push _ _ [2]) (fun _ _ h => h)
  by_cases hc : g.cells[i].s = 0#32
  ·cases hr : (hid (g.cells.take i) H).2 with
   | nil =>
    obtain ⟨e1, e2⟩ := hidB_same g.cells h48 H hi2 [] (by simp [hidS, hc, hr])
    rw [hr] at hwl
    simp -implicitDefEqProofs only [go_sem, dnW_ite, go_sem_proc, show ((i : Int) < (g.cells.length : Int)) by omega, hat, hp3, hp2, hc, hwl.lenF, List.length_map, hw1, BitVec.toNat_ofNat, show ((((0 % 2 ^ 32 : Nat)) : Int) == 0) = true from rfl]
    refine g1 hi2 _ _ ⟨hw, rfl, fr2 _, ?_, ?_⟩
    ·rw [hp2, ← e1]; exact h2
    ·rw [e2]; exact hwl
   | cons v r =>
    obtain ⟨e1, e2⟩ := hidB_succ g.cells h48 H hi2 ⟨v, 0#32⟩ r (by simp [hidS, hc, hr])
    rw [hr] at hwl
    have hat0 := fun J => hwl.at (i := 0) (by simp) (J := J)
    simp only [List.map_cons, List.getElem_cons_zero, Int.natCast_zero] at hat0
    obtain ⟨hw', hsl0, hwl'⟩ := hwl.sliceLo (l := 1) (by simp)
    have hsl : ∀ J, sliceF 1 hw (some (.int .i64 1)) none none J = some (hw', J) := hsl0
    have hP : pc BI F_board_Board_Put [.agg (bdc (hidB g.cells h48 H i)), .int .i64 (i : Int), .agg [.int .i32 v, .sc (.int .u32 0)]] = _ := Put_ok (hidB g.cells h48 H i) i ⟨v, 0#32⟩
    have hth : (hidB g.cells h48 H i).there i = true := by simp [Bd.there, hidB_len]; omega
    rw [hth, Bd.put, if_pos hth, if_pos rfl, Int.toNat_natCast, e1] at hP
    simp -implicitDefEqProofs only [go_sem, dnW_ite, go_sem_proc, show ((i : Int) < (g.cells.length : Int)) by omega, hat, hp3, hp2, h2, hc, hwl.lenF, List.length_map, hw1, BitVec.toNat_ofNat, show ((((0 % 2 ^ 32 : Nat)) : Int) == 0) = true from rfl, show ((r.length + 1 : Nat) : Int) > 0 by omega, hat0, dcp hP (by simp [ipureL, ipure, bdc_pure]), hin, hsl, show ∀ k, 2 < J1.size + k by omega]
    refine g1 hi2 _ _ ⟨hw', rfl, (fr2 _).trans (Fr.set _ (b := 2) _ (S := [2]) (by simp)) (fun _ _ h => h), ?_, ?_⟩
    ·exact set_get _ (by simp; omega)
    ·rw [e2]; simpa using hwl'
  ·obtain ⟨e1, e2⟩ := hidB_same g.cells h48 H hi2 (hid (g.cells.take i) H).2 (by simp [hidS, hc])
   have hc' : (((g.cells[i].s).toNat : Int) == 0) = false := by rw [beqB0]; simp [hc]
   simp -implicitDefEqProofs only [go_sem, dnW_ite, go_sem_proc, show ((i : Int) < (g.cells.length : Int)) by omega, hat, hp3, hp2, ↓hc', hw1]
   refine g1 hi2 _ _ ⟨hw, rfl, fr2 _, ?_, ?_⟩
   ·rw [hp2, ← e1]; exact h2
   ·rw [e2]; exact hwl
 ·simp -implicitDefEqProofs only [go_sem, dnW_ite, go_sem_proc, show ¬ ((i : Int) < (g.cells.length : Int)) by omega]
  obtain rfl : i = g.cells.length := by omega
  exact g2 _ _ (hK _ hf h2)
theorem right_48 {g : Gm} (h : g.right = true) : g.cells.length ≤ 48 ∧ (1 ≤ g.obs ∧ g.obs ≤ 32) ∧ g.players ≤ g.obs ∧ g.dflt.toNat < g.moves.toNat ∧ g.code.length ≤ 96 := by
 have h2 := (right_players h).2.2
 have h3 : g.code.length ≤ 96 ∧ ∀ x ∈ g.code, x.right g.code.length g.cells.length g.players.toNat = true := by simpa [rightL] using h2
 simp only [Gm.right, Bool.and_eq_true, decide_eq_true_eq] at h
 exact ⟨h.1.1.2, h.1.1.1.1.1, h.1.1.1.1.2.2.2, h.1.1.1.2, h3.1⟩
def Gm.bd0 (g : Gm) (h : g.cells.length ≤ 48) (H : List Int) : Bd := hidB g.cells h H g.cells.length
theorem Start_ok (g : Gm) (x y : IV) (h : GR g x y) (hr : g.right = true) (hw : ∀ c ∈ g.code, c.wf) (hv : IV) (H : List Int) (hh : Ls 1 hv (H.map (IV.int .i32))) (hb : H.length ≤ 9223372036854775807) (sd : Int) :
  pc BI F_rules_Game_Start [.agg (gmc g x y), .int .u64 sd, hv] = some (.tup [.agg (stc (g.bd0 (right_48 hr).1 H) sd 0), nI 0]) := by
 refine pcE fn_rules_Game_Start rfl fun K hK => ?_
 obtain ⟨h48, _, _, _, h96⟩ := right_48 hr
 have hg := gRight_ok g x y h hw (by omega)
 rw [hr] at hg
 have hN := New_ok x g.cells h.x (by omega)
 have hz : Bd.new g.cells = hidB g.cells h48 H 0 := by
  unfold Bd.new
  rw [dif_pos h48]
  apply Bd.ext; simp [hidB, hid]
 rw [hz, if_pos h48] at hN
 unfold l_rules_Game_Start
 simp -implicitDefEqProofs only [go_sem, dnW_ite, go_sem_proc, h.one, sta_z, dcp hg (by simp [ipureL, ipure, h.pure]), dcp hN (by simp [ipureL, h.x.pure]), h.x.lenF, List.length_map, dn_loop]
 refine start_loop g x y h h48 hv H hh hb _ _ _ rfl K fun J' hf h2 => ?_
 have h1 : J'[1]? = some (.cells 0 (stc Bd.z 0 0) false) := by rw [hf.2 1 (by simp) (by simp)]; rfl
 have hl := lt_get h1
 unfold l_rules_Game_Start_k1
 simp -implicitDefEqProofs only [go_sem, dnW_ite, go_sem_proc, h1, h2, inb h1, sta_z, show isplice (isplice (stc Bd.z 0 0) 0 (bdc (hidB g.cells h48 H g.cells.length))) 97 [.int .u64 sd] = stc (g.bd0 h48 H) sd 0 from by rw [sta_sbd, sta_s97]; rfl]
 exact hK _ _ (frzE (by simp [ipure, ipureL, itup, sta_pure]) rfl)
def Gm.preM (g : Gm) (o : Int) (m : BitVec 32) : List (BitVec 32) := if 0 ≤ o then (List.replicate g.players.toNat g.dflt).set o.toNat m else List.replicate g.players.toNat g.dflt
def preN (g : Gm) (p i : Nat) : List (BitVec 32) := List.replicate i g.dflt ++ List.replicate (p - i) 0#32
theorem preN_set (g : Gm) {p i : Nat} (h : i < p) : ((preN g p i).map m32).set i (m32 g.dflt) = (preN g p (i + 1)).map m32 := by
 rw [← List.map_set]
 congr 1
 unfold preN
 rw [List.set_append_right _ _ (by simp), List.length_replicate, Nat.sub_self, show p - i = (p - (i + 1)) + 1 by omega, List.replicate_succ (n := p - (i + 1)), List.set_cons_zero, List.replicate_succ' (n := i)]
 simp
theorem preN_len (g : Gm) {p i : Nat} (h : i ≤ p) : (preN g p i).length = p := by simp [preN]; omega
theorem m32_flat (l : List (BitVec 32)) : (l.map fun m => [m32 m]).flatten = l.map m32 := by
 induction l with
 | nil => rfl
 | cons a l ih => simp only [List.map_cons, List.flatten_cons, ih]; rfl
theorem m32_1 (l : List (BitVec 32)) : ∀ x ∈ (l.map fun m => [m32 m]), x.length = 1 := by
 intro x hx; obtain ⟨v, _, rfl⟩ := List.mem_map.1 hx; rfl
theorem m32_mk (l : List (BitVec 32)) : (l.map fun m => [m32 m]).map (mkE 1) = l.map m32 := by rw [List.map_map]; rfl
theorem m32_pure (l : List (BitVec 32)) : ipureL (l.map m32) = true := ipureL_iff.2 fun x hx => by
 obtain ⟨v, _, rfl⟩ := List.mem_map.1 hx; rfl
theorem m32_ione (l : List (BitVec 32)) : (l.map m32).all ione = true := by simp [ione, one]
def Gm.pre (g : Gm) (b : Bd) (d t : Int) (o : Int) (m : BitVec 32) (q : IV) : Rs := runF (g.env (g.preM o m) t q) g.code b d
theorem predict_end (g : Gm) (x y : IV) (h : GR g x y) (hr : g.right = true) (hw : ∀ c ∈ g.code, c.wf) (b : Bd) (hbk : b.ok) (d t o : Int) (l : List (BitVec 32)) (J : JH) (h0 : J[0]? = some (.cells 0 (gmc g x y) false)) (h1 : J[1]? = some (.cells 0 (stc b d t) false)) (h2 : J[2]? = some (.cells 0 (stc Bd.z 0 0) false)) (h3 : J[3]? = some (.cells 0 (l.map m32) false)) (c : Nat) (K : Out IV → JH → Prop)
  (hK : ∀ J' q, Ls 1 q ((g.env l t q).moves.map (IV.int .i32)) → K (.ret [.agg (stc ((runF (g.env l t q) g.code b d).bd.view o) 0 (IntKind.u32.wrap (t + 1)))]) J') :
  WP (dn BI l_rules_Game_Predict_k1 [.int .i64 o, .ptr 0 0 0, .ptr 1 0 0, .ptr 2 0 0, .sl 3 0 0 l.length c 1] J) K := by
 unfold l_rules_Game_Predict_k1
 simp -implicitDefEqProofs only [go_sem, dnW_ite, go_sem_proc, h0, h1]
 have hraw : RawX J (.sl 3 0 0 l.length c 1) 1 (l.map fun m => [m32 m]) := ⟨3, 0, c, by rw [List.length_map], by rw [m32_flat]; exact h3⟩
 obtain ⟨u, hu, hul⟩ := hraw.frz (by decide) (m32_1 l) (by rw [m32_flat]; exact m32_pure l) (by rw [m32_flat]; exact m32_ione l)
 have hsh := hraw.shows (m32_1 l) (by rw [m32_flat]; exact m32_pure l)
 rw [m32_mk] at hul
 obtain ⟨h1', _, _, _, h96⟩ := right_48 hr
 obtain ⟨_, hS, q, s, hq, hs, rfl⟩ := Step_ok g x y h hr hw (by omega) b hbk d t u l hul
 have hone : [.int .u64 ((runF (g.env l t q) g.code b d).touched.toNat : Int), s, nI (runF (g.env l t q) g.code b d).err].all ione = true := by
  have := hs.one
  simp only [List.all_cons, List.all_nil, this]; rfl
 have hK' := fun J' => hK J' q hq
 generalize runF (g.env l t q) g.code b d = R at *
 refine WP_callG (S := [3]) (.pure (by simp [ipure, h.pure]) (.pure (by simp [ipure, sta_pure]) (.raw (hu 11) (by simpa [blk, blkOf] using hsh) .nil))) hS fun J2 f2 z2 => ?_
 have k2 : J2[2]? = some (.cells 0 (stc Bd.z 0 0) false) := by rw [f2.2 2 (lt_get h2) (by simp)]; exact h2
 have hl := lt_get k2
 have hm : BI.md F_rules_State_View = .pure := rfl
 simp -implicitDefEqProofs only [go_sem, dnW_ite, go_sem_proc, sta_z, hm, Array.getElem?_push, hone, k2, show ¬ (2 = J2.size) by omega, show ¬ (2 = J2.size + 1) by omega, show ¬ (J2.size = J2.size + 1) by omega, show J2.size < J2.size + 1 + 1 by omega, show ¬ (J2.size = 1) by omega, show ¬ (J2.size = 2) by omega, sta_all, show 2 < J2.size + 2 by omega, dcp (SView_ok R.bd R.dice (IntKind.u32.wrap (t + 1)) o) (by simp [ipureL, ipure, sta_pure]), Array.getElem?_setIfInBounds]
 exact hK' _
theorem Predict_ok (g : Gm) (x y : IV) (h : GR g x y) (hr : g.right = true) (hw : ∀ c ∈ g.code, c.wf) (b : Bd) (hbk : b.ok) (d t o : Int) (m : BitVec 32) :
  ∃ q, pc BI F_rules_Game_Predict [.agg (gmc g x y), .agg (stc b d t), .int .i64 o, m32 m] = some (.agg (stc ((g.pre b d t o m q).bd.view o) 0 (IntKind.u32.wrap (t + 1)))) ∧ Ls 1 q ((g.env (g.preM o m) t q).moves.map (IV.int .i32)) := by
 obtain ⟨h1, h6, hR⟩ := right_players hr
 obtain ⟨p, hp⟩ : ∃ p : Nat, g.players = p := ⟨g.players.toNat, by omega⟩
 have key : ∃ u, pc BI F_rules_Game_Predict [.agg (gmc g x y), .agg (stc b d t), .int .i64 o, m32 m] = some u ∧ ∃ q, u = .agg (stc ((g.pre b d t o m q).bd.view o) 0 (IntKind.u32.wrap (t + 1))) ∧ Ls 1 q ((g.env (g.preM o m) t q).moves.map (IV.int .i32)) := by
  refine pcW fn_rules_Game_Predict rfl fun K hK => ?_
  have hfit : fits p 4 = true := fits4r (by omega)
  have hrep : (List.replicate p [IV.sc (Value.int IntKind.u32 0)]).flatten = (preN g p 0).map m32 := by
   simp only [preN, List.replicate_zero, List.nil_append, Nat.sub_zero, List.map_replicate]
   induction p with
   | zero => rfl
   | succ p _ => rw [List.flatten_replicate_singleton]; rfl
  have hmax : max (p : Int) 0 = p := by omega
  have hmin : min (p : Int) 6 = p := by omega
  unfold l_rules_Game_Predict
  simp -implicitDefEqProofs only [go_sem, dnW_ite, go_sem_proc, h.one, sta_z, sta_one, hp, hmax, hmin, hfit, hrep, m32_ione, dn_loop]
  refine WP_range (by decide) p (fun i vs J' => vs = [.int .i64 o, m32 m, .ptr 0 0 0, .ptr 1 0 0, .ptr 2 0 0, .sl 3 0 0 p p 1, nI p, nI i] ∧ J' = #[.cells 0 (gmc g x y) false, .cells 0 (stc b d t) false, .cells 0 (stc Bd.z 0 0) false, .cells 0 ((preN g p i).map m32) false]) ?_ ⟨rfl, rfl⟩
  rintro i vs J1 ⟨rfl, rfl⟩ hi K1 g1 g2 g3
  unfold l_rules_Game_Predict_k0
  by_cases hlt : i < p
  ·have hw1 := wrapS hlt (show p ≤ 9223372036854775807 by omega)
   have hsp : isplice ((preN g p i).map m32) i [m32 g.dflt] = (preN g p (i + 1)).map m32 := by
    rw [isplice_set (by rw [List.length_map, preN_len g (by omega)]; exact hlt), preN_set g hlt]
   have hlen : (preN g p i).length = p := preN_len g (by omega)
   simp -implicitDefEqProofs only [go_sem, dnW_ite, go_sem_proc, show ((i : Int) < (p : Int)) by omega, hlt, hw1, hsp, hlen, show i + 1 ≤ p by omega, m32_ione]
   exact g1 hlt _ _ ⟨rfl, rfl⟩
  ·simp -implicitDefEqProofs only [go_sem, dnW_ite, go_sem_proc, show ¬ ((i : Int) < (p : Int)) by omega]
   obtain rfl : i = p := by omega
   refine g2 _ _ ?_
   have hfull : preN g i i = List.replicate i g.dflt := by simp [preN]
   rw [hfull]
   unfold l_rules_Game_Predict_k2
   have hpn : g.players.toNat = i := by omega
   have fin : ∀ l : List (BitVec 32), l = g.preM o m → l.length = i → WP (dn BI l_rules_Game_Predict_k1 [.int .i64 o, .ptr 0 0 0, .ptr 1 0 0, .ptr 2 0 0, .sl 3 0 0 i i 1] #[.cells 0 (gmc g x y) false, .cells 0 (stc b d t) false, .cells 0 (stc Bd.z 0 0) false, .cells 0 (l.map m32) false]) K := fun l hl hlen => by
    have := predict_end g x y h hr hw b hbk d t o l #[.cells 0 (gmc g x y) false, .cells 0 (stc b d t) false, .cells 0 (stc Bd.z 0 0) false, .cells 0 (l.map m32) false] rfl rfl rfl rfl i K (fun J' q hq => by
     refine hK _ _ _ (frzP (by simp [ipure, itup, sta_pure])) ⟨q, ?_, by rw [← hl]; exact hq⟩
     rw [hl]; rfl)
    rw [hlen] at this
    exact this
   by_cases h0 : 0 ≤ o
   ·by_cases h2 : o < i
    ·have hsp : isplice ((List.replicate i g.dflt).map m32) o.toNat [m32 m] = ((List.replicate i g.dflt).set o.toNat m).map m32 := by
      rw [isplice_set (by simp; omega), List.map_set]
     simp -implicitDefEqProofs only [go_sem, dnW_ite, go_sem_proc, show o ≥ 0 by omega, show o < (i : Int) by omega, show o.toNat < i by omega, List.length_replicate, List.length_map, hsp, show o.toNat + 1 ≤ i by omega, h0]
     refine fin ((List.replicate i g.dflt).set o.toNat m) (by simp [Gm.preM, h0, hpn]) (by simp)
    ·simp -implicitDefEqProofs only [go_sem, dnW_ite, go_sem_proc, show o ≥ 0 by omega, show ¬ o < (i : Int) by omega]
     refine fin (List.replicate i g.dflt) ?_ (by simp)
     simp only [Gm.preM, if_pos h0, hpn]
     rw [List.set_eq_of_length_le (by simp; omega)]
   ·simp -implicitDefEqProofs only [go_sem, dnW_ite, go_sem_proc, show ¬ o ≥ 0 by omega]
    exact fin (List.replicate i g.dflt) (by simp [Gm.preM, h0, hpn]) (by simp)
 obtain ⟨u, hu, q, rfl, hq⟩ := key
 exact ⟨q, hu, hq⟩
theorem fits8 {n : Nat} (h : n ≤ 1000000) : fits n 8 = true := by
 simp only [fits, Bool.and_eq_true, decide_eq_true_eq]; omega
theorem fits12 {n : Nat} (h : n ≤ 1000000) : fits n 12 = true := by
 simp only [fits, Bool.and_eq_true, decide_eq_true_eq]; omega
theorem cl2 (l : List Cl) : ∀ x ∈ l.map Cl.c, x.length = 2 := by
 intro e he
 obtain ⟨y, _, rfl⟩ := List.mem_map.1 he
 rfl
theorem cl_pure (l : List Cl) : ipureL (l.map Cl.c).flatten = true := ipureL_iff.2 fun x hx => by
 obtain ⟨e, he, hx⟩ := List.mem_flatten.1 hx
 obtain ⟨y, _, rfl⟩ := List.mem_map.1 he
 simp [Cl.c] at hx
 rcases hx with rfl | rfl <;> rfl
theorem cl_mk (l : List Cl) : (l.map Cl.c).map (mkE 2) = l.map Cl.e := by rw [List.map_map]; rfl
def i1 (l : List Int) : List (List IV) := l.map fun v => [IV.int .i32 v]
theorem cd6 (l : List Cd) : ∀ x ∈ l.map Cd.cs, x.length = 6 := by
 intro e he
 obtain ⟨y, _, rfl⟩ := List.mem_map.1 he
 rfl
theorem cd_pure (l : List Cd) : ipureL (l.map Cd.cs).flatten = true := ipureL_iff.2 fun x hx => by
 obtain ⟨e, he, hx⟩ := List.mem_flatten.1 hx
 obtain ⟨y, _, rfl⟩ := List.mem_map.1 he
 simp [Cd.cs] at hx
 rcases hx with rfl | rfl | rfl | rfl | rfl | rfl <;> rfl
theorem cd_one (l : List Cd) : (l.map Cd.cs).flatten.all ione = true := by
 rw [List.all_eq_true]
 intro x hx
 obtain ⟨e, he, hx⟩ := List.mem_flatten.1 hx
 obtain ⟨y, _, rfl⟩ := List.mem_map.1 he
 simp [Cd.cs] at hx
 rcases hx with rfl | rfl | rfl | rfl | rfl | rfl <;> rfl
theorem cd_mk (l : List Cd) : (l.map Cd.cs).map (mkE 6) = l.map Cd.e := by rw [List.map_map]; rfl
theorem evI_str {ρ : List IV} {s : ByteArray} : evI ρ (.const (.string s)) = .sc (.string s) := rfl
attribute [go_sem] evI_str
set_option maxHeartbeats 1000000
set_option maxHeartbeats 1000000
theorem bit_get {i : Int} (h0 : 0 ≤ i) (h : i < 64) (j : Nat) : (bit i).getLsbD j = decide (j = i.toNat) := by
 unfold bit
 rw [BitVec.getLsbD_shiftLeft]
 by_cases e : j = i.toNat
 ·subst e
  simp; omega
 ·by_cases hlt : j < i.toNat
  ·simp [hlt, e]
  ·have : j - i.toNat ≠ 0 := by omega
   simp [e, BitVec.getLsbD_one, this]
theorem within_self (m : BitVec 32) : within m m = true := by
 unfold within
 rw [beq_iff_eq]
 apply BitVec.eq_of_getLsbD_eq
 intro i hi
 simp
theorem within_or (m n : BitVec 32) : within m (m ||| n) = true := by
 unfold within
 rw [beq_iff_eq]
 apply BitVec.eq_of_getLsbD_eq
 intro i hi
 simp only [BitVec.getLsbD_and, BitVec.getLsbD_not, BitVec.getLsbD_or, BitVec.getLsbD_zero]
 cases m.getLsbD i <;> simp
theorem within_iff {m n : BitVec 32} : within m n = true ↔ ∀ i, m.getLsbD i = true → n.getLsbD i = true := by
 unfold within
 rw [beq_iff_eq]
 constructor
 ·intro h i hi
  have := congrArg (fun z => BitVec.getLsbD z i) h
  simp only [BitVec.getLsbD_and, BitVec.getLsbD_not, BitVec.getLsbD_zero, hi, Bool.true_and] at this
  have hlt : i < 32 := BitVec.lt_of_getLsbD hi
  simpa [hlt] using this
 ·intro h
  apply BitVec.eq_of_getLsbD_eq
  intro i hi
  simp only [BitVec.getLsbD_and, BitVec.getLsbD_not, BitVec.getLsbD_zero]
  cases hm : m.getLsbD i with
  | false => simp
  | true => simp [h i hm]
theorem within_trans {a b c : BitVec 32} (h : within a b = true) (k : within b c = true) : within a c = true := by
 rw [within_iff] at *
 exact fun i hi => k i (h i hi)
structure KP (b : Bd) (ns : Bool) (m : Mc) : Prop where
 len : m.bd.l.length = b.l.length
 kept : ∀ i, m.touched.getLsbD i = false → m.bd.l[i]? = b.l[i]?
 high : ∀ i, b.l.length ≤ i → m.touched.getLsbD i = false
 lab : ns = true → ∀ (i : Nat) (c : Cl), b.l[i]? = some c → ∃ c' : Cl, m.bd.l[i]? = some c' ∧ c'.v = c.v ∧ within c.s c'.s = true
variable {b : Bd} {ns : Bool} {m : Mc} {E : Me}
theorem KP.set (h : KP b ns m) {i : Int} (hi : m.bd.there i = true) (c : Cl) (bd : Bd) (hb : bd.l = m.bd.l.set i.toNat c) (hc : ns = true → c.v = (m.bd.at i).v ∧ within (m.bd.at i).s c.s = true) : KP b ns { m with bd := bd, touched := m.touched ||| bit i } := by
 have hbl := b.h
 have hlen := h.len
 obtain ⟨h0, h1⟩ : 0 ≤ i ∧ i < (m.bd.l.length : Int) := by simpa [Bd.there] using hi
 refine ⟨by rw [hb, List.length_set]; exact h.len, fun j hj => ?_, fun j hj => ?_, fun hn j d hd => ?_⟩
 ·simp only [BitVec.getLsbD_or, bit_get h0 (by omega), Bool.or_eq_false_iff, decide_eq_false_iff_not] at hj
  rw [hb, List.getElem?_set_ne (fun e => hj.2 e.symm)]
  exact h.kept j hj.1
 ·simp only [BitVec.getLsbD_or, bit_get h0 (by omega), Bool.or_eq_false_iff, decide_eq_false_iff_not]
  exact ⟨h.high j hj, by omega⟩
 ·obtain ⟨c', k1, k2, k3⟩ := h.lab hn j d hd
  rw [hb]
  by_cases e : i.toNat = j
  ·subst e
   have hlt : i.toNat < m.bd.l.length := by omega
   refine ⟨c, by simp [hlt], ?_⟩
   obtain ⟨c1, c2⟩ := hc hn
   have ea : m.bd.at i = c' := by simp [Bd.at, List.getD_eq_getElem?_getD, k1]
   rw [ea] at c1 c2
   exact ⟨c1.trans k2, within_trans k3 c2⟩
  ·rw [List.getElem?_set_ne e]
   exact ⟨c', k1, k2, k3⟩
theorem KP.same (h : KP b ns m) {m' : Mc} (h1 : m'.bd = m.bd) (h2 : m'.touched = m.touched) : KP b ns m' := ⟨by rw [h1]; exact h.len, by rw [h1, h2]; exact h.kept, by rw [h2]; exact h.high, by rw [h1]; exact h.lab⟩
theorem KP.put (h : KP b false m) {i : Int} (hi : m.bd.there i = true) (c : Cl) : KP b false { m with bd := m.bd.put i c, touched := m.touched ||| bit i } :=
 h.set hi c _ (by rw [Bd.put, if_pos hi]; rfl) (fun e => by cases e)
theorem KP.show (h : KP b ns m) {i : Int} (hi : m.bd.there i = true) (to : BitVec 32) : KP b ns { m with bd := m.bd.show i to, touched := m.touched ||| bit i } :=
 h.set hi ⟨(m.bd.at i).v, (m.bd.at i).s ||| to⟩ _ (by rw [Bd.show, if_pos hi]; rfl) (fun _ => ⟨rfl, within_or _ _⟩)
theorem KP.fill {start : Nat} {out : List Int} : ∀ (k : Nat) (m : Mc), KP b false m → start + k ≤ m.bd.l.length → KP b false (fillN m start out k)
 | 0, m, h, _ => h
 | k + 1, m, h, hk => by
  have ih := KP.fill (start := start) (out := out) k m h (by omega)
  have hl := fillN_len m start out k
  exact ih.put (by simp only [Bd.there, hl, decide_eq_true_eq]; omega) _
def isStore (x : Cd) : Bool := x.op == 3 || x.op == 5 || x.op == 24
theorem KP.reach (h : KP b ns m) (x : Cd) {size : Nat} (hr : x.right size m.bd.l.length E.moves.length = true) (hn : ns = true → isStore x = false) : KP b ns (reachF E m x) := by
 have hf : isStore x = true → ns = false := fun e => by cases ns with | false => rfl | true => rw [hn rfl] at e; cases e
 unfold reachF
 split
 ·split
  ·exact h.same rfl rfl
  ·exact h.same rfl rfl
 ·rename_i hop
  obtain rfl := hf (by simp [isStore, hop])
  split
  ·rename_i hnm
   exact h.put (named_ok hnm).1 _
  ·exact h.same rfl rfl
 ·unfold revealF
  split
  ·exact h.same rfl rfl
  ·rename_i hnm
   have := h.show (named_ok (by simpa using hnm)).1 (Sh.one m x E.all (named E m x).1)
   exact this.same rfl rfl
 ·rename_i hop
  obtain rfl := hf (by simp [isStore, hop])
  simp [Cd.right, hop, useOf] at hr
  have h' : KP b false { m with dice := (shufL m.dice (x.c - 1) (rowV m x.n.toNat x.c)).2 } := h.same rfl rfl
  exact KP.fill x.c _ h' (by show x.n.toNat + x.c ≤ m.bd.l.length; omega)
 ·exact h
theorem KP.follow (h : KP b ns m) (x : Cd) {size : Nat} (hr : x.right size m.bd.l.length E.moves.length = true) (hn : ns = true → isStore x = false) : KP b ns (followF E m x) := by
 have hg : KP b ns m.go := h.same rfl rfl
 have hf : isStore x = true → ns = false := fun e => by cases ns with | false => rfl | true => rw [hn rfl] at e; cases e
 unfold followF
 simp only
 split
 all_goals first
  | exact hg.same rfl rfl
  | exact hg.reach x hr hn
  | skip
 ·rename_i hop
  obtain rfl := hf (by simp [isStore, hop])
  simp [Cd.right, hop, useOf, nOk] at hr
  exact hg.put (decide_eq_true hr.1.1.1.1) _
 ·split
  ·split
   ·exact hg.same rfl rfl
   ·exact hg
  ·exact hg.same rfl rfl
theorem KP.loop (l : List Cd) (hr : ∀ x ∈ l, x.right l.length b.l.length E.moves.length = true) (hn : ns = true → ∀ x ∈ l, isStore x = false) : ∀ (k : Nat) (m : Mc), KP b ns m → KP b ns (loopF E l k m)
 | 0, m, h => by
  rw [loopF]; split
  ·exact h.same rfl rfl
  ·exact h
 | k + 1, m, h => by
  rw [loopF]
  split
  ·rename_i hc
   have hm := List.getElem_mem hc.2
   have e : l.getD m.pc ⟨0, 0, 0, 0, 0, 0⟩ = l[m.pc] := by simp [hc.2]
   rw [e]
   split
   ·exact h.same rfl rfl
   ·have h' : KP b ns { m with used := m.used + 1 } := h.same rfl rfl
    exact KP.loop l hr hn k _ (h'.follow l[m.pc] (by show l[m.pc].right l.length m.bd.l.length _ = true; rw [h.len]; exact hr _ hm) (fun e => hn e _ hm))
  ·exact h
theorem KP.start (d : Int) : KP b ns (Go.Proofs.Ytccbcbnglnloiaa.G.start E b d) := ⟨rfl, fun _ _ => rfl, fun _ _ => by simp [Go.Proofs.Ytccbcbnglnloiaa.G.start], fun _ i c h => ⟨c, h, rfl, within_self _⟩⟩
end Go.Proofs.Ytccbcbnglnloiaa.G
namespace Go.Proofs.Ytccbcbnglnloiaa.G
open Go
theorem push_set1 {α : Type} (J : Array α) (A X Y : α) : ((J.push A).push X).setIfInBounds (J.size + 1) Y = (J.push A).push Y := by
 have := push_set (J.push A) X Y
 rwa [Array.size_push] at this
attribute [go_sem] push_set1
set_option maxHeartbeats 1000000
def CE (P : BitVec 32 → Bool) (a b : Cl) : Prop := a.s = b.s ∧ (P a.s = true → a.v = b.v)
theorem CE.refl (P) (a : Cl) : CE P a a := ⟨rfl, fun _ => rfl⟩
def BE (P : BitVec 32 → Bool) (a b : Bd) : Prop := a.l.length = b.l.length ∧ ∀ i : Int, CE P (a.at i) (b.at i)
def SE (a b : List Sh) : Prop := a.map (fun s => (s.cell, s.to)) = b.map (fun s => (s.cell, s.to))
structure ME (P : BitVec 32 → Bool) (m n : Mc) : Prop where
 bd : BE P m.bd n.bd
 touched : m.touched = n.touched
 shows : SE m.shows n.shows
 used : m.used = n.used
 err : m.err = n.err
 r : ∀ i, i < 8 → CE P (m.r.at i) (n.r.at i)
 pc : m.pc = n.pc
structure PO (P : BitVec 32 → Bool) (all : BitVec 32) : Prop where
 all : ∀ s, within all s = true → P s = true
 meet : ∀ a b, P (a &&& b) = true → P a = true ∧ P b = true
 zero : P 0#32 = false
structure EE (P : BitVec 32 → Bool) (E F : Me) : Prop where
 all : E.all = F.all
 tick : E.tick = F.tick
 moves : ∀ i : Int, P (oneM i) = true → E.moves.getD i.toNat 0 = F.moves.getD i.toNat 0
variable {P : BitVec 32 → Bool} {E F : Me} {m n : Mc}
theorem BE.there {a b : Bd} (h : BE P a b) (i : Int) : a.there i = b.there i := by simp only [Bd.there, h.1]
theorem Bd.at_set (b : Bd) {i : Nat} (hi : i < b.l.length) (c : Cl) (j : Int) : (b.set i c).at j = if j.toNat = i then c else b.at j := by
 simp only [Bd.at, Bd.set, List.getD_eq_getElem?_getD, List.getElem?_set]
 by_cases h : i = j.toNat
 ·subst h; simp [hi]
 ·simp [h, Ne.symm h]
theorem BE.put {a b : Bd} (h : BE P a b) (i : Int) {c d : Cl} (hc : CE P c d) : BE P (a.put i c) (b.put i d) := by
 refine ⟨by rw [put_len, put_len]; exact h.1, fun j => ?_⟩
 unfold Bd.put
 rw [h.there i]
 by_cases ht : b.there i = true
 ·have h1 : i.toNat < b.l.length := by simp [Bd.there] at ht; omega
  rw [if_pos ht, if_pos ht, Bd.at_set _ (by rw [h.1]; exact h1), Bd.at_set _ h1]
  split
  ·exact hc
  ·exact h.2 j
 ·rw [if_neg ht, if_neg ht]; exact h.2 j
theorem BE.show {a b : Bd} (h : BE P a b) (i : Int) {to : BitVec 32} (hc : P ((a.at i).s ||| to) = true → (a.at i).v = (b.at i).v) : BE P (a.show i to) (b.show i to) := by
 refine ⟨by rw [show_len, show_len]; exact h.1, fun j => ?_⟩
 unfold Bd.show
 rw [h.there i]
 by_cases ht : b.there i = true
 ·have h1 : i.toNat < b.l.length := by simp [Bd.there] at ht; omega
  rw [if_pos ht, if_pos ht, Bd.at_set _ (by rw [h.1]; exact h1), Bd.at_set _ h1]
  split
  ·exact ⟨by show _ ||| to = _ ||| to; rw [(h.2 i).1], hc⟩
  ·exact h.2 j
 ·rw [if_neg ht, if_neg ht]; exact h.2 j
theorem Rset {r q : Rg} (h : ∀ i, i < 8 → CE P (r.at i) (q.at i)) {k : Nat} (hk : k < 8) {c d : Cl} (hc : CE P c d) : ∀ i, i < 8 → CE P ((r.set k c).at i) ((q.set k d).at i) := by
 intro i hi
 rw [Rg.at_set _ _ _ hk, Rg.at_set _ _ _ hk]
 split
 ·exact hc
 ·exact h i hi
theorem named_eq (hP : PO P E.all) (hE : EE P E F) (h : ME P m n) (x : Cd) (hb : x.b < 8) : named E m x = named F n x := by
 have hr := h.r x.b hb
 unfold named
 rw [← hE.all, ← hr.1, ← h.bd.1]
 by_cases hw : within E.all (m.r.at x.b).s = false
 ·rw [if_pos hw, if_pos hw]
 ·rw [if_neg hw, if_neg hw, ← hr.2 (hP.all _ (by simpa using hw))]
theorem ME.setR (h : ME P m n) {k : Nat} (hk : k < 8) {c d : Cl} (hc : CE P c d) : ME P { m with r := m.r.set k c } { n with r := n.r.set k d } := ⟨h.bd, h.touched, h.shows, h.used, h.err, Rset h.r hk hc, h.pc⟩
theorem ME.put (h : ME P m n) (i : Int) {c d : Cl} (hc : CE P c d) : ME P { m with bd := m.bd.put i c, touched := m.touched ||| bit i } { n with bd := n.bd.put i d, touched := n.touched ||| bit i } := ⟨h.bd.put i hc, by show _ ||| _ = _ ||| _; rw [h.touched], h.shows, h.used, h.err, h.r, h.pc⟩
theorem CE.z (hz : P 0#32 = false) (a b : Int) : CE P ⟨a, 0#32⟩ ⟨b, 0#32⟩ := ⟨rfl, fun h => by rw [hz] at h; cases h⟩
theorem ME.fill (hz : P 0#32 = false) (start : Nat) (o1 o2 : List Int) : ∀ (k : Nat) (m n : Mc), ME P m n → ME P (fillN m start o1 k) (fillN n start o2 k)
 | 0, m, n, h => h
 | k + 1, m, n, h => (ME.fill hz start o1 o2 k m n h).put _ (CE.z hz _ _)
theorem ME.errs (h : ME P m n) (e : Nat) : ME P { m with err := e } { n with err := e } := ⟨h.bd, h.touched, h.shows, h.used, rfl, h.r, h.pc⟩
theorem SE.app {a b c d : List Sh} (h : SE a b) (k : SE c d) : SE (a ++ c) (b ++ d) := by
 unfold SE at *
 rw [List.map_append, List.map_append, h, k]
def Tell (P : BitVec 32 → Bool) (a b : List Sh) : Prop := ∀ (i : Nat) (s t : Sh), a[i]? = some s → b[i]? = some t → P s.to = true → s.v = t.v
def Join' (P : BitVec 32 → Bool) : Prop := ∀ s t, P (s ||| t) = true → P s = true ∨ P t = true
theorem ME.reveal (hP : PO P E.all) (hE : EE P E F) (h : ME P m n) (x : Cd) (hb : x.b < 8) (hj : Join' P) (ht : Tell P (revealF E m x).shows (revealF F n x).shows) : ME P (revealF E m x) (revealF F n x) := by
 have hn := named_eq hP hE h x hb
 unfold revealF at ht ⊢
 rw [← hn] at ht ⊢
 by_cases hk : (named E m x).2.1 = false
 ·rw [if_pos hk, if_pos hk]; exact h.errs _
 ·rw [if_neg hk, if_neg hk] at ht ⊢
  have hc := h.bd.2 (named E m x).1
  have ho : Sh.one n x F.all (named E m x).1 = Sh.one m x E.all (named E m x).1 := by unfold Sh.one; rw [← hE.all, ← hc.1]
  rw [ho] at ht ⊢
  have hlen : m.shows.length = n.shows.length := by have := congrArg List.length h.shows; simpa using this
  have hv : P (Sh.one m x E.all (named E m x).1) = true → (m.bd.at (named E m x).1).v = (n.bd.at (named E m x).1).v := fun hp => by
   have hz : Sh.one m x E.all (named E m x).1 ≠ 0#32 := fun e => by rw [e, hP.zero] at hp; cases hp
   simp only [if_neg hz] at ht
   have := ht m.shows.length ⟨(named E m x).1, Sh.one m x E.all (named E m x).1, (m.bd.at (named E m x).1).v⟩ ⟨(named E m x).1, Sh.one m x E.all (named E m x).1, (n.bd.at (named E m x).1).v⟩ (by simp) (by rw [hlen]; simp) hp
   exact this
  refine ⟨h.bd.show _ fun hp => ?_, by show _ ||| _ = _ ||| _; rw [h.touched], SE.app h.shows ?_, h.used, rfl, h.r, h.pc⟩
  ·rcases hj _ _ hp with hp | hp
   ·exact hc.2 hp
   ·exact hv hp
  ·by_cases hz : Sh.one m x E.all (named E m x).1 = 0#32
   ·rw [if_pos hz, if_pos hz]; rfl
   ·rw [if_neg hz, if_neg hz]; rfl
theorem ME.reach (hP : PO P E.all) (hE : EE P E F) (h : ME P m n) (x : Cd) (ha : x.a < 8) (hb : x.b < 8) (hj : x.op = 22 → Join' P) (ht : Tell P (reachF E m x).shows (reachF F n x).shows) : ME P (reachF E m x) (reachF F n x) := by
 have hn := named_eq hP hE h x hb
 unfold reachF at ht ⊢
 split
 ·rw [← hn]
  split
  ·exact h.setR ha (h.bd.2 _)
  ·exact h.errs _
 ·rw [← hn]
  split
  ·exact h.put _ (h.r _ ha)
  ·exact h.errs _
 ·rename_i hop
  simp only [hop] at ht
  exact ME.reveal hP hE h x hb (hj hop) ht
 ·have hd : ME P { m with dice := (shufL m.dice (x.c - 1) (rowV m x.n.toNat x.c)).2 } { n with dice := (shufL n.dice (x.c - 1) (rowV n x.n.toNat x.c)).2 } := ⟨h.bd, h.touched, h.shows, h.used, h.err, h.r, h.pc⟩
  exact ME.fill hP.zero _ _ _ _ _ _ hd
 ·exact h
theorem CE.meet (hP : PO P E.all) {a b c d : Cl} (h : CE P a b) (k : CE P c d) (f : Int → Int → Int) : CE P ⟨f a.v c.v, a.s &&& c.s⟩ ⟨f b.v d.v, b.s &&& d.s⟩ := by
 refine ⟨by show a.s &&& c.s = b.s &&& d.s; rw [h.1, k.1], fun hp => ?_⟩
 obtain ⟨h1, h2⟩ := hP.meet _ _ hp
 show f a.v c.v = f b.v d.v
 rw [h.2 h1, k.2 h2]
theorem ME.follow (hP : PO P E.all) (hE : EE P E F) (h : ME P m n) (x : Cd) (ha : x.a < 8) (hb : x.b < 8) (hj : x.op = 22 → Join' P) (ht : Tell P (followF E m x).shows (followF F n x).shows) : ME P (followF E m x) (followF F n x) := by
 have hg : ME P m.go n.go := ⟨h.bd, h.touched, h.shows, h.used, h.err, h.r, by show m.pc + 1 = n.pc + 1; rw [h.pc]⟩
 have hc8 : x.c % 8 < 8 := by omega
 unfold followF at ht ⊢
 simp only at ht ⊢
 split
 ·exact hg.setR ha (by rw [hE.all]; exact CE.refl _ _)
 ·exact hg.setR ha (hg.bd.2 _)
 ·exact hg.put _ (hg.r _ ha)
 ·refine hg.setR ha ⟨?_, fun hp => ?_⟩
  ·show _ &&& _ &&& _ = _ &&& _ &&& _
   rw [(hg.r _ ha).1, (hg.r _ hb).1, (hg.r _ hc8).1]
  ·obtain ⟨h1, h2⟩ := hP.meet _ _ hp
   obtain ⟨h3, h4⟩ := hP.meet _ _ h1
   show (if _ then _ else _) = (if _ then _ else _)
   rw [(hg.r _ ha).2 h3, (hg.r _ hb).2 h4, (hg.r _ hc8).2 h2]
 ·rw [← hE.all, ← (hg.r _ ha).1]
  by_cases hw : within E.all (m.go.r.at x.a).s = true
  ·rw [if_pos hw, if_pos hw, ← (hg.r _ ha).2 (hP.all _ hw)]
   split
   ·exact ⟨hg.bd, hg.touched, hg.shows, hg.used, hg.err, hg.r, rfl⟩
   ·exact hg
  ·rw [if_neg hw, if_neg hw]; exact hg.errs _
 ·exact ⟨hg.bd, hg.touched, hg.shows, hg.used, hg.err, hg.r, rfl⟩
 ·exact hg.setR ha ⟨rfl, fun hp => hE.moves _ hp⟩
 ·have := hg.setR ha (CE.z hP.zero (below m.go.dice x.n) (below n.go.dice x.n))
  exact ⟨this.bd, this.touched, this.shows, this.used, this.err, this.r, this.pc⟩
 ·exact hg.setR ha (by rw [hE.all, hE.tick]; exact CE.refl _ _)
 ·rename_i hop; simp only [hop] at ht; exact ME.reach hP hE hg x ha hb hj ht
 ·rename_i hop; simp only [hop] at ht; exact ME.reach hP hE hg x ha hb hj ht
 ·rename_i hop; simp only [hop] at ht; exact ME.reach hP hE hg x ha hb hj ht
 ·rename_i hop; simp only [hop] at ht; exact ME.reach hP hE hg x ha hb hj ht
 ·exact hg.setR ha (CE.meet hP (hg.r _ hb) (hg.r _ hc8) _)
end Go.Proofs.Ytccbcbnglnloiaa.G
namespace Go.Proofs.Ytccbcbnglnloiaa.G
open Go
set_option maxHeartbeats 1000000
variable {P : BitVec 32 → Bool} {E F : Me} {m n : Mc}
theorem Tell.pre {P : BitVec 32 → Bool} {a b c d : List Sh} (h : Tell P (a ++ c) (b ++ d)) : Tell P a b := by
 intro i s t h1 h2 h3
 refine h i s t ?_ ?_ h3
 ·rw [List.getElem?_append_left (by have := List.getElem?_eq_some_iff.1 h1; exact this.1)]; exact h1
 ·rw [List.getElem?_append_left (by have := List.getElem?_eq_some_iff.1 h2; exact this.1)]; exact h2
theorem reachF_shows (E : Me) (m : Mc) (x : Cd) : ∃ c, (reachF E m x).shows = m.shows ++ c := by
 unfold reachF
 split
 ·split
  ·exact ⟨[], (List.append_nil _).symm⟩
  ·exact ⟨[], (List.append_nil _).symm⟩
 ·split
  ·exact ⟨[], (List.append_nil _).symm⟩
  ·exact ⟨[], (List.append_nil _).symm⟩
 ·unfold revealF; split
  ·exact ⟨[], (List.append_nil _).symm⟩
  ·exact ⟨_, rfl⟩
 ·have := fillN_same x.n.toNat (shufL m.dice (x.c - 1) (rowV m x.n.toNat x.c)).1 x.c { m with dice := (shufL m.dice (x.c - 1) (rowV m x.n.toNat x.c)).2 }
  refine ⟨[], ?_⟩
  rw [List.append_nil, shuffleF]
  simp_all
 ·exact ⟨[], (List.append_nil _).symm⟩
theorem followF_shows (E : Me) (m : Mc) (x : Cd) : ∃ c, (followF E m x).shows = m.shows ++ c := by
 unfold followF
 simp only
 split <;> first | exact ⟨[], (List.append_nil _).symm⟩ | exact reachF_shows E m.go x | skip
 split
 ·split <;> exact ⟨[], (List.append_nil _).symm⟩
 ·exact ⟨[], (List.append_nil _).symm⟩
theorem loopF_shows (E : Me) (l : List Cd) : ∀ (k : Nat) (m : Mc), ∃ c, (loopF E l k m).shows = m.shows ++ c
 | 0, m => by
  rw [loopF]; split
  ·exact ⟨[], (List.append_nil _).symm⟩
  ·exact ⟨[], (List.append_nil _).symm⟩
 | k + 1, m => by
  rw [loopF]
  split
  ·split
   ·exact ⟨[], (List.append_nil _).symm⟩
   ·obtain ⟨c, hc⟩ := loopF_shows E l k (followF E { m with used := m.used + 1 } (l.getD m.pc ⟨0, 0, 0, 0, 0, 0⟩))
    obtain ⟨d, hd⟩ := followF_shows E { m with used := m.used + 1 } (l.getD m.pc ⟨0, 0, 0, 0, 0, 0⟩)
    refine ⟨d ++ c, ?_⟩
    rw [hc, hd, List.append_assoc]
  ·exact ⟨[], (List.append_nil _).symm⟩
theorem ME.loop (hP : PO P E.all) (hE : EE P E F) (l : List Cd) (ha : ∀ x ∈ l, x.a < 8 ∧ x.b < 8) (hj : (∃ x ∈ l, x.op = 22) → Join' P) : ∀ (k : Nat) (m n : Mc), ME P m n → Tell P (loopF E l k m).shows (loopF F l k n).shows → ME P (loopF E l k m) (loopF F l k n)
 | 0, m, n, h, ht => by
  have hc2 : (n.err = 0 ∧ n.pc < l.length) ↔ (m.err = 0 ∧ m.pc < l.length) := by rw [h.err, h.pc]
  rw [loopF, loopF]
  by_cases hc : m.err = 0 ∧ m.pc < l.length
  ·rw [if_pos hc, if_pos (hc2.2 hc)]; exact h.errs _
  ·rw [if_neg hc, if_neg (fun q => hc (hc2.1 q))]; exact h
 | k + 1, m, n, h, ht => by
  have hc2 : (n.err = 0 ∧ n.pc < l.length) ↔ (m.err = 0 ∧ m.pc < l.length) := by rw [h.err, h.pc]
  rw [loopF, loopF] at ht ⊢
  by_cases hc : m.err = 0 ∧ m.pc < l.length
  ·rw [if_pos hc, if_pos (hc2.2 hc)] at ht ⊢
   have hm := List.getElem_mem hc.2
   have hx : l.getD m.pc ⟨0, 0, 0, 0, 0, 0⟩ = l[m.pc] := by simp [hc.2]
   have hy : l.getD n.pc ⟨0, 0, 0, 0, 0, 0⟩ = l[m.pc] := by rw [← h.pc, hx]
   rw [hx, hy] at ht ⊢
   have hu : ME P { m with used := m.used + 1 } { n with used := n.used + 1 } := ⟨h.bd, h.touched, h.shows, by show m.used + 1 = n.used + 1; rw [h.used], h.err, h.r, h.pc⟩
   by_cases h0 : l[m.pc].op = 0
   ·rw [if_pos h0, if_pos h0]; exact hu
   ·rw [if_neg h0, if_neg h0] at ht ⊢
    have ht' := ht
    obtain ⟨c, hc1⟩ := loopF_shows E l k (followF E { m with used := m.used + 1 } l[m.pc])
    obtain ⟨d, hd1⟩ := loopF_shows F l k (followF F { n with used := n.used + 1 } l[m.pc])
    rw [hc1, hd1] at ht'
    exact ME.loop hP hE l ha hj k _ _ (hu.follow hP hE l[m.pc] (ha _ hm).1 (ha _ hm).2 (fun e => hj ⟨_, hm, e⟩) ht'.pre) ht
  ·rw [if_neg hc, if_neg (fun q => hc (hc2.1 q))]; exact h
theorem ME.start (hE : EE P E F) {b c : Bd} (h : BE P b c) (d e : Int) : ME P (Go.Proofs.Ytccbcbnglnloiaa.G.start E b d) (Go.Proofs.Ytccbcbnglnloiaa.G.start F c e) :=
 ⟨h, rfl, rfl, rfl, rfl, fun i _ => by show CE P ((regs0 E.all).at i) ((regs0 F.all).at i); rw [hE.all]; exact CE.refl _ _, rfl⟩
structure RE (P : BitVec 32 → Bool) (r s : Rs) : Prop where
 bd : BE P r.bd s.bd
 touched : r.touched = s.touched
 shows : SE r.shows s.shows
 used : r.used = s.used
 err : r.err = s.err
theorem RE.run (hP : PO P E.all) (hE : EE P E F) (hl : E.moves.length = F.moves.length) (l : List Cd) (hj : (∃ x ∈ l, x.op = 22) → Join' P) {b c : Bd} (h : BE P b c) (d e : Int) (ht : Tell P (runF E l b d).shows (runF F l c e).shows) : RE P (runF E l b d) (runF F l c e) := by
 unfold runF at ht ⊢
 rw [← hl, ← h.1] at ht ⊢
 by_cases hR : rightL l b.l.length E.moves.length = false
 ·rw [if_pos hR, if_pos hR]; exact ⟨h, rfl, rfl, rfl, rfl⟩
 ·rw [if_neg hR, if_neg hR] at ht ⊢
  have hall : ∀ x ∈ l, x.a < 8 ∧ x.b < 8 := fun x hx => by
   have h2 : l.length ≤ 96 ∧ ∀ x ∈ l, x.right l.length b.l.length E.moves.length = true := by simpa [rightL] using hR
   exact (right_ab (h2.2 x hx)).2
  have hk := fun g => ME.loop hP hE l hall hj 400 _ _ (ME.start hE h d e) g
  have he : (loopF E l 400 (Go.Proofs.Ytccbcbnglnloiaa.G.start E b d)).shows = (if (loopF E l 400 (Go.Proofs.Ytccbcbnglnloiaa.G.start E b d)).err ≠ 0 then (⟨b, d, 0#64, (loopF E l 400 (Go.Proofs.Ytccbcbnglnloiaa.G.start E b d)).shows, (loopF E l 400 (Go.Proofs.Ytccbcbnglnloiaa.G.start E b d)).used, (loopF E l 400 (Go.Proofs.Ytccbcbnglnloiaa.G.start E b d)).err⟩ : Rs) else ⟨(loopF E l 400 (Go.Proofs.Ytccbcbnglnloiaa.G.start E b d)).bd, (loopF E l 400 (Go.Proofs.Ytccbcbnglnloiaa.G.start E b d)).dice, (loopF E l 400 (Go.Proofs.Ytccbcbnglnloiaa.G.start E b d)).touched, (loopF E l 400 (Go.Proofs.Ytccbcbnglnloiaa.G.start E b d)).shows, (loopF E l 400 (Go.Proofs.Ytccbcbnglnloiaa.G.start E b d)).used, 0⟩).shows := by split <;> rfl
  have hf : (loopF F l 400 (Go.Proofs.Ytccbcbnglnloiaa.G.start F c e)).shows = (if (loopF F l 400 (Go.Proofs.Ytccbcbnglnloiaa.G.start F c e)).err ≠ 0 then (⟨c, e, 0#64, (loopF F l 400 (Go.Proofs.Ytccbcbnglnloiaa.G.start F c e)).shows, (loopF F l 400 (Go.Proofs.Ytccbcbnglnloiaa.G.start F c e)).used, (loopF F l 400 (Go.Proofs.Ytccbcbnglnloiaa.G.start F c e)).err⟩ : Rs) else ⟨(loopF F l 400 (Go.Proofs.Ytccbcbnglnloiaa.G.start F c e)).bd, (loopF F l 400 (Go.Proofs.Ytccbcbnglnloiaa.G.start F c e)).dice, (loopF F l 400 (Go.Proofs.Ytccbcbnglnloiaa.G.start F c e)).touched, (loopF F l 400 (Go.Proofs.Ytccbcbnglnloiaa.G.start F c e)).shows, (loopF F l 400 (Go.Proofs.Ytccbcbnglnloiaa.G.start F c e)).used, 0⟩).shows := by split <;> rfl
  rw [← he, ← hf] at ht
  have hM := hk ht
  rw [← hM.err]
  split
  ·exact ⟨h, rfl, hM.shows, hM.used, rfl⟩
  ·exact ⟨hM.bd, hM.touched, hM.shows, hM.used, rfl⟩
end Go.Proofs.Ytccbcbnglnloiaa.G
namespace Go.Proofs.Ytccbcbnglnloiaa.G
open Go
set_option maxHeartbeats 1000000
variable {b : Bd} {ns : Bool} {m : Mc} {E : Me}
structure SOk (b : Bd) (ns : Bool) (all : BitVec 32) (m : Bd) (s : Sh) : Prop where
 there : b.there s.cell = true
 to0 : s.to ≠ 0#32
 all : within s.to all = true
 was : ns = true → s.to &&& (b.at s.cell).s = 0#32 ∧ s.v = (b.at s.cell).v ∧ within s.to (m.at s.cell).s = true
def LG (m n : Bd) : Prop := ∀ i : Int, within (m.at i).s (n.at i).s = true
theorem LG.refl (m : Bd) : LG m m := fun i => within_self _
theorem SOk.grow {all : BitVec 32} {m n : Bd} {s : Sh} (h : SOk b ns all m s) (hg : ns = true → LG m n) : SOk b ns all n s :=
 ⟨h.there, h.to0, h.all, fun e => ⟨(h.was e).1, (h.was e).2.1, within_trans (h.was e).2.2 (hg e _)⟩⟩
theorem KP.lg (h : KP b true m) : LG b m.bd := by
 intro i
 by_cases hi : i.toNat < b.l.length
 ·obtain ⟨c', k1, k2, k3⟩ := h.lab rfl i.toNat _ (List.getElem?_eq_getElem hi)
  have e1 : m.bd.at i = c' := by simp [Bd.at, List.getD_eq_getElem?_getD, k1]
  have e2 : b.at i = b.l[i.toNat] := by simp [Bd.at, hi]
  rw [e1, e2]; exact k3
 ·have e1 : b.at i = Cl.z := by simp [Bd.at, List.getD_eq_getElem?_getD, List.getElem?_eq_none (Nat.not_lt.1 hi)]
  rw [e1]
  unfold within Cl.z; simp
end Go.Proofs.Ytccbcbnglnloiaa.G
namespace Go.Proofs.Ytccbcbnglnloiaa.G
open Go
theorem followF_mv (q q' : IV) (ms : List Int) (t : Int) (a : BitVec 32) (m : Mc) (x : Cd) : followF ⟨q, ms, t, a⟩ m x = followF ⟨q', ms, t, a⟩ m x := by
 unfold followF reachF revealF named
 rfl
theorem loopF_mv (q q' : IV) (ms : List Int) (t : Int) (a : BitVec 32) (l : List Cd) : ∀ (k : Nat) (m : Mc), loopF ⟨q, ms, t, a⟩ l k m = loopF ⟨q', ms, t, a⟩ l k m
 | 0, m => rfl
 | k + 1, m => by
  rw [loopF, loopF, followF_mv q q', loopF_mv q q' ms t a l k]
theorem runF_mv (q q' : IV) (ms : List Int) (t : Int) (a : BitVec 32) (l : List Cd) (b : Bd) (d : Int) : runF ⟨q, ms, t, a⟩ l b d = runF ⟨q', ms, t, a⟩ l b d := by
 unfold runF
 have e : start ⟨q, ms, t, a⟩ b d = start ⟨q', ms, t, a⟩ b d := rfl
 rw [e, loopF_mv q q']
def Gm.run (g : Gm) (ms : List (BitVec 32)) (b : Bd) (d t : Int) : Rs := runF (g.env ms t (.sc (.slice none 0 0))) g.code b d
theorem run_mv (g : Gm) (ms : List (BitVec 32)) (b : Bd) (d t : Int) (q : IV) : runF (g.env ms t q) g.code b d = g.run ms b d t := runF_mv _ _ _ _ _ _ _ _
def outC (r : Rs) (s : IV) : List IV := [.int .u64 (r.touched.toNat : Int), s, nI r.err]
theorem PredR_ok (g : Gm) (x y : IV) (h : GR g x y) (hr : g.right = true) (hw : ∀ c ∈ g.code, c.wf) (b : Bd) (hbk : b.ok) (d t o : Int) (m : BitVec 32) :
  pc BI F_rules_Game_Predict [.agg (gmc g x y), .agg (stc b d t), .int .i64 o, m32 m] = some (.agg (stc ((g.run (g.preM o m) b d t).bd.view o) 0 (IntKind.u32.wrap (t + 1)))) := by
 obtain ⟨q, h1, _⟩ := Predict_ok g x y h hr hw b hbk d t o m
 rw [Gm.pre, run_mv] at h1
 exact h1
variable {b : Bd} {E : Me}
theorem loop_mok (l : List Cd) (hr : ∀ x ∈ l, x.right l.length b.l.length E.moves.length = true) (hE : E.ok) (hw : ∀ x ∈ l, x.wf) : ∀ (k : Nat) (m : Mc), m.ok b.l.length l.length → (loopF E l k m).bd.ok
 | 0, m, h => by
  rw [loopF]; split <;> exact h.bd
 | k + 1, m, h => by
  rw [loopF]
  split
  ·rename_i hc
   have hm := List.getElem_mem hc.2
   have e : l.getD m.pc ⟨0, 0, 0, 0, 0, 0⟩ = l[m.pc] := by simp [hc.2]
   rw [e]
   split
   ·exact h.bd
   ·have hok' : ({ m with used := m.used + 1 } : Mc).ok b.l.length l.length := ⟨h.r, h.bd, h.len, h.pc⟩
    exact loop_mok l hr hE hw k _ (followF_nice hE hok' hc.2 l[m.pc] (hw _ hm) (hr _ hm)).1
  ·exact h.bd
theorem run_bok (l : List Cd) (hE : E.ok) (hw : ∀ x ∈ l, x.wf) (b : Bd) (hb : b.ok) (d : Int) : (runF E l b d).bd.ok := by
 unfold runF
 split
 ·exact hb
 ·rename_i hR
  split
  ·exact hb
  ·have hall : ∀ x ∈ l, x.right l.length b.l.length E.moves.length = true := by
    have h2 : l.length ≤ 96 ∧ ∀ x ∈ l, x.right l.length b.l.length E.moves.length = true := by simpa [rightL] using hR
    exact h2.2
   refine loop_mok l hall hE hw 400 _ ⟨fun i hi => ?_, hb, rfl, Nat.zero_le _⟩
   have : ((start E b d).r.at i).v = 0 := by
    show ((regs0 E.all).at i).v = 0
    rw [rg_at _ hi]; simp only [regs0, List.getElem_replicate]
   rw [this]; exact I32_0
theorem step_bok (g : Gm) (hr : g.right = true) (hw : ∀ c ∈ g.code, c.wf) (ms : List (BitVec 32)) (b : Bd) (hb : b.ok) (d t : Int) : (g.run ms b d t).bd.ok := by
 obtain ⟨h1, h6, _⟩ := right_players hr
 have hE : (g.env ms t (.lst 1 true ((g.allF ms g.players.toNat).map (IV.int .i32)))).ok := ⟨.lst, allF_rng _ _ _, by show (g.allF ms g.players.toNat).length ≤ _; rw [allF_len]; omega⟩
 rw [← run_mv g ms b d t (.lst 1 true ((g.allF ms g.players.toNat).map (IV.int .i32)))]
 exact run_bok g.code hE hw b hb d
theorem hidS_I32 {p : List Cl × List Int} {c : Cl} (h1 : ∀ x ∈ p.1, I32 x.v) (h2 : ∀ v ∈ p.2, I32 v) (hc : I32 c.v) : (∀ x ∈ (hidS p c).1, I32 x.v) ∧ ∀ v ∈ (hidS p c).2, I32 v := by
 obtain ⟨L, R⟩ := p
 unfold hidS
 split
 ·split
  ·rename_i e
   simp only at e h1 h2 ⊢
   subst e
   refine ⟨fun x hx => ?_, by simp⟩
   rcases List.mem_append.1 hx with hx | hx
   ·exact h1 x hx
   ·simp at hx; subst hx; exact hc
  ·rename_i v r e
   simp only at e h1 h2 ⊢
   subst e
   refine ⟨fun x hx => ?_, fun w hw => h2 w (by simp [hw])⟩
   rcases List.mem_append.1 hx with hx | hx
   ·exact h1 x hx
   ·simp at hx; subst hx; exact h2 v (by simp)
 ·refine ⟨fun x hx => ?_, h2⟩
  rcases List.mem_append.1 hx with hx | hx
  ·exact h1 x hx
  ·simp at hx; subst hx; exact hc
theorem hid_I32 (C : List Cl) : ∀ (p : List Cl × List Int), (∀ x ∈ p.1, I32 x.v) → (∀ v ∈ p.2, I32 v) → (∀ c ∈ C, I32 c.v) → ∀ x ∈ (C.foldl hidS p).1, I32 x.v := by
 induction C with
 | nil => intro p h1 _ _; exact h1
 | cons c C ih =>
  intro p h1 h2 h3
  rw [List.foldl_cons]
  obtain ⟨k1, k2⟩ := hidS_I32 h1 h2 (h3 c (by simp))
  exact ih _ k1 k2 fun c hc => h3 c (by simp [hc])
theorem bd0_ok (g : Gm) (h : g.cells.length ≤ 48) (H : List Int) (hv : ∀ c ∈ g.cells, I32 c.v) (hH : ∀ v ∈ H, I32 v) : (g.bd0 h H).ok := by
 intro c hc
 simp only [Gm.bd0, hidB, List.take_length, List.drop_length, List.append_nil] at hc
 exact hid_I32 g.cells ([], H) (by simp) hH hv c hc
end Go.Proofs.Ytccbcbnglnloiaa.G
namespace Go.Proofs.Ytccbcbnglnloiaa.G
open Go
theorem gm_s4 (g : Gm) (x y v : IV) : isplice (gmc g x y) 4 [v] = gmc g v y := rfl
theorem gm_s5 (g : Gm) (x y v : IV) : isplice (gmc g x y) 5 [v] = gmc g x v := rfl
theorem gm_all (g : Gm) (x y : IV) (g2 : Gm) (x2 y2 : IV) : isplice (gmc g x y) 0 (gmc g2 x2 y2) = gmc g2 x2 y2 := rfl
attribute [go_sem] gm_s4 gm_s5 gm_all
theorem Clip.icells {J J' : JH} {s : IV} {sz : Nat} {X : List (List IV)} (h : Clip J J' s sz X) : Go.Proofs.Ytccbcbnglnloiaa.G.icells s = [s] := by
 rcases h with ⟨_, rfl, _⟩ | ⟨_, rfl, _⟩ <;> rfl
theorem Clip.one {J J' : JH} {s : IV} {sz : Nat} {X : List (List IV)} (h : Clip J J' s sz X) : ione s = true := by
 rcases h with ⟨_, rfl, _⟩ | ⟨_, rfl, _⟩ <;> rfl
theorem Clip.frzL {J J' J2 : JH} {s : IV} {sz : Nat} {X : List (List IV)} (h : Clip J J' s sz X) (hf : ∀ d, J.size ≤ d → d < J'.size → J2[d]? = J'[d]?) (hsz : 0 < sz) (hX : ∀ x ∈ X, x.length = sz) (hp : ipureL X.flatten = true) (ho : X.flatten.all ione = true) : ∃ u, (∀ k, Go.Proofs.Ytccbcbnglnloiaa.G.frz J2 (k + 1) s = some u) ∧ Ls sz u (X.map (mkE sz)) := by
 rcases h with ⟨rfl, rfl, rfl⟩ | ⟨hne, rfl, rfl⟩
 ·exact ⟨_, fun k => frz_pure _ _ rfl, .lst⟩
 ·have hb : J2[J.size]? = some (.cells 0 X.flatten false) := by rw [hf J.size (Nat.le_refl _) (by simp), push_get]
  refine ⟨.lst sz (X.length == UNK + sz && decide (UNK + sz < UNK)) (X.map (mkE sz)), fun k => ?_, .lst⟩
  rw [frz_sl (cs := X.flatten) hsz ?_ hp ho, grp_flat hX]
  simp only [ird, hb, true_and, Nat.zero_add, List.drop_zero]
  rw [if_pos (by rw [flat_len hX]; exact Nat.le_refl _), List.take_of_length_le (by rw [flat_len hX]; exact Nat.le_refl _)]
def Gm.few (g : Gm) : Gm := { g with cells := g.cells.take 48, code := g.code.take 96 }
theorem gfew_ok (g : Gm) (x y : IV) (h : GR g x y) (hb : g.cells.length ≤ 9223372036854775807) (hb2 : g.code.length ≤ 9223372036854775807) :
  ∃ u, pc BI F_law16_few [.agg (gmc g x y)] = some u ∧ ∃ x2 y2, u = .agg (gmc g.few x2 y2) ∧ GR g.few x2 y2 := by
 refine pcW fn_law16_few rfl fun K hK => ?_
 obtain ⟨a, ha, hal⟩ := h.x.slice (h := min g.cells.length 48) (by simp; omega)
 obtain ⟨c, hc, hcl⟩ := h.y.slice (h := min g.code.length 96) (by simp; omega)
 have hm : min (g.cells.length : Int) 48 = ((min g.cells.length 48 : Nat) : Int) := by omega
 have hm2 : min (g.code.length : Int) 96 = ((min g.code.length 96 : Nat) : Int) := by omega
 unfold l_law16_few
 simp -implicitDefEqProofs only [go_sem, dnW_ite, go_sem_proc, h.one, h.x.lenF, List.length_map, ipureL, grp, hm, ha]
 have tk : ∀ {α : Type} (l : List α) (n : Nat), l.take (min l.length n) = l.take n := fun l n => by rw [Nat.min_comm, ← List.take_eq_take_min]
 have hal' : Ls 2 a (((g.cells.take 48).map Cl.c).map (mkE 2)) := by
  rw [cl_mk, List.map_take, ← tk, List.length_map]; exact hal
 have hcl' : Ls 6 c (((g.code.take 96).map Cd.cs).map (mkE 6)) := by
  rw [cd_mk, List.map_take, ← tk, List.length_map]; exact hcl
 refine WP_bind (app_clip hal' (by decide) (cl2 _) (flat_one _) (fits8 (by simp; omega))) fun s1 J1 k1 => ?_
 have f1 := k1.fr
 have h0 : J1[0]? = some (.cells 0 (gmc g x y) false) := by rw [f1.2 0 (by simp) (by simp)]; rfl
 have hin := inb h0
 simp -implicitDefEqProofs only [go_sem, dnW_ite, go_sem_proc, h0, hin, ↓k1.icells, ↓k1.one, h.y.lenF, List.length_map, hm2, hc, set_get _ (lt_get h0), ipureL, grp]
 have hz1 := f1.1
 have hl0 := lt_get h0
 refine WP_bind (app_clip hcl' (by decide) (cd6 _) (cd_one _) (fits12 (by simp; omega))) fun s2 J2 k2 => ?_
 have f2 := k2.fr
 have h02 : J2[0]? = some (.cells 0 (gmc g s1 y) false) := by rw [f2.2 0 (by simpa using hl0) (by simp)]; exact set_get _ hl0
 have hb1 : J1[1]? = some (.cells 0 (gmc ⟨0, 0, 0#32, 0#32, [], []⟩ (.sc (.slice none 0 0)) (.sc (.slice none 0 0))) false) := by rw [f1.2 1 (by simp) (by simp)]; rfl
 have hb2' : J2[1]? = some (.cells 0 (gmc ⟨0, 0, 0#32, 0#32, [], []⟩ (.sc (.slice none 0 0)) (.sc (.slice none 0 0))) false) := by
  rw [f2.2 1 (by have := lt_get hb1; simpa using this) (by simp), Array.getElem?_setIfInBounds, if_neg (by decide)]; exact hb1
 have hin2 := inb h02
 have ho2 : (gmc g s1 s2).all ione = true := by
  have a1 := k1.one
  have a2 := k2.one
  simp only [gmc, List.all_cons, List.all_nil, a1, a2]; rfl
 have hb3 : (J2.setIfInBounds 0 (.cells 0 (gmc g s1 s2) false))[1]? = some (.cells 0 (gmc ⟨0, 0, 0#32, 0#32, [], []⟩ (.sc (.slice none 0 0)) (.sc (.slice none 0 0))) false) := by
  rw [Array.getElem?_setIfInBounds, if_neg (by decide)]; exact hb2'
 have hl3 := lt_get hb3
 simp -implicitDefEqProofs only [go_sem, dnW_ite, go_sem_proc, h02, hin2, ↓k2.icells, ↓k2.one, set_get _ (lt_get h02), hb3, inb hb3, ho2, set_get _ hl3]
 have hsz : (2 : Nat) ≤ J1.size := by simpa using hz1
 obtain ⟨u1, hu1, hl1⟩ := k1.frzL (J2 := (J2.setIfInBounds 0 (.cells 0 (gmc g s1 s2) false)).setIfInBounds 1 (.cells 0 (gmc g s1 s2) false)) (fun d hd hd2 => by
  have hd' : 2 ≤ d := by simpa using hd
  rw [Array.getElem?_setIfInBounds, if_neg (by omega), Array.getElem?_setIfInBounds, if_neg (by omega), f2.2 d (by simpa using hd2) (by simp), Array.getElem?_setIfInBounds, if_neg (by omega)]) (by decide) (cl2 _) (cl_pure _) (flat_one _)
 obtain ⟨u2, hu2, hl2⟩ := k2.frzL (J2 := (J2.setIfInBounds 0 (.cells 0 (gmc g s1 s2) false)).setIfInBounds 1 (.cells 0 (gmc g s1 s2) false)) (fun d hd hd2 => by
  have hd' : 2 ≤ d := by have : J1.size ≤ d := by simpa using hd
                         omega
  rw [Array.getElem?_setIfInBounds, if_neg (by omega), Array.getElem?_setIfInBounds, if_neg (by omega)]) (by decide) (cd6 _) (cd_pure _) (cd_one _)
 rw [cl_mk] at hl1
 rw [cd_mk] at hl2
 generalize (J2.setIfInBounds 0 (.cells 0 (gmc g s1 s2) false)).setIfInBounds 1 (.cells 0 (gmc g s1 s2) false) = JF at *
 have fp : ∀ {v : IV}, ipure v = true → frz JF 11 v = some v := fun h => frz_pure _ _ h
 refine hK _ _ (.agg (gmc g u1 u2)) (frz_aggL (k := 11) ?_) ⟨u1, u2, rfl, hl1, hl2⟩
 simp only [gmc]
 rw [List.mapM_cons, List.mapM_cons, List.mapM_cons, List.mapM_cons, List.mapM_cons, List.mapM_cons, fp (v := .int .i64 g.obs) rfl, fp (v := .int .i64 g.players) rfl, fp (v := m32 g.moves) rfl, fp (v := m32 g.dflt) rfl, hu1 10, hu2 10]
 rfl
theorem set_own {α : Type} {J : Array α} {b : Nat} {X : α} (h : J[b]? = some X) : J.setIfInBounds b X = J := by
 apply Array.ext_getElem?
 intro i
 rw [Array.getElem?_setIfInBounds]
 split
 ·rename_i e; subst e
  rw [if_pos (lt_get h), h]
 ·rfl
def uI (t : Int) : IV := .int .u32 t
def uL (X : List Int) : List IV := X.map uI
theorem uL_len (X : List Int) : (uL X).length = X.length := by simp [uL]
theorem uL_one (X : List Int) : (uL X).all ione = true := by simp [uL, uI, ione, one]
theorem uL_at (X : List Int) {j : Nat} (h : j < X.length) : ((uL X).drop j).take 1 = [uI X[j]] := by
 rw [List.drop_eq_getElem_cons (by rw [uL_len]; exact h)]
 simp [uL]
theorem uL_set (X : List Int) (j : Nat) (v : Int) (h : j < X.length) : isplice (uL X) j [uI v] = uL (X.set j v) := by
 rw [isplice_set (by rw [uL_len]; exact h), uL, uL, List.map_set]
structure InsI (X0 X : List Int) (i j : Nat) : Prop where
 perm : X.Perm X0
 cut : ∃ A x B C, X = A ++ x :: (B ++ C) ∧ A.length = j ∧ j + B.length = i ∧ (A ++ B).Pairwise (· ≤ ·) ∧ ∀ y ∈ B, x ≤ y
theorem InsI.start {X0 X : List Int} {i : Nat} (hp : X.Perm X0) (hi : i < X.length) (hs : (X.take i).Pairwise (· ≤ ·)) : InsI X0 X i i := by
 refine ⟨hp, X.take i, X[i], [], X.drop (i + 1), ?_, by simp; omega, by simp, by simpa using hs, by simp⟩
 rw [List.nil_append, ← List.drop_eq_getElem_cons hi, List.take_append_drop]
theorem InsI.lt {X0 X : List Int} {i j : Nat} (h : InsI X0 X i j) : j < X.length := by
 obtain ⟨A, x, B, C, rfl, rfl, _⟩ := h.cut
 simp
theorem InsI.step {X0 X : List Int} {i j : Nat} (h : InsI X0 X i j) (h0 : 0 < j) (a x : Int) (ha : X[j - 1]? = some a) (hx : X[j]? = some x) (hlt : x < a) : InsI X0 ((X.set j a).set (j - 1) x) i (j - 1) := by
 obtain ⟨A, x', B, C, hX, hA, hj, hs, hb⟩ := h.cut
 have hp := h.perm
 subst hX
 rcases List.eq_nil_or_concat A with rfl | ⟨A', z, rfl⟩
 ·simp at hA; omega
 ·rw [List.concat_eq_append] at *
  subst hA
  obtain rfl : x' = x := by simpa using hx
  obtain rfl : z = a := by simpa using ha
  have e : (((A' ++ [z] ++ x' :: (B ++ C)).set (A' ++ [z]).length z).set ((A' ++ [z]).length - 1) x') = A' ++ x' :: (z :: B ++ C) := by
   rw [List.set_append_right _ _ (Nat.le_refl _)]
   simp
  rw [e]
  refine ⟨?_, A', x', z :: B, C, rfl, by simp, by simp at hj ⊢; omega, by simpa using hs, ?_⟩
  ·refine List.Perm.trans ?_ hp
   simp only [List.append_assoc, List.cons_append, List.nil_append]
   exact List.Perm.append_left A' (List.Perm.swap _ _ _)
  ·intro y hy
   rcases List.mem_cons.1 hy with rfl | hy
   ·omega
   ·exact hb y hy
theorem InsI.len {X0 X : List Int} {i j : Nat} (h : InsI X0 X i j) : X.length = X0.length := h.perm.length_eq
theorem uLess_ok (a b : Int) : pc BI F_cmp_Less_uint32 [uI a, uI b] = some (.sc (.bool (decide (a < b)))) := by
 have hn : ∀ x : Int, pc BI F_cmp_isNaN_uint32 [uI x] = some (.bool false) := fun x => by
  refine pcE fn_cmp_isNaN_uint32 rfl fun K hK => ?_
  unfold l_cmp_isNaN_uint32 uI
  simp -implicitDefEqProofs only [go_sem, dnW_ite, go_sem_proc, show (x != x) = false by simp]
  exact hK _ _ (frzP rfl)
 refine pcE fn_cmp_Less_uint32 rfl fun K hK => ?_
 unfold l_cmp_Less_uint32
 simp -implicitDefEqProofs only [go_sem, dnW_ite, go_sem_proc, dcp (hn a) rfl]
 unfold uI
 simp -implicitDefEqProofs only [go_sem, dnW_ite, go_sem_proc]
 exact hK _ _ (frzP rfl)
theorem Sort_nil (J : JH) : RP (ic BI F_slices_Sort_Luint32_uint32 [.sc (.slice none 0 0)] J) fun v J' => v = .tup [] ∧ J' = J := by
 refine RP_run fn_slices_Sort_Luint32_uint32 rfl fun K hK => ?_
 unfold l_slices_Sort_Luint32_uint32
 have hq : pc BI F_math_bits_Len [.int .u64 0] = some (nI 0) := pcK 20 (by kernel_rfl)
 have hi : RP (ic BI F_slices_insertionSortOrdered_uint32 [.sc (.slice none 0 0), nI 0, nI 0] J) fun v J' => v = .tup [] ∧ J' = J := by
  refine RP_run fn_slices_insertionSortOrdered_uint32 rfl fun K hK => ?_
  unfold l_slices_insertionSortOrdered_uint32
  simp -implicitDefEqProofs only [go_sem, dnW_ite, go_sem_proc, show IntKind.i64.wrap (((0 : Nat) : Int) + 1) = ((1 : Nat) : Int) by decide, dn_loop]
  refine WP_rangeT 0 (fun k vs J' => vs = [.sc (.slice none 0 0), nI 0, nI 0, nI 1] ∧ J' = J) ?_ ⟨rfl, rfl⟩
  rintro k vs J1 ⟨rfl, rfl⟩ hk K1 g1 g2 g3
  unfold l_slices_insertionSortOrdered_uint32_k3
  simp -implicitDefEqProofs only [go_sem, dnW_ite, go_sem_proc, show ¬ (((1 : Nat) : Int) < ((0 : Nat) : Int)) by omega]
  exact g3 _ _ (hK _ _ ⟨rfl, rfl⟩)
 have hp : RP (ic BI F_slices_pdqsortOrdered_uint32 [.sc (.slice none 0 0), nI 0, nI 0, nI 0] J) fun v J' => v = .tup [] ∧ J' = J := by
  refine RP_run fn_slices_pdqsortOrdered_uint32 rfl fun K hK => ?_
  unfold l_slices_pdqsortOrdered_uint32
  simp -implicitDefEqProofs only [go_sem, dnW_ite, go_sem_proc, dn_loop]
  refine WP_rangeT 0 (fun k vs J' => vs = [.sc (.slice none 0 0), nI 0, nI 0, nI 0, .sc (.bool true), .sc (.bool true)] ∧ J' = J) ?_ ⟨rfl, rfl⟩
  rintro k vs J1 ⟨rfl, rfl⟩ hk K1 g1 g2 g3
  unfold l_slices_pdqsortOrdered_uint32_k4
  simp -implicitDefEqProofs only [go_sem, dnW_ite, go_sem_proc, show IntKind.i64.wrap (((0 : Nat) : Int) - ((0 : Nat) : Int)) = 0 by decide, show ((0 : Int) ≤ 12) by omega]
  refine WP_call hi fun v J' hv => ?_
  obtain ⟨rfl, rfl⟩ := hv
  simp -implicitDefEqProofs only [go_sem, dnW_ite, go_sem_proc]
  exact g3 _ _ (hK _ _ ⟨rfl, rfl⟩)
 simp -implicitDefEqProofs only [go_sem, dnW_ite, go_sem_proc, lenF_nil, show IntKind.u64.wrap 0 = 0 by decide, dcp hq rfl]
 refine WP_call hp fun v J' hv => ?_
 obtain ⟨rfl, rfl⟩ := hv
 simp -implicitDefEqProofs only [go_sem, dnW_ite, go_sem_proc]
 exact hK _ _ ⟨rfl, rfl⟩
theorem sortI_eq {Y X : List Int} (hp : Y.Perm X) (hs : Y.Pairwise (· ≤ ·)) : Y = sortI X := by
 refine List.Perm.eq_of_pairwise (le := (· ≤ ·)) (fun a b _ _ h1 h2 => by omega) hs ?_ (hp.trans (List.mergeSort_perm X _).symm)
 have := List.pairwise_mergeSort (le := fun a b : Int => decide (a ≤ b)) (fun a b c h1 h2 => by simp at *; omega) (fun a b => by simp; omega) X
 simpa [sortI] using this
abbrev nilS : IV := .sc (.slice none 0 0)
theorem clone2 {x : IV} {l : List Cl} (hx : Ls 2 x (l.map Cl.e)) (hb : l.length ≤ 100000) : ∃ u, pc BI F_slices_Clone_Lboard_Cell_board_Cell [x] = some u ∧ Ls 2 u (l.map Cl.e) := by
 refine pcW fn_slices_Clone_Lboard_Cell_board_Cell rfl fun K hK => ?_
 unfold l_slices_Clone_Lboard_Cell_board_Cell
 rcases hx with ⟨rfl, h0⟩ | ⟨f, rfl⟩
 ·simp -implicitDefEqProofs only [go_sem, dnW_ite, go_sem_proc, iisNil, isNil]
  exact hK _ _ _ (frzE rfl rfl) (by rw [h0]; exact .nil)
 ·simp -implicitDefEqProofs only [go_sem, dnW_ite, go_sem_proc, iisNil, ipureL, grp]
  have hy : Ls 2 (.lst 2 f (l.map Cl.e)) ((l.map Cl.c).map (mkE 2)) := by rw [cl_mk]; exact .lst
  refine WP_bind (app_clip hy (by decide) (cl2 _) (flat_one _) (fits8 (by simp; omega))) fun s J hs => ?_
  simp -implicitDefEqProofs only [go_sem, dnW_ite, go_sem_proc]
  obtain ⟨u, hu, hul⟩ := hs.frz (by decide) (cl2 _) (cl_pure _) (flat_one _)
  rw [cl_mk] at hul
  exact hK _ _ u (hu 11) hul
theorem clone6 {x : IV} {l : List Cd} (hx : Ls 6 x (l.map Cd.e)) (hb : l.length ≤ 100000) : ∃ u, pc BI F_slices_Clone_Lcode_Code_code_Code [x] = some u ∧ Ls 6 u (l.map Cd.e) := by
 refine pcW fn_slices_Clone_Lcode_Code_code_Code rfl fun K hK => ?_
 unfold l_slices_Clone_Lcode_Code_code_Code
 rcases hx with ⟨rfl, h0⟩ | ⟨f, rfl⟩
 ·simp -implicitDefEqProofs only [go_sem, dnW_ite, go_sem_proc, iisNil, isNil]
  exact hK _ _ _ (frzE rfl rfl) (by rw [h0]; exact .nil)
 ·simp -implicitDefEqProofs only [go_sem, dnW_ite, go_sem_proc, iisNil, ipureL, grp]
  have hy : Ls 6 (.lst 6 f (l.map Cd.e)) ((l.map Cd.cs).map (mkE 6)) := by rw [cd_mk]; exact .lst
  refine WP_bind (app_clip hy (by decide) (cd6 _) (cd_one _) (fits12 (by simp; omega))) fun s J hs => ?_
  simp -implicitDefEqProofs only [go_sem, dnW_ite, go_sem_proc]
  obtain ⟨u, hu, hul⟩ := hs.frz (by decide) (cd6 _) (cd_pure _) (cd_one _)
  rw [cd_mk] at hul
  exact hK _ _ u (hu 11) hul
def clrF (m : IV) (J : JH) : Option (IV × JH) := match m with
  | .sc (.map none) => some (.tup [], J)
  | .map b => (match J[b]? with | some (.map _ c) => some (.tup [], J.setIfInBounds b (.map [] c)) | _ => none)
  | _ => none
theorem iexec_clrM {B : IBook} {C : ICall} {md : Md} {ρ : List IV} {x : Operand} {J : JH} : iexec B C md ρ (.clearM x) J = clrF (evI ρ x) J := rfl
attribute [go_sem ↓] iexec_clrM
structure Km where
 k : BitVec 32
 m : BitVec 32
 b : Nat
def Km.e (x : Km) : IEnt := ⟨.int .u32 (x.k.toNat : Int), m32 x.m, x.b⟩
def Km.is (t : BitVec 32) (x : Km) : Bool := decide (x.k = t)
theorem km_find (t : BitVec 32) : ∀ l : List Km, ifindE (.int .u32 (t.toNat : Int)) (l.map Km.e) = (l.find? (Km.is t)).map Km.e
 | [] => rfl
 | x :: l => by
  simp only [List.map_cons, ifindE, List.find?_cons, Km.e]
  by_cases h : x.k = t
  ·have h1 : Km.is t x = true := by simp [Km.is, h]
   rw [h1, if_pos (by rw [h])]; rfl
  ·have h1 : Km.is t x = false := by simp [Km.is, h]
   have ih := km_find t l
   rw [h1, if_neg (fun e => h (by
    simp only [Value.int.injEq, true_and] at e
    exact (BitVec.eq_of_toNat_eq (by omega)))), ih]
theorem km_good (t : BitVec 32) (l : List Km) : igoodKeys (.int .u32) (.int .u32 (t.toNat : Int)) (l.map Km.e) = true := by
 simp only [igoodKeys, Bool.and_eq_true, List.all_map, List.all_eq_true]
 exact ⟨rfl, fun x _ => rfl⟩
section
variable {J : JH} {mb c : Nat} {l : List Km} (h : J[mb]? = some (.map (l.map Km.e) c)) (t : BitVec 32)
include h
theorem klook_yes {x : Km} (hx : l.find? (Km.is t) = some x) (z : Value) : lookF (some z) (.int .u32) true (.map mb) (m32 t) J = some (.tup [m32 x.m, .bool true], J) := by
 simp only [lookF, ilookup, show ikey (m32 t) = some (.int .u32 (t.toNat : Int)) from rfl, h, km_good, km_find, hx, if_true, Option.map_some]; rfl
theorem klook_no (hx : l.find? (Km.is t) = none) (z : Value) : lookF (some z) (.int .u32) true (.map mb) (m32 t) J = some (.tup [ivV z, .bool false], J) := by
 simp only [lookF, ilookup, show ikey (m32 t) = some (.int .u32 (t.toNat : Int)) from rfl, h, km_good, km_find, hx, if_true, Option.map_none]
theorem kset_new (hx : l.find? (Km.is t) = none) (m : BitVec 32) : msetF (.int .u32) (.map mb) (m32 t) (m32 m) J = some (.tup [], J.setIfInBounds mb (.map ((l ++ [Km.mk t m c]).map Km.e) (c + 1))) := by
 simp only [msetF, imapset, show ikey (m32 t) = some (.int .u32 (t.toNat : Int)) from rfl, h, km_good, km_find, hx, if_true, Option.map_none, List.map_append]; rfl
theorem kclr : clrF (.map mb) J = some (.tup [], J.setIfInBounds mb (.map [] c)) := by simp only [clrF, h]
end
theorem gm_one' (g : Gm) {x y : IV} (h1 : ione x = true) (h2 : ione y = true) : (gmc g x y).all ione = true := by
 simp only [gmc, List.all_cons, List.all_nil, h1, h2]; rfl
def trc (g : Gm) (x y : IV) (o : Int) (b : Bd) (d t : Int) (mb : Nat) (l : IV) (r : Int) : List IV := gmc g x y ++ ([.int .i64 o] ++ (stc b d t ++ [.map mb, l, .int .i64 r]))
section
variable (g : Gm) (x y : IV) (o : Int) (b : Bd) (d t : Int) (mb : Nat) (l : IV) (r : Int)
theorem tr_len : (trc g x y o b d t mb l r).length = 109 := by simp [trc, sta_len, gm_len]
theorem tr_take : (trc g x y o b d t mb l r).take 109 = trc g x y o b d t mb l r := List.take_of_length_le (by rw [tr_len]; exact Nat.le_refl _)
theorem tr_g : (trc g x y o b d t mb l r).take 6 = gmc g x y := by rw [trc, List.take_append_of_le_length (by simp [gm_len]), gm_take]
theorem tr_3 : ((trc g x y o b d t mb l r).drop 3).take 1 = [m32 g.dflt] := rfl
theorem tr_d6 : (trc g x y o b d t mb l r).drop 6 = [.int .i64 o] ++ (stc b d t ++ [.map mb, l, .int .i64 r]) := by rw [trc, List.drop_left' (by simp [gm_len])]
theorem tr_o : ((trc g x y o b d t mb l r).drop 6).take 1 = [.int .i64 o] := by rw [tr_d6]; rfl
theorem tr_d7 : (trc g x y o b d t mb l r).drop 7 = stc b d t ++ [.map mb, l, .int .i64 r] := by rw [show 7 = 6 + 1 from rfl, ← List.drop_drop, tr_d6]; rfl
theorem tr_s : ((trc g x y o b d t mb l r).drop 7).take 99 = stc b d t := by rw [tr_d7, List.take_append_of_le_length (by simp [sta_len]), sta_take]
theorem tr_t : ((trc g x y o b d t mb l r).drop 105).take 1 = [.int .u32 t] := by
 rw [show 105 = 7 + 98 from rfl, ← List.drop_drop, tr_d7, stc, List.append_assoc, List.drop_append, bdc_len, List.drop_of_length_le (by rw [bdc_len]; omega)]; rfl
theorem tr_d106 : (trc g x y o b d t mb l r).drop 106 = [.map mb, l, .int .i64 r] := by rw [show 106 = 7 + 99 from rfl, ← List.drop_drop, tr_d7, List.drop_left' (by simp [sta_len])]
theorem tr_m : ((trc g x y o b d t mb l r).drop 106).take 1 = [.map mb] := by rw [tr_d106]; rfl
theorem tr_l : ((trc g x y o b d t mb l r).drop 107).take 1 = [l] := by rw [show 107 = 106 + 1 from rfl, ← List.drop_drop, tr_d106]; rfl
theorem tr_r : ((trc g x y o b d t mb l r).drop 108).take 1 = [.int .i64 r] := by rw [show 108 = 106 + 2 from rfl, ← List.drop_drop, tr_d106]; rfl
theorem tr_t7 : (trc g x y o b d t mb l r).take 7 = gmc g x y ++ [.int .i64 o] := by
 rw [trc, ← List.append_assoc, List.take_left' (by simp [gm_len])]
theorem tr_s7 (b2 : Bd) (d2 t2 : Int) : isplice (trc g x y o b d t mb l r) 7 (stc b2 d2 t2) = trc g x y o b2 d2 t2 mb l r := by
 rw [isplice, tr_t7, sta_len, tr_d106, trc]; simp
theorem tr_s107 (l2 : IV) : isplice (trc g x y o b d t mb l r) 107 [l2] = trc g x y o b d t mb l2 r := by
 have h : (trc g x y o b d t mb l r).take 107 = gmc g x y ++ [.int .i64 o] ++ stc b d t ++ [.map mb] := by
  rw [show trc g x y o b d t mb l r = (gmc g x y ++ [.int .i64 o] ++ stc b d t ++ [.map mb]) ++ [l, .int .i64 r] by simp [trc], List.take_left' (by simp [gm_len, sta_len])]
 rw [isplice, h, show 107 + [l2].length = 106 + 2 from rfl, ← List.drop_drop, tr_d106, trc]; simp
theorem tr_s108 (r2 : Int) : isplice (trc g x y o b d t mb l r) 108 [.int .i64 r2] = trc g x y o b d t mb l r2 := by
 have h : (trc g x y o b d t mb l r).take 108 = gmc g x y ++ [.int .i64 o] ++ stc b d t ++ [.map mb, l] := by
  rw [show trc g x y o b d t mb l r = (gmc g x y ++ [.int .i64 o] ++ stc b d t ++ [.map mb, l]) ++ [.int .i64 r] by simp [trc], List.take_left' (by simp [gm_len, sta_len])]
 rw [isplice, h, List.drop_of_length_le (by rw [tr_len]; simp), trc]; simp
end
attribute [go_sem] tr_len tr_take tr_g tr_3 tr_o tr_s tr_t tr_m tr_l tr_r tr_s7 tr_s107 tr_s108
theorem tr_one {g x y o b d t mb l r} (h : GR g x y) (hl : ione l = true) : (trc g x y o b d t mb l r).all ione = true := by
 simp only [trc, List.all_append, h.one, sta_one, List.all_cons, List.all_nil, hl]; rfl
structure Sx where
 b : Bd
 d : Int
 t : BitVec 32
def Sx.c (s : Sx) : List IV := stc s.b s.d (s.t.toNat : Int)
def sxX (l : List Sx) : List (List IV) := l.map Sx.c
theorem sxX_99 (l : List Sx) : ∀ e ∈ sxX l, e.length = 99 := by
 intro e he; obtain ⟨x, _, rfl⟩ := List.mem_map.1 he; exact sta_len _ _ _
theorem sxX_len (l : List Sx) : (sxX l).length = l.length := by simp [sxX]
theorem flat99 (A : List Sx) : (sxX A).flatten.length = A.length * 99 := by rw [flat_len (sxX_99 A), sxX_len]
def Gx (J : JH) (x : IV) (A : List Sx) : Prop := (x = .sc (.slice none 0 0) ∧ A = []) ∨ ∃ b v off full, x = .sl b v off A.length (UNK + 99) 99 ∧ J[b]? = some (.cells v full false) ∧ off + A.length * 99 ≤ full.length ∧ (full.drop off).take (A.length * 99) = (sxX A).flatten
theorem Gx.nil {J : JH} : Gx J (.sc (.slice none 0 0)) [] := .inl ⟨rfl, rfl⟩
theorem Gx.low {J : JH} {x : IV} {A : List Sx} (h : Gx J x A) : ∀ b ∈ blk x, b < J.size := by
 rcases h with ⟨rfl, rfl⟩ | ⟨b, v, off, full, rfl, h1, h2, h3⟩
 ·simp [blk, blkOf]
 ·simp only [blk, blkOf, Option.getD_some, List.mem_singleton, forall_eq]
  exact lt_get h1
theorem Gx.fr {J J' : JH} {x : IV} {A : List Sx} {S : List Nat} (h : Gx J x A) (hf : Fr J J' S) (hS : ∀ b ∈ blk x, b ∉ S) : Gx J' x A := by
 rcases h with ⟨rfl, rfl⟩ | ⟨b, v, off, full, rfl, h1, h2, h3⟩
 ·exact .nil
 ·refine .inr ⟨b, v, off, full, rfl, ?_, h2, h3⟩
  rw [hf.2 b (lt_get h1) (hS b (by simp [blk, blkOf]))]
  exact h1
theorem Gx.one {J : JH} {x : IV} {A : List Sx} (h : Gx J x A) : ione x = true := by
 rcases h with ⟨rfl, rfl⟩ | ⟨b, v, off, full, rfl, h1, h2, h3⟩ <;> simp [ione, Go.Proofs.Ytccbcbnglnloiaa.G.one]
theorem Gx.icells {J : JH} {x : IV} {A : List Sx} (h : Gx J x A) : icells x = [x] := by
 rcases h with ⟨rfl, rfl⟩ | ⟨b, v, off, full, rfl, h1, h2, h3⟩ <;> simp [Go.Proofs.Ytccbcbnglnloiaa.G.icells]
theorem Gx.lenF {J J' : JH} {x : IV} {A : List Sx} (h : Gx J x A) : Go.Proofs.Ytccbcbnglnloiaa.G.lenF false x J' = some (.int .i64 (A.length : Nat), J') := by
 rcases h with ⟨rfl, rfl⟩ | ⟨b, v, off, full, rfl, h1, h2, h3⟩
 ·rfl
 ·rw [lenF_sl]
theorem Gx.sx {J : JH} {x : IV} {A : List Sx} (h : Gx J x A) {i : Nat} (hi : i < A.length) :
  ∃ b v off cs, x = .sl b v off A.length (UNK + 99) 99 ∧ J[b]? = some (.cells v cs false) ∧ (cs.drop (off + i * 99)).take 99 = A[i].c ∧ off + i * 99 + 99 ≤ cs.length := by
 rcases h with ⟨rfl, rfl⟩ | ⟨b, v, off, full, rfl, h1, h2, h3⟩
 ·simp at hi
 ·refine ⟨b, v, off, full, rfl, h1, ?_, by omega⟩
  have e : full.drop off = (sxX A).flatten ++ (full.drop off).drop (A.length * 99) := by
   rw [← h3, List.take_append_drop]
  have hi2 : i < (sxX A).length := by rw [sxX_len]; exact hi
  rw [← List.drop_drop, e, flat_at (sxX_99 A) hi2]; simp [sxX]
theorem Gx.hi {J : JH} {l : IV} {A : List Sx} (h : Gx J l A) {k : Nat} (hk : k ≤ A.length) : ∃ l', (∀ J', sliceF 99 l none (some (nI k)) none J' = some (l', J')) ∧ Gx J l' (A.take k) ∧ ∀ q ∈ blk l', q ∈ blk l := by
 rcases h with ⟨rfl, rfl⟩ | ⟨b, v, off, full, rfl, h1, h2, h3⟩
 ·obtain rfl : k = 0 := by simpa using hk
  exact ⟨_, fun J => rfl, .nil, fun q hq => hq⟩
 ·refine ⟨.sl b v off k (UNK + 99) 99, fun J' => ?_, .inr ⟨b, v, off, full, ?_, h1, ?_, ?_⟩, fun q hq => hq⟩
  ·have hcap : capOf A.length (UNK + 99) = A.length := by simp [capOf, UNK]
   rw [sliceF_sl]
   simp only [islice, hcap, Option.isSome_none, Option.isNone_some, Bool.and_false, bne_self_eq_false, Bool.or_false, Bool.false_eq_true, if_false, ibnd, iasNat, asNat, Int.natCast_nonneg, if_true, Int.toNat_natCast, Nat.zero_le, hk, Nat.le_refl, and_self, Nat.le_add_right, Nat.zero_mul, Nat.add_zero, Nat.sub_zero, ilift, Bool.false_and, true_and]
  ·rw [List.length_take, Nat.min_eq_left hk]
  ·rw [List.length_take, Nat.min_eq_left hk]; omega
  ·rw [List.length_take, Nat.min_eq_left hk]
   have e : (full.drop off).take (k * 99) = ((full.drop off).take (A.length * 99)).take (k * 99) := by rw [List.take_take, Nat.min_eq_left (by omega)]
   have e2 := flat_take (rest := []) (sxX_99 A) (i := k) (by rw [sxX_len]; exact hk)
   rw [List.append_nil] at e2
   rw [e, h3, e2, sxX, sxX, List.map_take]
theorem flat_dropA {A : List Sx} {k : Nat} (hk : k ≤ A.length) : (sxX A).flatten.drop (k * 99) = (sxX (A.drop k)).flatten := by
 have e2 := flat_drop (rest := []) (sxX_99 A) (i := k) (by rw [sxX_len]; exact hk)
 rw [List.append_nil, List.append_nil] at e2
 rw [e2, sxX, sxX, List.map_drop]
theorem Gx.lo {J : JH} {l : IV} {A : List Sx} (h : Gx J l A) {k : Nat} {κ : IntKind} (hk : k ≤ A.length) : ∃ l', (∀ J', sliceF 99 l (some (.int κ (k : Int))) none none J' = some (l', J')) ∧ Gx J l' (A.drop k) ∧ ∀ q ∈ blk l', q ∈ blk l := by
 rcases h with ⟨rfl, rfl⟩ | ⟨b, v, off, full, rfl, h1, h2, h3⟩
 ·obtain rfl : k = 0 := by simpa using hk
  exact ⟨_, fun J => rfl, .nil, fun q hq => hq⟩
 ·refine ⟨.sl b v (off + k * 99) (A.length - k) (UNK + 99) 99, fun J' => ?_, .inr ⟨b, v, off + k * 99, full, ?_, h1, ?_, ?_⟩, fun q hq => hq⟩
  ·have hcap : capOf A.length (UNK + 99) = A.length := by simp [capOf, UNK]
   rw [sliceF_sl]
   simp only [islice, hcap, Option.isSome_none, Option.isNone_none, Option.isNone_some, Bool.and_false, bne_self_eq_false, Bool.or_false, Bool.false_eq_true, if_false, ibnd, iasNat, asNat, Int.natCast_nonneg, if_true, Int.toNat_natCast, Nat.zero_le, hk, Nat.le_refl, and_self, Nat.le_add_right, Nat.zero_mul, Nat.add_zero, Nat.sub_zero, ilift, Bool.false_and, true_and]
  ·rw [List.length_drop]
  ·rw [List.length_drop]; omega
  ·rw [List.length_drop, ← List.drop_drop, ← flat_dropA hk, ← h3, List.drop_take]
   congr 1; omega
theorem Gx.app {J : JH} {l : IV} {A : List Sx} (h : Gx J l A) (s : Sx) (hA : A.length ≤ 1000) :
  RP (appF 99 408 l (.lst 99 true [.agg s.c]) J) fun l' J' => Gx J' l' (A ++ [s]) ∧ Fr J J' (blk l) ∧ ∀ q ∈ blk l', q ∈ blk l ∨ J.size ≤ q := by
 have hf : fits (A.length + 1) 408 = true := by simp only [fits, maxLen, Bool.and_eq_true, decide_eq_true_eq]; omega
 have ho : s.c.all ione = true := sta_one _ _ _
 have hl : s.c.length = 99 := sta_len _ _ _
 have hX : (sxX (A ++ [s])).flatten = (sxX A).flatten ++ s.c := by simp [sxX]
 unfold appF
 rw [if_pos (by decide)]
 rcases h with ⟨rfl, rfl⟩ | ⟨b, v, off, full, rfl, h1, h2, h3⟩
 ·have hf1 : fits 1 408 = true := hf
  simp only [iappend, iscells, ilen, List.flatMap_cons, List.flatMap_nil, List.append_nil, Go.Proofs.Ytccbcbnglnloiaa.G.icells, List.length_cons, List.length_nil, hf1, ho, Nat.zero_add, Nat.one_ne_zero, if_false, Bool.and_self, if_true]
  rw [RP_some]
  refine ⟨.inr ⟨J.size, 0, 0, s.c, rfl, push_get _ _, by simp [hl], ?_⟩, Fr.push _ _ _, fun q hq => ?_⟩
  ·rw [List.drop_zero, List.take_of_length_le (by simp [hl])]; simp [sxX]
  ·simp [blk, blkOf] at hq; omega
 ·simp only [iappend, iscells, ilen, List.flatMap_cons, List.flatMap_nil, List.append_nil, Go.Proofs.Ytccbcbnglnloiaa.G.icells, List.length_cons, List.length_nil, hf, ho, Nat.zero_add, Nat.one_ne_zero, if_false, Bool.and_self, if_true, and_self, h1, h2, h3, Nat.le_add_right]
  rw [RP_some]
  refine ⟨.inr ⟨b, v + 1, 0, (sxX A).flatten ++ s.c, by rw [List.length_append]; rfl, set_get _ (lt_get h1), ?_, ?_⟩, Fr.set _ _ (by simp [blk, blkOf]), fun q hq => .inl (by simpa [blk, blkOf] using hq)⟩
  ·simp only [List.length_append, flat99, hl, List.length_cons, List.length_nil]; omega
  ·rw [List.drop_zero, hX, List.take_of_length_le]
   simp only [List.length_append, flat99, hl, List.length_cons, List.length_nil]; omega
structure TrAt (J : JH) (tb mb c : Nat) (g : Gm) (x y : IV) (o : Int) (s : Sx) (M : List Km) (A : List Sx) (l : IV) (r : Int) : Prop where
 cells : J[tb]? = some (.cells 0 (trc g x y o s.b s.d (s.t.toNat : Int) mb l r) false)
 map : J[mb]? = some (.map (M.map Km.e) c)
 born : (M.map Km.b).Pairwise (· < ·) ∧ ∀ x ∈ M, x.b < c
 grow : Gx J l A
 off : tb ∉ blk l ∧ mb ∉ blk l
 gr : GR g x y
def trq (g : Gm) (x y : IV) (o : Int) (q : IV) : List IV := gmc g x y ++ ([.int .i64 o] ++ (stc Bd.z 0 0 ++ [q, nilS, .int .i64 0]))
theorem tr_z0 : IV.sc (Value.int .i64 0) :: List.map IV.sc (reps 48 [Value.int .i32 0, .int .u32 0] ++ [.int .i64 0, .int .u64 0, .int .u32 0, .map none, .slice none 0 0, .int .i64 0]) = [.int .i64 0] ++ (stc Bd.z 0 0 ++ [.sc (.map none), nilS, .int .i64 0]) := by kernel_rfl
theorem tr_z (g : Gm) (x y : IV) : gmc g x y ++ IV.sc (Value.int .i64 0) :: List.map IV.sc (reps 48 [Value.int .i32 0, .int .u32 0] ++ [.int .i64 0, .int .u64 0, .int .u32 0, .map none, .slice none 0 0, .int .i64 0]) = trq g x y 0 (.sc (.map none)) := by rw [tr_z0]; rfl
theorem trq_len (g x y o q) : (trq g x y o q).length = 109 := by simp [trq, sta_len, gm_len]
theorem trq_s6 (g : Gm) (x y : IV) (o o2 : Int) (q : IV) : isplice (trq g x y o q) 6 [.int .i64 o2] = trq g x y o2 q := by
 have h6 : (trq g x y o q).take 6 = gmc g x y := by rw [trq, List.take_append_of_le_length (by simp [gm_len]), gm_take]
 have h7 : (trq g x y o q).drop 7 = stc Bd.z 0 0 ++ [q, nilS, .int .i64 0] := by rw [show 7 = 6 + 1 from rfl, ← List.drop_drop, trq, List.drop_left' (by simp [gm_len])]; rfl
 rw [isplice, h6, show 6 + [IV.int IntKind.i64 o2].length = 7 from rfl, h7, trq]; simp
theorem trq_s106 (g : Gm) (x y : IV) (o : Int) (q : IV) (mb : Nat) : isplice (trq g x y o q) 106 [.map mb] = trc g x y o Bd.z 0 0 mb nilS 0 := by
 have h1 : trq g x y o q = (gmc g x y ++ [IV.int .i64 o] ++ stc Bd.z 0 0) ++ [q, nilS, IV.int .i64 0] := by simp [trq]
 have hl : (gmc g x y ++ [IV.int .i64 o] ++ stc Bd.z 0 0).length = 106 := by simp [gm_len, sta_len]
 rw [isplice, h1, List.take_left' hl, show 106 + [IV.map mb].length = 106 + 1 from rfl, ← List.drop_drop, List.drop_left' hl, trc]; simp
theorem TrAt.ne {J tb mb c g x y o s M A l r} (h : TrAt J tb mb c g x y o s M A l r) : tb ≠ mb := by
 rintro rfl
 have := h.cells; rw [h.map] at this; cases this
theorem TrAt.fr {J J' : JH} {tb mb c g x y o s M A l r} {S : List Nat} (h : TrAt J tb mb c g x y o s M A l r) (hf : Fr J J' S) (h1 : tb ∉ S) (h2 : mb ∉ S) (h3 : ∀ q ∈ blk l, q ∉ S) : TrAt J' tb mb c g x y o s M A l r :=
 ⟨by rw [hf.2 tb (lt_get h.cells) h1]; exact h.cells, by rw [hf.2 mb (lt_get h.map) h2]; exact h.map, h.born, h.grow.fr hf h3, h.off, h.gr⟩
theorem TrAt.one {J tb mb c g x y o s M A l r} (h : TrAt J tb mb c g x y o s M A l r) : (trc g x y o s.b s.d (s.t.toNat : Int) mb l r).all ione = true := tr_one h.gr h.grow.one
def Sx.z : Sx := ⟨Bd.z, 0, 0#32⟩
theorem trNew_ok (g : Gm) (x y : IV) (h : GR g x y) (hc : g.cells.length ≤ 100000) (hd : g.code.length ≤ 100000) (o : Int) (J : JH) :
  RP (ic BI F_trail_New [.agg (gmc g x y), .int .i64 o] J) fun v J' => ∃ tb mb x2 y2, v = .ptr tb 0 0 ∧ J.size ≤ tb ∧ J.size ≤ mb ∧ Fr J J' [] ∧ TrAt J' tb mb 0 g x2 y2 o Sx.z [] [] nilS 0 := by
 refine RP_run fn_trail_New rfl fun K hK => ?_
 unfold l_trail_New
 obtain ⟨u1, hu1, hl1⟩ := clone2 h.x hc
 obtain ⟨u2, hu2, hl2⟩ := clone6 h.y hd
 have gp : ipureL (gmc g x y) = true := h.pure
 have hg2 : GR g u1 u2 := ⟨hl1, hl2⟩
 have go2 := hg2.one
 have go1 := gm_one' g hl1.one h.y.one
 simp -implicitDefEqProofs only [go_sem, dnW_ite, go_sem_proc, h.one, dcp hu1 (by simp [ipureL, h.x.pure]), dcp hu2 (by simp [ipureL, h.y.pure]), ↓hl1.icells, ↓hl1.one, ↓hl2.icells, ↓hl2.one, go2, go1, h.x.pure, h.y.pure, tr_z, trq_len, trq_s6, trq_s106]
 have to := tr_one (o := o) (b := Bd.z) (d := 0) (t := 0) (mb := J.size + 1) (l := nilS) (r := 0) hg2 rfl
 simp -implicitDefEqProofs only [go_sem, dnW_ite, go_sem_proc, to]
 refine hK _ _ ⟨J.size + 2, J.size + 1, u1, u2, by simp [itup], by omega, by omega, ?_, ⟨?_, ?_, by simp, .nil, by simp [blk, blkOf], hg2⟩⟩
 ·have hf := Fr.refl J []
  (have hsz_ := hf.1; repeat (first | with_reducible exact hf | with_reducible apply Fr.psh | ((with_reducible apply Fr.stn); rotate_left; first | omega | (simp only [Array.size_push, Array.size_setIfInBounds] <;> omega)) | ((with_reducible apply Fr.sts); rotate_left; focus (simp only [List.mem_cons, eq_self, true_or, or_true]; done))))
 ·exact gpE (by simp)
 ·exact gpN (by simp) (gpE (by simp))
end Go.Proofs.Ytccbcbnglnloiaa.G
namespace Go.Proofs.Ytccbcbnglnloiaa.G
open Go
theorem keysK_km (M : List Km) : keysK ((M.map Km.e).map (·.key)) = M.map fun x => (x.k.toNat : Int) := by
 induction M with
 | nil => rfl
 | cons a M ih =>
  simp only [keysK, List.map_cons, List.filterMap_cons] at ih ⊢
  simp only [Km.e, keyI]
  rw [ih]
section
variable {J : JH} {tb mb c : Nat} {g : Gm} {x y : IV} {o : Int} {s : Sx} {M : List Km} {A : List Sx} {l : IV} {r : Int} (h : TrAt J tb mb c g x y o s M A l r)
include h
theorem trReset_ok (b : Bd) (d : Int) (t : BitVec 32) : RP (ic BI F_trail_Trail_Reset [.ptr tb 0 0, .agg (stc b d (t.toNat : Int))] J) fun v J' => TrAt J' tb mb c g x y o ⟨b, d, t⟩ [] [] nilS r ∧ Fr J J' [tb, mb] := by
 refine RP_run fn_trail_Trail_Reset rfl fun K hK => ?_
 unfold l_trail_Trail_Reset
 have h1 := h.cells
 have hne := h.ne
 have o1 := h.one
 have hb := lt_get h1
 have o2 := tr_one (o := o) (b := b) (d := d) (t := (t.toNat : Int)) (mb := mb) (l := l) (r := r) h.gr h.grow.one
 have o3 := tr_one (o := o) (b := b) (d := d) (t := (t.toNat : Int)) (mb := mb) (l := nilS) (r := r) h.gr rfl
 have hc : ∀ X Y, clrF (.map mb) (((J.push X).setIfInBounds tb Y)) = some (.tup [], ((J.push X).setIfInBounds tb Y).setIfInBounds mb (.map [] c)) := fun X Y => kclr (l := M) (by rw [Array.getElem?_setIfInBounds, if_neg hne, Array.getElem?_push, if_neg (Nat.ne_of_lt (lt_get h.map))]; exact h.map)
 simp -implicitDefEqProofs only [go_sem, dnW_ite, go_sem_proc, sta_one, iisNil, h1, inb h1, o1, o2, o3, set_set, hc, show tb < J.size + 1 by omega]
 refine hK _ _ ⟨⟨?_, ?_, by simp, .nil, by simp [blk, blkOf], h.gr⟩, ?_⟩
 ·rw [Array.getElem?_setIfInBounds, if_neg (Ne.symm hne)]
  exact set_get _ (by simp; omega)
 ·exact set_get _ (by have := lt_get h.map; simp; omega)
 ·have hf := Fr.refl J [tb, mb]
  (have hsz_ := hf.1; repeat (first | with_reducible exact hf | with_reducible apply Fr.psh | ((with_reducible apply Fr.stn); rotate_left; first | omega | (simp only [Array.size_push, Array.size_setIfInBounds] <;> omega)) | ((with_reducible apply Fr.sts); rotate_left; focus (simp only [List.mem_cons, eq_self, true_or, or_true]; done))))
theorem trKnown_ok : RP (ic BI F_trail_Trail_Known [.ptr tb 0 0] J) fun v J' => v = .agg s.c ∧ Fr J J' [] := by
 refine RP_run fn_trail_Trail_Known rfl fun K hK => ?_
 unfold l_trail_Trail_Known
 have h1 := h.cells
 simp -implicitDefEqProofs only [go_sem, dnW_ite, go_sem_proc, iisNil, h1, inb h1, sta_z, sta_one]
 refine hK _ _ ⟨rfl, ?_⟩
 have hf := Fr.refl J []
 (have hsz_ := hf.1; repeat (first | with_reducible exact hf | with_reducible apply Fr.psh | ((with_reducible apply Fr.stn); rotate_left; first | omega | (simp only [Array.size_push, Array.size_setIfInBounds] <;> omega)) | ((with_reducible apply Fr.sts); rotate_left; focus (simp only [List.mem_cons, eq_self, true_or, or_true]; done))))
theorem keysOK_tr (hl : M.length ≤ 1000000) : keysOK ((M.map Km.e).map (·.key)) ((M.map Km.e).map (·.born)) c = true := by
 have e : (M.map Km.e).map (·.born) = M.map Km.b := by simp [Km.e]
 rw [e]
 simp only [keysOK, Bool.and_eq_true, decide_eq_true_eq]
 refine ⟨⟨⟨?_, h.born.1.imp fun h => Nat.ne_of_lt h⟩, ?_⟩, by simpa using hl⟩
 ·rw [List.all_eq_true]
  intro k hk
  obtain ⟨x, hx, rfl⟩ := List.mem_map.1 hk
  obtain ⟨y, hy, rfl⟩ := List.mem_map.1 hx
  rfl
 ·rw [List.all_eq_true]
  intro k hk
  obtain ⟨x, hx, rfl⟩ := List.mem_map.1 hk
  simpa using h.born.2 x hx
theorem trPending_ok (hl : M.length ≤ 16) : RP (ic BI F_trail_Trail_Pending [.ptr tb 0 0] J) fun v J' => Ls 1 v (uL (sortI (M.map fun x => (x.k.toNat : Int)))) ∧ Fr J J' [] := by
 refine RP_run fn_trail_Trail_Pending rfl fun K hK => ?_
 unfold l_trail_Trail_Pending
 have h1 := h.cells
 have hk : RP (ic BI F_maps_Keys_map_uint32_uint32_uint32_uint32 [.map mb] J) fun v J' => v = .fn F_maps_Keys_map_uint32_uint32_uint32_uint32_1 [] [.ptr J.size 0 0] ∧ J' = J.push (.cells 0 [.map mb] false) := by
  refine RP_run fn_maps_Keys_map_uint32_uint32_uint32_uint32 rfl fun K hK => ?_
  unfold l_maps_Keys_map_uint32_uint32_uint32_uint32
  simp -implicitDefEqProofs only [go_sem, dnW_ite, go_sem_proc]
  exact hK _ _ ⟨rfl, rfl⟩
 simp -implicitDefEqProofs only [go_sem, dnW_ite, go_sem_proc, iisNil, h1, inb h1]
 refine WP_call hk fun v J2 hv => ?_
 obtain ⟨rfl, rfl⟩ := hv
 have hr : ird (J.push (.cells 0 [.map mb] false)) J.size 0 0 1 = some [.map mb] := by simp only [ird, push_get]; rfl
 have hm : (J.push (.cells 0 [.map mb] false))[mb]? = some (.map (M.map Km.e) c) := by rw [Array.getElem?_push, if_neg (Nat.ne_of_lt (lt_get h.map))]; exact h.map
 have hok := keysOK_tr h (by omega)
 have hkk := keysK_km M
 have hs : RP (ic BI F_slices_Sorted_uint32 [.fn F_maps_Keys_map_uint32_uint32_uint32_uint32_1 [] [.ptr J.size 0 0]] (J.push (.cells 0 [.map mb] false))) fun v J' => Ls 1 v (uL (sortI (M.map fun x => (x.k.toNat : Int)))) ∧ J' = J.push (.cells 0 [.map mb] false) := by
  by_cases hn : M.map (fun x => (x.k.toNat : Int)) = []
  ·rw [ic_given (B := BI) (g := isorted) rfl (r := (.sc (.slice none 0 0), J.push (.cells 0 [.map mb] false))) (by
    simp only [isorted, hr, hm, hkk]
    rw [if_pos ⟨trivial, hok, by simpa using hl⟩, if_pos hn])]
   exact ⟨.inl ⟨rfl, by rw [hn, sortI, List.mergeSort_nil]; rfl⟩, rfl⟩
  ·rw [ic_given (B := BI) (g := isorted) rfl (r := (.lst 1 false (uL (sortI (M.map fun x => (x.k.toNat : Int)))), J.push (.cells 0 [.map mb] false))) (by
    simp only [isorted, hr, hm, hkk]
    rw [if_pos ⟨trivial, hok, by simpa using hl⟩, if_neg hn]; rfl)]
   exact ⟨.lst, rfl⟩
 simp -implicitDefEqProofs only [go_sem, dnW_ite, go_sem_proc]
 refine WP_call hs fun v J2 hv => ?_
 obtain ⟨hv, rfl⟩ := hv
 simp -implicitDefEqProofs only [go_sem, dnW_ite, go_sem_proc]
 exact hK _ _ ⟨hv, Fr.push _ _ _⟩
end
end Go.Proofs.Ytccbcbnglnloiaa.G
namespace Go.Proofs.Ytccbcbnglnloiaa.G
open Go
def maxL (t : Int) (l : List Int) : Int := l.foldl (fun a b => if b > a then b else a) t
section
variable {J : JH} {tb mb c : Nat} {g : Gm} {x y : IV} {o : Int} {s : Sx} {M : List Km} {A : List Sx} {l : IV} {r : Int} (h : TrAt J tb mb c g x y o s M A l r)
include h
theorem trLast_ok (hl : M.length ≤ 16) : RP (ic BI F_trail_Trail_Last [.ptr tb 0 0] J) fun v J' => v = .int .u32 (maxL (s.t.toNat : Int) (sortI (M.map fun x => (x.k.toNat : Int)))) ∧ Fr J J' [] := by
 refine RP_run fn_trail_Trail_Last rfl fun K hK => ?_
 unfold l_trail_Trail_Last
 simp -implicitDefEqProofs only [go_sem, dnW_ite, go_sem_proc]
 refine WP_call (trKnown_ok h) fun v J2 hv => ?_
 obtain ⟨rfl, f2⟩ := hv
 have h2 := h.fr f2 (by simp) (by simp) (by simp)
 have hf : s.c[98]? = some (.int .u32 (s.t.toNat : Int)) := by
  have := congrArg (·[0]?) (sta_98 s.b s.d (s.t.toNat : Int))
  simpa [List.getElem?_take, List.getElem?_drop, Sx.c] using this
 have hl99 : s.c.length = 99 := sta_len _ _ _
 simp -implicitDefEqProofs only [go_sem, dnW_ite, go_sem_proc, hf, hl99]
 refine WP_join fun K1 g1 g2 g3 => ?_
 refine WP_call (trPending_ok h2 hl) fun v J3 hv => ?_
 obtain ⟨hv, f3⟩ := hv
 have hlen := sortI_len (M.map fun x => (x.k.toNat : Int))
 rw [List.length_map] at hlen
 generalize sortI (M.map fun x => (x.k.toNat : Int)) = S at *
 have hvl := fun J => hv.lenF (J := J)
 rw [uL_len] at hvl
 have fin : ∀ J', Fr J3 J' [] → WP (dn BI l_trail_Trail_Last_k1 [.int .u32 (maxL (s.t.toNat : Int) S)] J') K := fun J' f => by
  unfold l_trail_Trail_Last_k1
  simp -implicitDefEqProofs only [go_sem, dnW_ite, go_sem_proc]
  exact hK _ _ ⟨rfl, (f2.trans f3 (fun _ _ h => h)).trans f (fun _ _ h => h)⟩
 simp -implicitDefEqProofs only [go_sem, dnW_ite, go_sem_proc, hvl, dn_loop]
 refine WP_rangeT S.length (fun i vs J' => vs = [.int .u32 (maxL (s.t.toNat : Int) (S.take i)), v, nI S.length, nI i] ∧ J' = J3) ?_ ⟨rfl, rfl⟩
 rintro i vs J' ⟨rfl, rfl⟩ hi K2 k1 k2 k3
 unfold l_trail_Trail_Last_k0
 by_cases hlt : i < S.length
 ·have hw1 := wrapS hlt (show S.length ≤ 9223372036854775807 by omega)
  have ha := hv.at (i := i) (by rw [uL_len]; exact hlt) (J := J')
  have hg : (uL S)[i]'(by rw [uL_len]; exact hlt) = .int .u32 S[i] := by simp [uL, uI]
  rw [hg] at ha
  have hm : maxL (s.t.toNat : Int) (S.take (i + 1)) = if S[i] > maxL (s.t.toNat : Int) (S.take i) then S[i] else maxL (s.t.toNat : Int) (S.take i) := by
   rw [List.take_succ_eq_append_getElem hlt]; simp only [maxL, List.foldl_append, List.foldl_cons, List.foldl_nil]; rfl
  rw [hm] at k1
  by_cases hgt : S[i] > maxL (s.t.toNat : Int) (S.take i)
  ·rw [if_pos hgt] at k1
   simp -implicitDefEqProofs only [go_sem, dnW_ite, go_sem_proc, show ((i : Int) < (S.length : Int)) by omega, ha, hgt, hw1]
   exact k1 hlt _ _ ⟨rfl, rfl⟩
  ·rw [if_neg hgt] at k1
   simp -implicitDefEqProofs only [go_sem, dnW_ite, go_sem_proc, show ((i : Int) < (S.length : Int)) by omega, ha, hgt, hw1]
   exact k1 hlt _ _ ⟨rfl, rfl⟩
 ·simp -implicitDefEqProofs only [go_sem, dnW_ite, go_sem_proc, show ¬ ((i : Int) < (S.length : Int)) by omega]
  rw [List.take_of_length_le (by omega)]
  exact k2 0 _ _ (by decide) (g1 _ _ (fin _ (.refl _ _)))
def kErr (g : Gm) (s : Sx) (M : List Km) (t m : BitVec 32) : Int :=
 if g.legal m = false then 1 else if t.toNat ≤ s.t.toNat then 11 else if 16 < t.toNat - s.t.toNat then 6 else if (M.find? (Km.is t)).isSome then 12 else 0
theorem trAdd_ok (t m : BitVec 32) (hA : A.length ≤ 1000) : RP (ic BI F_trail_Trail_Add [.ptr tb 0 0, m32 t, m32 m] J) fun v J' => v = .int .i64 (kErr g s M t m) ∧ ((kErr g s M t m ≠ 0 ∧ J' = J) ∨ (kErr g s M t m = 0 ∧ ∃ l', TrAt J' tb mb (c + 1) g x y o s (M ++ [⟨t, m, c⟩]) (A.take (t.toNat - s.t.toNat - 1)) l' r ∧ Fr J J' [tb, mb] ∧ ∀ q ∈ blk l', q ∈ blk l)) := by
 refine RP_run fn_trail_Trail_Add rfl fun K hK => ?_
 unfold l_trail_Trail_Add
 have h1 := h.cells
 have hL := Legal_ok g x y h.gr m
 have hlp : ipureL [.agg (gmc g x y), m32 m] = true := by simp [ipureL, ipure, h.gr.pure]
 have no : ∀ e : Int, e ≠ 0 → kErr g s M t m = e → K (.ret [.int .i64 e]) J := fun e h0 he => hK _ _ ⟨by rw [he]; rfl, .inl ⟨by rw [he]; exact h0, rfl⟩⟩
 cases hg : g.legal m with
 | false =>
  rw [hg] at hL
  simp -implicitDefEqProofs only [go_sem, dnW_ite, go_sem_proc, iisNil, h1, inb h1, dcp hL hlp]
  exact no 1 (by decide) (by rw [kErr, if_pos hg])
 | true =>
  rw [hg] at hL
  have e1 : ¬ (g.legal m = false) := by rw [hg]; simp
  by_cases c4 : (t.toNat : Int) ≤ (s.t.toNat : Int)
  ·simp -implicitDefEqProofs only [go_sem, dnW_ite, go_sem_proc, iisNil, h1, inb h1, dcp hL hlp, c4]
   exact no 11 (by decide) (by rw [kErr, if_neg e1, if_pos (by omega)])
  have hs : IntKind.u32.wrap ((t.toNat : Int) - (s.t.toNat : Int)) = ((t.toNat - s.t.toNat : Nat) : Int) := by
   have := t.isLt
   rw [wrap_u32 (by omega) (by omega)]; omega
  by_cases c5 : ((t.toNat - s.t.toNat : Nat) : Int) > 16
  ·simp -implicitDefEqProofs only [go_sem, dnW_ite, go_sem_proc, iisNil, h1, inb h1, dcp hL hlp, c4, hs, c5]
   exact no 6 (by decide) (by rw [kErr, if_neg e1, if_neg (by omega), if_pos (by omega)])
  cases hf : M.find? (Km.is t) with
  | some z =>
   have hl := klook_yes h.map t hf (.int .u32 0)
   simp -implicitDefEqProofs only [go_sem, dnW_ite, go_sem_proc, iisNil, h1, inb h1, dcp hL hlp, c4, hs, c5, ↓hl]
   exact no 12 (by decide) (by rw [kErr, if_neg e1, if_neg (by omega), if_neg (by omega), if_pos (by rw [hf]; rfl)])
  | none =>
   have hl := klook_no h.map t hf (.int .u32 0)
   have hm := kset_new h.map t hf m
   have he : kErr g s M t m = 0 := by rw [kErr, if_neg e1, if_neg (by omega), if_neg (by omega), if_neg (by rw [hf]; simp)]
   have hlen := h.grow.lenF (J' := J.setIfInBounds mb (.map ((M ++ [Km.mk t m c]).map Km.e) (c + 1)))
   have h1' : (J.setIfInBounds mb (.map ((M ++ [Km.mk t m c]).map Km.e) (c + 1)))[tb]? = some (.cells 0 (trc g x y o s.b s.d (s.t.toNat : Int) mb l r) false) := by rw [Array.getElem?_setIfInBounds, if_neg (Ne.symm h.ne)]; exact h1
   have hw2 : IntKind.i64.wrap ((t.toNat - s.t.toNat : Nat) : Int) = ((t.toNat - s.t.toNat : Nat) : Int) := wrap_i64 (by omega) (by omega)
   have hw3 : IntKind.i64.wrap (((t.toNat - s.t.toNat : Nat) : Int) - 1) = ((t.toNat - s.t.toNat - 1 : Nat) : Int) := by rw [wrap_i64 (by omega) (by omega)]; omega
   have hmm : min (A.length : Int) ((t.toNat - s.t.toNat - 1 : Nat) : Int) = ((min A.length (t.toNat - s.t.toNat - 1) : Nat) : Int) := by omega
   have htk : A.take (min A.length (t.toNat - s.t.toNat - 1)) = A.take (t.toNat - s.t.toNat - 1) := by
    rcases Nat.le_total A.length (t.toNat - s.t.toNat - 1) with hh | hh
    ·rw [Nat.min_eq_left hh, List.take_of_length_le hh, List.take_length]
    ·rw [Nat.min_eq_right hh]
   obtain ⟨l', hsl, hgr, hlo⟩ := h.grow.hi (k := min A.length (t.toNat - s.t.toNat - 1)) (Nat.min_le_left _ _)
   rw [htk] at hgr
   have o2 := tr_one (o := o) (b := s.b) (d := s.d) (t := (s.t.toNat : Int)) (mb := mb) (l := l') (r := r) h.gr hgr.one
   generalize t.toNat - s.t.toNat - 1 = q at *
   simp -implicitDefEqProofs only [go_sem, dnW_ite, go_sem_proc, iisNil, h1, inb h1, dcp hL hlp, c4, hs, c5, ↓hl, ↓hm, h1', inb h1', hlen, hw2, hw3, hmm, hsl, ↓hgr.icells, ↓hgr.one, o2]
   have hne := h.ne
   have hml := lt_get h.map
   have htl := lt_get h1
   refine hK _ _ ⟨by rw [he]; rfl, .inr ⟨he, l', ⟨?_, ?_, ?_, ?_, ⟨fun hm => h.off.1 (hlo _ hm), fun hm => h.off.2 (hlo _ hm)⟩, h.gr⟩, ?_, hlo⟩⟩
   ·exact set_get _ (by simp; exact htl)
   ·rw [Array.getElem?_setIfInBounds, if_neg hne]; exact set_get _ hml
   ·refine ⟨?_, ?_⟩
    ·rw [List.map_append, List.pairwise_append]
     refine ⟨h.born.1, by simp, ?_⟩
     intro a ha z hz
     simp at hz; subst hz
     obtain ⟨w, hw, rfl⟩ := List.mem_map.1 ha
     exact h.born.2 w hw
    ·intro w hw
     rcases List.mem_append.1 hw with hw | hw
     ·have := h.born.2 w hw; omega
     ·simp at hw; subst hw; simp
   ·have f1 : Fr J (J.setIfInBounds mb (.map ((M ++ [Km.mk t m c]).map Km.e) (c + 1))) [mb] := Fr.set J (b := mb) _ (by simp)
    refine (hgr.fr f1 (fun z hz hm => by simp at hm; subst hm; exact h.off.2 (hlo _ hz))).fr (Fr.set _ (b := tb) _ (S := [tb]) (by simp)) (fun z hz hm => by simp at hm; subst hm; exact h.off.1 (hlo _ hz))
   ·have hf := Fr.refl J [tb, mb]
    (have hsz_ := hf.1; repeat (first | with_reducible exact hf | with_reducible apply Fr.psh | ((with_reducible apply Fr.stn); rotate_left; first | omega | (simp only [Array.size_push, Array.size_setIfInBounds] <;> omega)) | ((with_reducible apply Fr.sts); rotate_left; focus (simp only [List.mem_cons, eq_self, true_or, or_true]; done))))
end
end Go.Proofs.Ytccbcbnglnloiaa.G
namespace Go.Proofs.Ytccbcbnglnloiaa.G
open Go
set_option maxHeartbeats 1000000
def clL (X : List Cl) : List IV := (X.map Cl.c).flatten
theorem clL_len (X : List Cl) : (clL X).length = X.length * 2 := by rw [clL, flat_len (cl2 X), List.length_map]
theorem clL_pure (X : List Cl) : ipureL (clL X) = true := cl_pure X
def RawC (J : JH) (s : IV) (X : List Cl) : Prop := (X = [] ∧ s = .lst 2 true []) ∨ (X ≠ [] ∧ ∃ b, s = .sl b 0 0 X.length (UNK + 2) 2 ∧ J[b]? = some (.cells 0 (clL X) false))
theorem Clip.raw {J J' : JH} {s : IV} {X : List Cl} (h : Clip J J' s 2 (X.map Cl.c)) : RawC J' s X := by
 rcases h with ⟨h, rfl, _⟩ | ⟨h, rfl, rfl⟩
 ·exact .inl ⟨List.map_eq_nil_iff.1 h, rfl⟩
 ·refine .inr ⟨fun e => h (by rw [e]; rfl), J.size, by rw [List.length_map], by rw [push_get]; rfl⟩
theorem Clip.new {J J' : JH} {s : IV} {sz : Nat} {X : List (List IV)} (h : Clip J J' s sz X) : ∀ d ∈ blk s, J.size ≤ d := by
 rcases h with ⟨_, rfl, _⟩ | ⟨_, rfl, _⟩ <;> simp [blk, blkOf]
theorem RawC.fr {J J' : JH} {s : IV} {X : List Cl} {S : List Nat} (h : RawC J s X) (hf : Fr J J' S) (hs : ∀ d ∈ blk s, d ∉ S) : RawC J' s X := by
 rcases h with h | ⟨h, b, rfl, hb⟩
 ·exact .inl h
 ·exact .inr ⟨h, b, rfl, by rw [hf.2 b (lt_get hb) (hs b (by simp [blk, blkOf]))]; exact hb⟩
theorem RawC.low {J : JH} {s : IV} {X : List Cl} (h : RawC J s X) : ∀ d ∈ blk s, d < J.size := by
 rcases h with ⟨_, rfl⟩ | ⟨_, b, rfl, hb⟩
 ·simp [blk, blkOf]
 ·intro d hd; simp [blk, blkOf] at hd; subst hd; exact lt_get hb
theorem RawC.lenF {J : JH} {s : IV} {X : List Cl} (h : RawC J s X) (J2 : JH) : Go.Proofs.Ytccbcbnglnloiaa.G.lenF false s J2 = some (nI X.length, J2) := by
 rcases h with ⟨rfl, rfl⟩ | ⟨_, _, rfl, _⟩ <;> rfl
theorem RawC.get {J : JH} {s : IV} {X : List Cl} (h : RawC J s X) {i : Nat} (hi : i < X.length) : ∃ b, s = .sl b 0 0 X.length (UNK + 2) 2 ∧ J[b]? = some (.cells 0 (clL X) false) := by
 rcases h with ⟨rfl, _⟩ | h
 ·cases hi
 ·exact h.2
theorem RawC.frz {J : JH} {s : IV} {X : List Cl} (h : RawC J s X) : ∃ u, (∀ k, Go.Proofs.Ytccbcbnglnloiaa.G.frz J (k + 1) s = some u) ∧ Ls 2 u (X.map Cl.e) := by
 rcases h with ⟨rfl, rfl⟩ | ⟨hne, b, rfl, hb⟩
 ·exact ⟨_, fun k => frz_pure _ _ rfl, .lst⟩
 ·have hl : X.length = (X.map Cl.c).length := by simp
  have hr : ird J b 0 0 (X.length * 2) = some (X.map Cl.c).flatten := by
   simp only [ird, hb, true_and, Nat.zero_add, List.drop_zero]
   rw [if_pos (by rw [clL_len]; exact Nat.le_refl _), List.take_of_length_le (by rw [clL_len]; exact Nat.le_refl _)]; rfl
  refine ⟨_, fun k => frz_sl (by decide) hr (cl_pure X) (flat_one X), ?_⟩
  rw [hl, grp_flat (cl2 X), cl_mk]; exact .lst
theorem RawC.shows {J : JH} {s : IV} {X : List Cl} (h : RawC J s X) : ∀ d ∈ Go.Proofs.Ytccbcbnglnloiaa.G.shows J DEP s, d ∈ blk s := by
 rcases h with ⟨rfl, rfl⟩ | ⟨hne, b, rfl, hb⟩
 ·intro d hd; rw [shows_pure J DEP rfl] at hd; cases hd
 ·intro d hd
  have hr : ird J b 0 0 (X.length * 2) = some (clL X) := by
   simp only [ird, hb, true_and, Nat.zero_add, List.drop_zero]
   rw [if_pos (by rw [clL_len]; exact Nat.le_refl _), List.take_of_length_le (by rw [clL_len]; exact Nat.le_refl _)]
  rw [frz12, shows_sl hr (clL_pure X)] at hd
  exact hd
set_option maxHeartbeats 1000000
theorem BE.view (p : Int) (b : Bd) : BE (fun s => hasM s p) b (b.view p) := by
 refine ⟨by simp [Bd.view, Bd.map], fun j => ?_⟩
 simp only [Bd.at, Bd.view, Bd.map, List.getD_eq_getElem?_getD, List.getElem?_map]
 cases h : b.l[j.toNat]? with
 | none => exact CE.refl _ _
 | some c =>
  show CE _ c (viewC p c)
  unfold viewC
  split
  ·exact CE.refl _ _
  ·rename_i hn; exact ⟨rfl, fun h => absurd h hn⟩
variable {P : BitVec 32 → Bool} {E F : Me} {m n : Mc}
def Diff (P : BitVec 32 → Bool) (a b : List Sh) : Prop := ∃ (j : Nat) (s t : Sh), a[j]? = some s ∧ b[j]? = some t ∧ P s.to = true ∧ s.v ≠ t.v ∧ SE (a.take (j + 1)) (b.take (j + 1))
theorem Diff.ext {a b c d : List Sh} (h : Diff P a b) : Diff P (a ++ c) (b ++ d) := by
 obtain ⟨j, s, t, h1, h2, h3, h4, h5⟩ := h
 have l1 := (List.getElem?_eq_some_iff.1 h1).1
 have l2 := (List.getElem?_eq_some_iff.1 h2).1
 refine ⟨j, s, t, by rw [List.getElem?_append_left l1]; exact h1, by rw [List.getElem?_append_left l2]; exact h2, h3, h4, ?_⟩
 rw [List.take_append_of_le_length (by omega), List.take_append_of_le_length (by omega)]
 exact h5
end Go.Proofs.Ytccbcbnglnloiaa.G
namespace Go.Proofs.Ytccbcbnglnloiaa.G
open Go
theorem k_view_ok {b : Bd} (h : b.ok) (p : Int) : (b.view p).ok := by
 intro c hc
 simp only [Bd.view, Bd.map, List.mem_map] at hc
 obtain ⟨e, he, rfl⟩ := hc
 unfold viewC
 split
 ·exact h e he
 ·exact I32_0
def prd (g : Gm) (o : Int) (s : Sx) (m : BitVec 32) : Sx := ⟨(g.run (g.preM o m) s.b s.d (s.t.toNat : Int)).bd.view o, 0, s.t + 1#32⟩
def mvAt (M : List Km) (us t : BitVec 32) : BitVec 32 := match M.find? (Km.is t) with | some x => x.m | none => us
def fS (g : Gm) (o : Int) (s : Sx) (M : List Km) : Nat → Sx
 | 0 => s
 | n + 1 => prd g o (fS g o s M n) (mvAt M g.dflt ((fS g o s M n).t + 1#32))
def foldA (g : Gm) (o : Int) (s : Sx) (M : List Km) (n : Nat) : List Sx := (List.range n).map fun i => fS g o s M (i + 1)
theorem foldA_succ (g o s M n) : foldA g o s M (n + 1) = foldA g o s M n ++ [fS g o s M (n + 1)] := by simp [foldA, List.range_succ]
theorem foldA_len (g o s M n) : (foldA g o s M n).length = n := by simp [foldA]
theorem fS_t (g o) (s : Sx) (M) : ∀ n, (fS g o s M n).t = s.t + BitVec.ofNat 32 n
 | 0 => by simp [fS]
 | n + 1 => by
  rw [fS, prd, fS_t g o s M n, BitVec.add_assoc]
  congr 1
  apply BitVec.eq_of_toNat_eq; simp
theorem fS_ok (g : Gm) (hr : g.right = true) (hw : ∀ c ∈ g.code, c.wf) (o : Int) (s : Sx) (hs : s.b.ok) (M : List Km) : ∀ n, (fS g o s M n).b.ok
 | 0 => hs
 | n + 1 => by
  rw [fS, prd]
  exact k_view_ok (step_bok g hr hw _ _ (fS_ok g hr hw o s hs M n) _ _) o
theorem prd_ok (g : Gm) (x y : IV) (h : GR g x y) (hr : g.right = true) (hw : ∀ c ∈ g.code, c.wf) (o : Int) (s : Sx) (hs : s.b.ok) (m : BitVec 32) : pc BI F_rules_Game_Predict [.agg (gmc g x y), .agg s.c, .int .i64 o, m32 m] = some (.agg (prd g o s m).c) := by
 have hp := PredR_ok g x y h hr hw s.b hs s.d (s.t.toNat : Int) o m
 have e : IntKind.u32.wrap ((s.t.toNat : Int) + 1) = ((s.t + 1#32).toNat : Int) := addB32c s.t 1
 rw [e] at hp
 exact hp
theorem sx_len (s : Sx) : s.c.length = 99 := sta_len _ _ _
theorem sx_take (s : Sx) : s.c.take 99 = s.c := sta_take _ _ _
theorem sx_take0 (s : Sx) : (s.c.drop 0).take 99 = s.c := sta_take _ _ _
theorem sx_98 (s : Sx) : (s.c.drop 98).take 1 = [m32 s.t] := sta_98 _ _ _
theorem sx_one (s : Sx) : s.c.all ione = true := sta_one _ _ _
theorem sx_all (s s2 : Sx) : isplice s.c 0 s2.c = s2.c := sta_all _ _ _ _ _ _
theorem sx_z : List.map IV.sc (reps 48 [Value.int IntKind.i32 0, Value.int IntKind.u32 0] ++ [Value.int IntKind.i64 0, Value.int IntKind.u64 0, Value.int IntKind.u32 0]) = Sx.z.c := sta_z
abbrev zR : List Value := reps 48 [Value.int IntKind.i32 0, Value.int IntKind.u32 0] ++ [Value.int IntKind.i64 0, Value.int IntKind.u64 0, Value.int IntKind.u32 0]
theorem zR_len : zR.length = 99 := by kernel_rfl
theorem zR_raw (ps : List (Nat × Nat × Operand)) : rawB zR ps = false := rfl
theorem sx_pure (s : Sx) : ipureL s.c = true := sta_pure _ _ _
theorem tr_sx {g x y o} {s : Sx} {mb l r} : ((trc g x y o s.b s.d (s.t.toNat : Int) mb l r).drop 7).take 99 = s.c := tr_s _ _ _ _ _ _ _ _ _ _
theorem Grow.sx {J : JH} {x : IV} {A : List Sx} (h : Grow J x 99 (sxX A).flatten) {i : Nat} (hi : i < A.length) :
  ∃ b v cs, x = .sl b v 0 A.length (UNK + 99) 99 ∧ J[b]? = some (.cells v cs false) ∧ (cs.drop (i * 99)).take 99 = A[i].c ∧ i * 99 + 99 ≤ cs.length := by
 obtain ⟨_, ⟨_, h0⟩ | ⟨b, v, rest, rfl, h2, _⟩⟩ := h.slx (sxX_99 A) (by decide)
 ·simp [sxX] at h0; subst h0; simp at hi
 ·have hi2 : i < (sxX A).length := by rw [sxX_len]; exact hi
  refine ⟨b, v, _, by rw [sxX_len], h2, ?_, ?_⟩
  ·rw [flat_at (sxX_99 A) hi2]; simp [sxX]
  ·rw [List.length_append, flat_len (sxX_99 A), sxX_len]; omega
section
variable {tb mb c : Nat} {g : Gm} {x y : IV} {o : Int} {s : Sx} {M : List Km} {r : Int} (hr : g.right = true) (hw : ∀ c ∈ g.code, c.wf) (hs : s.b.ok)
include hr hw hs
theorem shown_round {J : JH} {k n rb : Nat} {l : IV} (h : TrAt J tb mb c g x y o s M (foldA g o s M k) l r) (hk : k < n) (hn : n ≤ 16) (K : Out IV → JH → Prop)
  (hK : ∀ J' l', TrAt J' tb mb c g x y o s M (foldA g o s M (k + 1)) l' r → Fr J J' (tb :: blk l) → (∀ q ∈ blk l', q ∈ blk l ∨ J.size ≤ q) → K (.goto 1 [.ptr tb 0 0, .ptr rb 0 0, nI n]) J') :
  WP (dn BI l_trail_Trail_Shown_k2 [.ptr tb 0 0, .ptr rb 0 0, nI n] J) K := by
 unfold l_trail_Trail_Shown_k2
 have h1 := h.cells
 have hlen := fun J' => h.grow.lenF (J' := J')
 rw [foldA_len] at hlen
 have htl := lt_get h1
 have c0 : ((k : Int) < (n : Int)) := by omega
 -- behind the choice of what stands ahead
 have fin : ∀ J1 : JH, J1[J.size]? = some (.cells 0 (fS g o s M k).c false) → TrAt J1 tb mb c g x y o s M (foldA g o s M k) l r → Fr J J1 [] → WP (dn BI l_trail_Trail_Shown_k1 [.ptr tb 0 0, .ptr rb 0 0, nI n, .ptr J.size 0 0] J1) K := by
  intro J1 hb a1 f1
  have k1 := a1.cells
  have hwt : IntKind.u32.wrap (((fS g o s M k).t.toNat : Int) + 1) = (((fS g o s M k).t + 1#32).toNat : Int) := addB32c _ 1
  have fin2 : WP (dn BI l_trail_Trail_Shown_k0 [.ptr tb 0 0, .ptr rb 0 0, nI n, .ptr J.size 0 0, m32 (mvAt M g.dflt ((fS g o s M k).t + 1#32))] J1) K := by
   unfold l_trail_Trail_Shown_k0
   have hp := prd_ok g x y h.gr hr hw o (fS g o s M k) (fS_ok g hr hw o s hs M k) (mvAt M g.dflt ((fS g o s M k).t + 1#32))
   have hpp : ipureL [.agg (gmc g x y), .agg (fS g o s M k).c, .int .i64 o, m32 (mvAt M g.dflt ((fS g o s M k).t + 1#32))] = true := by simp [ipureL, ipure, h.gr.pure, sx_pure]
   have hnx : prd g o (fS g o s M k) (mvAt M g.dflt ((fS g o s M k).t + 1#32)) = fS g o s M (k + 1) := rfl
   rw [hnx] at hp
   have hsz := foldA_succ g o s M k
   generalize fS g o s M (k + 1) = S1 at *
   generalize mvAt M g.dflt ((fS g o s M k).t + 1#32) = m at *
   simp -implicitDefEqProofs only [go_sem, dnW_ite, go_sem_proc, k1, inb k1, hb, inb hb, sx_len, sx_take, sx_take0, sx_one, dcp hp hpp, ipureL, ipure, sx_pure, grp, mkE, List.headD, ↓zR_raw, zR_len, sx_z, sx_all]
   refine WP_bind (a1.grow.app S1 (by rw [foldA_len]; omega)) fun l' J2 hs2 => ?_
   obtain ⟨q1, q2, q3⟩ := hs2
   have hlow := h.grow.low
   have f2 : Fr J J2 (blk l) := ⟨Nat.le_trans f1.1 q2.1, fun d hd hn => by rw [q2.2 d (by have := f1.1; omega) hn, f1.2 d hd (by simp)]⟩
   have k2 : J2[tb]? = some (.cells 0 (trc g x y o s.b s.d (s.t.toNat : Int) mb l r) false) := by rw [q2.2 tb (lt_get k1) a1.off.1]; exact k1
   have m2 : J2[mb]? = some (.map (M.map Km.e) c) := by rw [q2.2 mb (lt_get a1.map) a1.off.2]; exact a1.map
   have o2 := tr_one (o := o) (b := s.b) (d := s.d) (t := (s.t.toNat : Int)) (mb := mb) (l := l') (r := r) h.gr q1.one
   have hne := h.ne
   have hn' : ∀ q, q < J.size → q ∉ blk l → q ∉ blk l' := fun q hq hn hm => by
    rcases q3 q hm with hh | hh
    ·exact hn hh
    ·have := f1.1; omega
   simp -implicitDefEqProofs only [go_sem, dnW_ite, go_sem_proc, k2, inb k2, o2, ↓q1.icells, ↓q1.one]
   refine hK _ l' ⟨set_get _ (lt_get k2), ?_, h.born, ?_, ⟨hn' tb (lt_get h.cells) h.off.1, hn' mb (lt_get h.map) h.off.2⟩, h.gr⟩ ?_ (fun q hq => ?_)
   ·rw [Array.getElem?_setIfInBounds, if_neg hne]; exact m2
   ·rw [hsz]
    exact q1.fr (Fr.set J2 (b := tb) _ (S := [tb]) (by simp)) (fun z hz hm => by simp at hm; subst hm; exact hn' _ (lt_get h.cells) h.off.1 hz)
   ·have f3 : Fr J J2 (tb :: blk l) := ⟨f2.1, fun d hd hn => f2.2 d hd (fun hm => hn (by simp [hm]))⟩
    exact f3.trans (Fr.set J2 (b := tb) _ (S := tb :: blk l) (by simp)) (fun _ _ h => h)
   ·rcases q3 q hq with hh | hh
    ·exact .inl hh
    ·have := f1.1; exact .inr (by omega)
  unfold l_trail_Trail_Shown_k1
  cases hf : M.find? (Km.is ((fS g o s M k).t + 1#32)) with
  | some z =>
   have hl := klook_yes a1.map ((fS g o s M k).t + 1#32) hf (.int .u32 0)
   have e : mvAt M g.dflt ((fS g o s M k).t + 1#32) = z.m := by simp only [mvAt, hf]
   rw [e] at fin2
   simp -implicitDefEqProofs only [go_sem, dnW_ite, go_sem_proc, k1, inb k1, hb, inb hb, sx_98, sx_len, hwt, ↓hl]
   exact fin2
  | none =>
   have hl := klook_no a1.map ((fS g o s M k).t + 1#32) hf (.int .u32 0)
   have e : mvAt M g.dflt ((fS g o s M k).t + 1#32) = g.dflt := by simp only [mvAt, hf]
   rw [e] at fin2
   simp -implicitDefEqProofs only [go_sem, dnW_ite, go_sem_proc, k1, inb k1, hb, inb hb, sx_98, sx_len, hwt, ↓hl]
   exact fin2
 have hsz : ∀ s2 : Sx, isplice Sx.z.c 0 s2.c = s2.c := fun s2 => sx_all _ _
 by_cases hk0 : k = 0
 ·subst hk0
  have hb : (J.push (.cells 0 s.c false))[J.size]? = some (.cells 0 s.c false) := push_get _ _
  have f0 := fin (J.push (.cells 0 s.c false)) hb (h.fr (Fr.push _ _ []) (by simp) (by simp) (by simp)) (Fr.push _ _ _)
  simp -implicitDefEqProofs only [go_sem, dnW_ite, go_sem_proc, h1, inb h1, hlen, c0, sx_z, sx_len, sx_one, tr_sx, hsz]
  exact f0
 ·have hl1 := hlen
  obtain ⟨bb, v, of, cs, rfl, hcs, e1, e2⟩ := h.grow.sx (i := k - 1) (by rw [foldA_len]; omega)
  have hget : (foldA g o s M k)[k - 1]'(by rw [foldA_len]; omega) = fS g o s M k := by
   simp only [foldA, List.getElem_map, List.getElem_range]
   rw [show k - 1 + 1 = k by omega]
  rw [hget] at e1
  have hw1 : IntKind.i64.wrap ((k : Int) - 1) = ((k - 1 : Nat) : Int) := by rw [wrap_i64 (by omega) (by omega)]; omega
  have hb : (J.push (.cells 0 (fS g o s M k).c false))[J.size]? = some (.cells 0 (fS g o s M k).c false) := push_get _ _
  have f0 := fin (J.push (.cells 0 (fS g o s M k).c false)) hb (h.fr (Fr.push _ _ []) (by simp) (by simp) (by simp)) (Fr.push _ _ _)
  have hi2 : iaddrF 99 (.sl bb v of (foldA g o s M k).length (UNK + 99) 99) (.int .i64 ((k - 1 : Nat) : Int)) = fun J' => some (.ptr bb v (of + (k - 1) * 99), J') := by
   funext J'; rw [iaddrF_sl]; simp [iasNat, asNat, foldA_len]; omega
  generalize fS g o s M k = S0 at *
  have hps : (J.push (.cells 0 s.c false)).setIfInBounds J.size (.cells 0 S0.c false) = J.push (.cells 0 S0.c false) := by
   apply Array.ext_getElem?
   intro i
   rw [Array.getElem?_setIfInBounds, Array.getElem?_push, Array.getElem?_push]
   by_cases hi : i = J.size
   ·subst hi; simp
   ·simp [Ne.symm hi, hi]
  simp -implicitDefEqProofs only [go_sem, dnW_ite, go_sem_proc, h1, inb h1, hlen, c0, sx_z, sx_len, sx_one, tr_sx, hsz, show ((k : Int) > 0) by omega, hw1, hi2, hcs, inb hcs, e1, e2, sx_all, hps]
  exact f0
theorem trShown_ok {J : JH} {k : Nat} {l : IV} (h : TrAt J tb mb c g x y o s M (foldA g o s M k) l r) (hk16 : k ≤ 16) (t : BitVec 32) :
  RP (ic BI F_trail_Trail_Shown [.ptr tb 0 0, m32 t] J) fun v J' => v = .agg (fS g o s M (min (t.toNat - s.t.toNat) 16)).c ∧ ∃ l', TrAt J' tb mb c g x y o s M (foldA g o s M (max k (min (t.toNat - s.t.toNat) 16))) l' r ∧ Fr J J' (tb :: blk l) ∧ ∀ q ∈ blk l', q ∈ blk l ∨ J.size ≤ q := by
 refine RP_run fn_trail_Trail_Shown rfl fun K hK => ?_
 unfold l_trail_Trail_Shown
 have h1 := h.cells
 by_cases c1 : (t.toNat : Int) ≤ (s.t.toNat : Int)
 ·have e0 : min (t.toNat - s.t.toNat) 16 = 0 := by omega
  rw [e0] at hK
  simp -implicitDefEqProofs only [go_sem, dnW_ite, go_sem_proc, iisNil, h1, inb h1, c1, sx_z, sx_len, sx_one, tr_sx, sx_all, sx_take]
  refine hK _ _ ⟨rfl, l, ?_, ?_, fun q hq => .inl hq⟩
  ·rw [Nat.max_eq_left (Nat.zero_le _)]
   have hf := Fr.refl J []
   refine h.fr (S := []) ?_ (by simp) (by simp) (by simp)
   (have hsz_ := hf.1; repeat (first | with_reducible exact hf | with_reducible apply Fr.psh | ((with_reducible apply Fr.stn); rotate_left; first | omega | (simp only [Array.size_push, Array.size_setIfInBounds] <;> omega)) | ((with_reducible apply Fr.sts); rotate_left; focus (simp only [List.mem_cons, eq_self, true_or, or_true]; done))))
  ·have hf := Fr.refl J (tb :: blk l)
   (have hsz_ := hf.1; repeat (first | with_reducible exact hf | with_reducible apply Fr.psh | ((with_reducible apply Fr.stn); rotate_left; first | omega | (simp only [Array.size_push, Array.size_setIfInBounds] <;> omega)) | ((with_reducible apply Fr.sts); rotate_left; focus (simp only [List.mem_cons, eq_self, true_or, or_true]; done))))
 ·obtain ⟨n, hn, hn1, hn16⟩ : ∃ n, n = min (t.toNat - s.t.toNat) 16 ∧ 1 ≤ n ∧ n ≤ 16 := ⟨_, rfl, by omega, by omega⟩
  have hsb : IntKind.u32.wrap ((t.toNat : Int) - (s.t.toNat : Int)) = ((t.toNat - s.t.toNat : Nat) : Int) := by
   have := t.isLt
   rw [wrap_u32 (by omega) (by omega)]; omega
  have hmn : min ((t.toNat - s.t.toNat : Nat) : Int) 16 = (n : Int) := by omega
  have hwn : IntKind.i64.wrap (n : Int) = (n : Int) := wrap_i64 (by omega) (by omega)
  have hw1 : IntKind.i64.wrap ((n : Int) - 1) = ((n - 1 : Nat) : Int) := by rw [wrap_i64 (by omega) (by omega)]; omega
  rw [← hn] at hK
  have h0 := h.fr (Fr.push J (.cells 0 Sx.z.c false) []) (by simp) (by simp) (by simp)
  have f0 : Fr J (J.push (.cells 0 Sx.z.c false)) (tb :: blk l) := Fr.push _ _ _
  have hrb : (J.push (.cells 0 Sx.z.c false))[J.size]? = some (.cells 0 Sx.z.c false) := push_get _ _
  simp -implicitDefEqProofs only [go_sem, dnW_ite, go_sem_proc, iisNil, h1, inb h1, c1, sx_z, sx_len, sx_one, hsb, hmn, hwn, dn_loop]
  have htl := lt_get h1
  have hml := lt_get h.map
  have hll := h.grow.low
  refine WP_loop (by decide) (fun m vs J' => vs = [.ptr tb 0 0, .ptr J.size 0 0, nI n] ∧ ∃ k' l', k' ≤ max k n ∧ k ≤ k' ∧ m = n - k' ∧ TrAt J' tb mb c g x y o s M (foldA g o s M k') l' r ∧ Fr J J' (tb :: blk l) ∧ (∀ q ∈ blk l', q ≠ J.size ∧ (q ∈ blk l ∨ J.size ≤ q)) ∧ J'[J.size]? = some (.cells 0 Sx.z.c false)) ?_ (n - k) _ _ ⟨rfl, k, l, by omega, Nat.le_refl _, rfl, h0, f0, fun q hq => ⟨by have := hll q hq; omega, .inl hq⟩, hrb⟩
  rintro m vs J1 ⟨rfl, k', l1, hk1, hk2, rfl, a1, f1, hb1, hr1⟩ K1 g1 g2 g3
  by_cases hlt : k' < n
  ·refine shown_round hr hw hs a1 hlt hn16 K1 fun J2 l2 a2 f2 hb2 => ?_
   refine g1 _ (n - (k' + 1)) _ (by omega) ⟨rfl, k' + 1, l2, by omega, by omega, rfl, a2, ?_, ?_, ?_⟩
   ·refine f1.trans f2 (fun d hd hm => ?_)
    rcases List.mem_cons.1 hm with rfl | hm
    ·simp
    ·rcases (hb1 d hm).2 with hh | hh
     ·simp [hh]
     ·omega
   ·intro q hq
    have hJ1 := f1.1
    have hr1l := lt_get hr1
    rcases hb2 q hq with hh | hh
    ·exact hb1 q hh
    ·exact ⟨by omega, .inr (by omega)⟩
   ·rw [f2.2 J.size (lt_get hr1) (by
     simp only [List.mem_cons, not_or]
     exact ⟨by omega, fun hm => (hb1 _ hm).1 rfl⟩)]
    exact hr1
  ·have k1 := a1.cells
   have hlen := fun J' => a1.grow.lenF (J' := J')
   rw [foldA_len] at hlen
   have hend : WP (dn BI l_trail_Trail_Shown_k2 [.ptr tb 0 0, .ptr J.size 0 0, nI n] J1) K1 := by
    unfold l_trail_Trail_Shown_k2
    simp -implicitDefEqProofs only [go_sem, dnW_ite, go_sem_proc, k1, inb k1, hlen, show ¬ ((k' : Int) < (n : Int)) by omega]
    refine g2 _ _ ?_
    unfold l_trail_Trail_Shown_k3
    obtain ⟨bb, v, of, cs, hl1, hcs, e1, e2⟩ := a1.grow.sx (i := n - 1) (by rw [foldA_len]; omega)
    have hget : (foldA g o s M k')[n - 1]'(by rw [foldA_len]; omega) = fS g o s M n := by
     simp only [foldA, List.getElem_map, List.getElem_range]
     rw [show n - 1 + 1 = n by omega]
    rw [hget] at e1
    have hi2 : iaddrF 99 l1 (.int .i64 ((n - 1 : Nat) : Int)) = fun J' => some (.ptr bb v (of + (n - 1) * 99), J') := by
     funext J'; rw [hl1, iaddrF_sl]; simp [iasNat, asNat, foldA_len]; omega
    have hbb : bb ∈ blk l1 := by rw [hl1]; simp [blk, blkOf]
    generalize fS g o s M n = S0 at *
    simp -implicitDefEqProofs only [go_sem, dnW_ite, go_sem_proc, k1, inb k1, hw1, hi2, hcs, inb hcs, e1, e2, hr1, inb hr1, sx_len, sx_one, sx_take, sx_all]
    have hmax : max k n = k' := by omega
    refine hK _ _ ⟨by simp [itup, sx_take], l1, ?_, ?_, fun q hq => (hb1 q hq).2⟩
    ·rw [hmax]
     exact a1.fr (Fr.set J1 (b := J.size) _ (S := [J.size]) (by simp)) (by simp; omega) (by simp; omega) (fun q hq hm => by simp at hm; exact (hb1 q hq).1 hm)
    ·refine f1.trans (Fr.set J1 (b := J.size) _ (S := [J.size]) (by simp)) (fun d hd hm => by simp at hm; omega)
   exact hend
end
end Go.Proofs.Ytccbcbnglnloiaa.G
namespace Go.Proofs.Ytccbcbnglnloiaa.G
open Go
theorem out_len (r s) : (outC r s).length = 3 := rfl
theorem out_take (r s) : (outC r s).take 3 = outC r s := rfl
theorem out_0 (r s) : (outC r s).take 1 = [.int .u64 (r.touched.toNat : Int)] := rfl
theorem out_00 (r s) : ((outC r s).drop 0).take 1 = [.int .u64 (r.touched.toNat : Int)] := rfl
theorem out_1 (r s) : ((outC r s).drop 1).take 1 = [s] := rfl
theorem out_2 (r s) : ((outC r s).drop 2).take 1 = [nI r.err] := rfl
theorem out_z (r s) : isplice [IV.sc (Value.int IntKind.u64 0), IV.sc (Value.slice none 0 0), IV.sc (Value.int IntKind.i64 0)] 0 (outC r s) = outC r s := rfl
attribute [go_sem] out_len out_take out_0 out_00 out_1 out_2
attribute [go_sem ↓] out_z
theorem EE.refl (P : BitVec 32 → Bool) (E : Me) : EE P E E := ⟨rfl, rfl, fun _ _ => rfl⟩
theorem sta_eq (b c : Bd) (d t : Int) (e u : Int) : iaggEq (stc b d t) (stc c e u) = some (decide (b = c) && (decide (d = e) && decide (t = u))) := by
 have hb := b.h
 have hc := c.h
 have key : ∀ (p q : List Cl) (n m : Nat), p.length = q.length → iaggEq ((p.map Cl.c).flatten ++ [nI n, .int .u64 d, .int .u32 t]) ((q.map Cl.c).flatten ++ [nI m, .int .u64 e, .int .u32 u]) = some (decide (p = q ∧ n = m) && (decide (d = e) && decide (t = u))) := by
  intro p
  induction p with
  | nil =>
   intro q n m h
   cases q with
   | nil =>
    simp only [List.map_nil, List.flatten_nil, List.nil_append, iaggEq, if_true, Bool.and_true, true_and]
    congr 1
    rw [Bool.eq_iff_iff]; simp; omega
   | cons _ _ => simp at h
  | cons a p ih =>
   intro q n m h
   cases q with
   | nil => simp at h
   | cons b q =>
    have ih := ih q n m (by simpa using h)
    obtain ⟨av, as1⟩ := a
    obtain ⟨bv, bs1⟩ := b
    simp only [List.map_cons, List.flatten_cons, Cl.c, List.cons_append, List.nil_append, iaggEq, if_true, List.append_eq, ih, beqB]
    congr 1
    rw [Bool.eq_iff_iff]
    simp [and_assoc]
 rw [stc, stc, bdc, bdc, Bd.pad, Bd.pad, List.append_assoc, List.append_assoc]
 simp only [List.cons_append, List.nil_append]
 rw [key _ _ _ _ (by simp; omega)]
 congr 2
 rw [decide_eq_decide]
 constructor
 ·rintro ⟨h1, h2⟩
  apply Bd.ext
  rw [h2] at h1
  exact List.append_cancel_right h1
 ·rintro rfl
  exact ⟨rfl, rfl⟩
attribute [go_sem] sta_eq
theorem bdz_ok : Bd.z.ok := fun c hc => by cases hc
theorem sx_f98 (s : Sx) : s.c[98]? = some (m32 s.t) := by
 have := congrArg (·[0]?) (sx_98 s)
 simpa [List.getElem?_take, List.getElem?_drop] using this
def gmA : Gm := ⟨1, 1, 2#32, 0#32, [], []⟩
theorem gmA_right : gmA.right = true := by
 have e : rightL [] 0 1 = true := rfl
 simp [Gm.right, gmA, e]
theorem awake16 : pc BI F_law16_awake [] = some (.bool true) := by
 refine pcE fn_law16_awake rfl fun K hK => ?_
 unfold l_law16_awake
 simp -implicitDefEqProofs only [go_sem, dnW_ite, go_sem_proc]
 refine WP_call (trNew_ok gmA nilS nilS ⟨.nil, .nil⟩ (by simp [gmA]) (by simp [gmA]) 0 _) fun v J1 hv => ?_
 obtain ⟨tb, mb, x2, y2, rfl, hb, hm, f1, h1⟩ := hv
 have e5 : isplice Sx.z.c 98 [.int .u32 5] = stc Bd.z 0 ((5#32).toNat : Int) := sta_s98 _ _ _ _
 simp -implicitDefEqProofs only [go_sem, dnW_ite, go_sem_proc, sx_z, e5, sx_len]
 refine WP_call (trReset_ok h1 Bd.z 0 5#32) fun v J2 hv => ?_
 obtain ⟨h2, f2⟩ := hv
 have ha : kErr gmA ⟨Bd.z, 0, 5#32⟩ [] 7#32 1#32 = 0 := by kernel_rfl
 simp -implicitDefEqProofs only [go_sem, dnW_ite, go_sem_proc]
 refine WP_call (trAdd_ok h2 7#32 1#32 (by simp)) fun v J3 hv => ?_
 obtain ⟨rfl, hv⟩ := hv
 rcases hv with ⟨hne, _⟩ | ⟨_, l3, h3, f3, _⟩
 ·exact absurd ha hne
 rw [ha]
 have h3' : TrAt J3 tb mb 1 gmA x2 y2 0 ⟨Bd.z, 0, 5#32⟩ [⟨7#32, 1#32, 0⟩] (foldA gmA 0 ⟨Bd.z, 0, 5#32⟩ [⟨7#32, 1#32, 0⟩] 0) l3 0 := h3
 simp -implicitDefEqProofs only [go_sem, dnW_ite, go_sem_proc]
 refine WP_call (trShown_ok gmA_right (by simp [gmA]) bdz_ok h3' (by omega) 7#32) fun v J4 hv => ?_
 obtain ⟨rfl, l4, h4, f4, _⟩ := hv
 have ht : (fS gmA 0 ⟨Bd.z, 0, 5#32⟩ [⟨7#32, 1#32, 0⟩] (min ((7#32).toNat - (5#32).toNat) 16)).t = 7#32 := by rw [fS_t]; rfl
 generalize fS gmA 0 ⟨Bd.z, 0, 5#32⟩ [⟨7#32, 1#32, 0⟩] (min ((7#32).toNat - (5#32).toNat) 16) = S4 at *
 have hf := sx_f98 S4
 rw [ht] at hf
 simp -implicitDefEqProofs only [go_sem, dnW_ite, go_sem_proc, hf, sx_len]
 refine WP_call (trLast_ok h4 (by simp)) fun v J5 hv => ?_
 obtain ⟨rfl, f5⟩ := hv
 have hm : maxL ((5#32).toNat : Int) (sortI ([(⟨7#32, 1#32, 0⟩ : Km)].map fun x => (x.k.toNat : Int))) = 7 := by
  simp only [List.map_cons, List.map_nil, sortI, List.mergeSort_singleton]; rfl
 rw [hm]
 have h5 := h4.fr f5 (by simp) (by simp) (by simp)
 simp -implicitDefEqProofs only [go_sem, dnW_ite, go_sem_proc]
 refine WP_call (trKnown_ok h5) fun v J6 hv => ?_
 obtain ⟨rfl, f6⟩ := hv
 have hf6 := sx_f98 ⟨Bd.z, 0, 5#32⟩
 simp -implicitDefEqProofs only [go_sem, dnW_ite, go_sem_proc, hf6, sx_len]
 exact hK _ _ (frzP rfl)
theorem sx_eq (a b : Sx) : iaggEq a.c b.c = some (decide (a.b = b.b) && (decide (a.d = b.d) && decide (a.t = b.t))) := by
 rw [Sx.c, Sx.c, sta_eq]
 have e : decide ((a.t.toNat : Int) = (b.t.toNat : Int)) = decide (a.t = b.t) := decide_eq_decide.2 ⟨fun h => BitVec.eq_of_toNat_eq (by omega), fun h => by rw [h]⟩
 rw [e]
theorem sx_eqr (a : Sx) : iaggEq a.c a.c = some true := by rw [sx_eq]; simp
noncomputable def rchH (J : JH) (l : List IV) : Option (List Nat) := reach J l
theorem dnW_och {ρ : List IV} {J : JH} {f : FuncId} {args : List Operand} {chk} {k : L} : dn BI (oc none (.call f args) .raw chk k) ρ J = thenC (ic BI f (args.map (evI ρ)) J) J chk (rchH J (args.map (evI ρ))) ρ k := by
 rw [dnW_oc, step_chk]
 have h : iexec BI (ic BI) .raw ρ (.call f args) J = ic BI f (args.map (evI ρ)) J := rfl
 have ht : itouch BI .raw ρ (.call f args) J = rchH J (args.map (evI ρ)) := rfl
 rw [h, ht]
 unfold thenC
 generalize ic BI f (args.map (evI ρ)) J = r
 cases r with
 | none => rfl
 | some q =>
  by_cases hh : chk.all (ichk J q.2 (rchH J (args.map (evI ρ))) ρ) = true
  ·simp only [hh, if_true]; rfl
  ·simp only [hh]; rfl
theorem scals_of : ∀ {l : List IV}, (∀ x ∈ l, ∃ v, x = .sc v) → ∃ vs, scalsOf l = some vs
 | [], _ => ⟨[], rfl⟩
 | x :: l, h => by
  obtain ⟨v, rfl⟩ := h x (by simp)
  obtain ⟨vs, hv⟩ := scals_of (l := l) fun y hy => h y (by simp [hy])
  exact ⟨v :: vs, by simp [scalsOf, hv]⟩
theorem sx_scals (s : Sx) : ∃ vs, scalsOf s.c = some vs := by
 refine scals_of fun x hx => ?_
 simp only [Sx.c, stc] at hx
 rcases List.mem_append.1 hx with hx | hx
 ·rcases List.mem_append.1 hx with hx | hx
  ·obtain ⟨e, he, hx⟩ := List.mem_flatten.1 hx
   obtain ⟨y, _, rfl⟩ := List.mem_map.1 he
   simp [Cl.c] at hx
   rcases hx with rfl | rfl <;> exact ⟨_, rfl⟩
  ·simp at hx; subst hx; exact ⟨_, rfl⟩
 ·simp at hx
  rcases hx with rfl | rfl <;> exact ⟨_, rfl⟩
theorem isame_scs {J J' : JH} {t : Option (List Nat)} {b v off n : Nat} {cs : List IV} {vs : List Value} (hs : scalsOf cs = some vs) (h : ird J b v off n = some cs) (h' : ird J' b v off n = some cs) : isame J J' t (.range b v off n) = true := by
 simp only [isame, h, h', Option.isSome_some, Bool.true_and, Option.bind_some, hs]
 rw [veqL_refl]; simp
def seqA (g : Gm) (o : Int) (s : Sx) (n : Nat) : List Sx := (List.range n).map (fS g o s [])
theorem seqA_len (g o s n) : (seqA g o s n).length = n := by simp [seqA]
def AllAt (J : JH) (l : IV) (g : Gm) (o : Int) (s : Sx) (n : Nat) : Prop := (n = 1 ∧ l = .lst 99 true [.agg s.c]) ∨ (2 ≤ n ∧ Grow J l 99 (sxX (seqA g o s n)).flatten)
theorem AllAt.fr {J J' : JH} {l : IV} {g : Gm} {o : Int} {s : Sx} {n : Nat} {S : List Nat} (h : AllAt J l g o s n) (hf : Fr J J' S) (hS : ∀ b ∈ blk l, b ∉ S) : AllAt J' l g o s n := by
 rcases h with h | ⟨h1, h2⟩
 ·exact .inl h
 ·exact .inr ⟨h1, h2.fr hf hS⟩
theorem AllAt.lenF {J : JH} {l : IV} {g : Gm} {o : Int} {s : Sx} {n : Nat} (h : AllAt J l g o s n) (J' : JH) : lenF false l J' = some (nI n, J') := by
 rcases h with ⟨rfl, rfl⟩ | ⟨h1, h2⟩
 ·rfl
 ·exact h2.lenF (n := n) (by rw [flat_len (sxX_99 _), sxX_len, seqA_len]) (by decide)
section
variable {g : Gm} {x y : IV} (h : GR g x y) (hr : g.right = true) (hw : ∀ c ∈ g.code, c.wf) (o : Int) {s : Sx} (hs : s.b.ok)
include h hr hw hs
end
end Go.Proofs.Ytccbcbnglnloiaa.G
namespace Go.Proofs.Ytccbcbnglnloiaa.G
open Go
def lenMF (m : IV) (J : JH) : Option (IV × JH) := match m with
  | .sc (.map none) => some (.int .i64 0, J)
  | .map b => (match J[b]? with | some (.map es _) => some (.int .i64 (es.length : Nat), J) | _ => none)
  | _ => none
theorem iexec_lenM {B : IBook} {C : ICall} {md : Md} {ρ : List IV} {x : Operand} {J : JH} : iexec B C md ρ (.lenM x) J = lenMF (evI ρ x) J := rfl
attribute [go_sem ↓] iexec_lenM
section
variable {tb mb c : Nat} {g : Gm} {x y : IV} {o : Int} {s : Sx} {M : List Km} {r : Int}
theorem trRoom_ok {J : JH} {A : List Sx} {l : IV} (h : TrAt J tb mb c g x y o s M A l r) (hl : M.length ≤ 16) : RP (ic BI F_trail_Trail_Room [.ptr tb 0 0] J) fun v J' => v = nI (16 - M.length) ∧ J' = J := by
 refine RP_run fn_trail_Trail_Room rfl fun K hK => ?_
 unfold l_trail_Trail_Room
 have h1 := h.cells
 have hm : lenMF (.map mb) J = some (nI M.length, J) := by simp only [lenMF, h.map, List.length_map]
 have hw : IntKind.i64.wrap (16 - (M.length : Int)) = ((16 - M.length : Nat) : Int) := by rw [wrap_i64 (by omega) (by omega)]; omega
 simp -implicitDefEqProofs only [go_sem, dnW_ite, go_sem_proc, iisNil, h1, inb h1, hm, hw]
 exact hK _ _ ⟨rfl, rfl⟩
section
variable (hw : ∀ c ∈ g.code, c.wf) (hlen : g.code.length ≤ 9223372036854775807) (hs : s.b.ok)
include hw hlen hs
end
end
end Go.Proofs.Ytccbcbnglnloiaa.G
namespace Go.Proofs.Ytccbcbnglnloiaa.G
open Go
section
variable {tb mb : Nat} {G : Gm} {x y : IV} {S : Sx} {f mv : BitVec 32} (hf : f.toNat < 2147483648) (hSt : S.t = f) (hleg : G.legal mv = true)
include hf hSt hleg
end
end Go.Proofs.Ytccbcbnglnloiaa.G
namespace Go.Proofs.Ytccbcbnglnloiaa.G
open Go
theorem sx_neq {a b : Sx} (h : a ≠ b) : iaggEq a.c b.c = some false := by
 rw [sx_eq]
 congr 1
 cases hq : (decide (a.b = b.b) && (decide (a.d = b.d) && decide (a.t = b.t))) with
 | false => rfl
 | true =>
  simp only [Bool.and_eq_true, decide_eq_true_eq] at hq
  obtain ⟨h1, h2, h3⟩ := hq
  exact absurd (by cases a; cases b; simp_all) h
def late (U : Sx) (x : Km) : Bool := decide (U.t.toNat < x.k.toNat)
theorem late_key (U : Sx) (M : List Km) : (M.map Km.e).filter (fun e => (keyI e.key).any fun k => decide ((U.t.toNat : Int) < k)) = (M.filter (late U)).map Km.e := by
 rw [List.filter_map]
 congr 1
 refine List.filter_congr fun x _ => ?_
 simp only [Function.comp, Km.e, keyI, Option.any_some, late]
 exact decide_eq_decide.2 (by omega)
theorem delf_RP {J : JH} {mb vb c : Nat} {M : List Km} {U : Sx} (hm : J[mb]? = some (.map (M.map Km.e) c)) (hv : J[vb]? = some (.cells 0 U.c false)) (hok : keysOK ((M.map Km.e).map (·.key)) ((M.map Km.e).map (·.born)) c = true) (hn : (M.map Km.k).Nodup) :
  RP (ic BI F_maps_DeleteFunc_map_uint32_uint32_uint32_uint32 [.map mb, .fn F_trail_Trail_Confirm_1 [] [.ptr vb 0 0]] J) fun _ J' => J' = J.setIfInBounds mb (.map ((M.filter (late U)).map Km.e) c) := by
 have hr : ird J vb 0 (0 + 98) 1 = some [.sc (.int .u32 (U.t.toNat : Int))] := by
  simp only [ird, hv, sx_len]
  have := sx_98 U
  simp only [Nat.zero_add]
  rw [if_pos ⟨trivial, by omega⟩, this]
 have hnk : ((M.map Km.e).map (·.key)).Nodup := by
  rw [List.map_map]
  have e : ((·.key) ∘ Km.e : Km → Value) = (fun k : BitVec 32 => Value.int .u32 (k.toNat : Int)) ∘ Km.k := rfl
  rw [e, ← List.map_map]
  refine List.Pairwise.map _ (fun a b hne hab => hne ?_) hn
  simp only [Value.int.injEq, true_and] at hab
  exact BitVec.eq_of_toNat_eq (by omega)
 rw [ic_given (B := BI) (g := idelf) rfl (r := (.tup [], J.setIfInBounds mb (.map ((M.filter (late U)).map Km.e) c))) (by
  simp only [idelf, hr, hm, late_key]
  rw [if_pos ⟨hok, hnk⟩])]
 rfl
theorem mv_late {M : List Km} {U : Sx} {us t : BitVec 32} (h : U.t.toNat < t.toNat) : mvAt (M.filter (late U)) us t = mvAt M us t := by
 have e : (M.filter (late U)).find? (Km.is t) = M.find? (Km.is t) := by
  rw [List.find?_filter]
  congr 1
  funext x
  by_cases hx : x.k = t
  ·subst hx; simp [late, Km.is, h]
  ·simp [Km.is, hx]
 simp only [mvAt, e]
theorem fS_late {g : Gm} {o : Int} {s : Sx} {M : List Km} {n : Nat} (hf : s.t.toNat + 20 < 4294967296) (hn : n ≤ 16) : ∀ i, n + i ≤ 16 → fS g o (fS g o s M n) (M.filter (late (fS g o s M n))) i = fS g o s M (n + i)
 | 0, _ => rfl
 | i + 1, hi => by
  have ih := fS_late (g := g) (o := o) (M := M) hf hn i (by omega)
  have e : n + (i + 1) = (n + i) + 1 := by omega
  rw [e, fS, fS, ih, mv_late]
  rw [fS_t, fS_t]
  simp only [BitVec.toNat_add, BitVec.toNat_ofNat]
  omega
theorem foldA_late {g : Gm} {o : Int} {s : Sx} {M : List Km} {n m : Nat} (hf : s.t.toNat + 20 < 4294967296) (hn : n ≤ m) (hm : m ≤ 16) : (foldA g o s M m).drop n = foldA g o (fS g o s M n) (M.filter (late (fS g o s M n))) (m - n) := by
 apply List.ext_getElem
 ·simp [foldA]
 ·intro i h1 h2
  simp only [foldA, List.getElem_drop, List.getElem_map, List.getElem_range]
  rw [foldA_len] at h2
  rw [fS_late hf (by omega) (i + 1) (by omega)]
  congr 1
section
variable {J : JH} {tb mb c : Nat} {g : Gm} {x y : IV} {o : Int} {s : Sx} {M : List Km} {A : List Sx} {l : IV} {r : Int}
theorem conf_end (h : TrAt J tb mb c g x y o s M A l r) {vb : Nat} {U : Sx} (hv : J[vb]? = some (.cells 0 U.c false)) (hn : (M.map Km.k).Nodup) (hl : M.length ≤ 1000000) (K : Out IV → JH → Prop)
  (hK : ∀ J', TrAt J' tb mb c g x y o U (M.filter (late U)) A l r → Fr J J' [tb, mb] → K (.ret [.int .i64 0]) J') :
  WP (dn BI l_trail_Trail_Confirm_k0 [.ptr tb 0 0, .ptr vb 0 0] J) K := by
 unfold l_trail_Trail_Confirm_k0
 have h1 := h.cells
 have hne := h.ne
 have hvt : vb ≠ tb := by
  rintro rfl; rw [h1] at hv
  simp only [Option.some.injEq, IB.cells.injEq, true_and, and_true] at hv
  have := congrArg List.length hv
  rw [sx_len] at this; simp [tr_len] at this
 have hvm : vb ≠ mb := by rintro rfl; rw [h.map] at hv; cases hv
 have e7 : isplice (trc g x y o s.b s.d (s.t.toNat : Int) mb l r) 7 U.c = trc g x y o U.b U.d (U.t.toNat : Int) mb l r := tr_s7 _ _ _ _ _ _ _ _ _ _ _ _ _
 have o2 := tr_one (o := o) (b := U.b) (d := U.d) (t := (U.t.toNat : Int)) (mb := mb) (l := l) (r := r) h.gr h.grow.one
 have hfr : Fr J (J.setIfInBounds tb (.cells 0 (trc g x y o U.b U.d (U.t.toNat : Int) mb l r) false)) [tb] := Fr.set J (b := tb) _ (by simp)
 have h1' : (J.setIfInBounds tb (.cells 0 (trc g x y o U.b U.d (U.t.toNat : Int) mb l r) false))[tb]? = some (.cells 0 (trc g x y o U.b U.d (U.t.toNat : Int) mb l r) false) := set_get _ (lt_get h1)
 simp -implicitDefEqProofs only [go_sem, dnW_ite, go_sem_proc, hv, inb hv, iisNil, h1, inb h1, sx_len, sx_take, sx_take0, sx_one, e7, o2, h1', inb h1']
 generalize J.setIfInBounds tb (.cells 0 (trc g x y o U.b U.d (U.t.toNat : Int) mb l r) false) = J2 at *
 have hm2 : J2[mb]? = some (.map (M.map Km.e) c) := by rw [hfr.2 mb (lt_get h.map) (by simp; exact Ne.symm hne)]; exact h.map
 have hv2 : J2[vb]? = some (.cells 0 U.c false) := by rw [hfr.2 vb (lt_get hv) (by simp; exact hvt)]; exact hv
 refine WP_call (delf_RP hm2 hv2 (keysOK_tr h hl) hn) fun v J3 hj => ?_
 subst hj
 simp -implicitDefEqProofs only [go_sem, dnW_ite, go_sem_proc]
 refine hK _ ⟨?_, set_get _ (lt_get hm2), ⟨?_, ?_⟩, ?_, h.off, h.gr⟩ ?_
 ·rw [Array.getElem?_setIfInBounds, if_neg (Ne.symm hne)]; exact h1'
 ·exact h.born.1.sublist (List.filter_sublist.map _)
 ·exact fun x hx => h.born.2 x (List.mem_filter.1 hx).1
 ·refine (h.grow.fr hfr (fun z hz hm => by simp at hm; subst hm; exact h.off.1 hz)).fr (Fr.set J2 (b := mb) _ (S := [mb]) (by simp)) (fun z hz hm => by simp at hm; subst hm; exact h.off.2 hz)
 ·have f3 : Fr J J2 [tb, mb] := ⟨hfr.1, fun d hd hn => hfr.2 d hd (fun hm => hn (by simp at hm; simp [hm]))⟩
  exact f3.trans (Fr.set J2 (b := mb) _ (S := [tb, mb]) (by simp)) (fun _ _ h => h)
end
end Go.Proofs.Ytccbcbnglnloiaa.G
namespace Go.Proofs.Ytccbcbnglnloiaa.G
open Go
section
variable {tb mb c : Nat} {g : Gm} {x y : IV} {o : Int} {s : Sx} {M : List Km} {r : Int} (hr : g.right = true) (hw : ∀ c ∈ g.code, c.wf) (hs : s.b.ok)
include hr hw hs
def CfAt (J J' : JH) (tb mb c : Nat) (g : Gm) (x y : IV) (o : Int) (U : Sx) (M : List Km) (l : IV) (r : Int) : Prop :=
 ∃ k' l', k' ≤ 16 ∧ TrAt J' tb mb c g x y o U (M.filter (late U)) (foldA g o U (M.filter (late U)) k') l' r ∧ Fr J J' (tb :: mb :: blk l) ∧ ∀ q ∈ blk l', q ∈ blk l ∨ J.size ≤ q
omit hr hw hs in
theorem trConfirm_old {J : JH} {A : List Sx} {l : IV} (h : TrAt J tb mb c g x y o s M A l r) {U : Sx} (hu : U.t.toNat ≤ s.t.toNat) :
  RP (ic BI F_trail_Trail_Confirm [.ptr tb 0 0, .agg U.c] J) fun v J' => v = .int .i64 10 ∧ J' = J.push (.cells 0 U.c false) := by
 refine RP_run fn_trail_Trail_Confirm rfl fun K hK => ?_
 unfold l_trail_Trail_Confirm
 have h1 := (h.fr (Fr.push J (.cells 0 U.c false) []) (by simp) (by simp) (by simp)).cells
 have hb : (J.push (.cells 0 U.c false))[J.size]? = some (.cells 0 U.c false) := push_get _ _
 have c1 : (U.t.toNat : Int) ≤ (s.t.toNat : Int) := by omega
 simp -implicitDefEqProofs only [go_sem, dnW_ite, go_sem_proc, sx_one, iisNil, hb, inb hb, h1, inb h1, sx_98, sx_len, c1]
 exact hK _ _ ⟨rfl, rfl⟩
theorem trConfirm_ok {J : JH} {k : Nat} {l : IV} (h : TrAt J tb mb c g x y o s M (foldA g o s M k) l r) (hk16 : k ≤ 16) (hn : (M.map Km.k).Nodup) (hl : M.length ≤ 1000000) (hf : s.t.toNat + 20 < 4294967296) (h0 : 0 ≤ r) (h9 : r ≤ 1000000) {U : Sx} (hu : s.t.toNat < U.t.toNat) :
  RP (ic BI F_trail_Trail_Confirm [.ptr tb 0 0, .agg U.c] J) fun v J' => v = .int .i64 0 ∧
   ((U.t.toNat - s.t.toNat ≤ 16 ∧ fS g o s M (U.t.toNat - s.t.toNat) ≠ U ∧ CfAt J J' tb mb c g x y o U M l (r + 1)) ∨ (¬ (U.t.toNat - s.t.toNat ≤ 16 ∧ fS g o s M (U.t.toNat - s.t.toNat) ≠ U) ∧ CfAt J J' tb mb c g x y o U M l r)) := by
 refine RP_run fn_trail_Trail_Confirm rfl fun K hK => ?_
 unfold l_trail_Trail_Confirm
 have hpf : Fr J (J.push (.cells 0 U.c false)) [] := Fr.push _ _ _
 have a1 := h.fr hpf (by simp) (by simp) (by simp)
 have h1 := a1.cells
 have hb : (J.push (.cells 0 U.c false))[J.size]? = some (.cells 0 U.c false) := push_get _ _
 have c1 : ¬ ((U.t.toNat : Int) ≤ (s.t.toNat : Int)) := by omega
 obtain ⟨n, hnn⟩ : ∃ n, n = U.t.toNat - s.t.toNat := ⟨_, rfl⟩
 have ws : IntKind.u32.wrap ((U.t.toNat : Int) - (s.t.toNat : Int)) = (n : Int) := by
  have := U.t.isLt
  rw [wrap_u32 (by omega) (by omega)]; omega
 have wu : IntKind.u64.wrap (n : Int) = (n : Int) := by
  have := U.t.isLt
  rw [wrap_u64 (by omega) (by omega)]
 have hvb : J.size ∉ blk l := fun hm => by have := h.grow.low _ hm; omega
 have hlt := lt_get h.cells
 have hlm := lt_get h.map
 rw [← hnn] at hK
 -- behind the choice
 have fin : ∀ J2 : JH, ∀ (k2 : Nat) (l2 : IV) (r2 : Int) (rt : Bool), J2[J.size]? = some (.cells 0 U.c false) → TrAt J2 tb mb c g x y o s M (foldA g o s M k2) l2 r2 → k2 ≤ 16 → (rt = true → n ≤ k2 ∧ fS g o s M n = U) → Fr J J2 (tb :: mb :: blk l) → (∀ q ∈ blk l2, q ∈ blk l ∨ J.size ≤ q) → J.size ∉ blk l2 →
   (∀ J', CfAt J J' tb mb c g x y o U M l r2 → K (.ret [.int .i64 0]) J') → WP (dn BI l_trail_Trail_Confirm_k1 [.ptr tb 0 0, .ptr J.size 0 0, .int .u64 (n : Int), .sc (.bool rt)] J2) K := by
  intro J2 k2 l2 r2 rt hb2 a2 hk2 hrt f2 hl2 hv2 hfin
  unfold l_trail_Trail_Confirm_k1
  have b1 := a2.cells
  have hne := h.ne
  cases rt with
  | false =>
   have o3 := tr_one (o := o) (b := s.b) (d := s.d) (t := (s.t.toNat : Int)) (mb := mb) (l := nilS) (r := r2) h.gr rfl
   have fs := Fr.set J2 (b := tb) (.cells 0 (trc g x y o s.b s.d (s.t.toNat : Int) mb nilS r2) false) (S := [tb]) (by simp)
   have b1' : (J2.setIfInBounds tb (.cells 0 (trc g x y o s.b s.d (s.t.toNat : Int) mb nilS r2) false))[tb]? = some (.cells 0 (trc g x y o s.b s.d (s.t.toNat : Int) mb nilS r2) false) := set_get _ (lt_get b1)
   simp -implicitDefEqProofs only [go_sem, dnW_ite, go_sem_proc, iisNil, b1, inb b1, o3]
   have a3 : TrAt (J2.setIfInBounds tb (.cells 0 (trc g x y o s.b s.d (s.t.toNat : Int) mb nilS r2) false)) tb mb c g x y o s M [] nilS r2 :=
    ⟨b1', by rw [fs.2 mb (lt_get a2.map) (by simp; exact Ne.symm hne)]; exact a2.map, a2.born, .nil, by simp [blk, blkOf], a2.gr⟩
   refine conf_end a3 (vb := J.size) (U := U) (by rw [fs.2 _ (lt_get hb2) (by simp; omega)]; exact hb2) hn hl K fun J' a4 f4 => hfin J' ⟨0, nilS, by omega, a4, ?_, by simp [blk, blkOf]⟩
   have f5 : Fr J2 (J2.setIfInBounds tb (.cells 0 (trc g x y o s.b s.d (s.t.toNat : Int) mb nilS r2) false)) (tb :: mb :: blk l) := ⟨fs.1, fun d hd hm => fs.2 d hd (fun h => hm (by simp at h; simp [h]))⟩
   refine (f2.trans f5 (fun _ _ h => h)).trans (S := tb :: mb :: blk l) (T := [tb, mb]) f4 (fun d hd hm => by simp at hm; rcases hm with rfl | rfl <;> simp)
  | true =>
   obtain ⟨hnk, hU⟩ := hrt rfl
   obtain ⟨l', hsl, hgr, hlo⟩ := a2.grow.lo (κ := .u64) (k := n) (by rw [foldA_len]; exact hnk)
   have hA := foldA_late (g := g) (o := o) (M := M) hf hnk hk2
   rw [hU] at hA
   have o3 := tr_one (o := o) (b := s.b) (d := s.d) (t := (s.t.toNat : Int)) (mb := mb) (l := l') (r := r2) h.gr hgr.one
   have fs := Fr.set J2 (b := tb) (.cells 0 (trc g x y o s.b s.d (s.t.toNat : Int) mb l' r2) false) (S := [tb]) (by simp)
   have b1' : (J2.setIfInBounds tb (.cells 0 (trc g x y o s.b s.d (s.t.toNat : Int) mb l' r2) false))[tb]? = some (.cells 0 (trc g x y o s.b s.d (s.t.toNat : Int) mb l' r2) false) := set_get _ (lt_get b1)
   simp -implicitDefEqProofs only [go_sem, dnW_ite, go_sem_proc, iisNil, b1, inb b1, hsl, ↓hgr.icells, ↓hgr.one, o3]
   have a3 : TrAt (J2.setIfInBounds tb (.cells 0 (trc g x y o s.b s.d (s.t.toNat : Int) mb l' r2) false)) tb mb c g x y o s M ((foldA g o s M k2).drop n) l' r2 :=
    ⟨b1', by rw [fs.2 mb (lt_get a2.map) (by simp; exact Ne.symm hne)]; exact a2.map, a2.born, hgr.fr fs (fun z hz hm => by simp at hm; subst hm; exact a2.off.1 (hlo _ hz)), ⟨fun hm => a2.off.1 (hlo _ hm), fun hm => a2.off.2 (hlo _ hm)⟩, a2.gr⟩
   refine conf_end a3 (vb := J.size) (U := U) (by rw [fs.2 _ (lt_get hb2) (by simp; omega)]; exact hb2) hn hl K fun J' a4 f4 => hfin J' ⟨k2 - n, l', by omega, by rw [hA] at a4; exact a4, ?_, fun q hq => hl2 q (hlo q hq)⟩
   have f5 : Fr J2 (J2.setIfInBounds tb (.cells 0 (trc g x y o s.b s.d (s.t.toNat : Int) mb l' r2) false)) (tb :: mb :: blk l) := ⟨fs.1, fun d hd hm => fs.2 d hd (fun h => hm (by simp at h; simp [h]))⟩
   refine (f2.trans f5 (fun _ _ h => h)).trans (S := tb :: mb :: blk l) (T := [tb, mb]) f4 (fun d hd hm => by simp at hm; rcases hm with rfl | rfl <;> simp)
 have f0 : Fr J (J.push (.cells 0 U.c false)) (tb :: mb :: blk l) := Fr.push _ _ _
 by_cases h16 : n ≤ 16
 ·have c16 : ((n : Int) ≤ 16) := by omega
  simp -implicitDefEqProofs only [go_sem, dnW_ite, go_sem_proc, sx_one, iisNil, hb, inb hb, h1, inb h1, sx_98, sx_len, c1, ws, wu, c16, sx_take, sx_take0, ↓dnW_och]
  refine WP_join fun K1 g1 g2 g3 => ?_
  refine WP_bindC (trShown_ok hr hw hs a1 hk16 U.t) fun u J2 hu2 => ?_
  rw [← hnn, Nat.min_eq_left h16] at hu2
  obtain ⟨rfl, l2, a2, f2, hl2⟩ := hu2
  have hb2 : J2[J.size]? = some (.cells 0 U.c false) := by
   rw [f2.2 J.size (lt_get hb) (by simp only [List.mem_cons, not_or]; exact ⟨by omega, hvb⟩)]; exact hb
  have hsz : (J.push (.cells 0 U.c false)).size = J.size + 1 := by simp
  have f3 : Fr J J2 (tb :: mb :: blk l) := f0.trans f2 (fun d hd hm => by
   simp only [List.mem_cons] at hm ⊢
   rcases hm with hm | hm
   ·exact .inl hm
   ·exact .inr (.inr hm))
  have hl3 : ∀ q ∈ blk l2, q ∈ blk l ∨ J.size ≤ q := fun q hq => by
   rcases hl2 q hq with h | h
   ·exact .inl h
   ·exact .inr (by omega)
  have hv2 : J.size ∉ blk l2 := fun hm => by
   rcases hl2 _ hm with h | h
   ·exact hvb h
   ·omega
  obtain ⟨vs, hvs⟩ := sx_scals U
  have s1 := fun t' => isame_scs (t := t') hvs (show ird (J.push (.cells 0 U.c false)) J.size 0 0 99 = some U.c by simp only [ird, hb, sx_take0]; simp [sx_len]) (show ird J2 J.size 0 0 99 = some U.c by simp only [ird, hb2, sx_take0]; simp [sx_len])
  refine ⟨by simp -implicitDefEqProofs only [go_sem, dnW_ite, go_sem_proc, ↓s1], ?_⟩
  have hkn : max k n ≤ 16 := by omega
  by_cases hE : fS g o s M n = U
  ·have hq := sx_eqr U
   rw [hE]
   simp -implicitDefEqProofs only [go_sem, dnW_ite, go_sem_proc, hq, sx_len]
   refine g1 _ _ (fin J2 (max k n) l2 r true hb2 a2 hkn (fun _ => ⟨by omega, hE⟩) f3 hl3 hv2 fun J' hc => hK _ _ ⟨rfl, .inr ⟨fun hh => hh.2 hE, hc⟩⟩)
  ·have hq := sx_neq hE
   have b1 := a2.cells
   have hwr : IntKind.i64.wrap (r + 1) = r + 1 := wrap_i64 (by omega) (by omega)
   have o3 := tr_one (o := o) (b := s.b) (d := s.d) (t := (s.t.toNat : Int)) (mb := mb) (l := l2) (r := r + 1) h.gr a2.grow.one
   have fs := Fr.set J2 (b := tb) (.cells 0 (trc g x y o s.b s.d (s.t.toNat : Int) mb l2 (r + 1)) false) (S := [tb]) (by simp)
   simp -implicitDefEqProofs only [go_sem, dnW_ite, go_sem_proc, hq, sx_len, iisNil, b1, inb b1, hwr, o3]
   refine g1 _ _ (fin _ (max k n) l2 (r + 1) false (by rw [fs.2 _ (lt_get hb2) (by simp; omega)]; exact hb2) ?_ hkn (by simp) ?_ hl3 hv2 fun J' hc => hK _ _ ⟨rfl, .inl ⟨h16, hE, hc⟩⟩)
   ·exact ⟨set_get _ (lt_get b1), by rw [fs.2 mb (lt_get a2.map) (by simp; exact Ne.symm h.ne)]; exact a2.map, a2.born, a2.grow.fr fs (fun z hz hm => by simp at hm; subst hm; exact a2.off.1 hz), a2.off, a2.gr⟩
   ·have f5 : Fr J2 (J2.setIfInBounds tb (.cells 0 (trc g x y o s.b s.d (s.t.toNat : Int) mb l2 (r + 1)) false)) (tb :: mb :: blk l) := ⟨fs.1, fun d hd hm => fs.2 d hd (fun h => hm (by simp at h; simp [h]))⟩
    exact f3.trans f5 (fun _ _ h => h)
 ·have c16 : ¬ ((n : Int) ≤ 16) := by omega
  simp -implicitDefEqProofs only [go_sem, dnW_ite, go_sem_proc, sx_one, iisNil, hb, inb hb, h1, inb h1, sx_98, sx_len, c1, ws, wu, c16]
  exact fin _ k l r false hb a1 hk16 (by simp) f0 (fun q hq => .inl hq) hvb fun J' hc => hK _ _ ⟨rfl, .inr ⟨by omega, hc⟩⟩
end
end Go.Proofs.Ytccbcbnglnloiaa.G
namespace Go.Proofs.Ytccbcbnglnloiaa.G
open Go
def Sx.put (s : Sx) (t : BitVec 32) (z : Cl) : Sx := ⟨s.b.put 0 z, s.d, t⟩
section
variable {g : Gm} (hr : g.right = true) (hw : ∀ c ∈ g.code, c.wf)
include hr hw
end
end Go.Proofs.Ytccbcbnglnloiaa.G
namespace Go.Proofs.Ytccbcbnglnloiaa.G
open Go
theorem eq32_ok {x y : IV} {l : List IV} (hx : Ls 1 x l) (hy : Ls 1 y l) (hi : ∀ v ∈ l, ∃ t : Int, v = .int .u32 t) (hl : l.length ≤ 1000000) : pc BI F_slices_Equal_Luint32_uint32 [x, y] = some (.bool true) := by
 refine pcE fn_slices_Equal_Luint32_uint32 rfl fun K hK => ?_
 unfold l_slices_Equal_Luint32_uint32
 simp -implicitDefEqProofs only [go_sem, dnW_ite, go_sem_proc, hx.lenF, hy.lenF, show ((l.length : Int) != (l.length : Int)) = false by simp, dn_loop]
 refine WP_range (by decide) l.length (fun i vs J' => vs = [x, y, nI l.length, nI i]) ?_ rfl
 rintro i vs J rfl h K1 g1 g2 g3
 unfold l_slices_Equal_Luint32_uint32_k0
 by_cases hlt : i < l.length
 ·have hax := hx.at hlt (J := J)
  have hay := hy.at hlt (J := J)
  obtain ⟨t, ht⟩ := hi l[i] (List.getElem_mem hlt)
  rw [ht] at hax hay
  simp -implicitDefEqProofs only [go_sem, dnW_ite, go_sem_proc, show ((i : Int) < (l.length : Int)) by omega, hax, hay, show (t != t) = false by simp, wrapS hlt (show l.length ≤ 9223372036854775807 by omega)]
  exact g1 hlt _ _ rfl
 ·simp -implicitDefEqProofs only [go_sem, dnW_ite, go_sem_proc, show ¬ ((i : Int) < (l.length : Int)) by omega]
  refine g2 _ _ ?_
  unfold l_slices_Equal_Luint32_uint32_k1
  simp -implicitDefEqProofs only [go_sem, dnW_ite, go_sem_proc]
  exact hK _ _ (frzP rfl)
def kT (M : List Km) : List Int := M.map fun x => (x.k.toNat : Int)
def aftT (k : Int) (l : List Int) : List Int := l.filter fun z => decide (k < z)
theorem fits4k {n : Nat} (h : n ≤ 1000000) : fits n 4 = true := by
 simp only [fits, maxLen, Bool.and_eq_true, decide_eq_true_eq]; omega
structure MvI (J : JH) (tb mb : Nat) (G : Gm) (x y : IV) (V : Sx) (S : Sx) (k : Nat) (i : Nat) (M : List Km) (w : IV) : Prop where
 tr : ∃ c l, TrAt J tb mb c G x y 0 V M [] l 0 ∧ ∀ q ∈ blk w, q ∉ blk l
 up : (kT M).Pairwise (· < ·)
 hi : ∀ z ∈ kT M, z ≤ (min i 16 : Nat)
 len : M.length ≤ min i 16
 want : Grow J w 1 (uL (aftT (k : Int) (kT M)))
 off : ∀ q ∈ blk w, q ≠ tb ∧ q ≠ mb ∧ q ≠ 1
 st : J[1]? = some (.cells 0 S.c false)
theorem mvI_skip {J tb mb G x y V S k i M w} (h : MvI J tb mb G x y V S k i M w) : MvI J tb mb G x y V S k (i + 1) M w :=
 ⟨h.tr, h.up, fun z hz => by have := h.hi z hz; omega, by have := h.len; omega, h.want, h.off, h.st⟩
theorem mv_round {tb mb : Nat} {G : Gm} {x y : IV} {V S : Sx} {k : Nat} (hV : V.t = 0#32) (htb : tb ≠ 1) (hmb : mb ≠ 1) {mv : IV} {ms : List (BitVec 8)} (hm : Ls 1 mv (ms.map fun q => .int .u8 (q.toNat : Int))) (hl : ms.length ≤ 9223372036854775807) {J : JH} {i : Nat} {M : List Km} {w : IV} (h : MvI J tb mb G x y V S k i M w) (hi : i < ms.length) (hk : k < 18) (K : Out IV → JH → Prop)
  (hK : ∀ J' M' w', MvI J' tb mb G x y V S k (i + 1) M' w' → K (.goto 1 [.ptr 1 0 0, .ptr tb 0 0, w', .int .u32 (k : Int), mv, nI ms.length, nI (i + 1)]) J') :
  WP (dn BI l_law16_TrailMoves_k0 [.ptr 1 0 0, .ptr tb 0 0, w, .int .u32 (k : Int), mv, nI ms.length, nI i] J) K := by
 unfold l_law16_TrailMoves_k0
 have hat := hm.at (i := i) (by rw [List.length_map]; exact hi) (J := J)
 rw [List.getElem_map] at hat
 have hw1 := wrapS hi hl
 by_cases h16 : i < 16
 ·have hwi : IntKind.i64.wrap ((i : Int) + 1) = ((i + 1 : Nat) : Int) := hw1
  obtain ⟨t, ht⟩ : ∃ t : BitVec 32, t.toNat = i + 1 := ⟨BitVec.ofNat 32 (i + 1), by simp; omega⟩
  have hc1 : IntKind.u32.wrap ((i + 1 : Nat) : Int) = (t.toNat : Int) := by rw [wrap_u32 (by omega) (by omega), ht]
  generalize ms[i] = q at *
  obtain ⟨c, l, hT, hwl⟩ := h.tr
  simp -implicitDefEqProofs only [go_sem, dnW_ite, go_sem_proc, show ((i : Int) < (ms.length : Int)) by omega, hat, show ((i : Int) < 16) by omega, hwi, hc1]
  refine WP_call (trAdd_ok hT t (q.setWidth 32) (by simp)) fun v J2 hv => ?_
  obtain ⟨rfl, hv⟩ := hv
  have hnone : M.find? (Km.is t) = none := by
   rw [List.find?_eq_none]
   intro z hz
   have := h.hi _ (List.mem_map.2 ⟨z, hz, rfl⟩)
   simp only [Km.is, decide_eq_true_eq]
   rintro rfl
   omega
  have hV0 : (0#32).toNat = 0 := rfl
  cases hleg : G.legal (q.setWidth 32) with
  | false =>
   have he : kErr G V M t (q.setWidth 32) = 1 := by rw [kErr, if_pos hleg]
   rw [he] at hv ⊢
   obtain rfl : J2 = J := by
    rcases hv with ⟨_, h⟩ | ⟨h0, _⟩
    ·exact h
    ·exact absurd h0 (by decide)
   simp -implicitDefEqProofs only [go_sem, dnW_ite, go_sem_proc, hwi]
   exact hK _ M w (mvI_skip h)
  | true =>
   have he : kErr G V M t (q.setWidth 32) = 0 := by
    rw [kErr, if_neg (by rw [hleg]; simp), if_neg (by rw [hV, hV0]; omega), if_neg (by rw [hV, hV0]; omega), hnone]; rfl
   rw [he] at hv ⊢
   rcases hv with ⟨h0, _⟩ | ⟨_, l2, a2, f2, hl2⟩
   ·exact absurd rfl h0
   rw [List.take_nil] at a2
   have hkT : kT (M ++ [⟨t, q.setWidth 32, c⟩]) = kT M ++ [((i + 1 : Nat) : Int)] := by simp [kT, ht]
   have hup : (kT (M ++ [⟨t, q.setWidth 32, c⟩])).Pairwise (· < ·) := by
    rw [hkT, List.pairwise_append]
    refine ⟨h.up, by simp, fun a ha z hz => ?_⟩
    have := h.hi a ha
    simp at hz; omega
   have hhi : ∀ z ∈ kT (M ++ [⟨t, q.setWidth 32, c⟩]), z ≤ (min (i + 1) 16 : Nat) := by
    rw [hkT]
    intro z hz
    rcases List.mem_append.1 hz with hz | hz
    ·have := h.hi z hz; omega
    ·simp at hz; omega
   have hlen : (M ++ [(⟨t, q.setWidth 32, c⟩ : Km)]).length ≤ min (i + 1) 16 := by have := h.len; simp; omega
   have hst2 : J2[1]? = some (.cells 0 S.c false) := by rw [f2.2 1 (lt_get h.st) (by simp; omega)]; exact h.st
   have hwant2 : Grow J2 w 1 (uL (aftT (k : Int) (kT M))) := h.want.fr f2 fun b hb hm => by
    have := h.off b hb
    simp at hm; omega
   have hwl2 : ∀ q ∈ blk w, q ∉ blk l2 := fun b hb hm => hwl b hb (hl2 b hm)
   by_cases hgt : k < i + 1
   ·have haft : aftT (k : Int) (kT (M ++ [⟨t, q.setWidth 32, c⟩])) = aftT (k : Int) (kT M) ++ [((i + 1 : Nat) : Int)] := by
     rw [hkT, aftT, List.filter_append]
     simp [aftT]; omega
    have hgt' : ((t.toNat : Int) > (k : Int)) := by omega
    simp -implicitDefEqProofs only [go_sem, dnW_ite, go_sem_proc, hwi, hc1, hgt']
    have hfl : (uL (aftT (k : Int) (kT M))).length ≤ 16 := by
     rw [uL_len]
     refine Nat.le_trans (List.length_filter_le _ _) ?_
     have := h.len
     simp only [kT, List.length_map]; omega
    refine WP_bind (hwant2.app (y := .lst 1 true [m32 t]) (m := 1) (ds := [m32 t]) (by omega) (by simp [iscells, icells]) rfl rfl rfl (fits4k (by omega))) fun w' J3 hs => ?_
    obtain ⟨q1, q2, q3⟩ := hs
    simp -implicitDefEqProofs only [go_sem, dnW_ite, go_sem_proc, hwi]
    have n1 := lt_get a2.cells
    have n2 := lt_get a2.map
    have n3 := a2.grow.low
    have n4 := lt_get hst2
    have hn : ∀ z ∈ blk w', z ≠ tb ∧ z ≠ mb ∧ z ≠ 1 ∧ z ∉ blk l2 := fun z hz => by
     rcases q3 z hz with h1 | h1
     ·exact ⟨(h.off z h1).1, (h.off z h1).2.1, (h.off z h1).2.2, hwl2 z h1⟩
     ·exact ⟨by omega, by omega, by omega, fun hm => by have := n3 z hm; omega⟩
    refine hK _ (M ++ [⟨t, q.setWidth 32, c⟩]) w' ⟨⟨c + 1, l2, a2.fr q2 (fun hm => (h.off _ hm).1 rfl) (fun hm => (h.off _ hm).2.1 rfl) (fun z hz hm => hwl2 z hm hz), fun z hz => (hn z hz).2.2.2⟩, hup, hhi, hlen, ?_, fun z hz => ⟨(hn z hz).1, (hn z hz).2.1, (hn z hz).2.2.1⟩, ?_⟩
    ·rw [haft]
     have e : uL (aftT (k : Int) (kT M) ++ [((i + 1 : Nat) : Int)]) = uL (aftT (k : Int) (kT M)) ++ [m32 t] := by simp [uL, uI, ht]
     rw [e]; exact q1
    ·rw [q2.2 1 n4 (fun hm => (h.off _ hm).2.2 rfl)]; exact hst2
   ·have haft : aftT (k : Int) (kT (M ++ [⟨t, q.setWidth 32, c⟩])) = aftT (k : Int) (kT M) := by
     rw [hkT, aftT, List.filter_append]
     have : ¬ ((k : Int) < ((i + 1 : Nat) : Int)) := by omega
     simp [aftT]; omega
    have hgt' : ¬ ((t.toNat : Int) > (k : Int)) := by omega
    simp -implicitDefEqProofs only [go_sem, dnW_ite, go_sem_proc, hwi, hc1, hgt']
    exact hK _ (M ++ [⟨t, q.setWidth 32, c⟩]) w ⟨⟨c + 1, l2, a2, hwl2⟩, hup, hhi, hlen, by rw [haft]; exact hwant2, h.off, hst2⟩
 ·simp -implicitDefEqProofs only [go_sem, dnW_ite, go_sem_proc, show ((i : Int) < (ms.length : Int)) by omega, hat, show ¬ ((i : Int) < 16) by omega, hw1]
  exact hK _ M w (mvI_skip h)
theorem kT_late {U : Sx} {k : Nat} (hU : U.t.toNat = k) (M : List Km) : kT (M.filter (late U)) = aftT (k : Int) (kT M) := by
 simp only [kT, aftT, List.filter_map]
 congr 1
 refine List.filter_congr fun x _ => ?_
 simp only [Function.comp, late, hU]
 exact decide_eq_decide.2 (by omega)
theorem sortI_up {l : List Int} (h : l.Pairwise (· < ·)) : sortI l = l := (sortI_eq (.refl l) (h.imp fun h => Int.le_of_lt h)).symm
theorem mv_end {tb mb : Nat} {G : Gm} {x y : IV} {V S : Sx} {k : Nat} (hr : G.right = true) (hw : ∀ c ∈ G.code, c.wf) (hVb : V.b.ok) (hV : V.t = 0#32) (hk : k < 18) (hview : pc BI F_rules_State_View [.agg S.c, .int .i64 0] = some (.agg V.c)) {J : JH} {i : Nat} {M : List Km} {w : IV} (h : MvI J tb mb G x y V S k i M w) (K : Out IV → JH → Prop)
  (hK : ∀ vs J', frz J' DEP (itup vs) = some (.bool true) → K (.ret vs) J') :
  WP (dn BI l_law16_TrailMoves_k1 [.ptr 1 0 0, .ptr tb 0 0, w, .int .u32 (k : Int)] J) K := by
 unfold l_law16_TrailMoves_k1
 have h1 := h.st
 obtain ⟨c, l, hT, hwl⟩ := h.tr
 obtain ⟨U, hU, hUt⟩ : ∃ U : Sx, U = ⟨V.b, V.d, BitVec.ofNat 32 k⟩ ∧ U.t.toNat = k := ⟨_, rfl, by simp; omega⟩
 have hs98 : isplice V.c 98 [.int .u32 (k : Int)] = U.c := by
  rw [← hUt, hU]; exact sta_s98 _ _ _ _
 have hlen := h.len
 have hup := h.up
 have hwant := h.want
 have hoff := h.off
 have hU98 := sx_98 U
 simp -implicitDefEqProofs only [go_sem, dnW_ite, go_sem_proc, h1, inb h1, sx_len, sx_take, sx_take0, dcp hview (by simp [ipureL, ipure, sx_pure]), sx_z, sx_all, sx_one, hs98]
 obtain ⟨JV, hJV⟩ : ∃ JV : JH, JV = J.push (.cells 0 U.c false) := ⟨_, rfl⟩
 have fp : Fr J JV [] := by rw [hJV]; exact Fr.push _ _ _
 have hT2 := hT.fr fp (by simp) (by simp) (by simp)
 have hw2 := hwant.fr fp (by simp)
 have n1 := lt_get hT.cells
 have n2 := lt_get hT.map
 have n3 := hT.grow.low
 have n4 := hwant.low
 rw [← hJV]
 by_cases hk0 : k = 0
 ·subst hk0
  refine WP_call (trConfirm_old hT2 (U := U) (by omega)) fun v J2 hv => ?_
  obtain ⟨rfl, rfl⟩ := hv
  simp -implicitDefEqProofs only [go_sem, dnW_ite, go_sem_proc]
  exact hK _ _ (frzP rfl)
 ·have hnd : (M.map Km.k).Nodup := by
   have : (kT M).Pairwise (· ≠ ·) := hup.imp fun h => by omega
   rw [kT, List.pairwise_map] at this
   rw [List.Nodup, List.pairwise_map]
   exact this.imp fun h e => h (by rw [e])
  have hT3 : TrAt JV tb mb c G x y 0 V M (foldA G 0 V M 0) l 0 := hT2
  have hV0 : (0#32).toNat = 0 := rfl
  refine WP_call (trConfirm_ok hr hw hVb hT3 (by omega) hnd (by omega) (by rw [hV, hV0]; omega) (by omega) (by omega) (U := U) (by rw [hV, hV0]; omega)) fun v J2 hv => ?_
  obtain ⟨rfl, hv⟩ := hv
  obtain ⟨r', A', l', a3, f3, hl3⟩ : ∃ r' A' l', TrAt J2 tb mb c G x y 0 U (M.filter (late U)) A' l' r' ∧ Fr JV J2 (tb :: mb :: blk l) ∧ ∀ q ∈ blk l', q ∈ blk l ∨ JV.size ≤ q := by
   rcases hv with ⟨_, _, k', l', _, h1, h2, h3⟩ | ⟨_, k', l', _, h1, h2, h3⟩ <;> exact ⟨_, _, _, h1, h2, h3⟩
  have hw3 : Grow J2 w 1 (uL (aftT (k : Int) (kT M))) := hw2.fr f3 fun b hb hm => by
   rcases List.mem_cons.1 hm with e | hm
   ·exact (hoff b hb).1 e
   ·rcases List.mem_cons.1 hm with e | hm
    ·exact (hoff b hb).2.1 e
    ·exact hwl b hb hm
  have hwl3 : ∀ q ∈ blk w, q ∉ blk l' := fun b hb hm => by
   rcases hl3 b hm with h1 | h1
   ·exact hwl b hb h1
   ·have := n4 b hb; have := fp.1; omega
  have hke : ((k : Int) == 0) = false := by simp; omega
  simp -implicitDefEqProofs only [go_sem, dnW_ite, go_sem_proc, hke]
  have hML : (M.filter (late U)).length ≤ 16 := Nat.le_trans (List.length_filter_le _ _) (by omega)
  refine WP_call (trPending_ok a3 hML) fun v J4 hv => ?_
  obtain ⟨hv, f4⟩ := hv
  have hkT : (M.filter (late U)).map (fun x => (x.k.toNat : Int)) = aftT (k : Int) (kT M) := kT_late hUt M
  have hau : (aftT (k : Int) (kT M)).Pairwise (· < ·) := hup.sublist List.filter_sublist
  rw [hkT, sortI_up hau] at hv
  have a4 := a3.fr f4 (by simp) (by simp) (by simp)
  have hw4 := hw3.fr f4 (by simp)
  have hal : (aftT (k : Int) (kT M)).length ≤ 16 := by rw [← hkT, List.length_map]; exact hML
  have hmz : ∀ z ∈ uL (aftT (k : Int) (kT M)), ∃ t : Int, z = .int .u32 t := fun z hz => by
   obtain ⟨t, _, rfl⟩ := List.mem_map.1 hz; exact ⟨t, rfl⟩
  have hup' : ipureL (uL (aftT (k : Int) (kT M))) = true := by
   generalize aftT (k : Int) (kT M) = X
   induction X with
   | nil => rfl
   | cons a X ih => simp [uL, ipureL, ipure, uI] at ih ⊢; exact ih
  obtain ⟨u, hu, hul⟩ := hw4.frzE1 hup' (uL_one _)
  have hln : (M.filter (late U)).length = (aftT (k : Int) (kT M)).length := by rw [← hkT, List.length_map]
  have hwlen := fun J' => hw4.lenF (J' := J') (n := (aftT (k : Int) (kT M)).length) (by rw [uL_len]; omega) (by decide)
  simp -implicitDefEqProofs only [go_sem, dnW_ite, go_sem_proc]
  refine WP_callG (S := blk w) (.pure hv.pure (.raw (hu 11) (hw4.shows hup') .nil)) (eq32_ok hv hul hmz (by rw [uL_len]; omega)) fun J5 f5 z5 => ?_
  have a5 := a4.fr f5 (fun hm => (hoff _ hm).1 rfl) (fun hm => (hoff _ hm).2.1 rfl) (fun q hq hm => hwl3 q hm hq)
  simp -implicitDefEqProofs only [go_sem, dnW_ite, go_sem_proc]
  refine WP_call (trRoom_ok a5 hML) fun v J6 hv => ?_
  obtain ⟨rfl, hj⟩ := hv
  subst hj
  have hw16 : IntKind.i64.wrap (16 - ((aftT (k : Int) (kT M)).length : Int)) = ((16 - (aftT (k : Int) (kT M)).length : Nat) : Int) := by rw [wrap_i64 (by omega) (by omega)]; omega
  rw [hln]
  simp -implicitDefEqProofs only [go_sem, dnW_ite, go_sem_proc, hwlen, hw16, show (((16 - (aftT (k : Int) (kT M)).length : Nat) : Int) == ((16 - (aftT (k : Int) (kT M)).length : Nat) : Int)) = true by simp]
  refine WP_call (trKnown_ok a5) fun v J7 hv => ?_
  obtain ⟨rfl, f7⟩ := hv
  have hf98 := sx_f98 U
  have hm : m32 U.t = .int .u32 (k : Int) := by simp [hUt]
  rw [hm] at hf98
  simp -implicitDefEqProofs only [go_sem, dnW_ite, go_sem_proc, hf98, sx_len, show ((k : Int) == (k : Int)) = true by simp]
  exact hK _ _ (frzP rfl)
theorem Moves_ok (g : Gm) (x y : IV) (h : GR g x y) (hw : ∀ c ∈ g.code, c.wf) (hi : ∀ c ∈ g.cells, I32 c.v) (hc : g.cells.length ≤ 9223372036854775807) (hd : g.code.length ≤ 9223372036854775807) (sd : Int) (mv : IV) (ms : List (BitVec 8)) (hm : Ls 1 mv (ms.map fun q => .int .u8 (q.toNat : Int))) (hl : ms.length ≤ 9223372036854775807) (by' : BitVec 8) :
  pc BI F_law16_TrailMoves [.agg (gmc g x y), .int .u64 sd, mv, .int .u8 (by'.toNat : Int)] = some (.bool true) := by
 refine pcE fn_law16_TrailMoves rfl fun K hK => ?_
 unfold l_law16_TrailMoves
 obtain ⟨u, hu, x2, y2, rfl, h2⟩ := gfew_ok g x y h hc hd
 have hw2 : ∀ c ∈ g.few.code, c.wf := fun c hc => hw c (List.mem_of_mem_take hc)
 have hc2 : g.few.cells.length ≤ 100000 := by simp [Gm.few]; omega
 have hd2 : g.few.code.length ≤ 100000 := by simp [Gm.few]; omega
 have hi2 : ∀ c ∈ g.few.cells, I32 c.v := fun c hc => hi c (List.mem_of_mem_take hc)
 generalize g.few = G at *
 have hg := gRight_ok G x2 y2 h2 hw2 (by omega)
 by_cases hr : G.right = true
 ·rw [hr] at hg
  obtain ⟨S, V, hS, hV, hVt, hVb⟩ : ∃ S V : Sx, pc BI F_rules_Game_Start [.agg (gmc G x2 y2), .int .u64 sd, nilS] = some (.tup [.agg S.c, nI 0]) ∧ pc BI F_rules_State_View [.agg S.c, .int .i64 0] = some (.agg V.c) ∧ V.t = 0#32 ∧ V.b.ok :=
   ⟨⟨G.bd0 (right_48 hr).1 [], sd, 0#32⟩, ⟨(G.bd0 (right_48 hr).1 []).view 0, 0, 0#32⟩, Start_ok G x2 y2 h2 hr hw2 nilS [] .nil (by simp) sd, SView_ok _ sd 0 0, rfl, k_view_ok (bd0_ok G (right_48 hr).1 [] hi2 (by simp)) 0⟩
  simp -implicitDefEqProofs only [go_sem, dnW_ite, go_sem_proc, h.one, h2.one, dcp awake16 rfl, dcp hu (by simp [ipureL, ipure, h.pure]), set_get, dcp hg (by simp [ipureL, ipure, h2.pure]), dcp hS (by simp [ipureL, ipure, h2.pure, nilS]), sta_len, sta_take, sta_one, sx_z, sx_len, sx_all, sx_one]
  refine WP_call (trNew_ok G x2 y2 h2 hc2 hd2 0 _) fun v J1 hv => ?_
  obtain ⟨tb, mb, x4, y4, rfl, hb, hmb, f1, a1⟩ := hv
  simp only [List.size_toArray, List.length_cons, List.length_nil] at hb hmb
  have h11 : J1[1]? = some (.cells 0 S.c false) := by rw [f1.2 1 (by simp) (by simp)]; rfl
  simp -implicitDefEqProofs only [go_sem, dnW_ite, go_sem_proc, h11, inb h11, sx_len, sx_take, sx_take0, dcp hV (by simp [ipureL, ipure, sx_pure])]
  refine WP_call (trReset_ok a1 V.b V.d V.t) fun v J2 hv => ?_
  obtain ⟨a2, f2⟩ := hv
  rw [show (⟨V.b, V.d, V.t⟩ : Sx) = V from rfl] at a2
  have h12 : J2[1]? = some (.cells 0 S.c false) := by rw [f2.2 1 (lt_get h11) (by simp; omega)]; exact h11
  obtain ⟨k, hk⟩ : ∃ k, k = by'.toNat % 18 := ⟨_, rfl⟩
  have hk18 : k < 18 := by omega
  have hq1 : ((by'.toNat : Nat) : Int).tmod 18 = (k : Int) := by rw [hk]; rfl
  have hq2 : IntKind.u32.wrap (k : Int) = (k : Int) := wrap_u32 (by omega) (by omega)
  have hml := hm.lenF (J := J2)
  rw [List.length_map] at hml
  simp -implicitDefEqProofs only [go_sem, dnW_ite, go_sem_proc, hq1, hq2, hml, dn_loop]
  refine WP_range (by decide) ms.length (fun i vs J => ∃ M w, vs = [.ptr 1 0 0, .ptr tb 0 0, w, .int .u32 (k : Int), mv, nI ms.length, nI i] ∧ MvI J tb mb G x4 y4 V S k i M w) ?_ ⟨[], nilS, rfl, ⟨⟨0, nilS, a2, by simp [blk, blkOf]⟩, .nil, by simp [kT], by simp, .nil, by simp [blk, blkOf], h12⟩⟩
  rintro i vs J ⟨M, w, rfl, hI⟩ hin K1 g1 g2 g3
  by_cases hlt : i < ms.length
  ·exact mv_round hVt (by omega) (by omega) hm hl hI hlt hk18 K1 fun J' M' w' h' => g1 hlt _ _ ⟨M', w', rfl, h'⟩
  ·unfold l_law16_TrailMoves_k0
   simp -implicitDefEqProofs only [go_sem, dnW_ite, go_sem_proc, show ¬ ((i : Int) < (ms.length : Int)) by omega]
   refine g2 _ _ ?_
   exact mv_end hr hw2 hVb hVt hk18 hV hI K hK
 ·have hr' : G.right = false := by simpa using hr
  rw [hr'] at hg
  simp -implicitDefEqProofs only [go_sem, dnW_ite, go_sem_proc, h.one, h2.one, dcp awake16 rfl, dcp hu (by simp [ipureL, ipure, h.pure]), set_get, dcp hg (by simp [ipureL, ipure, h2.pure])]
  exact hK _ _ (frzP rfl)
end Go.Proofs.Ytccbcbnglnloiaa.G
namespace Go.Proofs.Ytccbcbnglnloiaa.G
open Go Go.RowKit
section
variable {P : Program} {ι : Inj} {H : Heap} {w : World}
theorem Stp.row {w1 : World} (h : Rel ι H w) (hB : Below w.heap.size w w1) {g : Nat} {C : Array Value} {t : TypeId} (hg : w1.heap[g]? = some (.cells C t (0, 0))) (hge : w.heap.size ≤ g) (cs : List Value) (hl : cs.length ≤ C.size)
  (hc : ∀ (i : Nat) v, cs[i]? = some v → one v = true ∧ ∃ c, C[i]? = some c ∧ VR ι v c) :
  Stp ι H w (ext ι H.size ⟨g, 0, C.size⟩) (H.push (.cells cs false)) w1 := by
 have hle := ext_le h ⟨g, 0, C.size⟩
 have hglt : g < w1.heap.size := (Array.getElem?_eq_some_iff.1 hg).1
 have hcase : ∀ b m, ext ι H.size ⟨g, 0, C.size⟩ b = some m → (b = H.size ∧ m = ⟨g, 0, C.size⟩) ∨ (b ≠ H.size ∧ ι b = some m ∧ b < H.size ∧ m.blk < w.heap.size) := by
  intro b m hb
  simp only [ext] at hb
  split at hb
  ·rename_i e; exact .inl ⟨e, by simpa using hb.symm⟩
  ·rename_i e; exact .inr ⟨e, hb, h.dom b m hb, h.bound b m hb⟩
 have hpo : ∀ b, b < H.size → (H.push (.cells cs false))[b]? = H[b]? := fun b hb => by rw [Array.getElem?_push, if_neg (by omega)]
 have hpn : (H.push (.cells cs false))[H.size]? = some (.cells cs false) := by simp
 refine ⟨⟨?_, ?_, ?_, ?_, ?_, ?_⟩, hle, ?_, by simp, hB.size, ?_, ?_, ?_, hB.os, hB.tape, hB.output⟩
 ·intro b m hb
  rcases hcase b m hb with ⟨rfl, rfl⟩ | ⟨_, _, hlt, _⟩ <;> simp; omega
 ·intro b m hb
  have := hB.size
  rcases hcase b m hb with ⟨rfl, rfl⟩ | ⟨_, _, _, hlt⟩
  ·exact hglt
  ·omega
 ·intro b m ds ro hb hH
  rcases hcase b m hb with ⟨rfl, rfl⟩ | ⟨_, hb', hlt, hblt⟩
  ·rw [hpn] at hH
   simp only [Option.some.injEq, Blk.cells.injEq] at hH
   obtain ⟨rfl, rfl⟩ := hH
   intro i v hv
   obtain ⟨h5, c, h6, h7⟩ := hc i v hv
   exact ⟨h5, c, by rw [Nat.zero_add, cell_of_row _ _ _ _ _ _ hg]; exact h6, h7.mono hle⟩
  ·rw [hpo b hlt] at hH
   have h2 := h.cells b m ds ro hb' hH
   intro i v hv
   obtain ⟨h3, c, h4, h5⟩ := h2 i v hv
   exact ⟨h3, c, by rw [cell_other (hB.block _ hblt)]; exact h4, h5.mono hle⟩
 ·intro b m ds hb hH
  rcases hcase b m hb with ⟨rfl, rfl⟩ | ⟨_, hb', hlt, hblt⟩
  ·rw [hpn] at hH
   simp only [Option.some.injEq, Blk.cells.injEq] at hH
   obtain ⟨rfl, _⟩ := hH
   exact ⟨C, t, (0, 0), hg, rfl, by simpa using hl, .inl rfl⟩
  ·rw [hpo b hlt] at hH
   obtain ⟨C, t, fr, h1, h2⟩ := h.rw b m ds hb' hH
   exact ⟨C, t, fr, by rw [hB.block _ hblt]; exact h1, h2⟩
 ·intro b m es k hb hH
  rcases hcase b m hb with ⟨rfl, rfl⟩ | ⟨_, hb', hlt, hblt⟩
  ·rw [hpn] at hH; simp at hH
  ·rw [hpo b hlt] at hH
   obtain ⟨es', h1, h2⟩ := h.maps b m es k hb' hH
   exact ⟨es', by rw [hB.block _ hblt]; exact h1, h2.mono hle⟩
 ·intro b c l m hb hc' hbc hne ho
  rcases hcase b l hb with ⟨rfl, rfl⟩ | ⟨_, hb', hlt, hblt⟩
  ·rcases hcase c m hc' with ⟨rfl, rfl⟩ | ⟨_, hc2, hclt, hcblt⟩
   ·exact absurd rfl hne
   ·simp only at hbc; omega
  ·rcases hcase c m hc' with ⟨rfl, rfl⟩ | ⟨_, hc2, hclt, hcblt⟩
   ·simp only at hbc; omega
   ·rw [hpo c hclt]
    refine h.inj b c l m hb' hc2 hbc hne ?_
    unfold own at ho ⊢
    rwa [hpo b hlt] at ho
 ·intro b hb
  simp only [ext]; rw [if_neg (by omega)]
 ·intro b hb _
  exact hpo b hb
 ·intro k hk _
  exact hB.block k hk
 ·intro b l hb ho
  rcases hcase b l hb with ⟨rfl, rfl⟩ | ⟨_, hb', hlt, hblt⟩
  ·exact .inl hge
  ·refine .inr ⟨b, l, hb', ?_, rfl⟩
   unfold own at ho ⊢
   rwa [hpo b hlt] at ho
theorem Stp.below {w1 : World} (h : Rel ι H w) (hB : Below w.heap.size w w1) : Stp ι H w ι H w1 := by
 refine ⟨⟨h.dom, fun b l hb => Nat.lt_of_lt_of_le (h.bound b l hb) hB.size, ?_, ?_, ?_, h.inj⟩, .refl _, fun _ _ => rfl, Nat.le_refl _, hB.size, fun _ _ _ => rfl, fun k hk _ => hB.block k hk, fun b l hb ho => .inr ⟨b, l, hb, ho, rfl⟩, hB.os, hB.tape, hB.output⟩
 ·intro b l cs ro hb hH i v hv
  obtain ⟨h3, c, h4, h5⟩ := h.cells b l cs ro hb hH i v hv
  exact ⟨h3, c, by rw [cell_other (hB.block _ (h.bound b l hb))]; exact h4, h5⟩
 ·intro b l cs hb hH
  obtain ⟨C, t, fr, h1, h2⟩ := h.rw b l cs hb hH
  exact ⟨C, t, fr, by rw [hB.block _ (h.bound b l hb)]; exact h1, h2⟩
 ·intro b l es k hb hH
  obtain ⟨es', h1, h2⟩ := h.maps b l es k hb hH
  exact ⟨es', by rw [hB.block _ (h.bound b l hb)]; exact h1, h2⟩
theorem Stp.forget0 {ι' : Inj} {H' : Heap} {w' : World} (h : Rel ι H w) (hst : Stp ι H w ι' H' w') (hsame : ∀ b, b < H.size → H'[b]? = H[b]?) : Stp ι H w ι H w' := by
 refine ⟨⟨h.dom, ?_, ?_, ?_, ?_, h.inj⟩, .refl _, fun _ _ => rfl, Nat.le_refl _, hst.wsize, fun _ _ _ => rfl, hst.keep, fun b l hb ho => .inr ⟨b, l, hb, ho, rfl⟩, hst.os, hst.tape, hst.output⟩
 ·intro b l hb; exact Nat.lt_of_lt_of_le (h.bound b l hb) hst.wsize
 ·intro b l cs ro hb hc
  intro i u hu
  obtain ⟨h1, cu, h2, h3⟩ := hst.rel.cells b l cs ro (hst.le b l hb) (by rw [hsame b (h.dom b l hb)]; exact hc) i u hu
  obtain ⟨_, c0, _, h4⟩ := h.cells b l cs ro hb hc i u hu
  exact ⟨h1, cu, h2, VR_back hst.le u c0 cu h4 h3⟩
 ·intro b l cs hb hc
  exact hst.rel.rw b l cs (hst.le b l hb) (by rw [hsame b (h.dom b l hb)]; exact hc)
 ·intro b l es k hb hc
  obtain ⟨es', h1, h2⟩ := hst.rel.maps b l es k (hst.le b l hb) (by rw [hsame b (h.dom b l hb)]; exact hc)
  obtain ⟨es0, _, h4⟩ := h.maps b l es k hb hc
  exact ⟨es', h1, ER_back hst.le es _ _ h4 h2⟩
theorem Stp.forget {ι' : Inj} {H' : Heap} {w' : World} (h : Rel ι H w) (hst : Stp ι H w ι' H' w') {j : Nat} {xs ys : List Value} (hj : H[j]? = some (.cells xs false)) (hj' : H'[j]? = some (.cells ys false)) (hys : noRefL ys = true)
  (hsame : ∀ b, b < H.size → b ≠ j → H'[b]? = H[b]?) : Stp ι H w ι (H.setIfInBounds j (.cells ys false)) w' := by
 have hjl : j < H.size := (Array.getElem?_eq_some_iff.1 hj).1
 have hset : ∀ b, b < H.size → (H.setIfInBounds j (.cells ys false))[b]? = H'[b]? := fun b hb => by
  by_cases e : b = j
  ·subst e; rw [hj', Array.getElem?_setIfInBounds, if_pos rfl, if_pos hb]
  ·rw [hsame b hb e, Array.getElem?_setIfInBounds, if_neg (Ne.symm e)]
 have hown : ∀ b, own (H.setIfInBounds j (.cells ys false)) b → own H b := fun b ho => own_set hj ho
 refine ⟨⟨fun b l hb => by simpa using h.dom b l hb, ?_, ?_, ?_, ?_, ?_⟩, .refl _, fun _ _ => rfl, by simp, hst.wsize, ?_, hst.keep, fun b l hb ho => .inr ⟨b, l, hb, hown b ho, rfl⟩, hst.os, hst.tape, hst.output⟩
 ·intro b l hb; exact Nat.lt_of_lt_of_le (h.bound b l hb) hst.wsize
 ·intro b l cs ro hb hc i u hu
  have hblt := h.dom b l hb
  rw [hset b hblt] at hc
  obtain ⟨h1, cu, h2, h3⟩ := hst.rel.cells b l cs ro (hst.le b l hb) hc i u hu
  by_cases e : b = j
  ·subst e
   rw [hj'] at hc
   simp only [Option.some.injEq, Blk.cells.injEq] at hc
   obtain ⟨rfl, rfl⟩ := hc
   have hn : noRef u = true := by
    have : ∀ (l : List Value), noRefL l = true → ∀ (i : Nat) v, l[i]? = some v → noRef v = true := by
     intro l
     induction l with
     | nil => intro _ i v hv; simp at hv
     | cons a l ih =>
      intro hl i v hv
      simp only [noRefL, Bool.and_eq_true] at hl
      cases i with
      | zero => simp at hv; subst hv; exact hl.1
      | succ i => exact ih hl.2 i v (by simpa using hv)
    exact this _ hys i u hu
   exact ⟨h1, cu, h2, VR_noRef u cu hn h3⟩
  ·rw [hsame b hblt e] at hc
   obtain ⟨_, c0, _, h4⟩ := h.cells b l cs ro hb hc i u hu
   exact ⟨h1, cu, h2, VR_back hst.le u c0 cu h4 h3⟩
 ·intro b l cs hb hc
  rw [hset b (h.dom b l hb)] at hc
  exact hst.rel.rw b l cs (hst.le b l hb) hc
 ·intro b l es k hb hc
  have hblt := h.dom b l hb
  rw [hset b hblt] at hc
  obtain ⟨es', h1, h2⟩ := hst.rel.maps b l es k (hst.le b l hb) hc
  have e : b ≠ j := fun e => by subst e; rw [hj'] at hc; simp at hc
  rw [hsame b hblt e] at hc
  obtain ⟨es0, _, h4⟩ := h.maps b l es k hb hc
  exact ⟨es', h1, ER_back hst.le es _ _ h4 h2⟩
 ·intro b c l m hb hc hbc hne ho
  have hd := h.inj b c l m hb hc hbc hne (hown b ho)
  by_cases e : c = j
  ·subst e; rw [hj] at hd; simp at hd
  ·rw [Array.getElem?_setIfInBounds, if_neg (Ne.symm e)]; exact hd
 ·intro b hb hn
  by_cases e : b = j
  ·subst e
   have h2 := hst.unm b hb hn
   rw [hset b hb, h2]
  ·rw [Array.getElem?_setIfInBounds, if_neg (Ne.symm e)]
end
end Go.Proofs.Ytccbcbnglnloiaa.G
namespace Go.Proofs.Ytccbcbnglnloiaa.G
open Go
def opIn (R : FuncId → Bool) : SOp → Bool
 | .call f _ => R f
 | .callv _ _ => false
 | _ => true
def codeIn (R : FuncId → Bool) : SC → Bool
 | .reg l => l.all fun i => opIn R i.op
 | .drw l => l.all fun i => opIn R i.op
 | .seq a b => codeIn R a && codeIn R b
 | .cond _ a b => codeIn R a && codeIn R b
 | .blk _ b => codeIn R b
 | .loop b => codeIn R b
 | _ => true
section
variable {R : FuncId → Bool} {P : Program} {c1 c2 : FuncId → List Value → M Value} (h : ∀ f, R f = true → c1 f = c2 f)
include h
theorem exec_in (e : Env) (o : SOp) (ho : opIn R o = true) : exec ⟨P, c1⟩ e o = exec ⟨P, c2⟩ e o := by
 cases o <;> first | rfl | (simp only [opIn] at ho; simp only [exec, h _ ho]) | (simp [opIn] at ho)
theorem stepI_in (e : Env) (i : SI) (ho : opIn R i.op = true) : stepI ⟨P, c1⟩ e i = stepI ⟨P, c2⟩ e i := by
 funext H; simp only [stepI, exec_in h e i.op ho]
theorem runL_in : ∀ (l : List SI) (e : Env), (l.all fun i => opIn R i.op) = true → runL ⟨P, c1⟩ l e = runL ⟨P, c2⟩ l e
 | [], e, _ => rfl
 | i :: r, e, hl => by
  simp only [List.all_cons, Bool.and_eq_true] at hl
  funext H
  simp only [runL, stepI_in h e i hl.1]
  cases stepI ⟨P, c2⟩ e i H with
  | none => rfl
  | some p => simp only [runL_in r p.1 hl.2]
theorem runD_in : ∀ (l : List SI) (ls : List Look) (e : Env), (l.all fun i => opIn R i.op) = true → runD ⟨P, c1⟩ l ls e = runD ⟨P, c2⟩ l ls e
 | [], ls, e, _ => rfl
 | i :: r, ls, e, hl => by
  simp only [List.all_cons, Bool.and_eq_true] at hl
  funext H
  simp only [runD, stepI_in h e i hl.1]
  cases stepI ⟨P, c2⟩ e i H with
  | none => rfl
  | some p => simp only [runD_in r _ p.1 hl.2]
theorem codeRun_in (n : Nat) : ∀ (c : SC) (e : Env), codeIn R c = true → run ⟨P, c1⟩ n c e = run ⟨P, c2⟩ n c e
 | .skip, e, _ | .exit _, e, _ | .ret, e, _ => rfl
 | .reg l, e, hc => by funext H; simp only [run, runL_in h l e hc]
 | .drw l, e, hc => by funext H; simp only [run, runD_in h l [] e hc]
 | .seq a b, e, hc => by
  simp only [codeIn, Bool.and_eq_true] at hc
  funext H
  simp only [run, codeRun_in n a e hc.1]
  have hb : run ⟨P, c1⟩ n b = run ⟨P, c2⟩ n b := funext fun e => codeRun_in n b e hc.2
  rw [hb]
 | .cond c a b, e, hc => by
  simp only [codeIn, Bool.and_eq_true] at hc
  funext H
  simp only [run, codeRun_in n a e hc.1, codeRun_in n b e hc.2]
 | .blk id b, e, hc => by funext H; simp only [run, codeRun_in n b e hc]
 | .loop b, e, hc => by
  have hb : run ⟨P, c1⟩ n b = run ⟨P, c2⟩ n b := funext fun e => codeRun_in n b e hc
  simp only [run, hb]
theorem runFn_in (n : Nat) (s : SFn) (args : List Value) (hs : codeIn R s.body = true) : runFn ⟨P, c1⟩ n s args = runFn ⟨P, c2⟩ n s args := by
 funext H; simp only [runFn, codeRun_in h n s.body _ hs]
end
theorem acall_in {R : FuncId → Bool} {B1 B2 : Book} (hP : B1.P = B2.P) (h : ∀ f, R f = true → B1.given f = none ∧ B2.given f = none ∧ B1.fn f = B2.fn f ∧ B1.mode f = B2.mode f ∧ ∀ s, B2.fn f = some s → codeIn R s.body = true) :
  ∀ n f, R f = true → acall B1 n f = acall B2 n f
 | 0, f, _ => rfl
 | n + 1, f, hf => by
  obtain ⟨h1, h2, h3, h4, h5⟩ := h f hf
  have ih : ∀ f, R f = true → acall B1 n f = acall B2 n f := fun f hf => acall_in hP h n f hf
  funext args H
  simp only [acall, h1, h2, h3, h4, hP]
  cases hs : B2.fn f with
  | none => rfl
  | some s => simp only [runFn_in ih n s args (h5 s hs)]
end Go.Proofs.Ytccbcbnglnloiaa.G
namespace Go.Proofs.Ytccbcbnglnloiaa.G
open Go
structure Same (X Y : List Int) (a n : Nat) : Prop where
 perm : Y.Perm X
 out : ∀ k, k < a ∨ n ≤ k → Y[k]? = X[k]?
theorem Same.len {X Y : List Int} {a n : Nat} (h : Same X Y a n) : Y.length = X.length := h.perm.length_eq
theorem Same.refl (X : List Int) (a n : Nat) : Same X X a n := ⟨.refl _, fun _ _ => rfl⟩
theorem Same.trans {X Y Z : List Int} {a n : Nat} (h : Same X Y a n) (h2 : Same Y Z a n) : Same X Z a n := ⟨h2.perm.trans h.perm, fun k hk => (h2.out k hk).trans (h.out k hk)⟩
theorem Same.mono {X Y : List Int} {a n a' n' : Nat} (h : Same X Y a n) (h1 : a' ≤ a) (h2 : n ≤ n') : Same X Y a' n' := ⟨h.perm, fun k hk => h.out k (by omega)⟩
theorem Same.swap {X : List Int} {a n i j : Nat} (hn : n ≤ X.length) (hi : a ≤ i ∧ i < n) (hj : a ≤ j ∧ j < n) : Same X ((X.set i (X[j]'(by omega))).set j (X[i]'(by omega))) a n := by
 refine ⟨List.set_set_perm (by omega) (by omega), fun k hk => ?_⟩
 rw [List.getElem?_set_ne (by omega), List.getElem?_set_ne (by omega)]
theorem Same.all {X Y : List Int} {a n : Nat} (h : Same X Y a n) (p : Int → Prop) (hX : ∀ k v, a ≤ k → k < n → X[k]? = some v → p v) : ∀ k v, a ≤ k → k < n → Y[k]? = some v → p v := by
 have cut : ∀ Z : List Int, Z = Z.take a ++ ((Z.drop a).take (n - a) ++ (Z.drop a).drop (n - a)) := fun Z => by rw [List.take_append_drop, List.take_append_drop]
 have h1 : Y.take a = X.take a := by
  apply List.ext_getElem?
  intro k
  rw [List.getElem?_take, List.getElem?_take]
  split
  ·exact h.out k (by omega)
  ·rfl
 have h2 : (Y.drop a).drop (n - a) = (X.drop a).drop (n - a) := by
  apply List.ext_getElem?
  intro k
  rw [List.getElem?_drop, List.getElem?_drop, List.getElem?_drop, List.getElem?_drop]
  by_cases hh : n ≤ a + (n - a + k)
  ·exact h.out _ (.inr hh)
  ·omega
 have hp := h.perm
 rw [cut Y, cut X, h1, h2, List.perm_append_left_iff, List.perm_append_right_iff] at hp
 intro k v hk hkn hv
 have hm : v ∈ (Y.drop a).take (n - a) := by
  refine List.mem_of_getElem? (i := k - a) ?_
  rw [List.getElem?_take, if_pos (by omega), List.getElem?_drop, show a + (k - a) = k by omega]
  exact hv
 obtain ⟨i, hi⟩ := List.getElem?_of_mem (hp.mem_iff.1 hm)
 rw [List.getElem?_take] at hi
 split at hi
 ·rw [List.getElem?_drop] at hi
  exact hX (a + i) v (by omega) (by omega) hi
 ·cases hi
def Rises (X : List Int) (a n : Nat) : Prop := ∀ i j u v, a ≤ i → i < j → j < n → X[i]? = some u → X[j]? = some v → u ≤ v
theorem Rises.pair {X : List Int} (h : Rises X 0 X.length) : X.Pairwise (· ≤ ·) := by
 rw [List.pairwise_iff_getElem]
 intro i j hi hj hij
 exact h i j _ _ (Nat.zero_le _) hij hj (List.getElem?_eq_getElem hi) (List.getElem?_eq_getElem hj)
theorem Rises.join {X : List Int} {a m n : Nat} {p : Int} (h1 : Rises X a m) (h2 : Rises X (m + 1) n) (hp : X[m]? = some p) (hl : ∀ k v, a ≤ k → k < m → X[k]? = some v → v ≤ p) (hr : ∀ k v, m < k → k < n → X[k]? = some v → p ≤ v) : Rises X a n := by
 intro i j u v hi hij hj hu hv
 by_cases c1 : j < m
 ·exact h1 i j u v hi hij c1 hu hv
 ·by_cases c2 : m < i
  ·exact h2 i j u v (by omega) hij hj hu hv
  ·have hup : u ≤ p := by
    by_cases c3 : i = m
    ·subst c3; rw [hp] at hu; cases hu; omega
    ·exact hl i u hi (by omega) hu
   have hpv : p ≤ v := by
    by_cases c3 : j = m
    ·subst c3; rw [hp] at hv; cases hv; omega
    ·exact hr j v (by omega) hj hv
   omega
theorem Rises.same {X Y : List Int} {a n a' n' : Nat} (h : Rises X a n) (hs : Same X Y a' n') (hd : n ≤ a' ∨ n' ≤ a) : Rises Y a n := by
 intro i j u v hi hij hj hu hv
 rw [hs.out i (by omega)] at hu
 rw [hs.out j (by omega)] at hv
 exact h i j u v hi hij hj hu hv
theorem rev_round (X : List Int) (b cap i j n : Nat) (hn : X.length = n) (hi : i < j) (hj : j < n) (hc : n ≤ 1000000) (J : JH) (hJ : J[b]? = some (.cells 0 (uL X) false)) (K : Out IV → JH → Prop)
  (hK : K (.goto 0 [.sl b 0 0 n cap 1, nI (i + 1), nI (j - 1)]) (J.setIfInBounds b (.cells 0 (uL ((X.set i (X[j]'(by omega))).set j (X[i]'(by omega)))) false))) :
  WP (dn BI l_slices_reverseRangeOrdered_uint32_k0 [.sl b 0 0 n cap 1, nI i, nI j] J) K := by
 unfold l_slices_reverseRangeOrdered_uint32_k0
 have hw1 : IntKind.i64.wrap ((i : Int) + 1) = ((i + 1 : Nat) : Int) := by rw [wrap_i64 (by omega) (by omega)]; omega
 have hw2 : IntKind.i64.wrap ((j : Int) - 1) = ((j - 1 : Nat) : Int) := by rw [wrap_i64 (by omega) (by omega)]; omega
 have e1 : ((uL X).drop j).take 1 = [uI X[j]] := uL_at X (by omega)
 have e2 : ((uL X).drop i).take 1 = [uI X[i]] := uL_at X (by omega)
 have l1 := uL_len X
 have hb := lt_get hJ
 generalize X[j] = x at *
 generalize X[i] = a at *
 have s1 := uL_set X i x (by omega)
 have s2 := uL_set (X.set i x) j a (by rw [List.length_set]; omega)
 have l2 := uL_len (X.set i x)
 rw [List.length_set] at l2
 have c1 : ((i : Int) < (j : Int)) := by omega
 have b0 : (b < J.size) = True := by simp [hb]
 have j1 : (0 + j * 1 = j) := by omega
 have j2 : (0 + i * 1 = i) := by omega
 have j3 : (i < n) = True := by simp; omega
 have j4 : (j < n) = True := by simp [hj]
 have u1 : ∀ t, icells (uI t) = [uI t] := fun t => rfl
 have u2 : ∀ t, ione (uI t) = true := fun t => rfl
 have o1 := uL_one X
 have o2 := uL_one (X.set i x)
 have r1 : j + 1 ≤ n := by omega
 have r2 : i + 1 ≤ n := by omega
 simp -implicitDefEqProofs only [go_sem, dnW_ite, go_sem_proc, c1, hw1, hw2, j1, j2, j3, j4, hJ, l1, hn, r1, r2, e1, e2, ↓u1, ↓u2, s1, s2, l2, set_get _ hb, set_set, Array.size_setIfInBounds, b0]
 exact hK
theorem Rev_ok (X : List Int) (b cap a n : Nat) (ha : a < n) (hn : n ≤ X.length) (hc : X.length ≤ 1000000) (J : JH) (hJ : J[b]? = some (.cells 0 (uL X) false)) :
  RP (ic BI F_slices_reverseRangeOrdered_uint32 [.sl b 0 0 X.length cap 1, nI a, nI n] J) fun v J' => v = .tup [] ∧ ∃ Y, Same X Y a n ∧ J' = J.setIfInBounds b (.cells 0 (uL Y) false) := by
 refine RP_run fn_slices_reverseRangeOrdered_uint32 rfl fun K hK => ?_
 unfold l_slices_reverseRangeOrdered_uint32
 have hw : IntKind.i64.wrap ((n : Int) - 1) = ((n - 1 : Nat) : Int) := by rw [wrap_i64 (by omega) (by omega)]; omega
 have hb := lt_get hJ
 simp -implicitDefEqProofs only [go_sem, dnW_ite, go_sem_proc, hw, dn_loop]
 refine WP_iter (fun m vs J' => ∃ i j Y, m = j - i ∧ vs = [.sl b 0 0 X.length cap 1, nI i, nI j] ∧ a ≤ i ∧ j < n ∧ Same X Y a n ∧ J' = J.setIfInBounds b (.cells 0 (uL Y) false)) ?_ (n - 1 - a) _ _ ⟨a, n - 1, X, rfl, rfl, Nat.le_refl _, by omega, .refl _ _ _, (set_own hJ).symm⟩
 rintro m vs J1 ⟨i, j, Y, rfl, rfl, hi, hj, hS, rfl⟩ K1 g1 g2 g3
 have hl := hS.len
 by_cases hlt : i < j
 ·refine rev_round Y b cap i j X.length hl hlt (by omega) hc _ (set_get _ hb) K1 ?_
  rw [set_set]
  exact g1 _ (j - 1 - (i + 1)) _ (by omega) ⟨i + 1, j - 1, _, rfl, rfl, by omega, by omega, hS.trans (.swap (by omega) ⟨by omega, by omega⟩ ⟨by omega, by omega⟩), rfl⟩
 ·unfold l_slices_reverseRangeOrdered_uint32_k0
  simp -implicitDefEqProofs only [go_sem, dnW_ite, go_sem_proc, show ¬ ((i : Int) < (j : Int)) by omega]
  exact g3 _ _ (hK _ _ ⟨rfl, Y, hS, rfl⟩)
end Go.Proofs.Ytccbcbnglnloiaa.G
