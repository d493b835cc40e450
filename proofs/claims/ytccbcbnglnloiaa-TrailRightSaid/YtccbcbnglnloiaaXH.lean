/- Joined: TK12 to TK12. -/
import Derived.Test.YtccbcbnglnloiaaXG
set_option linter.unusedVariables false
set_option linter.unusedSimpArgs false
set_option maxRecDepth 20000
set_option maxHeartbeats 2000000
namespace Go.Proofs.Ytccbcbnglnloiaa.G
open Go
def RI (J : JH) (tb mb : Nat) (g : Gm) (x y x2 y2 : IV) (i : Nat) : Prop := ∃ (c k : Nat) (l : IV) (S : Sx), J[0]? = some (.cells 0 (gmc g x2 y2) false) ∧ J[1]? = some (.cells 0 S.c false) ∧ S.t.toNat = i ∧ S.b.ok ∧ TrAt J tb mb c g x y 0 ⟨S.b.view 0, 0, S.t⟩ [] (foldA g 0 ⟨S.b.view 0, 0, S.t⟩ [] k) l 0 ∧ k ≤ 16 ∧ ∀ q ∈ blk l, q ≠ 0 ∧ q ≠ 1
section
variable {g : Gm} (hr : g.right = true) (hw : ∀ c ∈ g.code, c.wf)
include hr hw
theorem rgt_round {J : JH} {tb mb i : Nat} {x y x2 y2 mv : IV} {ms : List (BitVec 32)} (hm : Ls 1 mv (ms.map m32)) (hml : ms.length ≤ 9223372036854775807) (h2 : GR g x2 y2) (hp1 : g.players = 1) (hI : RI J tb mb g x y x2 y2 i) (hi : i < 20) (ht : 2 ≤ tb) (hmb : 2 ≤ mb) (K : Out IV → JH → Prop) (hR : ∀ J', K (.ret [.bool true]) J')
  (hK : ∀ J', RI J' tb mb g x y x2 y2 (i + 1) → K (.goto 1 [mv, .ptr 0 0 0, .ptr 1 0 0, .ptr tb 0 0, nI (i + 1)]) J') :
  WP (dn BI l_law16_TrailRight_k4 [mv, .ptr 0 0 0, .ptr 1 0 0, .ptr tb 0 0, nI i] J) K := by
 unfold l_law16_TrailRight_k4
 obtain ⟨c, k, l, S, h0, h1, hSt, hSb, hT, hk, hq⟩ := hI
 have hw1 := wrapS hi (show 20 ≤ 9223372036854775807 by omega)
 have hwt : IntKind.u32.wrap ((S.t.toNat : Int) + 1) = ((S.t + 1#32).toNat : Int) := addB32c _ 1
 have ht1 : (S.t + 1#32).toNat = S.t.toNat + 1 := by simp only [BitVec.toNat_add, BitVec.toNat_ofNat]; omega
 simp -implicitDefEqProofs only [go_sem, dnW_ite, go_sem_proc, show ((i : Int) < 20) by omega]
 refine WP_join fun K1 g1 g2 g3 => ?_
 have e3 : ((gmc g x2 y2).drop 3).take 1 = [m32 g.dflt] := rfl
 simp -implicitDefEqProofs only [go_sem, dnW_ite, go_sem_proc, h0, inb h0, e3]
 refine WP_join fun K2 j1 j2 j3 => ?_
 -- behind the choice of a move
 have fin : ∀ (J' : JH) (c k' : Nat) (l' : IV) (M : List Km) (m : BitVec 32), J'[0]? = some (.cells 0 (gmc g x2 y2) false) → J'[1]? = some (.cells 0 S.c false) → TrAt J' tb mb c g x y 0 ⟨S.b.view 0, 0, S.t⟩ M (foldA g 0 ⟨S.b.view 0, 0, S.t⟩ M k') l' 0 → k' ≤ 16 → (∀ q ∈ blk l', q ≠ 0 ∧ q ≠ 1) → mvAt M g.dflt (S.t + 1#32) = m → (M.map Km.k).Nodup → M.length ≤ 1 → (∀ U : Sx, U.t = S.t + 1#32 → M.filter (late U) = []) →
   K2 (.goto 3 [mv, .ptr 0 0 0, .ptr 1 0 0, .ptr tb 0 0, m32 m, nI i]) J' := by
  intro J' c k' l' M m a0 a1 aT ak aq am an al af
  refine j1 _ _ ?_
  refine rgt_k2 hr hw h2 hp1 a0 aT ak a1 rfl hSb (by omega) am an al ?_ ?_ K1 (fun J' => g3 _ _ (hR J')) fun J2 k2 l2 U N hk2 hNb hU hNt bT b0 b1 bq => ?_
  ·simp only [List.mem_cons, not_or]
   exact ⟨by omega, by omega, fun hm => (aq _ hm).1 rfl⟩
  ·simp only [List.mem_cons, not_or]
   exact ⟨by omega, by omega, fun hm => (aq _ hm).2 rfl⟩
  ·refine g1 _ _ ?_
   unfold l_law16_TrailRight_k3
   simp -implicitDefEqProofs only [go_sem, dnW_ite, go_sem_proc, hw1]
   rw [af U (by rw [hU]; exact hNt)] at bT
   refine hK J2 ⟨c, k2, l2, N, b0, b1, by rw [hNt]; omega, hNb, ?_, hk2, bq⟩
   rw [hU] at bT; exact bT
 have dfl : ∀ J' : JH, J' = J → K2 (.goto 3 [mv, .ptr 0 0 0, .ptr 1 0 0, .ptr tb 0 0, m32 g.dflt, nI i]) J' := fun J' e => by
  subst e
  exact fin J' c k l [] g.dflt h0 h1 hT hk hq rfl (by simp) (by simp) (fun _ _ => rfl)
 by_cases hlt : i < ms.length
 ·have hat := fun J => hm.at (i := i) (by simpa using hlt) (J := J)
  simp only [List.getElem_map] at hat
  have hL := Legal_ok g x2 y2 h2 ms[i]
  have hlp : ipureL [.agg (gmc g x2 y2), m32 ms[i]] = true := by simp [ipureL, ipure, h2.pure]
  cases hg : g.legal ms[i] with
  | false =>
   rw [hg] at hL
   simp -implicitDefEqProofs only [go_sem, dnW_ite, go_sem_proc, hm.lenF, List.length_map, show ((i : Int) < (ms.length : Int)) by omega, h0, inb h0, hat, dcp hL hlp]
   exact dfl _ rfl
  | true =>
   rw [hg] at hL
   simp -implicitDefEqProofs only [go_sem, dnW_ite, go_sem_proc, hm.lenF, List.length_map, show ((i : Int) < (ms.length : Int)) by omega, h0, inb h0, hat, dcp hL hlp, h1, inb h1, sx_98, sx_len, hwt]
   refine WP_call (trAdd_ok hT (S.t + 1#32) ms[i] (by rw [foldA_len]; omega)) fun v J2 hv => ?_
   have he : kErr g ⟨S.b.view 0, 0, S.t⟩ [] (S.t + 1#32) ms[i] = 0 := by
    unfold kErr
    rw [if_neg (by rw [hg]; simp), if_neg (by simp only; omega), if_neg (by simp only; omega), if_neg (by simp)]
   rw [he] at hv
   obtain ⟨rfl, hv⟩ := hv
   rcases hv with ⟨hne, _⟩ | ⟨_, l2, a2, f2, hl2⟩
   ·exact absurd rfl hne
   simp -implicitDefEqProofs only [go_sem, dnW_ite, go_sem_proc]
   have e0 : (S.t + 1#32).toNat - S.t.toNat - 1 = 0 := by omega
   simp only [e0, List.take_zero, List.nil_append] at a2
   refine fin J2 (c + 1) 0 l2 [⟨S.t + 1#32, ms[i], c⟩] ms[i] ?_ ?_ a2 (by omega) (fun q hm => hq q (hl2 q hm)) (by simp [mvAt, Km.is]) (by simp) (by simp) (fun U hU => ?_)
   ·rw [f2.2 0 (lt_get h0) (by simp; omega)]; exact h0
   ·rw [f2.2 1 (lt_get h1) (by simp; omega)]; exact h1
   ·simp [late, hU]
 ·simp -implicitDefEqProofs only [go_sem, dnW_ite, go_sem_proc, hm.lenF, List.length_map, show ¬ ((i : Int) < (ms.length : Int)) by omega]
  exact dfl _ rfl
end
theorem Right16_ok (g : Gm) (x y : IV) (h : GR g x y) (hw : ∀ c ∈ g.code, c.wf) (hi : ∀ c ∈ g.cells, I32 c.v) (hc : g.cells.length ≤ 9223372036854775807) (hd : g.code.length ≤ 9223372036854775807) (sd : Int) (mv : IV) (ms : List (BitVec 32)) (hm : Ls 1 mv (ms.map m32)) (hml : ms.length ≤ 9223372036854775807) :
  pc BI F_law16_TrailRight [.agg (gmc g x y), .int .u64 sd, mv] = some (.bool true) := by
 refine pcE fn_law16_TrailRight rfl fun K hK => ?_
 unfold l_law16_TrailRight
 obtain ⟨u, hu, x2, y2, rfl, h2⟩ := gfew_ok g x y h hc hd
 have hw2 : ∀ c ∈ g.few.code, c.wf := fun c hc => hw c (List.mem_of_mem_take hc)
 have hc2 : g.few.cells.length ≤ 100000 := by simp [Gm.few]; omega
 have hd2 : g.few.code.length ≤ 100000 := by simp [Gm.few]; omega
 have hi2 : ∀ c ∈ g.few.cells, I32 c.v := fun c hc => hi c (List.mem_of_mem_take hc)
 generalize g.few = G0 at *
 obtain ⟨G, hG⟩ : ∃ G : Gm, G = { G0 with players := 1 } := ⟨_, rfl⟩
 have h3 : GR G x2 y2 := by rw [hG]; exact ⟨h2.x, h2.y⟩
 have hw3 : ∀ c ∈ G.code, c.wf := by rw [hG]; exact hw2
 have hc3 : G.cells.length ≤ 100000 := by rw [hG]; exact hc2
 have hd3 : G.code.length ≤ 100000 := by rw [hG]; exact hd2
 have hi3 : ∀ c ∈ G.cells, I32 c.v := by rw [hG]; exact hi2
 have hp1 : G.players = 1 := by rw [hG]
 have hsp : isplice (gmc G0 x2 y2) 1 [.int .i64 1] = gmc G x2 y2 := by rw [hG]; rfl
 have hg := gRight_ok G x2 y2 h3 hw3 (by omega)
 by_cases hr : G.right = true
 ·rw [hr] at hg
  obtain ⟨S, hS, hV, hSt, hSb⟩ : ∃ S : Sx, pc BI F_rules_Game_Start [.agg (gmc G x2 y2), .int .u64 sd, nilS] = some (.tup [.agg S.c, nI 0]) ∧ pc BI F_rules_State_View [.agg S.c, .int .i64 0] = some (.agg (⟨S.b.view 0, 0, 0#32⟩ : Sx).c) ∧ S.t = 0#32 ∧ S.b.ok :=
   ⟨⟨G.bd0 (right_48 hr).1 [], sd, 0#32⟩, Start_ok G x2 y2 h3 hr hw3 nilS [] .nil (by simp) sd, SView_ok _ sd 0 0, rfl, bd0_ok G (right_48 hr).1 [] hi3 (by simp)⟩
  have hvp : ipureL (⟨S.b.view 0, 0, 0#32⟩ : Sx).c = true := sx_pure _
  simp -implicitDefEqProofs only [go_sem, dnW_ite, go_sem_proc, h.one, h2.one, h3.one, hsp, dcp awake16 rfl, dcp hu (by simp [ipureL, ipure, h.pure]), set_get, dcp hg (by simp [ipureL, ipure, h3.pure]), dcp hS (by simp [ipureL, ipure, h3.pure, nilS]), sta_len, sta_take, sta_one, sx_z, sx_len, sx_all, sx_one]
  refine WP_call (trNew_ok G x2 y2 h3 hc3 hd3 0 _) fun v J1 hv => ?_
  obtain ⟨tb, mb, x4, y4, rfl, hb, hmb, f1, a1⟩ := hv
  simp only [List.size_toArray, List.length_cons, List.length_nil] at hb hmb
  have h01 : J1[0]? = some (.cells 0 (gmc G x2 y2) false) := by rw [f1.2 0 (by simp) (by simp)]; rfl
  have h11 : J1[1]? = some (.cells 0 S.c false) := by rw [f1.2 1 (by simp) (by simp)]; rfl
  simp -implicitDefEqProofs only [go_sem, dnW_ite, go_sem_proc, h11, inb h11, sx_len, sx_take, sx_take0, dcp hV (by simp [ipureL, ipure, sx_pure])]
  refine WP_call (trReset_ok a1 (S.b.view 0) 0 0#32) fun v J2 hv => ?_
  obtain ⟨a2, f2⟩ := hv
  have h02 : J2[0]? = some (.cells 0 (gmc G x2 y2) false) := by rw [f2.2 0 (lt_get h01) (by simp; omega)]; exact h01
  have h12 : J2[1]? = some (.cells 0 S.c false) := by rw [f2.2 1 (lt_get h11) (by simp; omega)]; exact h11
  simp -implicitDefEqProofs only [go_sem, dnW_ite, go_sem_proc, dn_loop]
  have hT : ∀ J', K (.ret [.bool true]) J' := fun J' => hK _ _ (frzP rfl)
  refine WP_range (by decide) 20 (fun i vs J => vs = [mv, .ptr 0 0 0, .ptr 1 0 0, .ptr tb 0 0, nI i] ∧ RI J tb mb G x4 y4 x2 y2 i) ?_ ⟨rfl, 0, 0, nilS, S, h02, h12, by rw [hSt]; rfl, hSb, by rw [hSt]; exact a2, by omega, by simp [blk, blkOf]⟩
  rintro i vs J ⟨rfl, hI⟩ hi20 K1 g1 g2 g3
  by_cases hlt : i < 20
  ·exact rgt_round hr hw3 hm hml h3 hp1 hI hlt (by omega) (by omega) K1 (fun J' => g3 _ _ (hT J')) fun J' hI' => g1 hlt _ _ ⟨rfl, hI'⟩
  ·unfold l_law16_TrailRight_k4
   simp -implicitDefEqProofs only [go_sem, dnW_ite, go_sem_proc, show ¬ ((i : Int) < 20) by omega]
   refine g2 _ _ ?_
   unfold l_law16_TrailRight_k5
   simp -implicitDefEqProofs only [go_sem, dnW_ite, go_sem_proc]
   exact hT _
 ·have hr' : G.right = false := by simpa using hr
  rw [hr'] at hg
  simp -implicitDefEqProofs only [go_sem, dnW_ite, go_sem_proc, h.one, h2.one, h3.one, hsp, dcp awake16 rfl, dcp hu (by simp [ipureL, ipure, h.pure]), set_get, dcp hg (by simp [ipureL, ipure, h3.pure])]
  exact hK _ _ (frzP rfl)
end Go.Proofs.Ytccbcbnglnloiaa.G
