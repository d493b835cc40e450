/- Joined: RU1 to IK13. -/
import Derived.Test.YtcdlipdeemlibaaXF
import Derived.KernelRfl
set_option linter.unusedVariables false
set_option linter.unusedSimpArgs false
namespace Go.Proofs.Ytcdlipdeemlibaa.G
open Go
set_option linter.unusedSimpArgs false
set_option linter.unusedVariables false
set_option maxRecDepth 20000
set_option maxHeartbeats 2000000
structure Gm where
  obs : Int
  players : Int
  moves : BitVec 32
  dflt : BitVec 32
  cells : List Cl
  code : List Cd
def gmc (g : Gm) (x y : IV) : List IV := [.int .i64 g.obs, .int .i64 g.players, m32 g.moves, m32 g.dflt, x, y]
structure GR (g : Gm) (x y : IV) : Prop where
  x : Ls 2 x (g.cells.map Cl.e)
  y : Ls 6 y (g.code.map Cd.e)
theorem gm_len (g x y) : (gmc g x y).length = 6 := rfl
theorem gm_take (g x y) : (gmc g x y).take 6 = gmc g x y := rfl
theorem gm_0 (g x y) : ((gmc g x y).drop 0).take 1 = [.int .i64 g.obs] := rfl
theorem gm_00 (g x y) : (gmc g x y).take 1 = [.int .i64 g.obs] := rfl
theorem gm_1 (g x y) : ((gmc g x y).drop 1).take 1 = [.int .i64 g.players] := rfl
theorem gm_2 (g x y) : ((gmc g x y).drop 2).take 1 = [m32 g.moves] := rfl
theorem gm_3 (g x y) : ((gmc g x y).drop 3).take 1 = [m32 g.dflt] := rfl
theorem gm_4 (g x y) : ((gmc g x y).drop 4).take 1 = [x] := rfl
theorem gm_5 (g x y) : ((gmc g x y).drop 5).take 1 = [y] := rfl
attribute [go_sem] gm_len gm_take gm_0 gm_00 gm_1 gm_2 gm_3 gm_4 gm_5
theorem GR.pure {g x y} (h : GR g x y) : ipureL (gmc g x y) = true := by
  simp [ipureL, gmc, ipure, h.x.pure, h.y.pure]
theorem GR.one {g x y} (h : GR g x y) : (gmc g x y).all ione = true := by
  have h1 := h.x.one
  have h2 := h.y.one
  simp only [gmc, List.all_cons, List.all_nil, h1, h2]; rfl
def Gm.legal (g : Gm) (m : BitVec 32) : Bool := decide (m.toNat < g.moves.toNat)
theorem All10_ok (g : Gm) (x y : IV) (h : GR g x y) : pc BI F_rules_Game_All [.agg (gmc g x y)] = some (m32 (allM g.obs)) := by
  refine pcE fn_rules_Game_All rfl fun K hK => ?_
  unfold l_rules_Game_All
  simp -implicitDefEqProofs only [go_sem, dnW_ite, reduceIte, Nat.reduceAdd, Nat.reduceLeDiff, Nat.reduceMul, Nat.reduceEqDiff, Int.reduceLT, Int.reduceLE, Int.reduceToNat, Nat.reduceSub, Nat.reduceLT, Int.reduceEq, BitVec.reduceOfInt, BitVec.reduceOfNat, Int.reduceGT, Int.reduceGE, Int.reduceBEq, Int.reduceBNe, Nat.reduceGT, Nat.reduceBEq, Nat.reduceBNe, Int.reduceAdd, Int.reduceSub, Int.reduceNeg, h.one, dcp (All_ok g.obs) rfl]
  exact hK _ _ (frzE rfl rfl)
def Gm.right (g : Gm) : Bool :=
  decide (1 ≤ g.obs ∧ g.obs ≤ 32) && decide (1 ≤ g.players ∧ g.players ≤ 6 ∧ g.players ≤ g.obs) && decide (g.dflt.toNat < g.moves.toNat) && decide (g.cells.length ≤ 48) &&
  g.cells.all (fun c => within c.s (allM g.obs)) && rightL g.code g.cells.length g.players.toNat
theorem gRight_k (g : Gm) (x y : IV) (h : GR g x y) (hw : ∀ c ∈ g.code, c.wf) (hb : g.code.length ≤ 9223372036854775807) (h48 : g.cells.length ≤ 48) (hp : 0 ≤ g.players ∧ g.players ≤ 6) (J : JH) (h0 : J[0]? = some (.cells 0 (gmc g x y) false)) (K : Out IV → JH → Prop)
    (hK : ∀ J', K (.ret [.bool (g.cells.all (fun c => within c.s (allM g.obs)) && rightL g.code g.cells.length g.players.toNat)]) J') :
    WP (dn BI l_rules_Game_Right_k2 [.ptr 0 0 0] J) K := by
  unfold l_rules_Game_Right_k2
  simp -implicitDefEqProofs only [go_sem, dnW_ite, reduceIte, Nat.reduceAdd, Nat.reduceLeDiff, Nat.reduceMul, Nat.reduceEqDiff, Int.reduceLT, Int.reduceLE, Int.reduceToNat, Nat.reduceSub, Nat.reduceLT, Int.reduceEq, BitVec.reduceOfInt, BitVec.reduceOfNat, Int.reduceGT, Int.reduceGE, Int.reduceBEq, Int.reduceBNe, Nat.reduceGT, Nat.reduceBEq, Nat.reduceBNe, Int.reduceAdd, Int.reduceSub, Int.reduceNeg, h0, h.x.lenF, List.length_map, dn_loop]
  refine WP_range (by decide) g.cells.length (fun i vs J' => vs = [.ptr 0 0 0, x, nI g.cells.length, nI i] ∧ Fr J J' [] ∧ ∀ c ∈ g.cells.take i, within c.s (allM g.obs) = true) ?_ ⟨rfl, .refl _ _, by simp⟩
  rintro i vs J1 ⟨rfl, hf, hn⟩ hi K1 g1 g2 g3
  have h01 : J1[0]? = some (.cells 0 (gmc g x y) false) := by rw [hf.2 0 (lt_get h0) (by simp)]; exact h0
  have hin := inb h01
  unfold l_rules_Game_Right_k0
  by_cases hi2 : i < g.cells.length
  · have hat := fun J => h.x.at (i := i) (by simpa using hi2) (J := J)
    simp only [List.getElem_map, Cl.e, Cl.c] at hat
    have hwi := Within_ok g.cells[i].s (allM g.obs)
    have hl0 := lt_get h01
    cases hc : within g.cells[i].s (allM g.obs) with
    | false =>
      rw [hc] at hwi
      simp -implicitDefEqProofs only [go_sem, dnW_ite, reduceIte, Nat.reduceAdd, Nat.reduceLeDiff, Nat.reduceMul, Nat.reduceEqDiff, Int.reduceLT, Int.reduceLE, Int.reduceToNat, Nat.reduceSub, Nat.reduceLT, Int.reduceEq, BitVec.reduceOfInt, BitVec.reduceOfNat, Int.reduceGT, Int.reduceGE, Int.reduceBEq, Int.reduceBNe, Nat.reduceGT, Nat.reduceBEq, Nat.reduceBNe, Int.reduceAdd, Int.reduceSub, Int.reduceNeg, show ((i : Int) < (g.cells.length : Int)) by omega, hat, Array.getElem?_push, h01, hin, show ¬ (0 = J1.size) by omega, show ¬ (J1.size = 0) by omega, dcp (All10_ok g x y h) (by simp [ipureL, ipure, h.pure]), dcp hwi rfl]
      refine g3 _ _ ?_
      have e : g.cells.all (fun c => within c.s (allM g.obs)) = false := by
        rw [List.all_eq_false]
        exact ⟨_, List.getElem_mem hi2, by rw [hc]; decide⟩
      have := hK (J1.push (IB.cells 0 [IV.int .i32 g.cells[i].v, m32 g.cells[i].s] false))
      rw [e] at this
      exact this
    | true =>
      rw [hc] at hwi
      simp -implicitDefEqProofs only [go_sem, dnW_ite, reduceIte, Nat.reduceAdd, Nat.reduceLeDiff, Nat.reduceMul, Nat.reduceEqDiff, Int.reduceLT, Int.reduceLE, Int.reduceToNat, Nat.reduceSub, Nat.reduceLT, Int.reduceEq, BitVec.reduceOfInt, BitVec.reduceOfNat, Int.reduceGT, Int.reduceGE, Int.reduceBEq, Int.reduceBNe, Nat.reduceGT, Nat.reduceBEq, Nat.reduceBNe, Int.reduceAdd, Int.reduceSub, Int.reduceNeg, show ((i : Int) < (g.cells.length : Int)) by omega, hat, Array.getElem?_push, h01, hin, show ¬ (0 = J1.size) by omega, show ¬ (J1.size = 0) by omega, dcp (All10_ok g x y h) (by simp [ipureL, ipure, h.pure]), dcp hwi rfl, wrapS hi2 (show g.cells.length ≤ 9223372036854775807 by omega)]
      refine g1 hi2 _ _ ⟨rfl, hf.trans (Fr.push _ _ []) (by simp), ?_⟩
      rw [List.take_succ_eq_append_getElem hi2]
      intro c hcm
      rcases List.mem_append.1 hcm with hcm | hcm
      · exact hn c hcm
      · simp at hcm; subst hcm; exact hc
  · simp -implicitDefEqProofs only [go_sem, dnW_ite, reduceIte, Nat.reduceAdd, Nat.reduceLeDiff, Nat.reduceMul, Nat.reduceEqDiff, Int.reduceLT, Int.reduceLE, Int.reduceToNat, Nat.reduceSub, Nat.reduceLT, Int.reduceEq, BitVec.reduceOfInt, BitVec.reduceOfNat, Int.reduceGT, Int.reduceGE, Int.reduceBEq, Int.reduceBNe, Nat.reduceGT, Nat.reduceBEq, Nat.reduceBNe, Int.reduceAdd, Int.reduceSub, Int.reduceNeg, show ¬ ((i : Int) < (g.cells.length : Int)) by omega]
    refine g2 _ _ ?_
    unfold l_rules_Game_Right_k1
    rw [List.take_of_length_le (by omega)] at hn
    have e : g.cells.all (fun c => within c.s (allM g.obs)) = true := List.all_eq_true.2 hn
    obtain ⟨p, hp2⟩ : ∃ p : Nat, g.players = p := ⟨g.players.toNat, by omega⟩
    have hR := Right_ok y g.code h.y hw g.cells.length p (by omega) (by omega)
    rw [e, hp2] at hK
    simp -implicitDefEqProofs only [go_sem, dnW_ite, reduceIte, Nat.reduceAdd, Nat.reduceLeDiff, Nat.reduceMul, Nat.reduceEqDiff, Int.reduceLT, Int.reduceLE, Int.reduceToNat, Nat.reduceSub, Nat.reduceLT, Int.reduceEq, BitVec.reduceOfInt, BitVec.reduceOfNat, Int.reduceGT, Int.reduceGE, Int.reduceBEq, Int.reduceBNe, Nat.reduceGT, Nat.reduceBEq, Nat.reduceBNe, Int.reduceAdd, Int.reduceSub, Int.reduceNeg, h01, hp2, h.x.lenF, List.length_map, dcp hR (by simp [ipureL, ipure, h.y.pure])]
    exact hK _
theorem gRight_ok (g : Gm) (x y : IV) (h : GR g x y) (hw : ∀ c ∈ g.code, c.wf) (hb : g.code.length ≤ 9223372036854775807) : pc BI F_rules_Game_Right [.agg (gmc g x y)] = some (.bool g.right) := by
  refine pcE fn_rules_Game_Right rfl fun K hK => ?_
  unfold l_rules_Game_Right
  have no : g.right = false → K (.ret [.bool false]) #[.cells 0 (gmc g x y) false] := fun e => hK _ _ (frzE rfl (by rw [e]; rfl))
  by_cases h1 : g.obs < 1
  · simp -implicitDefEqProofs only [go_sem, dnW_ite, reduceIte, Nat.reduceAdd, Nat.reduceLeDiff, Nat.reduceMul, Nat.reduceEqDiff, Int.reduceLT, Int.reduceLE, Int.reduceToNat, Nat.reduceSub, Nat.reduceLT, Int.reduceEq, BitVec.reduceOfInt, BitVec.reduceOfNat, Int.reduceGT, Int.reduceGE, Int.reduceBEq, Int.reduceBNe, Nat.reduceGT, Nat.reduceBEq, Nat.reduceBNe, Int.reduceAdd, Int.reduceSub, Int.reduceNeg, h.one, h1]
    exact no (by simp [Gm.right]; omega)
  by_cases h2 : g.obs > 32
  · simp -implicitDefEqProofs only [go_sem, dnW_ite, reduceIte, Nat.reduceAdd, Nat.reduceLeDiff, Nat.reduceMul, Nat.reduceEqDiff, Int.reduceLT, Int.reduceLE, Int.reduceToNat, Nat.reduceSub, Nat.reduceLT, Int.reduceEq, BitVec.reduceOfInt, BitVec.reduceOfNat, Int.reduceGT, Int.reduceGE, Int.reduceBEq, Int.reduceBNe, Nat.reduceGT, Nat.reduceBEq, Nat.reduceBNe, Int.reduceAdd, Int.reduceSub, Int.reduceNeg, h.one, h1, h2]
    exact no (by simp [Gm.right]; omega)
  by_cases h3 : g.players < 1
  · simp -implicitDefEqProofs only [go_sem, dnW_ite, reduceIte, Nat.reduceAdd, Nat.reduceLeDiff, Nat.reduceMul, Nat.reduceEqDiff, Int.reduceLT, Int.reduceLE, Int.reduceToNat, Nat.reduceSub, Nat.reduceLT, Int.reduceEq, BitVec.reduceOfInt, BitVec.reduceOfNat, Int.reduceGT, Int.reduceGE, Int.reduceBEq, Int.reduceBNe, Nat.reduceGT, Nat.reduceBEq, Nat.reduceBNe, Int.reduceAdd, Int.reduceSub, Int.reduceNeg, h.one, h1, h2, h3]
    exact no (by simp [Gm.right]; omega)
  by_cases h4 : g.players > min 6 g.obs
  · simp -implicitDefEqProofs only [go_sem, dnW_ite, reduceIte, Nat.reduceAdd, Nat.reduceLeDiff, Nat.reduceMul, Nat.reduceEqDiff, Int.reduceLT, Int.reduceLE, Int.reduceToNat, Nat.reduceSub, Nat.reduceLT, Int.reduceEq, BitVec.reduceOfInt, BitVec.reduceOfNat, Int.reduceGT, Int.reduceGE, Int.reduceBEq, Int.reduceBNe, Nat.reduceGT, Nat.reduceBEq, Nat.reduceBNe, Int.reduceAdd, Int.reduceSub, Int.reduceNeg, h.one, h1, h2, h3, h4]
    exact no (by simp [Gm.right]; omega)
  by_cases h5 : (g.dflt.toNat : Int) ≥ (g.moves.toNat : Int)
  · simp -implicitDefEqProofs only [go_sem, dnW_ite, reduceIte, Nat.reduceAdd, Nat.reduceLeDiff, Nat.reduceMul, Nat.reduceEqDiff, Int.reduceLT, Int.reduceLE, Int.reduceToNat, Nat.reduceSub, Nat.reduceLT, Int.reduceEq, BitVec.reduceOfInt, BitVec.reduceOfNat, Int.reduceGT, Int.reduceGE, Int.reduceBEq, Int.reduceBNe, Nat.reduceGT, Nat.reduceBEq, Nat.reduceBNe, Int.reduceAdd, Int.reduceSub, Int.reduceNeg, h.one, h1, h2, h3, h4, h5]
    exact no (by simp [Gm.right]; omega)
  by_cases h6 : (g.cells.length : Int) > 48
  · simp -implicitDefEqProofs only [go_sem, dnW_ite, reduceIte, Nat.reduceAdd, Nat.reduceLeDiff, Nat.reduceMul, Nat.reduceEqDiff, Int.reduceLT, Int.reduceLE, Int.reduceToNat, Nat.reduceSub, Nat.reduceLT, Int.reduceEq, BitVec.reduceOfInt, BitVec.reduceOfNat, Int.reduceGT, Int.reduceGE, Int.reduceBEq, Int.reduceBNe, Nat.reduceGT, Nat.reduceBEq, Nat.reduceBNe, Int.reduceAdd, Int.reduceSub, Int.reduceNeg, h.one, h1, h2, h3, h4, h5, h.x.lenF, List.length_map, h6]
    exact no (by simp [Gm.right]; omega)
  simp -implicitDefEqProofs only [go_sem, dnW_ite, reduceIte, Nat.reduceAdd, Nat.reduceLeDiff, Nat.reduceMul, Nat.reduceEqDiff, Int.reduceLT, Int.reduceLE, Int.reduceToNat, Nat.reduceSub, Nat.reduceLT, Int.reduceEq, BitVec.reduceOfInt, BitVec.reduceOfNat, Int.reduceGT, Int.reduceGE, Int.reduceBEq, Int.reduceBNe, Nat.reduceGT, Nat.reduceBEq, Nat.reduceBNe, Int.reduceAdd, Int.reduceSub, Int.reduceNeg, h.one, h1, h2, h3, h4, h5, h.x.lenF, List.length_map, h6]
  refine gRight_k g x y h hw hb (by omega) (by omega) _ rfl K fun J' => hK _ _ (frzE rfl ?_)
  have e1 : decide (1 ≤ g.obs ∧ g.obs ≤ 32) = true := by simp; omega
  have e2 : decide (1 ≤ g.players ∧ g.players ≤ 6 ∧ g.players ≤ g.obs) = true := by simp; omega
  have e3 : decide (g.dflt.toNat < g.moves.toNat) = true := by simp; omega
  have e4 : decide (g.cells.length ≤ 48) = true := by simp; omega
  simp [Gm.right, e1, e2, e3, e4, itup]
end Go.Proofs.Ytcdlipdeemlibaa.G
namespace Go.Proofs.Ytcdlipdeemlibaa.G
open Go
set_option linter.unusedSimpArgs false
set_option linter.unusedVariables false
set_option maxRecDepth 20000
section
variable {α : Type}
theorem app_ld {A B : List α} {n : Nat} (h : A.length = n) (k : Nat) : (A ++ B).drop (n + k) = B.drop k := by
  rw [← List.drop_drop, List.drop_append_of_le_length (by omega), List.drop_of_length_le (l := A) (by omega), List.nil_append]
theorem app_sp {A B vs : List IV} {n : Nat} (h : A.length = n) (k : Nat) : isplice (A ++ B) (n + k) vs = A ++ isplice B k vs := by
  unfold isplice
  rw [List.take_append, List.take_of_length_le (by omega), Nat.add_assoc, app_ld h, show n + k - A.length = k by omega]
  simp
theorem app_sp0 {A B vs : List IV} {k : Nat} (h : k + vs.length ≤ A.length) : isplice (A ++ B) k vs = isplice A k vs ++ B := by
  unfold isplice
  rw [List.take_append_of_le_length (by omega), List.drop_append_of_le_length (by omega)]
  simp
end
structure Sh where
  cell : Int
  to : BitVec 32
  v : Int
  deriving DecidableEq
def Sh.c (s : Sh) : List IV := [.int .i64 s.cell, m32 s.to, .int .i32 s.v]
structure Rg where
  l : List Cl
  h : l.length = 8
def Rg.set (r : Rg) (i : Nat) (c : Cl) : Rg := ⟨r.l.set i c, by rw [List.length_set]; exact r.h⟩
def Rg.at (r : Rg) (i : Nat) : Cl := r.l.getD i Cl.z
structure Mc where
  bd : Bd
  dice : Int
  touched : BitVec 64
  shows : List Sh
  used : Nat
  err : Nat
  r : Rg
  pc : Nat
structure Me where
  mv : IV
  moves : List Int
  tick : Int
  all : BitVec 32
def mcB (m : Mc) (sh : IV) : List IV := [.int .u64 m.dice, .int .u64 (m.touched.toNat : Int), sh, nI m.used, nI m.err]
def rgc (r : Rg) : List IV := (r.l.map Cl.c).flatten
def mcD (E : Me) (m : Mc) : List IV := [nI m.pc, E.mv, .int .u32 E.tick, m32 E.all, .fn F_vm_Compute [] []]
def mc (E : Me) (m : Mc) (sh : IV) : List IV := bdc m.bd ++ (mcB m sh ++ (rgc m.r ++ mcD E m))
theorem mcB_len (m sh) : (mcB m sh).length = 5 := rfl
theorem rgc_len (r : Rg) : (rgc r).length = 16 := by rw [rgc, flat_cl, r.h]
theorem mc_len (E m sh) : (mc E m sh).length = 123 := by simp only [mc, List.length_append, bdc_len, rgc_len, mcB, mcD, List.length_cons, List.length_nil]
section
variable (E : Me) (m : Mc) (sh : IV)
theorem ld_bd : (mc E m sh).take 97 = bdc m.bd := by
  rw [mc, List.take_append_of_le_length (by rw [bdc_len]; exact Nat.le_refl _), bdc_take]
theorem ld_97 : ((mc E m sh).drop 97).take 1 = [.int .u64 m.dice] := by rw [mc, app_ld (bdc_len m.bd) 0]; rfl
theorem ld_98 : ((mc E m sh).drop 98).take 1 = [.int .u64 (m.touched.toNat : Int)] := by rw [mc, app_ld (bdc_len m.bd) 1]; rfl
theorem ld_99 : ((mc E m sh).drop 99).take 1 = [sh] := by rw [mc, app_ld (bdc_len m.bd) 2]; rfl
theorem ld_100 : ((mc E m sh).drop 100).take 1 = [nI m.used] := by rw [mc, app_ld (bdc_len m.bd) 3]; rfl
theorem ld_101 : ((mc E m sh).drop 101).take 1 = [nI m.err] := by rw [mc, app_ld (bdc_len m.bd) 4]; rfl
theorem ld_118 : ((mc E m sh).drop 118).take 1 = [nI m.pc] := by
  rw [mc, show 118 = 97 + (5 + (16 + 0)) by omega, app_ld (bdc_len m.bd), app_ld (mcB_len m sh), app_ld (rgc_len m.r)]; rfl
theorem ld_119 : ((mc E m sh).drop 119).take 1 = [E.mv] := by
  rw [mc, show 119 = 97 + (5 + (16 + 1)) by omega, app_ld (bdc_len m.bd), app_ld (mcB_len m sh), app_ld (rgc_len m.r)]; rfl
theorem ld_120 : ((mc E m sh).drop 120).take 1 = [.int .u32 E.tick] := by
  rw [mc, show 120 = 97 + (5 + (16 + 2)) by omega, app_ld (bdc_len m.bd), app_ld (mcB_len m sh), app_ld (rgc_len m.r)]; rfl
theorem ld_121 : ((mc E m sh).drop 121).take 1 = [m32 E.all] := by
  rw [mc, show 121 = 97 + (5 + (16 + 3)) by omega, app_ld (bdc_len m.bd), app_ld (mcB_len m sh), app_ld (rgc_len m.r)]; rfl
theorem ld_122 : ((mc E m sh).drop 122).take 1 = [.fn F_vm_Compute [] []] := by
  rw [mc, show 122 = 97 + (5 + (16 + 4)) by omega, app_ld (bdc_len m.bd), app_ld (mcB_len m sh), app_ld (rgc_len m.r)]; rfl
theorem ld_res : (mc E m sh).take 102 = bdc m.bd ++ mcB m sh := by
  rw [mc, ← List.append_assoc, List.take_append_of_le_length (by simp [bdc_len, mcB]), List.take_of_length_le (by simp [bdc_len, mcB])]
theorem st_bd (b : Bd) : isplice (mc E m sh) 0 (bdc b) = mc E { m with bd := b } sh := by
  rw [mc, app_sp0 (by rw [bdc_len, bdc_len]; exact Nat.le_refl _), bdc_all]; rfl
theorem st_97 (d : Int) : isplice (mc E m sh) 97 [.int .u64 d] = mc E { m with dice := d } sh := by
  rw [mc, app_sp (bdc_len m.bd) 0]; rfl
theorem st_98 (d : BitVec 64) : isplice (mc E m sh) 98 [.int .u64 (d.toNat : Int)] = mc E { m with touched := d } sh := by
  rw [mc, app_sp (bdc_len m.bd) 1]; rfl
theorem st_99 (d : IV) : isplice (mc E m sh) 99 [d] = mc E m d := by
  rw [mc, app_sp (bdc_len m.bd) 2]; rfl
theorem st_100 (d : Nat) : isplice (mc E m sh) 100 [nI d] = mc E { m with used := d } sh := by
  rw [mc, app_sp (bdc_len m.bd) 3]; rfl
theorem st_101 (d : Nat) : isplice (mc E m sh) 101 [nI d] = mc E { m with err := d } sh := by
  rw [mc, app_sp (bdc_len m.bd) 4]; rfl
theorem st_118 (d : Nat) : isplice (mc E m sh) 118 [nI d] = mc E { m with pc := d } sh := by
  rw [mc, show 118 = 97 + (5 + (16 + 0)) by omega, app_sp (bdc_len m.bd), app_sp (mcB_len m sh), app_sp (rgc_len m.r)]; rfl
end
attribute [go_sem] mc_len ld_bd ld_97 ld_98 ld_99 ld_100 ld_101 ld_118 ld_119 ld_120 ld_121 ld_122 ld_res st_bd st_97 st_98 st_99 st_100 st_101 st_118 set_get
def MAt (E : Me) (J : JH) (b : Nat) (sh : IV) (m : Mc) : Prop := J[b]? = some (.cells 0 (mc E m sh) false) ∧ b ∉ blk sh ∧ Grow J sh 3 (m.shows.map Sh.c).flatten
def MOut (E : Me) (b : Nat) (J : JH) (sh : IV) (J' : JH) (m : Mc) : Prop := ∃ sh', MAt E J' b sh' m ∧ Upd b J sh J' sh'
theorem MAt.push {E : Me} {J : JH} {b : Nat} {sh : IV} {m : Mc} (X : IB) (h : MAt E J b sh m) : MAt E (J.push X) b sh m :=
  ⟨by rw [Array.getElem?_push, if_neg (Nat.ne_of_lt (lt_get h.1))]; exact h.1, h.2.1, h.2.2.fr (S := []) (.push _ _ _) (by simp)⟩
theorem MAt.set {E : Me} {J : JH} {b : Nat} {sh : IV} {m : Mc} (h : MAt E J b sh m) (m' : Mc) (hs : m'.shows = m.shows) : MAt E (J.setIfInBounds b (.cells 0 (mc E m' sh) false)) b sh m' :=
  ⟨set_get J (lt_get h.1), h.2.1, by
    rw [hs]
    refine h.2.2.fr (Fr.set J _ (S := [b]) (by simp)) fun c hc hm => ?_
    rw [List.mem_singleton] at hm
    exact h.2.1 (hm ▸ hc)⟩
theorem Upd.set {b : Nat} {J : JH} {s : IV} (X : IB) : Upd b J s (J.setIfInBounds b X) s := ⟨.set _ _ (by simp), fun c h => .inl h⟩
theorem MOut.refl {E : Me} {J : JH} {b : Nat} {sh : IV} {m : Mc} (h : MAt E J b sh m) : MOut E b J sh J m := ⟨sh, h, .refl⟩
theorem MOut.set {E : Me} {J : JH} {b : Nat} {sh : IV} {m : Mc} (h : MAt E J b sh m) (m' : Mc) (hs : m'.shows = m.shows) : MOut E b J sh (J.setIfInBounds b (.cells 0 (mc E m' sh) false)) m' := ⟨sh, h.set m' hs, .set _⟩
theorem MOut.trans {E : Me} {J J1 J2 : JH} {b : Nat} {sh sh1 : IV} {m2 : Mc} (u : Upd b J sh J1 sh1) (k : MOut E b J1 sh1 J2 m2) : MOut E b J sh J2 m2 := by
  obtain ⟨s2, k1, k2⟩ := k
  exact ⟨s2, k1, u.trans k2⟩
end Go.Proofs.Ytcdlipdeemlibaa.G
namespace Go.Proofs.Ytcdlipdeemlibaa.G
open Go
set_option linter.unusedSimpArgs false
set_option linter.unusedVariables false
set_option maxRecDepth 20000
variable {E : Me} {J : JH} {b : Nat} {sh : IV} {m : Mc}
def bit (i : Int) : BitVec 64 := 1#64 <<< i.toNat
def named (E : Me) (m : Mc) (x : Cd) : Int × Bool × Nat :=
  if within E.all (m.r.at x.b).s = false then (0, false, 8)
  else if x.n + (m.r.at x.b).v < 0 ∨ (m.bd.l.length : Int) ≤ x.n + (m.r.at x.b).v then (0, false, 7)
  else (x.n + (m.r.at x.b).v, true, 0)
def Rg.ok (r : Rg) : Prop := ∀ i, i < 8 → -2147483648 ≤ (r.at i).v ∧ (r.at i).v < 2147483648
end Go.Proofs.Ytcdlipdeemlibaa.G
namespace Go.Proofs.Ytcdlipdeemlibaa.G
open Go
set_option linter.unusedSimpArgs false
set_option linter.unusedVariables false
def x64 (a b : Int) : Int := IntKind.u64.wrap ((BitVec.ofInt 64 a ^^^ BitVec.ofInt 64 b).toNat : Int)
def mixF (a : Int) : Int :=
  let z := IntKind.u64.wrap (x64 a (a.fdiv (2 ^ min (Int.toNat 30) 64)) * 13787848793156543929)
  let z := IntKind.u64.wrap (x64 z (z.fdiv (2 ^ min (Int.toNat 27) 64)) * 10723151780598845931)
  x64 z (z.fdiv (2 ^ min (Int.toNat 31) 64))
def sn (s : Int) : Int := IntKind.u64.wrap (s + 11400714819323198485)
def nx (s : Int) : Int := IntKind.u32.wrap ((mixF (sn s)).fdiv (2 ^ min (Int.toNat 32) 64))
def dice (s : Int) : IV := .agg [.int .u64 s]
def below (s n : Int) : Int := IntKind.u32.wrap ((IntKind.u64.wrap (IntKind.u64.wrap (nx s) * IntKind.u64.wrap n)).fdiv (2 ^ min (Int.toNat 32) 64))
def skip (s n : Int) : Int := if n > 0 then IntKind.u64.wrap (s + IntKind.u64.wrap (11400714819323198485 * IntKind.u64.wrap n)) else s
def shufL (s : Int) : Nat → List Int → List Int × Int
  | 0, ys => (ys, s)
  | i + 1, ys => shufL (sn s) i ((ys.set (i + 1) (ys.getD (below s ((i : Int) + 2)).toNat 0)).set (below s ((i : Int) + 2)).toNat (ys.getD (i + 1) 0))
end Go.Proofs.Ytcdlipdeemlibaa.G
namespace Go.Proofs.Ytcdlipdeemlibaa.G
open Go
set_option linter.unusedSimpArgs false
set_option linter.unusedVariables false
end Go.Proofs.Ytcdlipdeemlibaa.G
namespace Go.Proofs.Ytcdlipdeemlibaa.G
open Go
set_option linter.unusedSimpArgs false
set_option linter.unusedVariables false
set_option maxRecDepth 20000
variable {E : Me} {J : JH} {b : Nat} {sh : IV} {m : Mc}
theorem MAt.app (h : MAt E J b sh m) {J' : JH} {s' : IV} {cs : List IV} (k1 : Grow J' s' 3 cs) (k2 : Fr J J' (blk sh)) (k3 : ∀ c ∈ blk s', c ∈ blk sh ∨ J.size ≤ c) (m' : Mc) (hm : cs = (m'.shows.map Sh.c).flatten) :
    MOut E b J sh (J'.setIfInBounds b (.cells 0 (mc E m' s') false)) m' := by
  have hlt := lt_get h.1
  have hlt' : b < J'.size := Nat.lt_of_lt_of_le hlt k2.1
  have hn : b ∉ blk s' := fun hb => by
    rcases k3 b hb with hb | hb
    · exact h.2.1 hb
    · omega
  subst hm
  refine ⟨s', ⟨set_get J' hlt', hn, k1.fr (Fr.set J' _ (S := [b]) (by simp)) fun c hc hm => ?_⟩, Fr.trans (J1 := J') ⟨k2.1, fun d hd hm => k2.2 d hd (fun h => hm (by simp [h]))⟩ (Fr.set J' _ (S := [b]) (by simp)) (fun d _ hd => ?_), k3⟩
  · rw [List.mem_singleton] at hm; exact hn (hm ▸ hc)
  · rw [List.mem_singleton] at hd; simp [hd]
def Sh.one (m : Mc) (x : Cd) (all : BitVec 32) (i : Int) : BitVec 32 := x.mask &&& all &&& ~~~(m.bd.at i).s
def revealF (E : Me) (m : Mc) (x : Cd) : Mc :=
  if (named E m x).2.1 = false then { m with err := (named E m x).2.2 } else
  { m with
    err := (named E m x).2.2
    bd := m.bd.show (named E m x).1 (Sh.one m x E.all (named E m x).1)
    touched := m.touched ||| bit (named E m x).1
    shows := m.shows ++ if Sh.one m x E.all (named E m x).1 = 0#32 then [] else [⟨(named E m x).1, Sh.one m x E.all (named E m x).1, (m.bd.at (named E m x).1).v⟩] }
theorem named_ok {x : Cd} (hn : (named E m x).2.1 = true) : m.bd.there (named E m x).1 = true ∧ (named E m x).2.2 = 0 := by
  simp only [named] at hn ⊢
  split at hn
  · simp at hn
  · split at hn
    · simp at hn
    · rename_i h1 h2
      rw [if_neg h1, if_neg h2]
      simp only [Bd.there, decide_eq_true_eq, and_true]
      omega
end Go.Proofs.Ytcdlipdeemlibaa.G
namespace Go.Proofs.Ytcdlipdeemlibaa.G
open Go
set_option linter.unusedSimpArgs false
set_option linter.unusedVariables false
set_option maxRecDepth 20000
variable {E : Me} {J : JH} {b : Nat} {sh : IV} {m : Mc}
theorem MAt.fr {J' : JH} {S : List Nat} (h : MAt E J b sh m) (hf : Fr J J' S) (hb : b ∉ S) (hs : ∀ c ∈ blk sh, c ∉ S) : MAt E J' b sh m :=
  ⟨by rw [hf.2 b (lt_get h.1) hb]; exact h.1, h.2.1, h.2.2.fr hf hs⟩
def fillN (m : Mc) (start : Nat) (out : List Int) : Nat → Mc
  | 0 => m
  | k + 1 => { fillN m start out k with bd := (fillN m start out k).bd.put ((start + k : Nat) : Int) ⟨out.getD k 0, 0#32⟩, touched := (fillN m start out k).touched ||| bit ((start + k : Nat) : Int) }
theorem put_len (b : Bd) (i : Int) (c : Cl) : (b.put i c).l.length = b.l.length := by
  unfold Bd.put; split
  · simp [Bd.set]
  · rfl
theorem fillN_len (m : Mc) (start : Nat) (out : List Int) : ∀ k, (fillN m start out k).bd.l.length = m.bd.l.length
  | 0 => rfl
  | k + 1 => by rw [fillN]; simp only [put_len, fillN_len m start out k]
def rowV (m : Mc) (start many : Nat) : List Int := (List.range many).map fun k => (m.bd.at ((start + k : Nat) : Int)).v
def shuffleF (m : Mc) (start many : Nat) : Mc :=
  fillN { m with dice := (shufL m.dice (many - 1) (rowV m start many)).2 } start (shufL m.dice (many - 1) (rowV m start many)).1 many
end Go.Proofs.Ytcdlipdeemlibaa.G
namespace Go.Proofs.Ytcdlipdeemlibaa.G
open Go
set_option linter.unusedSimpArgs false
set_option linter.unusedVariables false
def w32 (z : Int) : Int := IntKind.i32.wrap z
def b32 (z : Int) : BitVec 32 := BitVec.ofInt 32 z
def sh5 (y : Int) : Nat := (b32 y &&& 31#32).toNat
def computeF (op : Nat) (x y : Int) : Int := match op with
  | 6 => w32 (x + y)
  | 7 => w32 (x - y)
  | 8 => w32 (x * y)
  | 9 => if y = 0 then 0 else w32 (x.tdiv y)
  | 10 => if y = 0 then 0 else x.tmod y
  | 11 => w32 (b32 x &&& b32 y).toNat
  | 12 => w32 (b32 x ||| b32 y).toNat
  | 13 => w32 (b32 x ^^^ b32 y).toNat
  | 14 => w32 (x * 2 ^ sh5 y)
  | 15 => x.fdiv (2 ^ sh5 y)
  | 16 => if x < y then 1 else 0
  | 17 => if x = y then 1 else 0
  | _ => 0
end Go.Proofs.Ytcdlipdeemlibaa.G
namespace Go.Proofs.Ytcdlipdeemlibaa.G
open Go
set_option linter.unusedSimpArgs false
set_option linter.unusedVariables false
set_option maxRecDepth 20000
variable {E : Me} {J : JH} {b : Nat} {sh : IV} {m : Mc}
structure Me.ok (E : Me) : Prop where
  mv : Ls 1 E.mv (E.moves.map (IV.int .i32))
  rng : ∀ v ∈ E.moves, -2147483648 ≤ v ∧ v < 2147483648
  len : E.moves.length ≤ 1000000
def reachF (E : Me) (m : Mc) (x : Cd) : Mc :=
  match x.op with
  | 4 => if (named E m x).2.1 then { m with r := m.r.set x.a (m.bd.at (named E m x).1) } else { m with err := (named E m x).2.2 }
  | 5 => if (named E m x).2.1 then { m with bd := m.bd.put (named E m x).1 (m.r.at x.a), touched := m.touched ||| bit (named E m x).1 } else { m with err := (named E m x).2.2 }
  | 22 => revealF E m x
  | 24 => shuffleF m x.n.toNat x.c
  | _ => m
end Go.Proofs.Ytcdlipdeemlibaa.G
namespace Go.Proofs.Ytcdlipdeemlibaa.G
open Go
set_option linter.unusedSimpArgs false
set_option linter.unusedVariables false
set_option maxRecDepth 20000
set_option maxHeartbeats 2000000
variable {E : Me} {J : JH} {b : Nat} {sh : IV} {m : Mc}
def Mc.go (m : Mc) : Mc := { m with pc := m.pc + 1 }
def followF (E : Me) (m0 : Mc) (x : Cd) : Mc :=
  let m := m0.go
  match x.op with
  | 1 => { m with r := m.r.set x.a ⟨x.n, E.all⟩ }
  | 2 => { m with r := m.r.set x.a (m.bd.at x.n) }
  | 3 => { m with bd := m.bd.put x.n (m.r.at x.a), touched := m.touched ||| bit x.n }
  | 18 => { m with r := m.r.set x.a ⟨if (m.r.at x.a).v = 0 then (m.r.at (x.c % 8)).v else (m.r.at x.b).v, (m.r.at x.a).s &&& (m.r.at x.b).s &&& (m.r.at (x.c % 8)).s⟩ }
  | 19 => if within E.all (m.r.at x.a).s then (if (m.r.at x.a).v = 0 then { m with pc := x.n.toNat } else m) else { m with err := 8 }
  | 20 => { m with pc := x.n.toNat }
  | 21 => { m with r := m.r.set x.a ⟨E.moves.getD x.n.toNat 0, oneM x.n⟩ }
  | 23 => { m with dice := sn m.dice, r := m.r.set x.a ⟨below m.dice x.n, 0#32⟩ }
  | 25 => { m with r := m.r.set x.a ⟨w32 E.tick, E.all⟩ }
  | 4 | 5 | 22 | 24 => reachF E m x
  | op => { m with r := m.r.set x.a ⟨computeF op (m.r.at x.b).v (m.r.at (x.c % 8)).v, (m.r.at x.b).s &&& (m.r.at (x.c % 8)).s⟩ }
structure Fol (E : Me) (b : Nat) (J : JH) (sh : IV) (m : Mc) (x : Cd) (J1 : JH) : Prop where
  at' : MAt E J1 b sh m.go
  upd : Upd b J sh J1 sh
  C : J1[J.size]? = some (IB.cells 0 x.cs false)
  A : J1[J.size + 1]? = some (IB.cells 0 [IV.int .i32 (m.r.at x.a).v, m32 (m.r.at x.a).s] false)
  B : J1[J.size + 2]? = some (IB.cells 0 [IV.int .i32 (m.r.at x.b).v, m32 (m.r.at x.b).s] false)
  Y : J1[J.size + 3]? = some (IB.cells 0 [IV.int .i32 (m.r.at (x.c % 8)).v, m32 (m.r.at (x.c % 8)).s] false)
end Go.Proofs.Ytcdlipdeemlibaa.G
namespace Go.Proofs.Ytcdlipdeemlibaa.G
open Go
set_option linter.unusedSimpArgs false
set_option linter.unusedVariables false
set_option maxRecDepth 20000
set_option maxHeartbeats 2000000
variable {E : Me} {J : JH} {b : Nat} {sh : IV} {m : Mc}
end Go.Proofs.Ytcdlipdeemlibaa.G
namespace Go.Proofs.Ytcdlipdeemlibaa.G
open Go
set_option linter.unusedSimpArgs false
set_option linter.unusedVariables false
set_option maxRecDepth 20000
set_option maxHeartbeats 2000000
variable {E : Me} {J : JH} {b : Nat} {sh : IV} {m : Mc}
end Go.Proofs.Ytcdlipdeemlibaa.G
namespace Go.Proofs.Ytcdlipdeemlibaa.G
open Go
set_option linter.unusedSimpArgs false
set_option linter.unusedVariables false
set_option maxRecDepth 20000
set_option maxHeartbeats 2000000
variable {E : Me} {J : JH} {b : Nat} {sh : IV} {m : Mc}
end Go.Proofs.Ytcdlipdeemlibaa.G
namespace Go.Proofs.Ytcdlipdeemlibaa.G
open Go
set_option linter.unusedSimpArgs false
set_option linter.unusedVariables false
set_option maxRecDepth 20000
set_option maxHeartbeats 2000000
variable {E : Me} {J : JH} {b : Nat} {sh : IV} {m : Mc}
end Go.Proofs.Ytcdlipdeemlibaa.G
namespace Go.Proofs.Ytcdlipdeemlibaa.G
open Go
set_option linter.unusedSimpArgs false
set_option linter.unusedVariables false
set_option maxRecDepth 20000
set_option maxHeartbeats 2000000
variable {E : Me} {J : JH} {b : Nat} {sh : IV} {m : Mc}
end Go.Proofs.Ytcdlipdeemlibaa.G
namespace Go.Proofs.Ytcdlipdeemlibaa.G
open Go
set_option linter.unusedSimpArgs false
set_option linter.unusedVariables false
set_option maxRecDepth 20000
variable {E : Me} {J : JH} {b : Nat} {sh : IV} {m : Mc}
def I32 (v : Int) : Prop := -2147483648 ≤ v ∧ v < 2147483648
def Bd.ok (b : Bd) : Prop := ∀ c ∈ b.l, I32 c.v
theorem Bd.ok_put {b : Bd} (h : b.ok) (i : Int) {c : Cl} (hc : I32 c.v) : (b.put i c).ok := by
  unfold Bd.put; split
  · intro x hx
    rcases List.mem_or_eq_of_mem_set hx with hx | rfl
    · exact h _ hx
    · exact hc
  · exact h
theorem Rg.at_set (r : Rg) {i : Nat} (j : Nat) (c : Cl) (hi : i < 8) : (r.set i c).at j = if j = i then c else r.at j := by
  simp only [Rg.at, Rg.set, List.getD_eq_getElem?_getD, List.getElem?_set, r.h, hi, if_true]
  by_cases h : i = j
  · subst h; simp
  · simp [h, Ne.symm h]
theorem Rg.ok_set {r : Rg} (h : r.ok) {i : Nat} (hi : i < 8) {c : Cl} (hc : I32 c.v) : (r.set i c).ok := by
  intro j hj
  rw [Rg.at_set r j c hi]
  split
  · exact hc
  · exact h j hj
structure Mc.ok (n s : Nat) (m : Mc) : Prop where
  r : m.r.ok
  bd : m.bd.ok
  len : m.bd.l.length = n
  pc : m.pc ≤ s
end Go.Proofs.Ytcdlipdeemlibaa.G
namespace Go.Proofs.Ytcdlipdeemlibaa.G
open Go
set_option linter.unusedSimpArgs false
set_option linter.unusedVariables false
set_option maxRecDepth 20000
variable {E : Me} {m : Mc}
structure Nice (n s : Nat) (m m' : Mc) : Prop where
  ok : m'.ok n s
  shows : m'.shows.length ≤ m.shows.length + 1
  used : m'.used = m.used
theorem Mc.ok.go {n s : Nat} (h : m.ok n s) (hp : m.pc < s) : m.go.ok n s := ⟨h.r, h.bd, h.len, hp⟩
theorem Nice.set {n s : Nat} (h : m.ok n s) {i : Nat} (hi : i < 8) {c : Cl} (hc : I32 c.v) : Nice n s m { m with r := m.r.set i c } := ⟨⟨Rg.ok_set h.r hi hc, h.bd, h.len, h.pc⟩, Nat.le_succ _, rfl⟩
theorem Nice.put {n s : Nat} (h : m.ok n s) (i : Int) {c : Cl} (hc : I32 c.v) (t : BitVec 64) : Nice n s m { m with bd := m.bd.put i c, touched := t } := ⟨⟨h.r, Bd.ok_put h.bd i hc, by rw [put_len]; exact h.len, h.pc⟩, Nat.le_succ _, rfl⟩
theorem Nice.err {n s : Nat} (h : m.ok n s) (e : Nat) : Nice n s m { m with err := e } := ⟨⟨h.r, h.bd, h.len, h.pc⟩, Nat.le_succ _, rfl⟩
theorem Nice.pc {n s : Nat} (h : m.ok n s) {p : Nat} (hp : p ≤ s) : Nice n s m { m with pc := p } := ⟨⟨h.r, h.bd, h.len, hp⟩, Nat.le_succ _, rfl⟩
def loopF (E : Me) (l : List Cd) : Nat → Mc → Mc
  | 0, m => if m.err = 0 ∧ m.pc < l.length then { m with err := 9 } else m
  | k + 1, m => if m.err = 0 ∧ m.pc < l.length then
      (if (l.getD m.pc ⟨0, 0, 0, 0, 0, 0⟩).op = 0 then { m with used := m.used + 1 }
       else loopF E l k (followF E { m with used := m.used + 1 } (l.getD m.pc ⟨0, 0, 0, 0, 0, 0⟩)))
    else m
structure Rs where
  bd : Bd
  dice : Int
  touched : BitVec 64
  shows : List Sh
  used : Nat
  err : Nat
def regs0 (all : BitVec 32) : Rg := ⟨List.replicate 8 ⟨0, all⟩, rfl⟩
def start (E : Me) (bd : Bd) (d : Int) : Mc := ⟨bd, d, 0#64, [], 0, 0, regs0 E.all, 0⟩
end Go.Proofs.Ytcdlipdeemlibaa.G
namespace Go.Proofs.Ytcdlipdeemlibaa.G
open Go
set_option linter.unusedSimpArgs false
set_option linter.unusedVariables false
set_option maxRecDepth 20000
set_option maxHeartbeats 2000000
def Sh.e (s : Sh) : IV := .agg s.c
def resB (r : Rs) (s : IV) : List IV := [.int .u64 r.dice, .int .u64 (r.touched.toNat : Int), s, nI r.used, nI r.err]
def resC (r : Rs) (s : IV) : List IV := bdc r.bd ++ resB r s
def Rs.z : Rs := ⟨Bd.z, 0, 0#64, [], 0, 0⟩
theorem zc_res : List.map IV.sc (reps 48 [Value.int .i32 0, Value.int .u32 0] ++ [Value.int .i64 0, Value.int .u64 0, Value.int .u64 0, Value.slice none 0 0, Value.int .i64 0, Value.int .i64 0]) = resC Rs.z (.sc (.slice none 0 0)) := by
  show _ = bdc Bd.z ++ resB Rs.z (.sc (.slice none 0 0))
  rw [← zc_bd, List.map_append, List.map_append, List.append_assoc]; rfl
theorem rs_len (r s) : (resC r s).length = 102 := by simp [resC, bdc_len, resB]
theorem rs_one (r s) (h : ione s = true) : (resC r s).all ione = true := by
  rw [resC, List.all_append, bdc_one, resB]; simp only [List.all_cons, h]; rfl
theorem rs_take (r s) : (resC r s).take 102 = resC r s := List.take_of_length_le (by rw [rs_len]; exact Nat.le_refl _)
theorem rs_all (r s q t) : isplice (resC r s) 0 (resC q t) = resC q t := by
  simp only [isplice, List.take_zero, List.nil_append, Nat.zero_add]
  rw [List.drop_of_length_le (by rw [rs_len, rs_len]; exact Nat.le_refl _), List.append_nil]
theorem rs_0 (r s) (b : Bd) : isplice (resC r s) 0 (bdc b) = resC { r with bd := b } s := by
  rw [resC, app_sp0 (by rw [bdc_len, bdc_len]; exact Nat.le_refl _), bdc_all]; rfl
theorem rs_97 (r s) (d : Int) : isplice (resC r s) 97 [.int .u64 d] = resC { r with dice := d } s := by rw [resC, app_sp (bdc_len r.bd) 0]; rfl
theorem rs_99 (r s) (d : IV) : isplice (resC r s) 99 [d] = resC r d := by rw [resC, app_sp (bdc_len r.bd) 2]; rfl
theorem rs_100 (r s) (d : Nat) : isplice (resC r s) 100 [nI d] = resC { r with used := d } s := by rw [resC, app_sp (bdc_len r.bd) 3]; rfl
theorem rs_101 (r s) (d : Nat) : isplice (resC r s) 101 [nI d] = resC { r with err := d } s := by rw [resC, app_sp (bdc_len r.bd) 4]; rfl
attribute [go_sem] rs_len rs_take rs_all rs_0 rs_97 rs_99 rs_100 rs_101
attribute [go_sem ↓] zc_res
def mcz : List IV := bdc Bd.z ++ ([.int .u64 0, .int .u64 0, .sc (.slice none 0 0), nI 0, nI 0] ++ (rgc ⟨List.replicate 8 Cl.z, rfl⟩ ++ [nI 0, .sc (.slice none 0 0), .int .u32 0, .int .u32 0, .sc .nilFunc]))
theorem zc_mc : List.map IV.sc (reps 48 [Value.int .i32 0, Value.int .u32 0] ++ (Value.int .i64 0 :: Value.int .u64 0 :: Value.int .u64 0 :: Value.slice none 0 0 :: Value.int .i64 0 :: Value.int .i64 0 :: (reps 8 [Value.int .i32 0, Value.int .u32 0] ++ [Value.int .i64 0, Value.slice none 0 0, Value.int .u32 0, Value.int .u32 0, Value.nilFunc]))) = mcz := by
  rw [mcz, ← zc_bd]
  simp only [List.map_append, List.append_assoc, List.map_cons, List.map_nil, List.cons_append, List.nil_append]
  rfl
attribute [go_sem ↓] zc_mc
end Go.Proofs.Ytcdlipdeemlibaa.G
namespace Go.Proofs.Ytcdlipdeemlibaa.G
open Go
set_option linter.unusedSimpArgs false
set_option linter.unusedVariables false
set_option maxRecDepth 20000
set_option maxHeartbeats 2000000
theorem MAt.res {E : Me} {J : JH} {b : Nat} {sh : IV} {m : Mc} (h : MAt E J b sh m) : (mc E m sh).take 102 = resC ⟨m.bd, m.dice, m.touched, m.shows, m.used, m.err⟩ sh := ld_res E m sh
structure Sur (J : JH) (bd : Bd) (d : Int) (sh : IV) : Prop where
  c0 : J[0]? = some (.cells 0 (bdc bd) false)
  c1 : J[1]? = some (.cells 0 [.int .u64 d] false)
  c2 : J[2]? = some (.cells 0 (resC Rs.z (.sc (.slice none 0 0))) false)
  n0 : 0 ∉ blk sh
  n1 : 1 ∉ blk sh
  n2 : 2 ∉ blk sh
theorem Sur.upd {J J' : JH} {bd : Bd} {d : Int} {sh sh' : IV} (h : Sur J bd d sh) (u : Upd 3 J sh J' sh') : Sur J' bd d sh' :=
  ⟨u.keep h.c0 (by decide) h.n0, u.keep h.c1 (by decide) h.n1, u.keep h.c2 (by decide) h.n2, u.out (lt_get h.c0) h.n0, u.out (lt_get h.c1) h.n1, u.out (lt_get h.c2) h.n2⟩
end Go.Proofs.Ytcdlipdeemlibaa.G
namespace Go.Proofs.Ytcdlipdeemlibaa.G
open Go
set_option linter.unusedSimpArgs false
set_option linter.unusedVariables false
set_option maxRecDepth 20000
set_option maxHeartbeats 2000000
end Go.Proofs.Ytcdlipdeemlibaa.G
namespace Go.Proofs.Ytcdlipdeemlibaa.G
open Go
set_option linter.unusedSimpArgs false
set_option linter.unusedVariables false
set_option maxRecDepth 20000
theorem rl_bd (r s) : (resC r s).take 97 = bdc r.bd := by rw [resC, List.take_append_of_le_length (by rw [bdc_len]; exact Nat.le_refl _), bdc_take]
theorem rl_97 (r s) : ((resC r s).drop 97).take 1 = [.int .u64 r.dice] := by rw [resC, app_ld (bdc_len r.bd) 0]; rfl
theorem rl_98 (r s) : ((resC r s).drop 98).take 1 = [.int .u64 (r.touched.toNat : Int)] := by rw [resC, app_ld (bdc_len r.bd) 1]; rfl
theorem rl_99 (r s) : ((resC r s).drop 99).take 1 = [s] := by rw [resC, app_ld (bdc_len r.bd) 2]; rfl
theorem rl_100 (r s) : ((resC r s).drop 100).take 1 = [nI r.used] := by rw [resC, app_ld (bdc_len r.bd) 3]; rfl
theorem rl_101 (r s) : ((resC r s).drop 101).take 1 = [nI r.err] := by rw [resC, app_ld (bdc_len r.bd) 4]; rfl
theorem rsz_one (r) : (resC r (.sc (.slice none 0 0))).all ione = true := rs_one _ _ rfl
attribute [go_sem] rsz_one rl_bd rl_97 rl_98 rl_99 rl_100 rl_101
end Go.Proofs.Ytcdlipdeemlibaa.G
namespace Go.Proofs.Ytcdlipdeemlibaa.G
open Go
set_option linter.unusedSimpArgs false
set_option linter.unusedVariables false
end Go.Proofs.Ytcdlipdeemlibaa.G
namespace Go.Proofs.Ytcdlipdeemlibaa.G
open Go
set_option linter.unusedSimpArgs false
set_option linter.unusedVariables false
set_option maxRecDepth 20000
theorem fits8 {n : Nat} (h : n ≤ 1000000) : fits n 8 = true := by
  simp only [fits, Bool.and_eq_true, decide_eq_true_eq]; omega
theorem fits12 {n : Nat} (h : n ≤ 1000000) : fits n 12 = true := by
  simp only [fits, Bool.and_eq_true, decide_eq_true_eq]; omega
theorem cl2 (l : List Cl) : ∀ x ∈ l.map Cl.c, x.length = 2 := by
  intro e he
  obtain ⟨y, _, rfl⟩ := List.mem_map.1 he
  rfl
theorem cl_pure (l : List Cl) : ipureL (l.map Cl.c).flatten = true := ipureL_iff.2 fun x hx => by
  obtain ⟨e, he, hx⟩ := List.mem_flatten.1 hx
  obtain ⟨y, _, rfl⟩ := List.mem_map.1 he
  simp [Cl.c] at hx
  rcases hx with rfl | rfl <;> rfl
theorem cl_mk (l : List Cl) : (l.map Cl.c).map (mkE 2) = l.map Cl.e := by rw [List.map_map]; rfl
def i1 (l : List Int) : List (List IV) := l.map fun v => [IV.int .i32 v]
theorem cd6 (l : List Cd) : ∀ x ∈ l.map Cd.cs, x.length = 6 := by
  intro e he
  obtain ⟨y, _, rfl⟩ := List.mem_map.1 he
  rfl
theorem cd_pure (l : List Cd) : ipureL (l.map Cd.cs).flatten = true := ipureL_iff.2 fun x hx => by
  obtain ⟨e, he, hx⟩ := List.mem_flatten.1 hx
  obtain ⟨y, _, rfl⟩ := List.mem_map.1 he
  simp [Cd.cs] at hx
  rcases hx with rfl | rfl | rfl | rfl | rfl | rfl <;> rfl
theorem cd_one (l : List Cd) : (l.map Cd.cs).flatten.all ione = true := by
  rw [List.all_eq_true]
  intro x hx
  obtain ⟨e, he, hx⟩ := List.mem_flatten.1 hx
  obtain ⟨y, _, rfl⟩ := List.mem_map.1 he
  simp [Cd.cs] at hx
  rcases hx with rfl | rfl | rfl | rfl | rfl | rfl <;> rfl
theorem cd_mk (l : List Cd) : (l.map Cd.cs).map (mkE 6) = l.map Cd.e := by rw [List.map_map]; rfl
end Go.Proofs.Ytcdlipdeemlibaa.G
namespace Go.Proofs.Ytcdlipdeemlibaa.G
open Go
set_option linter.unusedSimpArgs false
set_option linter.unusedVariables false
set_option maxRecDepth 20000
set_option maxHeartbeats 2000000
theorem gm_s4 (g : Gm) (x y v : IV) : isplice (gmc g x y) 4 [v] = gmc g v y := rfl
theorem gm_s5 (g : Gm) (x y v : IV) : isplice (gmc g x y) 5 [v] = gmc g x v := rfl
theorem gm_all (g : Gm) (x y : IV) (g2 : Gm) (x2 y2 : IV) : isplice (gmc g x y) 0 (gmc g2 x2 y2) = gmc g2 x2 y2 := rfl
attribute [go_sem] gm_s4 gm_s5 gm_all
theorem Clip.icells {J J' : JH} {s : IV} {sz : Nat} {X : List (List IV)} (h : Clip J J' s sz X) : Go.Proofs.Ytcdlipdeemlibaa.G.icells s = [s] := by
  rcases h with ⟨_, rfl, _⟩ | ⟨_, rfl, _⟩ <;> rfl
theorem Clip.one {J J' : JH} {s : IV} {sz : Nat} {X : List (List IV)} (h : Clip J J' s sz X) : ione s = true := by
  rcases h with ⟨_, rfl, _⟩ | ⟨_, rfl, _⟩ <;> rfl
theorem Clip.frzL {J J' J2 : JH} {s : IV} {sz : Nat} {X : List (List IV)} (h : Clip J J' s sz X) (hf : ∀ d, J.size ≤ d → d < J'.size → J2[d]? = J'[d]?) (hsz : 0 < sz) (hX : ∀ x ∈ X, x.length = sz) (hp : ipureL X.flatten = true) (ho : X.flatten.all ione = true) : ∃ u, (∀ k, Go.Proofs.Ytcdlipdeemlibaa.G.frz J2 (k + 1) s = some u) ∧ Ls sz u (X.map (mkE sz)) := by
  rcases h with ⟨rfl, rfl, rfl⟩ | ⟨hne, rfl, rfl⟩
  · exact ⟨_, fun k => frz_pure _ _ rfl, .lst⟩
  · have hb : J2[J.size]? = some (.cells 0 X.flatten false) := by rw [hf J.size (Nat.le_refl _) (by simp), push_get]
    refine ⟨.lst sz (X.length == UNK + sz && decide (UNK + sz < UNK)) (X.map (mkE sz)), fun k => ?_, .lst⟩
    rw [frz_sl (cs := X.flatten) hsz ?_ hp ho, grp_flat hX]
    simp only [ird, hb, true_and, Nat.zero_add, List.drop_zero]
    rw [if_pos (by rw [flat_len hX]; exact Nat.le_refl _), List.take_of_length_le (by rw [flat_len hX]; exact Nat.le_refl _)]
def Gm.few (g : Gm) : Gm := { g with cells := g.cells.take 55, code := g.code.take 100 }
theorem gfew_ok (g : Gm) (x y : IV) (h : GR g x y) (hb : g.cells.length ≤ 9223372036854775807) (hb2 : g.code.length ≤ 9223372036854775807) :
    ∃ u, pc BI F_law10_few [.agg (gmc g x y)] = some u ∧ ∃ x2 y2, u = .agg (gmc g.few x2 y2) ∧ GR g.few x2 y2 := by
  refine pcW fn_law10_few rfl fun K hK => ?_
  obtain ⟨a, ha, hal⟩ := h.x.slice (h := min g.cells.length 55) (by simp; omega)
  obtain ⟨c, hc, hcl⟩ := h.y.slice (h := min g.code.length 100) (by simp; omega)
  have hm : min (g.cells.length : Int) 55 = ((min g.cells.length 55 : Nat) : Int) := by omega
  have hm2 : min (g.code.length : Int) 100 = ((min g.code.length 100 : Nat) : Int) := by omega
  unfold l_law10_few
  simp -implicitDefEqProofs only [go_sem, dnW_ite, reduceIte, Nat.reduceAdd, Nat.reduceLeDiff, Nat.reduceMul, Nat.reduceEqDiff, Int.reduceLT, Int.reduceLE, Int.reduceToNat, Nat.reduceSub, Nat.reduceLT, Int.reduceEq, BitVec.reduceOfInt, BitVec.reduceOfNat, Int.reduceGT, Int.reduceGE, Int.reduceBEq, Int.reduceBNe, Nat.reduceGT, Nat.reduceBEq, Nat.reduceBNe, Int.reduceAdd, Int.reduceSub, Int.reduceNeg, h.one, h.x.lenF, List.length_map, ipureL, grp, hm, ha]
  have tk : ∀ {α : Type} (l : List α) (n : Nat), l.take (min l.length n) = l.take n := fun l n => by rw [Nat.min_comm, ← List.take_eq_take_min]
  have hal' : Ls 2 a (((g.cells.take 55).map Cl.c).map (mkE 2)) := by
    rw [cl_mk, List.map_take, ← tk, List.length_map]; exact hal
  have hcl' : Ls 6 c (((g.code.take 100).map Cd.cs).map (mkE 6)) := by
    rw [cd_mk, List.map_take, ← tk, List.length_map]; exact hcl
  refine WP_bind (app_clip hal' (by decide) (cl2 _) (flat_one _) (fits8 (by simp; omega))) fun s1 J1 k1 => ?_
  have f1 := k1.fr
  have h0 : J1[0]? = some (.cells 0 (gmc g x y) false) := by rw [f1.2 0 (by simp) (by simp)]; rfl
  have hin := inb h0
  simp -implicitDefEqProofs only [go_sem, dnW_ite, reduceIte, Nat.reduceAdd, Nat.reduceLeDiff, Nat.reduceMul, Nat.reduceEqDiff, Int.reduceLT, Int.reduceLE, Int.reduceToNat, Nat.reduceSub, Nat.reduceLT, Int.reduceEq, BitVec.reduceOfInt, BitVec.reduceOfNat, Int.reduceGT, Int.reduceGE, Int.reduceBEq, Int.reduceBNe, Nat.reduceGT, Nat.reduceBEq, Nat.reduceBNe, Int.reduceAdd, Int.reduceSub, Int.reduceNeg, h0, hin, ↓k1.icells, ↓k1.one, h.y.lenF, List.length_map, hm2, hc, set_get _ (lt_get h0), ipureL, grp]
  have hz1 := f1.1
  have hl0 := lt_get h0
  refine WP_bind (app_clip hcl' (by decide) (cd6 _) (cd_one _) (fits12 (by simp; omega))) fun s2 J2 k2 => ?_
  have f2 := k2.fr
  have h02 : J2[0]? = some (.cells 0 (gmc g s1 y) false) := by rw [f2.2 0 (by simpa using hl0) (by simp)]; exact set_get _ hl0
  have hb1 : J1[1]? = some (.cells 0 (gmc ⟨0, 0, 0#32, 0#32, [], []⟩ (.sc (.slice none 0 0)) (.sc (.slice none 0 0))) false) := by rw [f1.2 1 (by simp) (by simp)]; rfl
  have hb2' : J2[1]? = some (.cells 0 (gmc ⟨0, 0, 0#32, 0#32, [], []⟩ (.sc (.slice none 0 0)) (.sc (.slice none 0 0))) false) := by
    rw [f2.2 1 (by have := lt_get hb1; simpa using this) (by simp), Array.getElem?_setIfInBounds, if_neg (by decide)]; exact hb1
  have hin2 := inb h02
  have ho2 : (gmc g s1 s2).all ione = true := by
    have a1 := k1.one
    have a2 := k2.one
    simp only [gmc, List.all_cons, List.all_nil, a1, a2]; rfl
  have hb3 : (J2.setIfInBounds 0 (.cells 0 (gmc g s1 s2) false))[1]? = some (.cells 0 (gmc ⟨0, 0, 0#32, 0#32, [], []⟩ (.sc (.slice none 0 0)) (.sc (.slice none 0 0))) false) := by
    rw [Array.getElem?_setIfInBounds, if_neg (by decide)]; exact hb2'
  have hl3 := lt_get hb3
  simp -implicitDefEqProofs only [go_sem, dnW_ite, reduceIte, Nat.reduceAdd, Nat.reduceLeDiff, Nat.reduceMul, Nat.reduceEqDiff, Int.reduceLT, Int.reduceLE, Int.reduceToNat, Nat.reduceSub, Nat.reduceLT, Int.reduceEq, BitVec.reduceOfInt, BitVec.reduceOfNat, Int.reduceGT, Int.reduceGE, Int.reduceBEq, Int.reduceBNe, Nat.reduceGT, Nat.reduceBEq, Nat.reduceBNe, Int.reduceAdd, Int.reduceSub, Int.reduceNeg, h02, hin2, ↓k2.icells, ↓k2.one, set_get _ (lt_get h02), hb3, inb hb3, ho2, set_get _ hl3]
  have hsz : (2 : Nat) ≤ J1.size := by simpa using hz1
  obtain ⟨u1, hu1, hl1⟩ := k1.frzL (J2 := (J2.setIfInBounds 0 (.cells 0 (gmc g s1 s2) false)).setIfInBounds 1 (.cells 0 (gmc g s1 s2) false)) (fun d hd hd2 => by
    have hd' : 2 ≤ d := by simpa using hd
    rw [Array.getElem?_setIfInBounds, if_neg (by omega), Array.getElem?_setIfInBounds, if_neg (by omega), f2.2 d (by simpa using hd2) (by simp), Array.getElem?_setIfInBounds, if_neg (by omega)]) (by decide) (cl2 _) (cl_pure _) (flat_one _)
  obtain ⟨u2, hu2, hl2⟩ := k2.frzL (J2 := (J2.setIfInBounds 0 (.cells 0 (gmc g s1 s2) false)).setIfInBounds 1 (.cells 0 (gmc g s1 s2) false)) (fun d hd hd2 => by
    have hd' : 2 ≤ d := by have : J1.size ≤ d := by simpa using hd
                           omega
    rw [Array.getElem?_setIfInBounds, if_neg (by omega), Array.getElem?_setIfInBounds, if_neg (by omega)]) (by decide) (cd6 _) (cd_pure _) (cd_one _)
  rw [cl_mk] at hl1
  rw [cd_mk] at hl2
  generalize (J2.setIfInBounds 0 (.cells 0 (gmc g s1 s2) false)).setIfInBounds 1 (.cells 0 (gmc g s1 s2) false) = JF at *
  have fp : ∀ {v : IV}, ipure v = true → frz JF 11 v = some v := fun h => frz_pure _ _ h
  refine hK _ _ (.agg (gmc g u1 u2)) (frz_aggL (k := 11) ?_) ⟨u1, u2, rfl, hl1, hl2⟩
  simp only [gmc]
  rw [List.mapM_cons, List.mapM_cons, List.mapM_cons, List.mapM_cons, List.mapM_cons, List.mapM_cons, fp (v := .int .i64 g.obs) rfl, fp (v := .int .i64 g.players) rfl, fp (v := m32 g.moves) rfl, fp (v := m32 g.dflt) rfl, hu1 10, hu2 10]
  rfl
end Go.Proofs.Ytcdlipdeemlibaa.G
namespace Go.Proofs.Ytcdlipdeemlibaa.G
open Go
set_option linter.unusedSimpArgs false
set_option linter.unusedVariables false
set_option maxRecDepth 20000
set_option maxHeartbeats 2000000
def rchF (J : JH) (l : List IV) : Option (List Nat) := reach J l
theorem dnW_ocr {ρ : List IV} {J : JH} {f : FuncId} {args : List Operand} {chk} {k : L} : dn BI (oc none (.call f args) .raw chk k) ρ J = thenC (ic BI f (args.map (evI ρ)) J) J chk (rchF J (args.map (evI ρ))) ρ k := by
  rw [dnW_oc, step_chk]
  have h : iexec BI (ic BI) .raw ρ (.call f args) J = ic BI f (args.map (evI ρ)) J := rfl
  have ht : itouch BI .raw ρ (.call f args) J = rchF J (args.map (evI ρ)) := rfl
  rw [h, ht]
  unfold thenC
  generalize ic BI f (args.map (evI ρ)) J = r
  cases r with
  | none => rfl
  | some q =>
    by_cases hh : chk.all (ichk J q.2 (rchF J (args.map (evI ρ))) ρ) = true
    · simp only [hh, if_true]; rfl
    · simp only [hh]; rfl
theorem PenAt.reach {J : JH} {b : Nat} {s y : IV} {l : List Byt} (h : PenAt J b s l) (hy : irefs y = []) : rchF J [.ptr b 0 0, y] = some (b :: blk s) := by
  obtain ⟨hb, hbs, hg⟩ := h
  rcases hg with ⟨rfl, h0⟩ | ⟨c, v, n, full, rfl, h1, h2, h3, h4⟩
  · have hr : refsB J b = [] := by simp [refsB, hb, irefsL, irefs]
    have key : ∀ k, reachN J (k + 1) [b] = [b] := fun k => by simp [reachN, hr]
    have h40 := key 39
    simp only [rchF, Go.Proofs.Ytcdlipdeemlibaa.G.reach, irefsL, irefs, hy, List.append_nil, h40]
    simp [hr, blk, blkOf]
  · have hbc : b ≠ c := fun h => hbs (by simp [blk, blkOf, h])
    have hr : refsB J b = [c] := by simp [refsB, hb, irefsL, irefs]
    have hf : irefsL full = [] := by
      rw [← List.take_append_drop (n * 1) full, irefsL_append, h3, h4, irefsL_pure _ by8_pure]; rfl
    have hc : refsB J c = [] := by simp [refsB, h1, hf]
    have hcb : c ≠ b := fun h => hbc h.symm
    have key : ∀ k, reachN J (k + 1 + 1) [b] = [b, c] := fun k => by
      have hd : List.eraseDupsBy (fun x1 x2 : Nat => x1 == x2) [c] = [c] := by simp [List.eraseDupsBy, List.eraseDupsBy.loop]
      have hd0 : List.eraseDupsBy (fun x1 x2 : Nat => x1 == x2) [] = [] := by simp [List.eraseDupsBy, List.eraseDupsBy.loop]
      simp [reachN, hr, hc, hcb, hbc, List.eraseDups, hd, hd0]
    have h40 := key 38
    simp only [rchF, Go.Proofs.Ytcdlipdeemlibaa.G.reach, irefsL, irefs, hy, List.append_nil, h40]
    simp [hr, hc, blk, blkOf]
section
variable {ρ : List IV} {J : JH} {chk : List (Option (Operand × Bool) × SOp)} {k : L} {b : Nat} {s : IV} {l : List Byt} {P : Out IV → JH → Prop}
theorem WP_penB {x : Byt} (h : PenAt J b s l) (hb : l.length + 1 ≤ 1000000) (hc : ∀ J', chk.all (ichk J J' (some (b :: blk s)) ρ) = true) (hk : ∀ J' s', PenAt J' b s' (l ++ [x]) → Upd b J s J' s' → WP (dn BI k (ρ ++ [.ptr b 0 0]) J') P) : WP (thenC (ic BI F_ink_Pen_Byte [.ptr b 0 0, by8 x] J) J chk (rchF J [.ptr b 0 0, by8 x]) ρ k) P := by
  rw [h.reach rfl]
  refine WP_bindC (PByte_ok J b s l x h hb) fun v J' hv => ⟨hc J', ?_⟩
  obtain ⟨rfl, s', h', u'⟩ := hv
  exact hk J' s' h' u'
theorem WP_penW {w : BitVec 32} (h : PenAt J b s l) (hb : l.length + 4 ≤ 1000000) (hc : ∀ J', chk.all (ichk J J' (some (b :: blk s)) ρ) = true) (hk : ∀ J' s', PenAt J' b s' (l ++ leW w) → Upd b J s J' s' → WP (dn BI k (ρ ++ [.ptr b 0 0]) J') P) : WP (thenC (ic BI F_ink_Pen_Word [.ptr b 0 0, m32 w] J) J chk (rchF J [.ptr b 0 0, m32 w]) ρ k) P := by
  rw [h.reach rfl]
  refine WP_bindC (Word_ok J b s l w h hb) fun v J' hv => ⟨hc J', ?_⟩
  obtain ⟨rfl, s', h', u'⟩ := hv
  exact hk J' s' h' u'
end
def Bes (J : JH) (d : Nat) (cs : List IV) (b : Nat) (s : IV) : Prop := J[d]? = some (.cells 0 cs false) ∧ d ≠ b ∧ d ∉ blk s
theorem Bes.upd {J J' : JH} {d b : Nat} {cs : List IV} {s s' : IV} (h : Bes J d cs b s) (u : Upd b J s J' s') : Bes J' d cs b s' := by
  obtain ⟨h1, h2, h3⟩ := h
  refine ⟨by rw [u.1.2 d (lt_get h1) (by simp [h2, h3])]; exact h1, h2, fun hm => ?_⟩
  rcases u.2 d hm with hm | hm
  · exact h3 hm
  · have := lt_get h1; omega
theorem Bes.no {J : JH} {d b : Nat} {cs : List IV} {s : IV} (h : Bes J d cs b s) : (b :: blk s).contains d = false := by
  simp [h.2.1, h.2.2]
theorem PenAt.fr {J J' : JH} {b : Nat} {s : IV} {l : List Byt} {S : List Nat} (h : PenAt J b s l) (hf : Fr J J' S) (hb : b ∉ S) (hs : ∀ c ∈ blk s, c ∉ S) : PenAt J' b s l :=
  ⟨by rw [hf.2 b (lt_get h.1) hb]; exact h.1, h.2.1, h.2.2.fr hf hs⟩
theorem PenAt.psh {J : JH} {b : Nat} {s : IV} {l : List Byt} (h : PenAt J b s l) (X : IB) : PenAt (J.push X) b s l := h.fr (.push _ _ []) (by simp) (by simp)
theorem PenAt.lo {J : JH} {b : Nat} {s : IV} {l : List Byt} (h : PenAt J b s l) : ∀ c ∈ b :: blk s, c < J.size := fun c hc => by
  rcases List.mem_cons.1 hc with rfl | hc
  · exact lt_get h.1
  · exact h.2.2.low c hc
theorem PenAt.bes {J : JH} {b : Nat} {s : IV} {l : List Byt} (h : PenAt J b s l) (cs : List IV) : Bes (J.push (.cells 0 cs false)) J.size cs b s :=
  ⟨push_get _ _, fun e => by have := h.lo b (by simp); omega, fun hm => by have := h.lo _ (List.mem_cons_of_mem b hm); omega⟩
def nB (n : Nat) : Byt := BitVec.ofNat 8 n
def iW (n : Int) : BitVec 32 := BitVec.ofInt 32 n
theorem nB_by8 {n : Nat} (h : n < 256) : (IV.int .u8 (n : Int)) = by8 (nB n) := by
  show _ = IV.int .u8 ((BitVec.ofNat 8 n).toNat : Int)
  rw [ofNat8 h]
theorem iW_m32 (n : Int) : IV.int .u32 (IntKind.u32.wrap n) = m32 (iW n) := by
  show _ = IV.int .u32 ((BitVec.ofInt 32 n).toNat : Int)
  congr 1
  simp only [IntKind.wrap, IntKind.bits, IntKind.signed, BitVec.toNat_ofInt]; simp
  omega
def cdB (c : Cd) : List Byt := [nB c.op, nB c.a, nB c.b, nB c.c] ++ leW (iW c.n) ++ leW c.mask
def codeB (l : List Cd) : List Byt := numL 9 l.length ++ l.flatMap cdB
theorem cdB_len (c : Cd) : (cdB c).length = 12 := by simp [cdB, leW4]
theorem codeB_len (l : List Cd) : (l.flatMap cdB).length = 12 * l.length := by
  induction l with
  | nil => rfl
  | cons a l ih => rw [List.flatMap_cons, List.length_append, cdB_len, ih, List.length_cons]; omega
theorem CBytes_ok {x : IV} {l : List Cd} (hx : Ls 6 x (l.map Cd.e)) (hw : ∀ c ∈ l, c.wf) (hb : l.length ≤ 96) : ∃ u, pc BI F_code_Bytes [x] = some u ∧ Ls 1 u ((codeB l).map by8) := by
  refine pcW fn_code_Bytes rfl fun K hK => ?_
  have hnl := numL_len 9 l.length
  have hw0 : IntKind.u64.wrap (l.length : Int) = (l.length : Int) := wrap_u64 (by omega) (by omega)
  unfold l_code_Bytes
  simp -implicitDefEqProofs only [go_sem, dnW_ite, reduceIte, Nat.reduceAdd, Nat.reduceLeDiff, Nat.reduceMul, Nat.reduceEqDiff, Int.reduceLT, Int.reduceLE, Int.reduceToNat, Nat.reduceSub, Nat.reduceLT, Int.reduceEq, BitVec.reduceOfInt, BitVec.reduceOfNat, Int.reduceGT, Int.reduceGE, Int.reduceBEq, Int.reduceBNe, Nat.reduceGT, Nat.reduceBEq, Nat.reduceBNe, Int.reduceAdd, Int.reduceSub, Int.reduceNeg, hx.lenF, List.length_map, show ¬ ((l.length : Int) > 96) by omega, hw0]
  refine WP_call (PNum_ok 0 l.length (by omega) _ (.sc (.slice none 0 0)) [] ⟨rfl, by simp [blk, blkOf], .nil⟩ (by simp)) fun v J hv => ?_
  obtain ⟨rfl, s, h, u⟩ := hv
  rw [List.nil_append] at h
  simp -implicitDefEqProofs only [go_sem, dnW_ite, reduceIte, Nat.reduceAdd, Nat.reduceLeDiff, Nat.reduceMul, Nat.reduceEqDiff, Int.reduceLT, Int.reduceLE, Int.reduceToNat, Nat.reduceSub, Nat.reduceLT, Int.reduceEq, BitVec.reduceOfInt, BitVec.reduceOfNat, Int.reduceGT, Int.reduceGE, Int.reduceBEq, Int.reduceBNe, Nat.reduceGT, Nat.reduceBEq, Nat.reduceBNe, Int.reduceAdd, Int.reduceSub, Int.reduceNeg, hx.lenF, List.length_map, dn_loop]
  refine WP_range (by decide) l.length (fun i vs J => ∃ s, vs = [.ptr 0 0 0, x, nI l.length, nI i] ∧ PenAt J 0 s (numL 9 l.length ++ (l.take i).flatMap cdB)) ?_ ⟨s, rfl, by simpa using h⟩
  rintro i vs J ⟨s, rfl, h⟩ hi K1 g1 g2 g3
  unfold l_code_Bytes_k0
  by_cases h2 : i < l.length
  · have hat := fun J => hx.at (i := i) (by simpa using h2) (J := J)
    simp only [List.getElem_map, Cd.e, Cd.cs] at hat
    have hw1 := wrapS h2 (show l.length ≤ 9223372036854775807 by omega)
    have hc := hw l[i] (List.getElem_mem h2)
    simp -implicitDefEqProofs only [go_sem, dnW_ite, reduceIte, Nat.reduceAdd, Nat.reduceLeDiff, Nat.reduceMul, Nat.reduceEqDiff, Int.reduceLT, Int.reduceLE, Int.reduceToNat, Nat.reduceSub, Nat.reduceLT, Int.reduceEq, BitVec.reduceOfInt, BitVec.reduceOfNat, Int.reduceGT, Int.reduceGE, Int.reduceBEq, Int.reduceBNe, Nat.reduceGT, Nat.reduceBEq, Nat.reduceBNe, Int.reduceAdd, Int.reduceSub, Int.reduceNeg, show ((i : Int) < (l.length : Int)) by omega, hat, ↓dnW_ocr, inb h.1, nB_by8 hc.op, nB_by8 hc.a, nB_by8 hc.b, nB_by8 hc.c, iW_m32]
    have hp := h.psh (.cells 0 [by8 (nB l[i].op), by8 (nB l[i].a), by8 (nB l[i].b), by8 (nB l[i].c), IV.int IntKind.i32 l[i].n, m32 l[i].mask] false)
    have hB := h.bes [by8 (nB l[i].op), by8 (nB l[i].a), by8 (nB l[i].b), by8 (nB l[i].c), IV.int IntKind.i32 l[i].n, m32 l[i].mask]
    have hL : (numL 9 l.length ++ (l.take i).flatMap cdB).length ≤ 2000 := by
      rw [List.length_append, codeB_len, List.length_take]; omega
    have hnext : numL 9 l.length ++ (l.take (i + 1)).flatMap cdB = numL 9 l.length ++ (l.take i).flatMap cdB ++ [nB l[i].op] ++ [nB l[i].a] ++ [nB l[i].b] ++ [nB l[i].c] ++ leW (iW l[i].n) ++ leW l[i].mask := by
      rw [List.take_succ_eq_append_getElem h2, List.flatMap_append]
      simp [cdB]
    generalize numL 9 l.length ++ (l.take i).flatMap cdB = L at *
    generalize hJ1 : J.push (IB.cells 0 [by8 (nB l[i].op), by8 (nB l[i].a), by8 (nB l[i].b), by8 (nB l[i].c), IV.int IntKind.i32 l[i].n, m32 l[i].mask] false) = J1 at *
    generalize J.size = d at *
    refine WP_penB hp (by omega) (fun J' => by simp -implicitDefEqProofs only [go_sem, dnW_ite, reduceIte, Nat.reduceAdd, Nat.reduceLeDiff, Nat.reduceMul, Nat.reduceEqDiff, Int.reduceLT, Int.reduceLE, Int.reduceToNat, Nat.reduceSub, Nat.reduceLT, Int.reduceEq, BitVec.reduceOfInt, BitVec.reduceOfNat, Int.reduceGT, Int.reduceGE, Int.reduceBEq, Int.reduceBNe, Nat.reduceGT, Nat.reduceBEq, Nat.reduceBNe, Int.reduceAdd, Int.reduceSub, Int.reduceNeg, hB.1, hB.no]) fun J2 s2 p2 u2 => ?_
    have hB := hB.upd u2
    simp -implicitDefEqProofs only [go_sem, dnW_ite, reduceIte, Nat.reduceAdd, Nat.reduceLeDiff, Nat.reduceMul, Nat.reduceEqDiff, Int.reduceLT, Int.reduceLE, Int.reduceToNat, Nat.reduceSub, Nat.reduceLT, Int.reduceEq, BitVec.reduceOfInt, BitVec.reduceOfNat, Int.reduceGT, Int.reduceGE, Int.reduceBEq, Int.reduceBNe, Nat.reduceGT, Nat.reduceBEq, Nat.reduceBNe, Int.reduceAdd, Int.reduceSub, Int.reduceNeg, ↓dnW_ocr]
    refine WP_penB p2 (by simp; omega) (fun J' => by simp -implicitDefEqProofs only [go_sem, dnW_ite, reduceIte, Nat.reduceAdd, Nat.reduceLeDiff, Nat.reduceMul, Nat.reduceEqDiff, Int.reduceLT, Int.reduceLE, Int.reduceToNat, Nat.reduceSub, Nat.reduceLT, Int.reduceEq, BitVec.reduceOfInt, BitVec.reduceOfNat, Int.reduceGT, Int.reduceGE, Int.reduceBEq, Int.reduceBNe, Nat.reduceGT, Nat.reduceBEq, Nat.reduceBNe, Int.reduceAdd, Int.reduceSub, Int.reduceNeg, hB.1, hB.no]) fun J3 s3 p3 u3 => ?_
    have hB := hB.upd u3
    simp -implicitDefEqProofs only [go_sem, dnW_ite, reduceIte, Nat.reduceAdd, Nat.reduceLeDiff, Nat.reduceMul, Nat.reduceEqDiff, Int.reduceLT, Int.reduceLE, Int.reduceToNat, Nat.reduceSub, Nat.reduceLT, Int.reduceEq, BitVec.reduceOfInt, BitVec.reduceOfNat, Int.reduceGT, Int.reduceGE, Int.reduceBEq, Int.reduceBNe, Nat.reduceGT, Nat.reduceBEq, Nat.reduceBNe, Int.reduceAdd, Int.reduceSub, Int.reduceNeg, ↓dnW_ocr]
    refine WP_penB p3 (by simp; omega) (fun J' => by simp -implicitDefEqProofs only [go_sem, dnW_ite, reduceIte, Nat.reduceAdd, Nat.reduceLeDiff, Nat.reduceMul, Nat.reduceEqDiff, Int.reduceLT, Int.reduceLE, Int.reduceToNat, Nat.reduceSub, Nat.reduceLT, Int.reduceEq, BitVec.reduceOfInt, BitVec.reduceOfNat, Int.reduceGT, Int.reduceGE, Int.reduceBEq, Int.reduceBNe, Nat.reduceGT, Nat.reduceBEq, Nat.reduceBNe, Int.reduceAdd, Int.reduceSub, Int.reduceNeg, hB.1, hB.no]) fun J4 s4 p4 u4 => ?_
    have hB := hB.upd u4
    simp -implicitDefEqProofs only [go_sem, dnW_ite, reduceIte, Nat.reduceAdd, Nat.reduceLeDiff, Nat.reduceMul, Nat.reduceEqDiff, Int.reduceLT, Int.reduceLE, Int.reduceToNat, Nat.reduceSub, Nat.reduceLT, Int.reduceEq, BitVec.reduceOfInt, BitVec.reduceOfNat, Int.reduceGT, Int.reduceGE, Int.reduceBEq, Int.reduceBNe, Nat.reduceGT, Nat.reduceBEq, Nat.reduceBNe, Int.reduceAdd, Int.reduceSub, Int.reduceNeg, ↓dnW_ocr]
    refine WP_penB p4 (by simp; omega) (fun J' => by simp -implicitDefEqProofs only [go_sem, dnW_ite, reduceIte, Nat.reduceAdd, Nat.reduceLeDiff, Nat.reduceMul, Nat.reduceEqDiff, Int.reduceLT, Int.reduceLE, Int.reduceToNat, Nat.reduceSub, Nat.reduceLT, Int.reduceEq, BitVec.reduceOfInt, BitVec.reduceOfNat, Int.reduceGT, Int.reduceGE, Int.reduceBEq, Int.reduceBNe, Nat.reduceGT, Nat.reduceBEq, Nat.reduceBNe, Int.reduceAdd, Int.reduceSub, Int.reduceNeg, hB.1, hB.no]) fun J5 s5 p5 u5 => ?_
    have hB := hB.upd u5
    simp -implicitDefEqProofs only [go_sem, dnW_ite, reduceIte, Nat.reduceAdd, Nat.reduceLeDiff, Nat.reduceMul, Nat.reduceEqDiff, Int.reduceLT, Int.reduceLE, Int.reduceToNat, Nat.reduceSub, Nat.reduceLT, Int.reduceEq, BitVec.reduceOfInt, BitVec.reduceOfNat, Int.reduceGT, Int.reduceGE, Int.reduceBEq, Int.reduceBNe, Nat.reduceGT, Nat.reduceBEq, Nat.reduceBNe, Int.reduceAdd, Int.reduceSub, Int.reduceNeg, ↓dnW_ocr]
    refine WP_penW p5 (by simp; omega) (fun J' => by simp -implicitDefEqProofs only [go_sem, dnW_ite, reduceIte, Nat.reduceAdd, Nat.reduceLeDiff, Nat.reduceMul, Nat.reduceEqDiff, Int.reduceLT, Int.reduceLE, Int.reduceToNat, Nat.reduceSub, Nat.reduceLT, Int.reduceEq, BitVec.reduceOfInt, BitVec.reduceOfNat, Int.reduceGT, Int.reduceGE, Int.reduceBEq, Int.reduceBNe, Nat.reduceGT, Nat.reduceBEq, Nat.reduceBNe, Int.reduceAdd, Int.reduceSub, Int.reduceNeg, hB.1, hB.no]) fun J6 s6 p6 u6 => ?_
    have hl4 : ∀ w, (leW w).length = 4 := fun w => by rw [leW4]; rfl
    simp -implicitDefEqProofs only [go_sem, dnW_ite, reduceIte, Nat.reduceAdd, Nat.reduceLeDiff, Nat.reduceMul, Nat.reduceEqDiff, Int.reduceLT, Int.reduceLE, Int.reduceToNat, Nat.reduceSub, Nat.reduceLT, Int.reduceEq, BitVec.reduceOfInt, BitVec.reduceOfNat, Int.reduceGT, Int.reduceGE, Int.reduceBEq, Int.reduceBNe, Nat.reduceGT, Nat.reduceBEq, Nat.reduceBNe, Int.reduceAdd, Int.reduceSub, Int.reduceNeg]
    refine WP_call (Word_ok J6 0 s6 _ _ p6 (by simp [hl4]; omega)) fun v J7 hv => ?_
    obtain ⟨rfl, s7, p7, u7⟩ := hv
    simp -implicitDefEqProofs only [go_sem, dnW_ite, reduceIte, Nat.reduceAdd, Nat.reduceLeDiff, Nat.reduceMul, Nat.reduceEqDiff, Int.reduceLT, Int.reduceLE, Int.reduceToNat, Nat.reduceSub, Nat.reduceLT, Int.reduceEq, BitVec.reduceOfInt, BitVec.reduceOfNat, Int.reduceGT, Int.reduceGE, Int.reduceBEq, Int.reduceBNe, Nat.reduceGT, Nat.reduceBEq, Nat.reduceBNe, Int.reduceAdd, Int.reduceSub, Int.reduceNeg, hw1]
    refine g1 h2 _ _ ⟨s7, rfl, ?_⟩
    rw [hnext]
    exact p7
  · simp -implicitDefEqProofs only [go_sem, dnW_ite, reduceIte, Nat.reduceAdd, Nat.reduceLeDiff, Nat.reduceMul, Nat.reduceEqDiff, Int.reduceLT, Int.reduceLE, Int.reduceToNat, Nat.reduceSub, Nat.reduceLT, Int.reduceEq, BitVec.reduceOfInt, BitVec.reduceOfNat, Int.reduceGT, Int.reduceGE, Int.reduceBEq, Int.reduceBNe, Nat.reduceGT, Nat.reduceBEq, Nat.reduceBNe, Int.reduceAdd, Int.reduceSub, Int.reduceNeg, show ¬ ((i : Int) < (l.length : Int)) by omega]
    refine g2 _ _ ?_
    rw [List.take_of_length_le (by omega)] at h
    have hL := codeB_len l
    unfold l_code_Bytes_k1
    simp -implicitDefEqProofs only [go_sem, dnW_ite, reduceIte, Nat.reduceAdd, Nat.reduceLeDiff, Nat.reduceMul, Nat.reduceEqDiff, Int.reduceLT, Int.reduceLE, Int.reduceToNat, Nat.reduceSub, Nat.reduceLT, Int.reduceEq, BitVec.reduceOfInt, BitVec.reduceOfNat, Int.reduceGT, Int.reduceGE, Int.reduceBEq, Int.reduceBNe, Nat.reduceGT, Nat.reduceBEq, Nat.reduceBNe, Int.reduceAdd, Int.reduceSub, Int.reduceNeg]
    refine WP_call (PBytes_ok J 0 s _ h (by rw [List.length_append, hL]; omega)) fun v J2 hv => ?_
    simp -implicitDefEqProofs only [go_sem, dnW_ite, reduceIte, Nat.reduceAdd, Nat.reduceLeDiff, Nat.reduceMul, Nat.reduceEqDiff, Int.reduceLT, Int.reduceLE, Int.reduceToNat, Nat.reduceSub, Nat.reduceLT, Int.reduceEq, BitVec.reduceOfInt, BitVec.reduceOfNat, Int.reduceGT, Int.reduceGE, Int.reduceBEq, Int.reduceBNe, Nat.reduceGT, Nat.reduceBEq, Nat.reduceBNe, Int.reduceAdd, Int.reduceSub, Int.reduceNeg]
    exact hK _ _ _ (frzP (by simpa [itup] using hv.pure)) hv
end Go.Proofs.Ytcdlipdeemlibaa.G
namespace Go.Proofs.Ytcdlipdeemlibaa.G
open Go
set_option linter.unusedSimpArgs false
set_option linter.unusedVariables false
set_option maxRecDepth 20000
set_option maxHeartbeats 2000000
def clB (c : Cl) : List Byt := leW (iW c.v) ++ leW c.s
def gameB (g : Gm) : List Byt := [nB g.obs.toNat] ++ [nB g.players.toNat] ++ leW g.moves ++ leW g.dflt ++ [nB g.cells.length] ++ g.cells.flatMap clB ++ numL 9 (codeB g.code).length ++ codeB g.code
theorem clB_len (l : List Cl) : (l.flatMap clB).length = 8 * l.length := by
  induction l with
  | nil => rfl
  | cons a l ih => rw [List.flatMap_cons, List.length_append, clB, List.length_append, leW_len, leW_len, ih, List.length_cons]; omega
theorem right_fits {g : Gm} (h : g.right = true) : (1 ≤ g.obs ∧ g.obs ≤ 32) ∧ (1 ≤ g.players ∧ g.players ≤ 6) ∧ g.cells.length ≤ 48 ∧ g.code.length ≤ 96 := by
  simp only [Gm.right, Bool.and_eq_true, decide_eq_true_eq] at h
  obtain ⟨⟨⟨⟨⟨h1, h2⟩, h3⟩, h4⟩, h5⟩, h6⟩ := h
  refine ⟨h1, ⟨h2.1, h2.2.1⟩, h4, ?_⟩
  simp only [rightL, Bool.and_eq_true, decide_eq_true_eq] at h6
  omega
theorem nB_i {n : Int} (h0 : 0 ≤ n) (h : n < 256) : IV.int .u8 (IntKind.u8.wrap n) = by8 (nB n.toNat) := by
  rw [← nB_by8 (by omega)]
  congr 1
  simp only [IntKind.wrap, IntKind.bits, IntKind.signed]; simp; omega
theorem GBytes0_ok (g : Gm) (x y : IV) (h : GR g x y) (hw : ∀ c ∈ g.code, c.wf) (hb : g.code.length ≤ 9223372036854775807) (hr : g.right = false) : pc BI F_rules_Game_Bytes [.agg (gmc g x y)] = some (.sc (.slice none 0 0)) := by
  refine pcE fn_rules_Game_Bytes rfl fun K hK => ?_
  have hg := gRight_ok g x y h hw hb
  unfold l_rules_Game_Bytes
  simp -implicitDefEqProofs only [go_sem, dnW_ite, reduceIte, Nat.reduceAdd, Nat.reduceLeDiff, Nat.reduceMul, Nat.reduceEqDiff, Int.reduceLT, Int.reduceLE, Int.reduceToNat, Nat.reduceSub, Nat.reduceLT, Int.reduceEq, BitVec.reduceOfInt, BitVec.reduceOfNat, Int.reduceGT, Int.reduceGE, Int.reduceBEq, Int.reduceBNe, Nat.reduceGT, Nat.reduceBEq, Nat.reduceBNe, Int.reduceAdd, Int.reduceSub, Int.reduceNeg, h.one, dcp hg (by simp [ipureL, ipure, h.pure]), hr]
  exact hK [_] _ (frzE rfl rfl)
theorem GBytes_ok (g : Gm) (x y : IV) (h : GR g x y) (hw : ∀ c ∈ g.code, c.wf) (hr : g.right = true) : ∃ u, pc BI F_rules_Game_Bytes [.agg (gmc g x y)] = some u ∧ Ls 1 u ((gameB g).map by8) := by
  refine pcW fn_rules_Game_Bytes rfl fun K hK => ?_
  obtain ⟨⟨ho0, ho1⟩, ⟨hp0, hp1⟩, hc, hd⟩ := right_fits hr
  have hg := gRight_ok g x y h hw (by omega)
  obtain ⟨cb, hcb, hcl⟩ := CBytes_ok h.y hw hd
  have hnl := numL_len 9 g.code.length
  have hcbl : (codeB g.code).length ≤ 1200 := by rw [codeB, List.length_append, codeB_len]; omega
  unfold l_rules_Game_Bytes
  simp -implicitDefEqProofs only [go_sem, dnW_ite, reduceIte, Nat.reduceAdd, Nat.reduceLeDiff, Nat.reduceMul, Nat.reduceEqDiff, Int.reduceLT, Int.reduceLE, Int.reduceToNat, Nat.reduceSub, Nat.reduceLT, Int.reduceEq, BitVec.reduceOfInt, BitVec.reduceOfNat, Int.reduceGT, Int.reduceGE, Int.reduceBEq, Int.reduceBNe, Nat.reduceGT, Nat.reduceBEq, Nat.reduceBNe, Int.reduceAdd, Int.reduceSub, Int.reduceNeg, h.one, dcp hg (by simp [ipureL, ipure, h.pure]), hr, ↓dnW_ocr, h.x.lenF, List.length_map, nB_i (show 0 ≤ g.obs by omega) (show g.obs < 256 by omega), nB_i (show 0 ≤ g.players by omega) (show g.players < 256 by omega), nB_i (show (0 : Int) ≤ (g.cells.length : Int) by omega) (show (g.cells.length : Int) < 256 by omega), Int.toNat_natCast]
  refine WP_penB (s := .sc (.slice none 0 0)) (l := []) (b := 1) ⟨rfl, by simp [blk, blkOf], .nil⟩ (by simp) (fun J' => by simp -implicitDefEqProofs only [go_sem, dnW_ite, reduceIte, Nat.reduceAdd, Nat.reduceLeDiff, Nat.reduceMul, Nat.reduceEqDiff, Int.reduceLT, Int.reduceLE, Int.reduceToNat, Nat.reduceSub, Nat.reduceLT, Int.reduceEq, BitVec.reduceOfInt, BitVec.reduceOfNat, Int.reduceGT, Int.reduceGE, Int.reduceBEq, Int.reduceBNe, Nat.reduceGT, Nat.reduceBEq, Nat.reduceBNe, Int.reduceAdd, Int.reduceSub, Int.reduceNeg, blk, blkOf, Option.getD_some]) fun J2 s2 p2 u2 => ?_
  have hB := (show Bes #[IB.cells 0 (gmc g x y) false, IB.cells 0 [.sc (.slice none 0 0)] false] 0 (gmc g x y) 1 (.sc (.slice none 0 0)) from ⟨rfl, by decide, by simp [blk, blkOf]⟩).upd u2
  simp -implicitDefEqProofs only [go_sem, dnW_ite, reduceIte, Nat.reduceAdd, Nat.reduceLeDiff, Nat.reduceMul, Nat.reduceEqDiff, Int.reduceLT, Int.reduceLE, Int.reduceToNat, Nat.reduceSub, Nat.reduceLT, Int.reduceEq, BitVec.reduceOfInt, BitVec.reduceOfNat, Int.reduceGT, Int.reduceGE, Int.reduceBEq, Int.reduceBNe, Nat.reduceGT, Nat.reduceBEq, Nat.reduceBNe, Int.reduceAdd, Int.reduceSub, Int.reduceNeg, ↓dnW_ocr]
  refine WP_penB p2 (by simp) (fun J' => by simp -implicitDefEqProofs only [go_sem, dnW_ite, reduceIte, Nat.reduceAdd, Nat.reduceLeDiff, Nat.reduceMul, Nat.reduceEqDiff, Int.reduceLT, Int.reduceLE, Int.reduceToNat, Nat.reduceSub, Nat.reduceLT, Int.reduceEq, BitVec.reduceOfInt, BitVec.reduceOfNat, Int.reduceGT, Int.reduceGE, Int.reduceBEq, Int.reduceBNe, Nat.reduceGT, Nat.reduceBEq, Nat.reduceBNe, Int.reduceAdd, Int.reduceSub, Int.reduceNeg, hB.1, hB.no]) fun J3 s3 p3 u3 => ?_
  have hB := hB.upd u3
  simp -implicitDefEqProofs only [go_sem, dnW_ite, reduceIte, Nat.reduceAdd, Nat.reduceLeDiff, Nat.reduceMul, Nat.reduceEqDiff, Int.reduceLT, Int.reduceLE, Int.reduceToNat, Nat.reduceSub, Nat.reduceLT, Int.reduceEq, BitVec.reduceOfInt, BitVec.reduceOfNat, Int.reduceGT, Int.reduceGE, Int.reduceBEq, Int.reduceBNe, Nat.reduceGT, Nat.reduceBEq, Nat.reduceBNe, Int.reduceAdd, Int.reduceSub, Int.reduceNeg, ↓dnW_ocr]
  refine WP_penW p3 (by simp) (fun J' => by simp -implicitDefEqProofs only [go_sem, dnW_ite, reduceIte, Nat.reduceAdd, Nat.reduceLeDiff, Nat.reduceMul, Nat.reduceEqDiff, Int.reduceLT, Int.reduceLE, Int.reduceToNat, Nat.reduceSub, Nat.reduceLT, Int.reduceEq, BitVec.reduceOfInt, BitVec.reduceOfNat, Int.reduceGT, Int.reduceGE, Int.reduceBEq, Int.reduceBNe, Nat.reduceGT, Nat.reduceBEq, Nat.reduceBNe, Int.reduceAdd, Int.reduceSub, Int.reduceNeg, hB.1, hB.no]) fun J4 s4 p4 u4 => ?_
  have hB := hB.upd u4
  simp -implicitDefEqProofs only [go_sem, dnW_ite, reduceIte, Nat.reduceAdd, Nat.reduceLeDiff, Nat.reduceMul, Nat.reduceEqDiff, Int.reduceLT, Int.reduceLE, Int.reduceToNat, Nat.reduceSub, Nat.reduceLT, Int.reduceEq, BitVec.reduceOfInt, BitVec.reduceOfNat, Int.reduceGT, Int.reduceGE, Int.reduceBEq, Int.reduceBNe, Nat.reduceGT, Nat.reduceBEq, Nat.reduceBNe, Int.reduceAdd, Int.reduceSub, Int.reduceNeg, ↓dnW_ocr]
  refine WP_penW p4 (by simp [leW_len]) (fun J' => by simp -implicitDefEqProofs only [go_sem, dnW_ite, reduceIte, Nat.reduceAdd, Nat.reduceLeDiff, Nat.reduceMul, Nat.reduceEqDiff, Int.reduceLT, Int.reduceLE, Int.reduceToNat, Nat.reduceSub, Nat.reduceLT, Int.reduceEq, BitVec.reduceOfInt, BitVec.reduceOfNat, Int.reduceGT, Int.reduceGE, Int.reduceBEq, Int.reduceBNe, Nat.reduceGT, Nat.reduceBEq, Nat.reduceBNe, Int.reduceAdd, Int.reduceSub, Int.reduceNeg, hB.1, hB.no]) fun J5 s5 p5 u5 => ?_
  have hB := hB.upd u5
  simp -implicitDefEqProofs only [go_sem, dnW_ite, reduceIte, Nat.reduceAdd, Nat.reduceLeDiff, Nat.reduceMul, Nat.reduceEqDiff, Int.reduceLT, Int.reduceLE, Int.reduceToNat, Nat.reduceSub, Nat.reduceLT, Int.reduceEq, BitVec.reduceOfInt, BitVec.reduceOfNat, Int.reduceGT, Int.reduceGE, Int.reduceBEq, Int.reduceBNe, Nat.reduceGT, Nat.reduceBEq, Nat.reduceBNe, Int.reduceAdd, Int.reduceSub, Int.reduceNeg]
  refine WP_call (PByte_ok J5 1 s5 _ _ p5 (by simp [leW_len])) fun v J6 hv => ?_
  obtain ⟨rfl, s6, p6, u6⟩ := hv
  have hB := hB.upd u6
  simp -implicitDefEqProofs only [go_sem, dnW_ite, reduceIte, Nat.reduceAdd, Nat.reduceLeDiff, Nat.reduceMul, Nat.reduceEqDiff, Int.reduceLT, Int.reduceLE, Int.reduceToNat, Nat.reduceSub, Nat.reduceLT, Int.reduceEq, BitVec.reduceOfInt, BitVec.reduceOfNat, Int.reduceGT, Int.reduceGE, Int.reduceBEq, Int.reduceBNe, Nat.reduceGT, Nat.reduceBEq, Nat.reduceBNe, Int.reduceAdd, Int.reduceSub, Int.reduceNeg, hB.1, h.x.lenF, List.length_map, dn_loop]
  have hHd : (([] : List Byt) ++ [nB g.obs.toNat] ++ [nB g.players.toNat] ++ leW g.moves ++ leW g.dflt ++ [nB g.cells.length]).length = 11 := by simp [leW_len]
  have hG : gameB g = ([] ++ [nB g.obs.toNat] ++ [nB g.players.toNat] ++ leW g.moves ++ leW g.dflt ++ [nB g.cells.length]) ++ g.cells.flatMap clB ++ numL 9 (codeB g.code).length ++ codeB g.code := by simp [gameB]
  rw [hG] at hK
  generalize ([] : List Byt) ++ [nB g.obs.toNat] ++ [nB g.players.toNat] ++ leW g.moves ++ leW g.dflt ++ [nB g.cells.length] = H at *
  refine WP_range (by decide) g.cells.length (fun i vs J => ∃ s, vs = [.ptr 0 0 0, .ptr 1 0 0, x, nI g.cells.length, nI i] ∧ PenAt J 1 s (H ++ (g.cells.take i).flatMap clB) ∧ Bes J 0 (gmc g x y) 1 s) ?_ ⟨s6, rfl, by simpa using p6, hB⟩
  rintro i vs J ⟨s, rfl, h1, hB⟩ hi K1 g1 g2 g3
  unfold l_rules_Game_Bytes_k0
  have hL : (H ++ (g.cells.take i).flatMap clB).length ≤ 2000 := by
    rw [List.length_append, clB_len, List.length_take]; omega
  by_cases h2 : i < g.cells.length
  · have hat := fun J => h.x.at (i := i) (by simpa using h2) (J := J)
    simp only [List.getElem_map, Cl.e, Cl.c] at hat
    have hw1 := wrapS h2 (show g.cells.length ≤ 9223372036854775807 by omega)
    simp -implicitDefEqProofs only [go_sem, dnW_ite, reduceIte, Nat.reduceAdd, Nat.reduceLeDiff, Nat.reduceMul, Nat.reduceEqDiff, Int.reduceLT, Int.reduceLE, Int.reduceToNat, Nat.reduceSub, Nat.reduceLT, Int.reduceEq, BitVec.reduceOfInt, BitVec.reduceOfNat, Int.reduceGT, Int.reduceGE, Int.reduceBEq, Int.reduceBNe, Nat.reduceGT, Nat.reduceBEq, Nat.reduceBNe, Int.reduceAdd, Int.reduceSub, Int.reduceNeg, show ((i : Int) < (g.cells.length : Int)) by omega, hat, ↓dnW_ocr, inb h1.1, iW_m32]
    have hp := h1.psh (.cells 0 [IV.int IntKind.i32 g.cells[i].v, m32 g.cells[i].s] false)
    have hC := h1.bes [IV.int IntKind.i32 g.cells[i].v, m32 g.cells[i].s]
    have hB : Bes (J.push (.cells 0 [IV.int IntKind.i32 g.cells[i].v, m32 g.cells[i].s] false)) 0 (gmc g x y) 1 s := hB.upd (.push _)
    have hnext : H ++ (g.cells.take (i + 1)).flatMap clB = H ++ (g.cells.take i).flatMap clB ++ leW (iW g.cells[i].v) ++ leW g.cells[i].s := by
      rw [List.take_succ_eq_append_getElem h2, List.flatMap_append]
      simp [clB]
    generalize H ++ (g.cells.take i).flatMap clB = L at *
    generalize hJ1 : J.push (IB.cells 0 [IV.int IntKind.i32 g.cells[i].v, m32 g.cells[i].s] false) = J1 at *
    generalize J.size = d at *
    refine WP_penW hp (by omega) (fun J' => by simp -implicitDefEqProofs only [go_sem, dnW_ite, reduceIte, Nat.reduceAdd, Nat.reduceLeDiff, Nat.reduceMul, Nat.reduceEqDiff, Int.reduceLT, Int.reduceLE, Int.reduceToNat, Nat.reduceSub, Nat.reduceLT, Int.reduceEq, BitVec.reduceOfInt, BitVec.reduceOfNat, Int.reduceGT, Int.reduceGE, Int.reduceBEq, Int.reduceBNe, Nat.reduceGT, Nat.reduceBEq, Nat.reduceBNe, Int.reduceAdd, Int.reduceSub, Int.reduceNeg, hC.1, hC.no]) fun J2 s2 p2 u2 => ?_
    have hB := hB.upd u2
    simp -implicitDefEqProofs only [go_sem, dnW_ite, reduceIte, Nat.reduceAdd, Nat.reduceLeDiff, Nat.reduceMul, Nat.reduceEqDiff, Int.reduceLT, Int.reduceLE, Int.reduceToNat, Nat.reduceSub, Nat.reduceLT, Int.reduceEq, BitVec.reduceOfInt, BitVec.reduceOfNat, Int.reduceGT, Int.reduceGE, Int.reduceBEq, Int.reduceBNe, Nat.reduceGT, Nat.reduceBEq, Nat.reduceBNe, Int.reduceAdd, Int.reduceSub, Int.reduceNeg]
    refine WP_call (Word_ok J2 1 s2 _ _ p2 (by simp [leW_len]; omega)) fun v J7 hv => ?_
    obtain ⟨rfl, s7, p7, u7⟩ := hv
    have hB := hB.upd u7
    simp -implicitDefEqProofs only [go_sem, dnW_ite, reduceIte, Nat.reduceAdd, Nat.reduceLeDiff, Nat.reduceMul, Nat.reduceEqDiff, Int.reduceLT, Int.reduceLE, Int.reduceToNat, Nat.reduceSub, Nat.reduceLT, Int.reduceEq, BitVec.reduceOfInt, BitVec.reduceOfNat, Int.reduceGT, Int.reduceGE, Int.reduceBEq, Int.reduceBNe, Nat.reduceGT, Nat.reduceBEq, Nat.reduceBNe, Int.reduceAdd, Int.reduceSub, Int.reduceNeg, hw1]
    refine g1 h2 _ _ ⟨s7, rfl, ?_, hB⟩
    rw [hnext]
    exact p7
  · simp -implicitDefEqProofs only [go_sem, dnW_ite, reduceIte, Nat.reduceAdd, Nat.reduceLeDiff, Nat.reduceMul, Nat.reduceEqDiff, Int.reduceLT, Int.reduceLE, Int.reduceToNat, Nat.reduceSub, Nat.reduceLT, Int.reduceEq, BitVec.reduceOfInt, BitVec.reduceOfNat, Int.reduceGT, Int.reduceGE, Int.reduceBEq, Int.reduceBNe, Nat.reduceGT, Nat.reduceBEq, Nat.reduceBNe, Int.reduceAdd, Int.reduceSub, Int.reduceNeg, show ¬ ((i : Int) < (g.cells.length : Int)) by omega]
    refine g2 _ _ ?_
    rw [List.take_of_length_le (by omega)] at h1
    have hL := clB_len g.cells
    have hnl2 := numL_len 9 (codeB g.code).length
    unfold l_rules_Game_Bytes_k1
    simp -implicitDefEqProofs only [go_sem, dnW_ite, reduceIte, Nat.reduceAdd, Nat.reduceLeDiff, Nat.reduceMul, Nat.reduceEqDiff, Int.reduceLT, Int.reduceLE, Int.reduceToNat, Nat.reduceSub, Nat.reduceLT, Int.reduceEq, BitVec.reduceOfInt, BitVec.reduceOfNat, Int.reduceGT, Int.reduceGE, Int.reduceBEq, Int.reduceBNe, Nat.reduceGT, Nat.reduceBEq, Nat.reduceBNe, Int.reduceAdd, Int.reduceSub, Int.reduceNeg, hB.1, dcp hcb (by simp [ipureL, h.y.pure])]
    refine WP_call (PBlob_ok 1 J s cb _ _ hcl h1 (by rw [List.length_append, hL]; omega)) fun v J2 hv => ?_
    obtain ⟨rfl, s8, p8, u8⟩ := hv
    simp -implicitDefEqProofs only [go_sem, dnW_ite, reduceIte, Nat.reduceAdd, Nat.reduceLeDiff, Nat.reduceMul, Nat.reduceEqDiff, Int.reduceLT, Int.reduceLE, Int.reduceToNat, Nat.reduceSub, Nat.reduceLT, Int.reduceEq, BitVec.reduceOfInt, BitVec.reduceOfNat, Int.reduceGT, Int.reduceGE, Int.reduceBEq, Int.reduceBNe, Nat.reduceGT, Nat.reduceBEq, Nat.reduceBNe, Int.reduceAdd, Int.reduceSub, Int.reduceNeg]
    refine WP_call (PBytes_ok J2 1 s8 _ p8 (by simp only [List.length_append, hL]; omega)) fun v J2 hv => ?_
    simp -implicitDefEqProofs only [go_sem, dnW_ite, reduceIte, Nat.reduceAdd, Nat.reduceLeDiff, Nat.reduceMul, Nat.reduceEqDiff, Int.reduceLT, Int.reduceLE, Int.reduceToNat, Nat.reduceSub, Nat.reduceLT, Int.reduceEq, BitVec.reduceOfInt, BitVec.reduceOfNat, Int.reduceGT, Int.reduceGE, Int.reduceBEq, Int.reduceBNe, Nat.reduceGT, Nat.reduceBEq, Nat.reduceBNe, Int.reduceAdd, Int.reduceSub, Int.reduceNeg]
    exact hK _ _ _ (frzP (by simpa [itup] using hv.pure)) hv
end Go.Proofs.Ytcdlipdeemlibaa.G
namespace Go.Proofs.Ytcdlipdeemlibaa.G
open Go
set_option maxRecDepth 20000
set_option maxHeartbeats 2000000
theorem awake10 : pc BI F_law10_awake [] = some (.bool true) := pcK 400 (by kernel_rfl)
end Go.Proofs.Ytcdlipdeemlibaa.G
namespace Go.Proofs.Ytcdlipdeemlibaa.G
open Go
set_option linter.unusedSimpArgs false
set_option linter.unusedVariables false
set_option maxRecDepth 20000
set_option maxHeartbeats 2000000
def Gm.mv (g : Gm) (ms : List (BitVec 32)) (j : Nat) : BitVec 32 := if h : j < ms.length then (if g.legal ms[j] then ms[j] else g.dflt) else g.dflt
def Gm.allF (g : Gm) (ms : List (BitVec 32)) (n : Nat) : List Int := (List.range n).map fun j => IntKind.i32.wrap ((g.mv ms j).toNat : Int)
end Go.Proofs.Ytcdlipdeemlibaa.G
namespace Go.Proofs.Ytcdlipdeemlibaa.G
open Go
set_option linter.unusedSimpArgs false
set_option linter.unusedVariables false
set_option maxRecDepth 20000
set_option maxHeartbeats 2000000
def stc (b : Bd) (d t : Int) : List IV := bdc b ++ [.int .u64 d, .int .u32 t]
theorem sta_len (b d t) : (stc b d t).length = 99 := by simp [stc, bdc_len]
theorem sta_take (b d t) : (stc b d t).take 99 = stc b d t := List.take_of_length_le (by rw [sta_len]; exact Nat.le_refl _)
theorem sta_bd (b d t) : (stc b d t).take 97 = bdc b := by rw [stc, List.take_append_of_le_length (by rw [bdc_len]; exact Nat.le_refl _), bdc_take]
theorem sta_97 (b d t) : ((stc b d t).drop 97).take 1 = [.int .u64 d] := by rw [stc, app_ld (bdc_len b) 0]; rfl
theorem sta_98 (b d t) : ((stc b d t).drop 98).take 1 = [.int .u32 t] := by rw [stc, app_ld (bdc_len b) 1]; rfl
theorem sta_one (b d t) : (stc b d t).all ione = true := by
  have := bdc_one b
  rw [stc, List.all_append, this]; rfl
attribute [go_sem] sta_len sta_take sta_bd sta_97 sta_98 sta_one
theorem sta_all (b d t b2 d2 t2) : isplice (stc b d t) 0 (stc b2 d2 t2) = stc b2 d2 t2 := by
  simp only [isplice, List.take_zero, List.nil_append, Nat.zero_add]
  rw [List.drop_of_length_le (by rw [sta_len, sta_len]; exact Nat.le_refl _), List.append_nil]
theorem sta_sbd (b d t b2) : isplice (stc b d t) 0 (bdc b2) = stc b2 d t := by
  simp only [isplice, List.take_zero, List.nil_append, Nat.zero_add, stc]
  rw [bdc_len, List.drop_append_of_le_length (by rw [bdc_len]; exact Nat.le_refl _), List.drop_of_length_le (by rw [bdc_len]; exact Nat.le_refl _), List.nil_append]
theorem sta_s98 (b d t t2) : isplice (stc b d t) 98 [.int .u32 t2] = stc b d t2 := by
  have h := bdc_len b
  simp only [isplice, stc]
  rw [List.take_append, List.drop_append, List.take_of_length_le (by omega), List.drop_of_length_le (by rw [h]; simp only [List.length_cons, List.length_nil]; omega), h]; simp
theorem sta_s97 (b d t d2) : isplice (stc b d t) 97 [.int .u64 d2] = stc b d2 t := by
  have h := bdc_len b
  simp only [isplice, stc]
  rw [List.take_append, List.drop_append, List.take_of_length_le (by omega), List.drop_of_length_le (by rw [h]; simp only [List.length_cons, List.length_nil]; omega), h]; simp
attribute [go_sem] sta_all sta_sbd sta_s98 sta_s97
end Go.Proofs.Ytcdlipdeemlibaa.G
namespace Go.Proofs.Ytcdlipdeemlibaa.G
open Go
set_option linter.unusedSimpArgs false
set_option linter.unusedVariables false
set_option maxRecDepth 20000
set_option maxHeartbeats 2000000
def Gm.env (g : Gm) (ms : List (BitVec 32)) (t : Int) (q : IV) : Me := ⟨q, g.allF ms g.players.toNat, IntKind.u32.wrap (t + 1), allM g.obs⟩
end Go.Proofs.Ytcdlipdeemlibaa.G
namespace Go.Proofs.Ytcdlipdeemlibaa.G
open Go
set_option linter.unusedSimpArgs false
set_option linter.unusedVariables false
set_option maxRecDepth 20000
set_option maxHeartbeats 2000000
def hidS (p : List Cl × List Int) (c : Cl) : List Cl × List Int := if c.s = 0#32 then (match p.2 with | [] => (p.1 ++ [c], []) | h :: r => (p.1 ++ [⟨h, 0#32⟩], r)) else (p.1 ++ [c], p.2)
def hid (C : List Cl) (H : List Int) : List Cl × List Int := C.foldl hidS ([], H)
end Go.Proofs.Ytcdlipdeemlibaa.G
namespace Go.Proofs.Ytcdlipdeemlibaa.G
open Go
set_option linter.unusedSimpArgs false
set_option linter.unusedVariables false
set_option maxRecDepth 20000
set_option maxHeartbeats 2000000
theorem few_len (g : Gm) : g.few.cells.length ≤ 55 ∧ g.few.code.length ≤ 100 := by simp [Gm.few]; omega
theorem few_wf {g : Gm} (h : ∀ c ∈ g.code, c.wf) : ∀ c ∈ g.few.code, c.wf := fun c hc => h c (List.mem_of_mem_take hc)
theorem few_I32 {g : Gm} (h : ∀ c ∈ g.cells, I32 c.v) : ∀ c ∈ g.few.cells, I32 c.v := fun c hc => h c (List.mem_of_mem_take hc)
end Go.Proofs.Ytcdlipdeemlibaa.G
namespace Go.Proofs.Ytcdlipdeemlibaa.G
open Go
set_option linter.unusedSimpArgs false
set_option linter.unusedVariables false
set_option maxRecDepth 20000
set_option maxHeartbeats 2000000
theorem evI_str {ρ : List IV} {s : ByteArray} : evI ρ (.const (.string s)) = .sc (.string s) := rfl
attribute [go_sem] evI_str
def letF (k c : Nat) : Bool := match c with
  | 65 => (useOf k).1
  | 66 => (useOf k).2.1
  | 67 => (useOf k).2.2.1
  | 75 => (useOf k).2.2.2.2
  | 114 => (useOf k).2.2.2.1 == 6
  | 110 => (useOf k).2.2.2.1 == 1
  | 99 => (useOf k).2.2.2.1 == 2
  | 112 => (useOf k).2.2.2.1 == 3
  | 109 => (useOf k).2.2.2.1 == 4
  | _ => (useOf k).2.2.2.1 == 5
noncomputable def evPc (n : Nat) (f : FuncId) (args : List IV) : Option IV := match icall BI n f args #[] with | some (v, J) => frz J DEP v | none => none
theorem pc_ev {n : Nat} {f : FuncId} {args : List IV} {u : IV} (h : evPc n f args = some u) : pc BI f args = some u := pcK n h
def letters : List Nat := [65, 66, 67, 75, 114, 110, 99, 112, 109, 115]
noncomputable def checkHas (u : ByteArray) (k c : Nat) : Bool := match evPc 40 F_ref08_has [.sc (.string u), .int .u8 (c : Int)] with | some (.sc (.bool b)) => b == letF k c | _ => false
noncomputable def checkOp (k : Nat) : Bool := match evPc 40 F_ref08_Parts [.int .u8 (k : Int)] with
  | some (.tup [.sc (.string w), .sc (.string u)]) => !(w.toList == (⟨#[]⟩ : ByteArray).toList) && letters.all (checkHas u k)
  | _ => false
theorem ops_ok : (List.range 26).all checkOp = true := by kernel_rfl
theorem checkHas_ok {u : ByteArray} {k c : Nat} (h : checkHas u k c = true) : pc BI F_ref08_has [.sc (.string u), .int .u8 (c : Int)] = some (.bool (letF k c)) := by
  unfold checkHas at h
  split at h
  · rename_i b hb
    rw [pc_ev hb]
    simp only [beq_iff_eq] at h
    rw [h]
  · cases h
theorem parts_ok (k : Nat) (h : k < 26) : ∃ w u : ByteArray, pc BI F_ref08_Parts [.int .u8 (k : Int)] = some (.tup [.sc (.string w), .sc (.string u)]) ∧ (w.toList == (⟨#[]⟩ : ByteArray).toList) = false ∧ ∀ c ∈ letters, pc BI F_ref08_has [.sc (.string u), .int .u8 (c : Int)] = some (.bool (letF k c)) := by
  have h1 := List.all_eq_true.1 ops_ok k (by simpa using h)
  unfold checkOp at h1
  split at h1
  · rename_i w u he
    simp only [Bool.and_eq_true, Bool.not_eq_true', List.all_eq_true] at h1
    exact ⟨w, u, pc_ev he, h1.1, fun c hc => checkHas_ok (h1.2 c hc)⟩
  · cases h1
noncomputable def checkTab : Bool := match evPc 20 F_ref08_Table [] with | some (.lst 1 true xs) => xs.length == 26 | _ => false
theorem parts_out (k : Nat) (h : 25 < k) (h2 : k < 256) : pc BI F_ref08_Parts [.int .u8 (k : Int)] = some (.tup [.sc (.string ⟨#[]⟩), .sc (.string ⟨#[]⟩)]) := by
  have ht : ∃ xs, pc BI F_ref08_Table [] = some (.lst 1 true xs) ∧ xs.length = 26 := by
    have h1 : checkTab = true := by kernel_rfl
    unfold checkTab at h1
    split at h1
    · rename_i xs he
      exact ⟨xs, pc_ev he, by simpa using h1⟩
    · cases h1
  obtain ⟨xs, hx, hl⟩ := ht
  refine pcE fn_ref08_Parts rfl fun K hK => ?_
  unfold l_ref08_Parts
  simp -implicitDefEqProofs only [go_sem, dnW_ite, reduceIte, Nat.reduceAdd, Nat.reduceLeDiff, Nat.reduceMul, Nat.reduceEqDiff, Int.reduceLT, Int.reduceLE, Int.reduceToNat, Nat.reduceSub, Nat.reduceLT, Int.reduceEq, BitVec.reduceOfInt, BitVec.reduceOfNat, Int.reduceGT, Int.reduceGE, Int.reduceBEq, Int.reduceBNe, Nat.reduceGT, Nat.reduceBEq, Nat.reduceBNe, Int.reduceAdd, Int.reduceSub, Int.reduceNeg, dcp hx rfl, wrap_i64 (x := (k : Int)) (by omega) (by omega), hl, show (k : Int) ≥ ((26 : Nat) : Int) by omega]
  exact hK _ _ (frzE rfl rfl)
theorem gt0 (a : Nat) : ((a : Int) > 0) = (0 < a) := by simp
theorem gt7 (a : Nat) : ((a : Int) > 7) = (7 < a) := by simp; omega
theorem mgt0 (m : BitVec 32) : ((m.toNat : Int) > 0) = (m ≠ 0#32) := by
  simp only [eq_iff_iff]
  constructor
  · intro h e; subst e; simp at h
  · intro h
    have : m.toNat ≠ 0 := fun e => h (BitVec.eq_of_toNat_eq (by simpa using e))
    omega
theorem rRight_k0 (x : Cd) (u : ByteArray) (size cells players : Nat) (hL : ∀ c ∈ letters, pc BI F_ref08_has [.sc (.string u), .int .u8 (c : Int)] = some (.bool (letF x.op c))) (h6 : (useOf x.op).2.2.2.1 ≠ 6) (J : JH) :
    dn BI l_ref08_Right_k0 [nI size, nI cells, nI players, .sc (.string u), .int .i64 x.n] J = some (.ret [.bool (nOk (useOf x.op).2.2.2.1 x.n size cells players)], J) := by
  have q1 : pc BI F_ref08_has [.sc (.string u), .int .u8 110] = _ := hL 110 (by decide)
  have q2 : pc BI F_ref08_has [.sc (.string u), .int .u8 99] = _ := hL 99 (by decide)
  have q3 : pc BI F_ref08_has [.sc (.string u), .int .u8 112] = _ := hL 112 (by decide)
  have q4 : pc BI F_ref08_has [.sc (.string u), .int .u8 109] = _ := hL 109 (by decide)
  have q5 : pc BI F_ref08_has [.sc (.string u), .int .u8 115] = _ := hL 115 (by decide)
  simp only [letF] at q1 q2 q3 q4 q5
  have hle := use_le x.op
  generalize (useOf x.op).2.2.2.1 = k at *
  unfold l_ref08_Right_k0
  rcases (show k = 0 ∨ k = 1 ∨ k = 2 ∨ k = 3 ∨ k = 4 ∨ k = 5 by omega) with rfl | rfl | rfl | rfl | rfl | rfl
  · simp -implicitDefEqProofs only [go_sem, dnW_ite, reduceIte, Nat.reduceAdd, Nat.reduceLeDiff, Nat.reduceMul, Nat.reduceEqDiff, Int.reduceLT, Int.reduceLE, Int.reduceToNat, Nat.reduceSub, Nat.reduceLT, Int.reduceEq, BitVec.reduceOfInt, BitVec.reduceOfNat, Int.reduceGT, Int.reduceGE, Int.reduceBEq, Int.reduceBNe, Nat.reduceGT, Nat.reduceBEq, Nat.reduceBNe, Int.reduceAdd, Int.reduceSub, Int.reduceNeg, dcp q1 rfl, dcp q2 rfl, dcp q3 rfl, dcp q4 rfl, dcp q5 rfl]
    rfl
  · simp -implicitDefEqProofs only [go_sem, dnW_ite, reduceIte, Nat.reduceAdd, Nat.reduceLeDiff, Nat.reduceMul, Nat.reduceEqDiff, Int.reduceLT, Int.reduceLE, Int.reduceToNat, Nat.reduceSub, Nat.reduceLT, Int.reduceEq, BitVec.reduceOfInt, BitVec.reduceOfNat, Int.reduceGT, Int.reduceGE, Int.reduceBEq, Int.reduceBNe, Nat.reduceGT, Nat.reduceBEq, Nat.reduceBNe, Int.reduceAdd, Int.reduceSub, Int.reduceNeg, dcp q1 rfl, dcp q2 rfl, dcp q3 rfl, dcp q4 rfl, dcp q5 rfl]
    rfl
  · by_cases h0 : x.n ≥ 0
    · simp -implicitDefEqProofs only [go_sem, dnW_ite, reduceIte, Nat.reduceAdd, Nat.reduceLeDiff, Nat.reduceMul, Nat.reduceEqDiff, Int.reduceLT, Int.reduceLE, Int.reduceToNat, Nat.reduceSub, Nat.reduceLT, Int.reduceEq, BitVec.reduceOfInt, BitVec.reduceOfNat, Int.reduceGT, Int.reduceGE, Int.reduceBEq, Int.reduceBNe, Nat.reduceGT, Nat.reduceBEq, Nat.reduceBNe, Int.reduceAdd, Int.reduceSub, Int.reduceNeg, dcp q1 rfl, dcp q2 rfl, dcp q3 rfl, dcp q4 rfl, dcp q5 rfl, h0]
      simp [nOk, show 0 ≤ x.n by omega]
    · simp -implicitDefEqProofs only [go_sem, dnW_ite, reduceIte, Nat.reduceAdd, Nat.reduceLeDiff, Nat.reduceMul, Nat.reduceEqDiff, Int.reduceLT, Int.reduceLE, Int.reduceToNat, Nat.reduceSub, Nat.reduceLT, Int.reduceEq, BitVec.reduceOfInt, BitVec.reduceOfNat, Int.reduceGT, Int.reduceGE, Int.reduceBEq, Int.reduceBNe, Nat.reduceGT, Nat.reduceBEq, Nat.reduceBNe, Int.reduceAdd, Int.reduceSub, Int.reduceNeg, dcp q1 rfl, dcp q2 rfl, dcp q3 rfl, dcp q4 rfl, dcp q5 rfl, h0]
      simp [nOk, show ¬ 0 ≤ x.n by omega]
  · by_cases h0 : x.n ≥ 0
    · simp -implicitDefEqProofs only [go_sem, dnW_ite, reduceIte, Nat.reduceAdd, Nat.reduceLeDiff, Nat.reduceMul, Nat.reduceEqDiff, Int.reduceLT, Int.reduceLE, Int.reduceToNat, Nat.reduceSub, Nat.reduceLT, Int.reduceEq, BitVec.reduceOfInt, BitVec.reduceOfNat, Int.reduceGT, Int.reduceGE, Int.reduceBEq, Int.reduceBNe, Nat.reduceGT, Nat.reduceBEq, Nat.reduceBNe, Int.reduceAdd, Int.reduceSub, Int.reduceNeg, dcp q1 rfl, dcp q2 rfl, dcp q3 rfl, dcp q4 rfl, dcp q5 rfl, h0]
      simp [nOk, show 0 ≤ x.n by omega]
    · simp -implicitDefEqProofs only [go_sem, dnW_ite, reduceIte, Nat.reduceAdd, Nat.reduceLeDiff, Nat.reduceMul, Nat.reduceEqDiff, Int.reduceLT, Int.reduceLE, Int.reduceToNat, Nat.reduceSub, Nat.reduceLT, Int.reduceEq, BitVec.reduceOfInt, BitVec.reduceOfNat, Int.reduceGT, Int.reduceGE, Int.reduceBEq, Int.reduceBNe, Nat.reduceGT, Nat.reduceBEq, Nat.reduceBNe, Int.reduceAdd, Int.reduceSub, Int.reduceNeg, dcp q1 rfl, dcp q2 rfl, dcp q3 rfl, dcp q4 rfl, dcp q5 rfl, h0]
      simp [nOk, show ¬ 0 ≤ x.n by omega]
  · by_cases h0 : x.n ≥ 0
    · simp -implicitDefEqProofs only [go_sem, dnW_ite, reduceIte, Nat.reduceAdd, Nat.reduceLeDiff, Nat.reduceMul, Nat.reduceEqDiff, Int.reduceLT, Int.reduceLE, Int.reduceToNat, Nat.reduceSub, Nat.reduceLT, Int.reduceEq, BitVec.reduceOfInt, BitVec.reduceOfNat, Int.reduceGT, Int.reduceGE, Int.reduceBEq, Int.reduceBNe, Nat.reduceGT, Nat.reduceBEq, Nat.reduceBNe, Int.reduceAdd, Int.reduceSub, Int.reduceNeg, dcp q1 rfl, dcp q2 rfl, dcp q3 rfl, dcp q4 rfl, dcp q5 rfl, h0]
      simp [nOk, show 0 ≤ x.n by omega]
    · simp -implicitDefEqProofs only [go_sem, dnW_ite, reduceIte, Nat.reduceAdd, Nat.reduceLeDiff, Nat.reduceMul, Nat.reduceEqDiff, Int.reduceLT, Int.reduceLE, Int.reduceToNat, Nat.reduceSub, Nat.reduceLT, Int.reduceEq, BitVec.reduceOfInt, BitVec.reduceOfNat, Int.reduceGT, Int.reduceGE, Int.reduceBEq, Int.reduceBNe, Nat.reduceGT, Nat.reduceBEq, Nat.reduceBNe, Int.reduceAdd, Int.reduceSub, Int.reduceNeg, dcp q1 rfl, dcp q2 rfl, dcp q3 rfl, dcp q4 rfl, dcp q5 rfl, h0]
      simp [nOk, show ¬ 0 ≤ x.n by omega]
  · simp -implicitDefEqProofs only [go_sem, dnW_ite, reduceIte, Nat.reduceAdd, Nat.reduceLeDiff, Nat.reduceMul, Nat.reduceEqDiff, Int.reduceLT, Int.reduceLE, Int.reduceToNat, Nat.reduceSub, Nat.reduceLT, Int.reduceEq, BitVec.reduceOfInt, BitVec.reduceOfNat, Int.reduceGT, Int.reduceGE, Int.reduceBEq, Int.reduceBNe, Nat.reduceGT, Nat.reduceBEq, Nat.reduceBNe, Int.reduceAdd, Int.reduceSub, Int.reduceNeg, dcp q1 rfl, dcp q2 rfl, dcp q3 rfl, dcp q4 rfl, dcp q5 rfl]
    simp only [nOk]; congr 5
theorem rRight_k2 (x : Cd) (hx : x.wf) (u : ByteArray) (size cells players : Nat) (hc : cells ≤ 1000000) (hL : ∀ c ∈ letters, pc BI F_ref08_has [.sc (.string u), .int .u8 (c : Int)] = some (.bool (letF x.op c))) (v : Nat) (p : Nat) (J : JH) (hJ : J[p]? = some (.cells v x.cs false)) (hop : x.op ≤ 25) :
    dn BI l_ref08_Right_k2 [nI size, nI cells, nI players, .ptr p v 0, .sc (.string u)] J = some (.ret [.bool (if (useOf x.op).2.2.2.1 = 6 then (decide (1 ≤ x.c) && decide (x.c ≤ 48)) && decide (0 ≤ x.n) && decide (x.n + x.c ≤ cells) else regOk (useOf x.op).2.2.1 x.c && nOk (useOf x.op).2.2.2.1 x.n size cells players)], J) := by
  have q1 : pc BI F_ref08_has [.sc (.string u), .int .u8 114] = _ := hL 114 (by decide)
  have q2 : pc BI F_ref08_has [.sc (.string u), .int .u8 67] = _ := hL 67 (by decide)
  simp only [letF] at q1 q2
  obtain ⟨w1, w2, w3, w4, w5, w6⟩ := hx
  have e1 : IntKind.i64.wrap x.n = x.n := wrap_i64 (by omega) (by omega)
  have e2 : IntKind.i64.wrap (x.c : Int) = x.c := wrap_i64 (by omega) (by omega)
  have e3 : IntKind.i64.wrap (x.n + x.c) = x.n + x.c := wrap_i64 (by omega) (by omega)
  simp only [Cd.cs] at hJ
  unfold l_ref08_Right_k2
  by_cases h6 : (useOf x.op).2.2.2.1 = 6
  · have h6' : ((useOf x.op).2.2.2.1 == 6) = true := by simpa using h6
    rw [h6'] at q1
    rw [if_pos h6]
    by_cases a0 : 0 < x.c
    · by_cases a1 : (x.c : Int) < 49
      · by_cases a2 : x.n ≥ 0
        · by_cases a3 : x.n < (cells : Int)
          · simp -implicitDefEqProofs only [go_sem, dnW_ite, reduceIte, Nat.reduceAdd, Nat.reduceLeDiff, Nat.reduceMul, Nat.reduceEqDiff, Int.reduceLT, Int.reduceLE, Int.reduceToNat, Nat.reduceSub, Nat.reduceLT, Int.reduceEq, BitVec.reduceOfInt, BitVec.reduceOfNat, Int.reduceGT, Int.reduceGE, Int.reduceBEq, Int.reduceBNe, Nat.reduceGT, Nat.reduceBEq, Nat.reduceBNe, Int.reduceAdd, Int.reduceSub, Int.reduceNeg, hJ, e1, e2, e3, dcp q1 rfl, gt0, a0, a1, a2, a3]
            all_goals simp [show 1 ≤ x.c by omega, show x.c ≤ 48 by omega, show 0 ≤ x.n by omega]
          · simp -implicitDefEqProofs only [go_sem, dnW_ite, reduceIte, Nat.reduceAdd, Nat.reduceLeDiff, Nat.reduceMul, Nat.reduceEqDiff, Int.reduceLT, Int.reduceLE, Int.reduceToNat, Nat.reduceSub, Nat.reduceLT, Int.reduceEq, BitVec.reduceOfInt, BitVec.reduceOfNat, Int.reduceGT, Int.reduceGE, Int.reduceBEq, Int.reduceBNe, Nat.reduceGT, Nat.reduceBEq, Nat.reduceBNe, Int.reduceAdd, Int.reduceSub, Int.reduceNeg, hJ, e1, e2, e3, dcp q1 rfl, gt0, a0, a1, a2, a3]
            all_goals simp [show ¬ (x.n + x.c ≤ (cells : Int)) by omega]
        · simp -implicitDefEqProofs only [go_sem, dnW_ite, reduceIte, Nat.reduceAdd, Nat.reduceLeDiff, Nat.reduceMul, Nat.reduceEqDiff, Int.reduceLT, Int.reduceLE, Int.reduceToNat, Nat.reduceSub, Nat.reduceLT, Int.reduceEq, BitVec.reduceOfInt, BitVec.reduceOfNat, Int.reduceGT, Int.reduceGE, Int.reduceBEq, Int.reduceBNe, Nat.reduceGT, Nat.reduceBEq, Nat.reduceBNe, Int.reduceAdd, Int.reduceSub, Int.reduceNeg, hJ, e1, e2, e3, dcp q1 rfl, gt0, a0, a1, a2]
          all_goals simp [show ¬ (0 ≤ x.n) by omega]
      · simp -implicitDefEqProofs only [go_sem, dnW_ite, reduceIte, Nat.reduceAdd, Nat.reduceLeDiff, Nat.reduceMul, Nat.reduceEqDiff, Int.reduceLT, Int.reduceLE, Int.reduceToNat, Nat.reduceSub, Nat.reduceLT, Int.reduceEq, BitVec.reduceOfInt, BitVec.reduceOfNat, Int.reduceGT, Int.reduceGE, Int.reduceBEq, Int.reduceBNe, Nat.reduceGT, Nat.reduceBEq, Nat.reduceBNe, Int.reduceAdd, Int.reduceSub, Int.reduceNeg, hJ, e1, e2, e3, dcp q1 rfl, gt0, a0, a1]
        all_goals simp [show ¬ (x.c ≤ 48) by omega]
    · simp -implicitDefEqProofs only [go_sem, dnW_ite, reduceIte, Nat.reduceAdd, Nat.reduceLeDiff, Nat.reduceMul, Nat.reduceEqDiff, Int.reduceLT, Int.reduceLE, Int.reduceToNat, Nat.reduceSub, Nat.reduceLT, Int.reduceEq, BitVec.reduceOfInt, BitVec.reduceOfNat, Int.reduceGT, Int.reduceGE, Int.reduceBEq, Int.reduceBNe, Nat.reduceGT, Nat.reduceBEq, Nat.reduceBNe, Int.reduceAdd, Int.reduceSub, Int.reduceNeg, hJ, e1, e2, e3, dcp q1 rfl, gt0, a0]
      all_goals simp [show ¬ (1 ≤ x.c) by omega]
  · have h6' : ((useOf x.op).2.2.2.1 == 6) = false := by simpa using h6
    rw [h6'] at q1
    rw [if_neg h6]
    have hk := rRight_k0 x u size cells players hL h6 J
    unfold l_ref08_Right_k1
    by_cases a0 : 0 < x.c
    · cases hu : (useOf x.op).2.2.1 with
      | false =>
        rw [hu] at q2
        simp -implicitDefEqProofs only [go_sem, dnW_ite, reduceIte, Nat.reduceAdd, Nat.reduceLeDiff, Nat.reduceMul, Nat.reduceEqDiff, Int.reduceLT, Int.reduceLE, Int.reduceToNat, Nat.reduceSub, Nat.reduceLT, Int.reduceEq, BitVec.reduceOfInt, BitVec.reduceOfNat, Int.reduceGT, Int.reduceGE, Int.reduceBEq, Int.reduceBNe, Nat.reduceGT, Nat.reduceBEq, Nat.reduceBNe, Int.reduceAdd, Int.reduceSub, Int.reduceNeg, hJ, e1, e2, dcp q1 rfl, dcp q2 rfl, gt0, a0]
        all_goals simp [regOk, show ¬ (x.c = 0) by omega]
      | true =>
        rw [hu] at q2
        by_cases a1 : 7 < x.c
        · simp -implicitDefEqProofs only [go_sem, dnW_ite, reduceIte, Nat.reduceAdd, Nat.reduceLeDiff, Nat.reduceMul, Nat.reduceEqDiff, Int.reduceLT, Int.reduceLE, Int.reduceToNat, Nat.reduceSub, Nat.reduceLT, Int.reduceEq, BitVec.reduceOfInt, BitVec.reduceOfNat, Int.reduceGT, Int.reduceGE, Int.reduceBEq, Int.reduceBNe, Nat.reduceGT, Nat.reduceBEq, Nat.reduceBNe, Int.reduceAdd, Int.reduceSub, Int.reduceNeg, hJ, e1, e2, dcp q1 rfl, dcp q2 rfl, gt0, gt7, a0, a1]
          all_goals simp [regOk, show ¬ (x.c = 0) by omega, show ¬ (x.c < 8) by omega]
        · simp -implicitDefEqProofs only [go_sem, dnW_ite, reduceIte, Nat.reduceAdd, Nat.reduceLeDiff, Nat.reduceMul, Nat.reduceEqDiff, Int.reduceLT, Int.reduceLE, Int.reduceToNat, Nat.reduceSub, Nat.reduceLT, Int.reduceEq, BitVec.reduceOfInt, BitVec.reduceOfNat, Int.reduceGT, Int.reduceGE, Int.reduceBEq, Int.reduceBNe, Nat.reduceGT, Nat.reduceBEq, Nat.reduceBNe, Int.reduceAdd, Int.reduceSub, Int.reduceNeg, hJ, e1, e2, dcp q1 rfl, dcp q2 rfl, gt0, gt7, a0, a1, hk]
          all_goals simp [regOk, show (x.c < 8) by omega]
    · simp -implicitDefEqProofs only [go_sem, dnW_ite, reduceIte, Nat.reduceAdd, Nat.reduceLeDiff, Nat.reduceMul, Nat.reduceEqDiff, Int.reduceLT, Int.reduceLE, Int.reduceToNat, Nat.reduceSub, Nat.reduceLT, Int.reduceEq, BitVec.reduceOfInt, BitVec.reduceOfNat, Int.reduceGT, Int.reduceGE, Int.reduceBEq, Int.reduceBNe, Nat.reduceGT, Nat.reduceBEq, Nat.reduceBNe, Int.reduceAdd, Int.reduceSub, Int.reduceNeg, hJ, e1, e2, dcp q1 rfl, dcp q2 rfl, gt0, a0, hk]
      all_goals simp [regOk, show x.c = 0 by omega]
theorem rRight_ok (x : Cd) (hx : x.wf) (size cells players : Nat) (hs : size ≤ 1000000) (hc : cells ≤ 1000000) (hp : players ≤ 1000000) :
    pc BI F_ref08_Right [x.e, nI size, nI cells, nI players] = some (.bool (x.right size cells players)) := by
  refine pcE fn_ref08_Right rfl fun K hK => ?_
  have hx' := hx
  obtain ⟨w1, w2, w3, w4, w5, w6⟩ := hx
  unfold l_ref08_Right Cd.e
  by_cases hop : x.op ≤ 25
  · obtain ⟨w, u, hpt, hw, hL⟩ := parts_ok x.op (by omega)
    have qA : pc BI F_ref08_has [.sc (.string u), .int .u8 65] = _ := hL 65 (by decide)
    have qB : pc BI F_ref08_has [.sc (.string u), .int .u8 66] = _ := hL 66 (by decide)
    have qK : pc BI F_ref08_has [.sc (.string u), .int .u8 75] = _ := hL 75 (by decide)
    simp only [letF] at qA qB qK
    have hk := rRight_k2 x hx' u size cells players hc hL 0 0 (#[IB.cells 0 x.cs false]) rfl hop
    simp only [Cd.cs] at hk
    have hR : x.right size cells players = ((regOk (useOf x.op).1 x.a && regOk (useOf x.op).2.1 x.b && ((useOf x.op).2.2.2.2 || x.mask == 0#32)) && (if (useOf x.op).2.2.2.1 = 6 then (decide (1 ≤ x.c) && decide (x.c ≤ 48)) && decide (0 ≤ x.n) && decide (x.n + x.c ≤ cells) else regOk (useOf x.op).2.2.1 x.c && nOk (useOf x.op).2.2.2.1 x.n size cells players)) := by
      unfold Cd.right
      rw [if_neg (by omega)]
      by_cases h6 : (useOf x.op).2.2.2.1 = 6
      · have : x.op = 24 := by
          revert h6
          have : ∀ k < 26, (useOf k).2.2.2.1 = 6 → k = 24 := by decide
          exact this x.op (by omega)
        rw [if_pos h6, if_pos h6, this]
        simp only [useOf, regOk, Bool.false_and, Bool.or_false, Bool.false_or]
        cases (x.a == 0) <;> cases (x.b == 0) <;> cases (x.mask == 0#32) <;> simp
      · rw [if_neg h6, if_neg h6]
        cases regOk (useOf x.op).1 x.a <;> cases regOk (useOf x.op).2.1 x.b <;> cases regOk (useOf x.op).2.2.1 x.c <;> cases ((useOf x.op).2.2.2.2 || x.mask == 0#32) <;> cases nOk (useOf x.op).2.2.2.1 x.n size cells players <;> rfl
    generalize (if (useOf x.op).2.2.2.1 = 6 then (decide (1 ≤ x.c) && decide (x.c ≤ 48)) && decide (0 ≤ x.n) && decide (x.n + x.c ≤ cells) else regOk (useOf x.op).2.2.1 x.c && nOk (useOf x.op).2.2.2.1 x.n size cells players) = rest at hR hk
    rw [hR] at hK
    generalize (useOf x.op).1 = ua at *
    generalize (useOf x.op).2.1 = ub at *
    generalize (useOf x.op).2.2.2.2 = um at *
    have fin : ∀ b J', b = ((regOk ua x.a && regOk ub x.b && (um || x.mask == 0#32)) && rest) → K (.ret [.bool b]) J' := fun b J' h => hK _ _ (frzE rfl (by rw [h]; rfl))
    by_cases a0 : 0 < x.a
    · cases hua : ua with
      | false =>
        rw [hua] at qA
        simp -implicitDefEqProofs only [go_sem, dnW_ite, reduceIte, Nat.reduceAdd, Nat.reduceLeDiff, Nat.reduceMul, Nat.reduceEqDiff, Int.reduceLT, Int.reduceLE, Int.reduceToNat, Nat.reduceSub, Nat.reduceLT, Int.reduceEq, BitVec.reduceOfInt, BitVec.reduceOfNat, Int.reduceGT, Int.reduceGE, Int.reduceBEq, Int.reduceBNe, Nat.reduceGT, Nat.reduceBEq, Nat.reduceBNe, Int.reduceAdd, Int.reduceSub, Int.reduceNeg, Cd.cs, dcp hpt rfl, hw, gt0, gt7, dcp qA rfl, dcp qB rfl, dcp qK rfl, hk, a0]
        refine fin _ _ ?_; simp [regOk, show ¬ (x.a = 0) by omega, hua]
      | true =>
        rw [hua] at qA
        by_cases a7 : 7 < x.a
        · simp -implicitDefEqProofs only [go_sem, dnW_ite, reduceIte, Nat.reduceAdd, Nat.reduceLeDiff, Nat.reduceMul, Nat.reduceEqDiff, Int.reduceLT, Int.reduceLE, Int.reduceToNat, Nat.reduceSub, Nat.reduceLT, Int.reduceEq, BitVec.reduceOfInt, BitVec.reduceOfNat, Int.reduceGT, Int.reduceGE, Int.reduceBEq, Int.reduceBNe, Nat.reduceGT, Nat.reduceBEq, Nat.reduceBNe, Int.reduceAdd, Int.reduceSub, Int.reduceNeg, Cd.cs, dcp hpt rfl, hw, gt0, gt7, dcp qA rfl, dcp qB rfl, dcp qK rfl, hk, a0, a7]
          refine fin _ _ ?_; simp [regOk, show ¬ (x.a = 0) by omega, show ¬ (x.a < 8) by omega]
        · skip
          by_cases b0 : 0 < x.b
          · cases hub : ub with
            | false =>
              rw [hub] at qB
              simp -implicitDefEqProofs only [go_sem, dnW_ite, reduceIte, Nat.reduceAdd, Nat.reduceLeDiff, Nat.reduceMul, Nat.reduceEqDiff, Int.reduceLT, Int.reduceLE, Int.reduceToNat, Nat.reduceSub, Nat.reduceLT, Int.reduceEq, BitVec.reduceOfInt, BitVec.reduceOfNat, Int.reduceGT, Int.reduceGE, Int.reduceBEq, Int.reduceBNe, Nat.reduceGT, Nat.reduceBEq, Nat.reduceBNe, Int.reduceAdd, Int.reduceSub, Int.reduceNeg, Cd.cs, dcp hpt rfl, hw, gt0, gt7, dcp qA rfl, dcp qB rfl, dcp qK rfl, hk, a0, a7, b0]
              refine fin _ _ ?_; simp [regOk, show (x.a < 8) by omega, hua, show ¬ (x.b = 0) by omega, hub]
            | true =>
              rw [hub] at qB
              by_cases b7 : 7 < x.b
              · simp -implicitDefEqProofs only [go_sem, dnW_ite, reduceIte, Nat.reduceAdd, Nat.reduceLeDiff, Nat.reduceMul, Nat.reduceEqDiff, Int.reduceLT, Int.reduceLE, Int.reduceToNat, Nat.reduceSub, Nat.reduceLT, Int.reduceEq, BitVec.reduceOfInt, BitVec.reduceOfNat, Int.reduceGT, Int.reduceGE, Int.reduceBEq, Int.reduceBNe, Nat.reduceGT, Nat.reduceBEq, Nat.reduceBNe, Int.reduceAdd, Int.reduceSub, Int.reduceNeg, Cd.cs, dcp hpt rfl, hw, gt0, gt7, dcp qA rfl, dcp qB rfl, dcp qK rfl, hk, a0, a7, b0, b7]
                refine fin _ _ ?_; simp [regOk, show (x.a < 8) by omega, hua, show ¬ (x.b = 0) by omega, show ¬ (x.b < 8) by omega]
              · skip
                have mp : (0 < x.mask.toNat) = (x.mask ≠ 0#32) := by have := mgt0 x.mask; rwa [gt0] at this
                by_cases m0 : x.mask = 0#32
                · simp -implicitDefEqProofs only [go_sem, dnW_ite, reduceIte, Nat.reduceAdd, Nat.reduceLeDiff, Nat.reduceMul, Nat.reduceEqDiff, Int.reduceLT, Int.reduceLE, Int.reduceToNat, Nat.reduceSub, Nat.reduceLT, Int.reduceEq, BitVec.reduceOfInt, BitVec.reduceOfNat, Int.reduceGT, Int.reduceGE, Int.reduceBEq, Int.reduceBNe, Nat.reduceGT, Nat.reduceBEq, Nat.reduceBNe, Int.reduceAdd, Int.reduceSub, Int.reduceNeg, Cd.cs, dcp hpt rfl, hw, gt0, gt7, dcp qA rfl, dcp qB rfl, dcp qK rfl, hk, a0, a7, b0, b7, show (0 < x.mask.toNat) = False from by rw [mp]; simp [m0]]
                  refine fin _ _ ?_; simp [regOk, show (x.a < 8) by omega, hua, show (x.b < 8) by omega, hub, m0]
                · cases hum : um with
                  | false =>
                    rw [hum] at qK
                    simp -implicitDefEqProofs only [go_sem, dnW_ite, reduceIte, Nat.reduceAdd, Nat.reduceLeDiff, Nat.reduceMul, Nat.reduceEqDiff, Int.reduceLT, Int.reduceLE, Int.reduceToNat, Nat.reduceSub, Nat.reduceLT, Int.reduceEq, BitVec.reduceOfInt, BitVec.reduceOfNat, Int.reduceGT, Int.reduceGE, Int.reduceBEq, Int.reduceBNe, Nat.reduceGT, Nat.reduceBEq, Nat.reduceBNe, Int.reduceAdd, Int.reduceSub, Int.reduceNeg, Cd.cs, dcp hpt rfl, hw, gt0, gt7, dcp qA rfl, dcp qB rfl, dcp qK rfl, hk, a0, a7, b0, b7, show (0 < x.mask.toNat) = True from by rw [mp]; simp [m0]]
                    refine fin _ _ ?_; simp [regOk, show (x.a < 8) by omega, hua, show (x.b < 8) by omega, hub, m0, hum]
                  | true =>
                    rw [hum] at qK
                    simp -implicitDefEqProofs only [go_sem, dnW_ite, reduceIte, Nat.reduceAdd, Nat.reduceLeDiff, Nat.reduceMul, Nat.reduceEqDiff, Int.reduceLT, Int.reduceLE, Int.reduceToNat, Nat.reduceSub, Nat.reduceLT, Int.reduceEq, BitVec.reduceOfInt, BitVec.reduceOfNat, Int.reduceGT, Int.reduceGE, Int.reduceBEq, Int.reduceBNe, Nat.reduceGT, Nat.reduceBEq, Nat.reduceBNe, Int.reduceAdd, Int.reduceSub, Int.reduceNeg, Cd.cs, dcp hpt rfl, hw, gt0, gt7, dcp qA rfl, dcp qB rfl, dcp qK rfl, hk, a0, a7, b0, b7, show (0 < x.mask.toNat) = True from by rw [mp]; simp [m0]]
                    refine fin _ _ ?_; simp [regOk, show (x.a < 8) by omega, hua, show (x.b < 8) by omega, hub, m0, hum]
          · skip
            have mp : (0 < x.mask.toNat) = (x.mask ≠ 0#32) := by have := mgt0 x.mask; rwa [gt0] at this
            by_cases m0 : x.mask = 0#32
            · simp -implicitDefEqProofs only [go_sem, dnW_ite, reduceIte, Nat.reduceAdd, Nat.reduceLeDiff, Nat.reduceMul, Nat.reduceEqDiff, Int.reduceLT, Int.reduceLE, Int.reduceToNat, Nat.reduceSub, Nat.reduceLT, Int.reduceEq, BitVec.reduceOfInt, BitVec.reduceOfNat, Int.reduceGT, Int.reduceGE, Int.reduceBEq, Int.reduceBNe, Nat.reduceGT, Nat.reduceBEq, Nat.reduceBNe, Int.reduceAdd, Int.reduceSub, Int.reduceNeg, Cd.cs, dcp hpt rfl, hw, gt0, gt7, dcp qA rfl, dcp qB rfl, dcp qK rfl, hk, a0, a7, b0, show (0 < x.mask.toNat) = False from by rw [mp]; simp [m0]]
              refine fin _ _ ?_; simp [regOk, show (x.a < 8) by omega, hua, show x.b = 0 by omega, m0]
            · cases hum : um with
              | false =>
                rw [hum] at qK
                simp -implicitDefEqProofs only [go_sem, dnW_ite, reduceIte, Nat.reduceAdd, Nat.reduceLeDiff, Nat.reduceMul, Nat.reduceEqDiff, Int.reduceLT, Int.reduceLE, Int.reduceToNat, Nat.reduceSub, Nat.reduceLT, Int.reduceEq, BitVec.reduceOfInt, BitVec.reduceOfNat, Int.reduceGT, Int.reduceGE, Int.reduceBEq, Int.reduceBNe, Nat.reduceGT, Nat.reduceBEq, Nat.reduceBNe, Int.reduceAdd, Int.reduceSub, Int.reduceNeg, Cd.cs, dcp hpt rfl, hw, gt0, gt7, dcp qA rfl, dcp qB rfl, dcp qK rfl, hk, a0, a7, b0, show (0 < x.mask.toNat) = True from by rw [mp]; simp [m0]]
                refine fin _ _ ?_; simp [regOk, show (x.a < 8) by omega, hua, show x.b = 0 by omega, m0, hum]
              | true =>
                rw [hum] at qK
                simp -implicitDefEqProofs only [go_sem, dnW_ite, reduceIte, Nat.reduceAdd, Nat.reduceLeDiff, Nat.reduceMul, Nat.reduceEqDiff, Int.reduceLT, Int.reduceLE, Int.reduceToNat, Nat.reduceSub, Nat.reduceLT, Int.reduceEq, BitVec.reduceOfInt, BitVec.reduceOfNat, Int.reduceGT, Int.reduceGE, Int.reduceBEq, Int.reduceBNe, Nat.reduceGT, Nat.reduceBEq, Nat.reduceBNe, Int.reduceAdd, Int.reduceSub, Int.reduceNeg, Cd.cs, dcp hpt rfl, hw, gt0, gt7, dcp qA rfl, dcp qB rfl, dcp qK rfl, hk, a0, a7, b0, show (0 < x.mask.toNat) = True from by rw [mp]; simp [m0]]
                refine fin _ _ ?_; simp [regOk, show (x.a < 8) by omega, hua, show x.b = 0 by omega, m0, hum]
    · skip
      by_cases b0 : 0 < x.b
      · cases hub : ub with
        | false =>
          rw [hub] at qB
          simp -implicitDefEqProofs only [go_sem, dnW_ite, reduceIte, Nat.reduceAdd, Nat.reduceLeDiff, Nat.reduceMul, Nat.reduceEqDiff, Int.reduceLT, Int.reduceLE, Int.reduceToNat, Nat.reduceSub, Nat.reduceLT, Int.reduceEq, BitVec.reduceOfInt, BitVec.reduceOfNat, Int.reduceGT, Int.reduceGE, Int.reduceBEq, Int.reduceBNe, Nat.reduceGT, Nat.reduceBEq, Nat.reduceBNe, Int.reduceAdd, Int.reduceSub, Int.reduceNeg, Cd.cs, dcp hpt rfl, hw, gt0, gt7, dcp qA rfl, dcp qB rfl, dcp qK rfl, hk, a0, b0]
          refine fin _ _ ?_; simp [regOk, show x.a = 0 by omega, show ¬ (x.b = 0) by omega, hub]
        | true =>
          rw [hub] at qB
          by_cases b7 : 7 < x.b
          · simp -implicitDefEqProofs only [go_sem, dnW_ite, reduceIte, Nat.reduceAdd, Nat.reduceLeDiff, Nat.reduceMul, Nat.reduceEqDiff, Int.reduceLT, Int.reduceLE, Int.reduceToNat, Nat.reduceSub, Nat.reduceLT, Int.reduceEq, BitVec.reduceOfInt, BitVec.reduceOfNat, Int.reduceGT, Int.reduceGE, Int.reduceBEq, Int.reduceBNe, Nat.reduceGT, Nat.reduceBEq, Nat.reduceBNe, Int.reduceAdd, Int.reduceSub, Int.reduceNeg, Cd.cs, dcp hpt rfl, hw, gt0, gt7, dcp qA rfl, dcp qB rfl, dcp qK rfl, hk, a0, b0, b7]
            refine fin _ _ ?_; simp [regOk, show x.a = 0 by omega, show ¬ (x.b = 0) by omega, show ¬ (x.b < 8) by omega]
          · skip
            have mp : (0 < x.mask.toNat) = (x.mask ≠ 0#32) := by have := mgt0 x.mask; rwa [gt0] at this
            by_cases m0 : x.mask = 0#32
            · simp -implicitDefEqProofs only [go_sem, dnW_ite, reduceIte, Nat.reduceAdd, Nat.reduceLeDiff, Nat.reduceMul, Nat.reduceEqDiff, Int.reduceLT, Int.reduceLE, Int.reduceToNat, Nat.reduceSub, Nat.reduceLT, Int.reduceEq, BitVec.reduceOfInt, BitVec.reduceOfNat, Int.reduceGT, Int.reduceGE, Int.reduceBEq, Int.reduceBNe, Nat.reduceGT, Nat.reduceBEq, Nat.reduceBNe, Int.reduceAdd, Int.reduceSub, Int.reduceNeg, Cd.cs, dcp hpt rfl, hw, gt0, gt7, dcp qA rfl, dcp qB rfl, dcp qK rfl, hk, a0, b0, b7, show (0 < x.mask.toNat) = False from by rw [mp]; simp [m0]]
              refine fin _ _ ?_; simp [regOk, show x.a = 0 by omega, show (x.b < 8) by omega, hub, m0]
            · cases hum : um with
              | false =>
                rw [hum] at qK
                simp -implicitDefEqProofs only [go_sem, dnW_ite, reduceIte, Nat.reduceAdd, Nat.reduceLeDiff, Nat.reduceMul, Nat.reduceEqDiff, Int.reduceLT, Int.reduceLE, Int.reduceToNat, Nat.reduceSub, Nat.reduceLT, Int.reduceEq, BitVec.reduceOfInt, BitVec.reduceOfNat, Int.reduceGT, Int.reduceGE, Int.reduceBEq, Int.reduceBNe, Nat.reduceGT, Nat.reduceBEq, Nat.reduceBNe, Int.reduceAdd, Int.reduceSub, Int.reduceNeg, Cd.cs, dcp hpt rfl, hw, gt0, gt7, dcp qA rfl, dcp qB rfl, dcp qK rfl, hk, a0, b0, b7, show (0 < x.mask.toNat) = True from by rw [mp]; simp [m0]]
                refine fin _ _ ?_; simp [regOk, show x.a = 0 by omega, show (x.b < 8) by omega, hub, m0, hum]
              | true =>
                rw [hum] at qK
                simp -implicitDefEqProofs only [go_sem, dnW_ite, reduceIte, Nat.reduceAdd, Nat.reduceLeDiff, Nat.reduceMul, Nat.reduceEqDiff, Int.reduceLT, Int.reduceLE, Int.reduceToNat, Nat.reduceSub, Nat.reduceLT, Int.reduceEq, BitVec.reduceOfInt, BitVec.reduceOfNat, Int.reduceGT, Int.reduceGE, Int.reduceBEq, Int.reduceBNe, Nat.reduceGT, Nat.reduceBEq, Nat.reduceBNe, Int.reduceAdd, Int.reduceSub, Int.reduceNeg, Cd.cs, dcp hpt rfl, hw, gt0, gt7, dcp qA rfl, dcp qB rfl, dcp qK rfl, hk, a0, b0, b7, show (0 < x.mask.toNat) = True from by rw [mp]; simp [m0]]
                refine fin _ _ ?_; simp [regOk, show x.a = 0 by omega, show (x.b < 8) by omega, hub, m0, hum]
      · skip
        have mp : (0 < x.mask.toNat) = (x.mask ≠ 0#32) := by have := mgt0 x.mask; rwa [gt0] at this
        by_cases m0 : x.mask = 0#32
        · simp -implicitDefEqProofs only [go_sem, dnW_ite, reduceIte, Nat.reduceAdd, Nat.reduceLeDiff, Nat.reduceMul, Nat.reduceEqDiff, Int.reduceLT, Int.reduceLE, Int.reduceToNat, Nat.reduceSub, Nat.reduceLT, Int.reduceEq, BitVec.reduceOfInt, BitVec.reduceOfNat, Int.reduceGT, Int.reduceGE, Int.reduceBEq, Int.reduceBNe, Nat.reduceGT, Nat.reduceBEq, Nat.reduceBNe, Int.reduceAdd, Int.reduceSub, Int.reduceNeg, Cd.cs, dcp hpt rfl, hw, gt0, gt7, dcp qA rfl, dcp qB rfl, dcp qK rfl, hk, a0, b0, show (0 < x.mask.toNat) = False from by rw [mp]; simp [m0]]
          refine fin _ _ ?_; simp [regOk, show x.a = 0 by omega, show x.b = 0 by omega, m0]
        · cases hum : um with
          | false =>
            rw [hum] at qK
            simp -implicitDefEqProofs only [go_sem, dnW_ite, reduceIte, Nat.reduceAdd, Nat.reduceLeDiff, Nat.reduceMul, Nat.reduceEqDiff, Int.reduceLT, Int.reduceLE, Int.reduceToNat, Nat.reduceSub, Nat.reduceLT, Int.reduceEq, BitVec.reduceOfInt, BitVec.reduceOfNat, Int.reduceGT, Int.reduceGE, Int.reduceBEq, Int.reduceBNe, Nat.reduceGT, Nat.reduceBEq, Nat.reduceBNe, Int.reduceAdd, Int.reduceSub, Int.reduceNeg, Cd.cs, dcp hpt rfl, hw, gt0, gt7, dcp qA rfl, dcp qB rfl, dcp qK rfl, hk, a0, b0, show (0 < x.mask.toNat) = True from by rw [mp]; simp [m0]]
            refine fin _ _ ?_; simp [regOk, show x.a = 0 by omega, show x.b = 0 by omega, m0, hum]
          | true =>
            rw [hum] at qK
            simp -implicitDefEqProofs only [go_sem, dnW_ite, reduceIte, Nat.reduceAdd, Nat.reduceLeDiff, Nat.reduceMul, Nat.reduceEqDiff, Int.reduceLT, Int.reduceLE, Int.reduceToNat, Nat.reduceSub, Nat.reduceLT, Int.reduceEq, BitVec.reduceOfInt, BitVec.reduceOfNat, Int.reduceGT, Int.reduceGE, Int.reduceBEq, Int.reduceBNe, Nat.reduceGT, Nat.reduceBEq, Nat.reduceBNe, Int.reduceAdd, Int.reduceSub, Int.reduceNeg, Cd.cs, dcp hpt rfl, hw, gt0, gt7, dcp qA rfl, dcp qB rfl, dcp qK rfl, hk, a0, b0, show (0 < x.mask.toNat) = True from by rw [mp]; simp [m0]]
            refine fin _ _ ?_; simp [regOk, show x.a = 0 by omega, show x.b = 0 by omega, m0, hum]
  · have hpt := parts_out x.op (by omega) w1
    have hs : ((⟨#[]⟩ : ByteArray).toList == (⟨#[]⟩ : ByteArray).toList) = true := by simp
    simp -implicitDefEqProofs only [go_sem, dnW_ite, reduceIte, Nat.reduceAdd, Nat.reduceLeDiff, Nat.reduceMul, Nat.reduceEqDiff, Int.reduceLT, Int.reduceLE, Int.reduceToNat, Nat.reduceSub, Nat.reduceLT, Int.reduceEq, BitVec.reduceOfInt, BitVec.reduceOfNat, Int.reduceGT, Int.reduceGE, Int.reduceBEq, Int.reduceBNe, Nat.reduceGT, Nat.reduceBEq, Nat.reduceBNe, Int.reduceAdd, Int.reduceSub, Int.reduceNeg, Cd.cs, dcp hpt rfl, hs]
    exact hK _ _ (frzE rfl (by simp [itup, Cd.right, hop]))
end Go.Proofs.Ytcdlipdeemlibaa.G
namespace Go.Proofs.Ytcdlipdeemlibaa.G
open Go
set_option linter.unusedSimpArgs false
set_option linter.unusedVariables false
set_option maxRecDepth 20000
theorem rCheck_ok (x : IV) (l : List Cd) (hx : Ls 6 x (l.map Cd.e)) (hw : ∀ c ∈ l, c.wf) (cells players : Nat) (hc : cells ≤ 1000000) (hp : players ≤ 1000000) :
    ∃ k : Int, pc BI F_ref08_Check [x, nI cells, nI players] = some (.int .i64 k) ∧ (k ≥ 0 ↔ rightL l cells players = false) := by
  have : ∃ u, pc BI F_ref08_Check [x, nI cells, nI players] = some u ∧ ∃ k : Int, u = .int .i64 k ∧ (k ≥ 0 ↔ rightL l cells players = false) := by
    refine pcW fn_ref08_Check rfl fun K hK => ?_
    unfold l_ref08_Check
    by_cases h96 : l.length > 96
    · have h' : (l.length : Int) > 96 := by omega
      simp -implicitDefEqProofs only [go_sem, dnW_ite, reduceIte, Nat.reduceAdd, Nat.reduceLeDiff, Nat.reduceMul, Nat.reduceEqDiff, Int.reduceLT, Int.reduceLE, Int.reduceToNat, Nat.reduceSub, Nat.reduceLT, Int.reduceEq, BitVec.reduceOfInt, BitVec.reduceOfNat, Int.reduceGT, Int.reduceGE, Int.reduceBEq, Int.reduceBNe, Nat.reduceGT, Nat.reduceBEq, Nat.reduceBNe, Int.reduceAdd, Int.reduceSub, Int.reduceNeg, hx.lenF, List.length_map, h']
      exact hK _ _ _ (frzP rfl) ⟨96, rfl, by simp [rightL, show ¬ l.length ≤ 96 by omega]⟩
    have h' : ¬ (l.length : Int) > 96 := by omega
    simp -implicitDefEqProofs only [go_sem, dnW_ite, reduceIte, Nat.reduceAdd, Nat.reduceLeDiff, Nat.reduceMul, Nat.reduceEqDiff, Int.reduceLT, Int.reduceLE, Int.reduceToNat, Nat.reduceSub, Nat.reduceLT, Int.reduceEq, BitVec.reduceOfInt, BitVec.reduceOfNat, Int.reduceGT, Int.reduceGE, Int.reduceBEq, Int.reduceBNe, Nat.reduceGT, Nat.reduceBEq, Nat.reduceBNe, Int.reduceAdd, Int.reduceSub, Int.reduceNeg, hx.lenF, List.length_map, h', dn_loop]
    refine WP_range (by decide) l.length (fun i vs J => vs = [x, nI cells, nI players, x, nI l.length, nI i] ∧ (l.take i).all (fun x => x.right l.length cells players) = true) ?_ ⟨rfl, rfl⟩
    rintro i vs J ⟨rfl, ha⟩ hi K1 g1 g2 g3
    unfold l_ref08_Check_k0
    by_cases h : i < l.length
    · have hat := fun J => hx.at (i := i) (by simpa using h) (J := J)
      simp only [List.getElem_map, Cd.e, Cd.cs] at hat
      have hr := rRight_ok l[i] (hw _ (List.getElem_mem h)) l.length cells players (by omega) hc hp
      rw [List.take_succ_eq_append_getElem h, List.all_append, ha] at g1
      simp only [Cd.e, Cd.cs] at hr
      cases hv : l[i].right l.length cells players with
      | true =>
        rw [hv] at hr
        simp -implicitDefEqProofs only [go_sem, dnW_ite, reduceIte, Nat.reduceAdd, Nat.reduceLeDiff, Nat.reduceMul, Nat.reduceEqDiff, Int.reduceLT, Int.reduceLE, Int.reduceToNat, Nat.reduceSub, Nat.reduceLT, Int.reduceEq, BitVec.reduceOfInt, BitVec.reduceOfNat, Int.reduceGT, Int.reduceGE, Int.reduceBEq, Int.reduceBNe, Nat.reduceGT, Nat.reduceBEq, Nat.reduceBNe, Int.reduceAdd, Int.reduceSub, Int.reduceNeg, show ((i : Int) < (l.length : Int)) by omega, hat, hx.lenF, List.length_map, dcp hr (by simp [ipureL, ipure]), wrapS h (show l.length ≤ 9223372036854775807 by omega)]
        exact g1 h _ _ ⟨rfl, by simp [hv]⟩
      | false =>
        rw [hv] at hr
        simp -implicitDefEqProofs only [go_sem, dnW_ite, reduceIte, Nat.reduceAdd, Nat.reduceLeDiff, Nat.reduceMul, Nat.reduceEqDiff, Int.reduceLT, Int.reduceLE, Int.reduceToNat, Nat.reduceSub, Nat.reduceLT, Int.reduceEq, BitVec.reduceOfInt, BitVec.reduceOfNat, Int.reduceGT, Int.reduceGE, Int.reduceBEq, Int.reduceBNe, Nat.reduceGT, Nat.reduceBEq, Nat.reduceBNe, Int.reduceAdd, Int.reduceSub, Int.reduceNeg, show ((i : Int) < (l.length : Int)) by omega, hat, hx.lenF, List.length_map, dcp hr (by simp [ipureL, ipure])]
        refine g3 _ _ (hK _ _ _ (frzP rfl) ⟨i, rfl, ?_⟩)
        have : ¬ (l.all fun x => x.right l.length cells players) = true := fun hh => by
          rw [List.all_eq_true] at hh
          have := hh _ (List.getElem_mem h)
          rw [hv] at this; cases this
        simp only [Bool.not_eq_true] at this
        simp [rightL, this]
    · simp -implicitDefEqProofs only [go_sem, dnW_ite, reduceIte, Nat.reduceAdd, Nat.reduceLeDiff, Nat.reduceMul, Nat.reduceEqDiff, Int.reduceLT, Int.reduceLE, Int.reduceToNat, Nat.reduceSub, Nat.reduceLT, Int.reduceEq, BitVec.reduceOfInt, BitVec.reduceOfNat, Int.reduceGT, Int.reduceGE, Int.reduceBEq, Int.reduceBNe, Nat.reduceGT, Nat.reduceBEq, Nat.reduceBNe, Int.reduceAdd, Int.reduceSub, Int.reduceNeg, show ¬ ((i : Int) < (l.length : Int)) by omega]
      refine g2 _ _ ?_
      unfold l_ref08_Check_k1
      simp -implicitDefEqProofs only [go_sem, dnW_ite, reduceIte, Nat.reduceAdd, Nat.reduceLeDiff, Nat.reduceMul, Nat.reduceEqDiff, Int.reduceLT, Int.reduceLE, Int.reduceToNat, Nat.reduceSub, Nat.reduceLT, Int.reduceEq, BitVec.reduceOfInt, BitVec.reduceOfNat, Int.reduceGT, Int.reduceGE, Int.reduceBEq, Int.reduceBNe, Nat.reduceGT, Nat.reduceBEq, Nat.reduceBNe, Int.reduceAdd, Int.reduceSub, Int.reduceNeg]
      refine hK _ _ _ (frzP rfl) ⟨-1, rfl, ?_⟩
      rw [List.take_of_length_le (by omega)] at ha
      simp [rightL, ha, show l.length ≤ 96 by omega]
  obtain ⟨u, h1, k, rfl, h2⟩ := this
  exact ⟨k, h1, h2⟩
end Go.Proofs.Ytcdlipdeemlibaa.G
namespace Go.Proofs.Ytcdlipdeemlibaa.G
open Go
set_option linter.unusedSimpArgs false
set_option linter.unusedVariables false
set_option maxRecDepth 20000
set_option maxHeartbeats 2000000
theorem Cl.c_flat (l : List Cl) (c : Cl) : (l.map Cl.c).flatten ++ c.c = ((l ++ [c]).map Cl.c).flatten := by simp
theorem cells10_ok (x : IV) (l : List Cl) (hx : Ls 2 x (l.map Cl.e)) (hb : l.length ≤ 100000) : ∃ u, pc BI F_law10_cells [x] = some u ∧ Ls 2 u (l.map Cl.e) := by
  refine pcW fn_law10_cells rfl fun K hK => ?_
  unfold l_law10_cells
  simp -implicitDefEqProofs only [go_sem, dnW_ite, reduceIte, Nat.reduceAdd, Nat.reduceLeDiff, Nat.reduceMul, Nat.reduceEqDiff, Int.reduceLT, Int.reduceLE, Int.reduceToNat, Nat.reduceSub, Nat.reduceLT, Int.reduceEq, BitVec.reduceOfInt, BitVec.reduceOfNat, Int.reduceGT, Int.reduceGE, Int.reduceBEq, Int.reduceBNe, Nat.reduceGT, Nat.reduceBEq, Nat.reduceBNe, Int.reduceAdd, Int.reduceSub, Int.reduceNeg, hx.lenF, List.length_map, dn_loop]
  refine WP_range (by decide) l.length (fun i vs J => ∃ out, vs = [out, x, nI l.length, nI i] ∧ Grow J out 2 ((l.take i).map Cl.c).flatten) ?_ ⟨_, rfl, .nil⟩
  rintro i vs J ⟨out, rfl, hg⟩ hi K1 g1 g2 g3
  unfold l_law10_cells_k0
  by_cases h : i < l.length
  · have hat := fun J => hx.at (i := i) (by simpa using h) (J := J)
    simp only [List.getElem_map, Cl.e, Cl.c] at hat
    have hw1 := wrapS h (show l.length ≤ 9223372036854775807 by omega)
    have hg1 : Grow (J.push (.cells 0 [.int .i32 l[i].v, m32 l[i].s] false)) out 2 ((l.take i).map Cl.c).flatten := hg.fr0 (.push _ _ _)
    simp -implicitDefEqProofs only [go_sem, dnW_ite, reduceIte, Nat.reduceAdd, Nat.reduceLeDiff, Nat.reduceMul, Nat.reduceEqDiff, Int.reduceLT, Int.reduceLE, Int.reduceToNat, Nat.reduceSub, Nat.reduceLT, Int.reduceEq, BitVec.reduceOfInt, BitVec.reduceOfNat, Int.reduceGT, Int.reduceGE, Int.reduceBEq, Int.reduceBNe, Nat.reduceGT, Nat.reduceBEq, Nat.reduceBNe, Int.reduceAdd, Int.reduceSub, Int.reduceNeg, show ((i : Int) < (l.length : Int)) by omega, hat, ipureL, ipure, grp, mkE, List.headD]
    refine WP_bind (hg1.app (m := 1) (ds := l[i].c) (by omega) rfl rfl rfl rfl (fits8 ?_)) fun out' J2 hs2 => ?_
    · rw [flat_len (cl2 _)]; simp; omega
    obtain ⟨k1, k2, k3⟩ := hs2
    simp -implicitDefEqProofs only [go_sem, dnW_ite, reduceIte, Nat.reduceAdd, Nat.reduceLeDiff, Nat.reduceMul, Nat.reduceEqDiff, Int.reduceLT, Int.reduceLE, Int.reduceToNat, Nat.reduceSub, Nat.reduceLT, Int.reduceEq, BitVec.reduceOfInt, BitVec.reduceOfNat, Int.reduceGT, Int.reduceGE, Int.reduceBEq, Int.reduceBNe, Nat.reduceGT, Nat.reduceBEq, Nat.reduceBNe, Int.reduceAdd, Int.reduceSub, Int.reduceNeg, hw1]
    refine g1 h _ _ ⟨out', rfl, ?_⟩
    rw [List.take_succ_eq_append_getElem h, ← Cl.c_flat]; exact k1
  · simp -implicitDefEqProofs only [go_sem, dnW_ite, reduceIte, Nat.reduceAdd, Nat.reduceLeDiff, Nat.reduceMul, Nat.reduceEqDiff, Int.reduceLT, Int.reduceLE, Int.reduceToNat, Nat.reduceSub, Nat.reduceLT, Int.reduceEq, BitVec.reduceOfInt, BitVec.reduceOfNat, Int.reduceGT, Int.reduceGE, Int.reduceBEq, Int.reduceBNe, Nat.reduceGT, Nat.reduceBEq, Nat.reduceBNe, Int.reduceAdd, Int.reduceSub, Int.reduceNeg, show ¬ ((i : Int) < (l.length : Int)) by omega]
    refine g2 _ _ ?_
    unfold l_law10_cells_k1
    simp -implicitDefEqProofs only [go_sem, dnW_ite, reduceIte, Nat.reduceAdd, Nat.reduceLeDiff, Nat.reduceMul, Nat.reduceEqDiff, Int.reduceLT, Int.reduceLE, Int.reduceToNat, Nat.reduceSub, Nat.reduceLT, Int.reduceEq, BitVec.reduceOfInt, BitVec.reduceOfNat, Int.reduceGT, Int.reduceGE, Int.reduceBEq, Int.reduceBNe, Nat.reduceGT, Nat.reduceBEq, Nat.reduceBNe, Int.reduceAdd, Int.reduceSub, Int.reduceNeg]
    rw [List.take_of_length_le (by omega)] at hg
    obtain ⟨u, hu, hul⟩ := hg.frzX (cl2 l) (by decide) (cl_pure l) (flat_one l)
    rw [cl_mk] at hul
    exact hK _ _ u (hu 11) hul
theorem Cd.c_flat (l : List Cd) (c : Cd) : (l.map Cd.cs).flatten ++ c.cs = ((l ++ [c]).map Cd.cs).flatten := by simp
theorem gm_one' (g : Gm) {x y : IV} (h1 : ione x = true) (h2 : ione y = true) : (gmc g x y).all ione = true := by
  simp only [gmc, List.all_cons, List.all_nil, h1, h2]; rfl
theorem own10_ok (g : Gm) (x y : IV) (h : GR g x y) (hc : g.cells.length ≤ 100000) (hd : g.code.length ≤ 100000) : ∃ u, pc BI F_law10_own [.agg (gmc g x y)] = some u ∧ ∃ x2 y2, u = .agg (gmc g x2 y2) ∧ GR g x2 y2 := by
  refine pcW fn_law10_own rfl fun K hK => ?_
  obtain ⟨a, ha, hal⟩ := cells10_ok x g.cells h.x hc
  unfold l_law10_own
  simp -implicitDefEqProofs only [go_sem, dnW_ite, reduceIte, Nat.reduceAdd, Nat.reduceLeDiff, Nat.reduceMul, Nat.reduceEqDiff, Int.reduceLT, Int.reduceLE, Int.reduceToNat, Nat.reduceSub, Nat.reduceLT, Int.reduceEq, BitVec.reduceOfInt, BitVec.reduceOfNat, Int.reduceGT, Int.reduceGE, Int.reduceBEq, Int.reduceBNe, Nat.reduceGT, Nat.reduceBEq, Nat.reduceBNe, Int.reduceAdd, Int.reduceSub, Int.reduceNeg, h.one, h.x.pure, dcp ha (by simp [ipureL, h.x.pure]), ↓hal.icells, ↓hal.one, h.y.lenF, List.length_map, dn_loop]
  have hone : ∀ out, ione out = true → (gmc g a out).all ione = true := fun out ho => gm_one' g hal.one ho
  refine WP_range (by decide) g.code.length (fun i vs J => ∃ out, vs = [.ptr 1 0 0, .ptr 2 0 0, y, nI g.code.length, nI i] ∧ J[1]? = some (.cells 0 (gmc ⟨0, 0, 0#32, 0#32, [], []⟩ (.sc (.slice none 0 0)) (.sc (.slice none 0 0))) false) ∧ J[2]? = some (.cells 0 (gmc g a out) false) ∧ 1 ∉ blk out ∧ 2 ∉ blk out ∧ Grow J out 6 ((g.code.take i).map Cd.cs).flatten) ?_ ⟨.sc (.slice none 0 0), rfl, rfl, rfl, by simp [blk, blkOf], by simp [blk, blkOf], .nil⟩
  rintro i vs J ⟨out, rfl, h1, h2, n1, n2, hg⟩ hi K1 g1 g2 g3
  unfold l_law10_own_k0
  have hl1 := lt_get h1
  have hl2 := lt_get h2
  by_cases hi2 : i < g.code.length
  · have hat := fun J => h.y.at (i := i) (by simpa using hi2) (J := J)
    simp only [List.getElem_map, Cd.e, Cd.cs] at hat
    have hw1 := wrapS hi2 (show g.code.length ≤ 9223372036854775807 by omega)
    have hg1 : ∀ X, Grow (J.push X) out 6 ((g.code.take i).map Cd.cs).flatten := fun X => hg.fr0 (.push _ _ _)
    simp -implicitDefEqProofs only [go_sem, dnW_ite, reduceIte, Nat.reduceAdd, Nat.reduceLeDiff, Nat.reduceMul, Nat.reduceEqDiff, Int.reduceLT, Int.reduceLE, Int.reduceToNat, Nat.reduceSub, Nat.reduceLT, Int.reduceEq, BitVec.reduceOfInt, BitVec.reduceOfNat, Int.reduceGT, Int.reduceGE, Int.reduceBEq, Int.reduceBNe, Nat.reduceGT, Nat.reduceBEq, Nat.reduceBNe, Int.reduceAdd, Int.reduceSub, Int.reduceNeg, show ((i : Int) < (g.code.length : Int)) by omega, hat, inb h1, inb h2, h2, ipureL, ipure, grp, mkE, List.headD, Nat.reduceEqDiff]
    refine WP_bind ((hg1 _).app (m := 1) (ds := g.code[i].cs) (by omega) rfl rfl rfl rfl (fits12 ?_)) fun out' J2 hs2 => ?_
    · rw [flat_len (cd6 _)]; simp; omega
    obtain ⟨k1, k2, k3⟩ := hs2
    have m1 : J2[1]? = some (.cells 0 (gmc ⟨0, 0, 0#32, 0#32, [], []⟩ (.sc (.slice none 0 0)) (.sc (.slice none 0 0))) false) := by
      rw [k2.2 1 (by simp; omega) n1]; (repeat (first | with_reducible assumption | ((with_reducible refine gsE ?_ ?_); (focus omega); focus (first | omega | (simp only [Array.size_push, Array.size_setIfInBounds] <;> omega))) | ((with_reducible refine gsN ?_ ?_); focus omega) | ((with_reducible refine gpN ?_ ?_); focus (first | omega | (simp only [Array.size_push, Array.size_setIfInBounds] <;> omega))) | ((with_reducible refine gpE ?_); focus (first | omega | (simp only [Array.size_push, Array.size_setIfInBounds] <;> omega)))))
    have m2 : J2[2]? = some (.cells 0 (gmc g a out) false) := by
      rw [k2.2 2 (by simp; omega) n2]; (repeat (first | with_reducible assumption | ((with_reducible refine gsE ?_ ?_); (focus omega); focus (first | omega | (simp only [Array.size_push, Array.size_setIfInBounds] <;> omega))) | ((with_reducible refine gsN ?_ ?_); focus omega) | ((with_reducible refine gpN ?_ ?_); focus (first | omega | (simp only [Array.size_push, Array.size_setIfInBounds] <;> omega))) | ((with_reducible refine gpE ?_); focus (first | omega | (simp only [Array.size_push, Array.size_setIfInBounds] <;> omega)))))
    have nn : ∀ d, d < J.size → d ∉ blk out → d ∉ blk out' := fun d hd hn hm => by
      rcases k3 d hm with hm | hm
      · exact hn hm
      · simp at hm; omega
    simp -implicitDefEqProofs only [go_sem, dnW_ite, reduceIte, Nat.reduceAdd, Nat.reduceLeDiff, Nat.reduceMul, Nat.reduceEqDiff, Int.reduceLT, Int.reduceLE, Int.reduceToNat, Nat.reduceSub, Nat.reduceLT, Int.reduceEq, BitVec.reduceOfInt, BitVec.reduceOfNat, Int.reduceGT, Int.reduceGE, Int.reduceBEq, Int.reduceBNe, Nat.reduceGT, Nat.reduceBEq, Nat.reduceBNe, Int.reduceAdd, Int.reduceSub, Int.reduceNeg, hw1, m2, inb m2, gm_s5, hone out' k1.one, ↓k1.icells, ↓k1.one]
    refine g1 hi2 _ _ ⟨out', rfl, ?_, set_get _ (lt_get m2), nn 1 hl1 n1, nn 2 hl2 n2, ?_⟩
    · (repeat (first | with_reducible assumption | ((with_reducible refine gsE ?_ ?_); (focus omega); focus (first | omega | (simp only [Array.size_push, Array.size_setIfInBounds] <;> omega))) | ((with_reducible refine gsN ?_ ?_); focus omega) | ((with_reducible refine gpN ?_ ?_); focus (first | omega | (simp only [Array.size_push, Array.size_setIfInBounds] <;> omega))) | ((with_reducible refine gpE ?_); focus (first | omega | (simp only [Array.size_push, Array.size_setIfInBounds] <;> omega)))))
    · rw [List.take_succ_eq_append_getElem hi2, ← Cd.c_flat]
      exact k1.fr (Fr.set J2 (b := 2) _ (S := [2]) (by simp)) (fun c hc hm => by simp at hm; subst hm; exact nn _ hl2 n2 hc)
  · simp -implicitDefEqProofs only [go_sem, dnW_ite, reduceIte, Nat.reduceAdd, Nat.reduceLeDiff, Nat.reduceMul, Nat.reduceEqDiff, Int.reduceLT, Int.reduceLE, Int.reduceToNat, Nat.reduceSub, Nat.reduceLT, Int.reduceEq, BitVec.reduceOfInt, BitVec.reduceOfNat, Int.reduceGT, Int.reduceGE, Int.reduceBEq, Int.reduceBNe, Nat.reduceGT, Nat.reduceBEq, Nat.reduceBNe, Int.reduceAdd, Int.reduceSub, Int.reduceNeg, show ¬ ((i : Int) < (g.code.length : Int)) by omega]
    refine g2 _ _ ?_
    unfold l_law10_own_k1
    rw [List.take_of_length_le (by omega)] at hg
    obtain ⟨u, hu, hul⟩ := hg.frzX (cd6 g.code) (by decide) (cd_pure g.code) (cd_one g.code)
    rw [cd_mk] at hul
    simp -implicitDefEqProofs only [go_sem, dnW_ite, reduceIte, Nat.reduceAdd, Nat.reduceLeDiff, Nat.reduceMul, Nat.reduceEqDiff, Int.reduceLT, Int.reduceLE, Int.reduceToNat, Nat.reduceSub, Nat.reduceLT, Int.reduceEq, BitVec.reduceOfInt, BitVec.reduceOfNat, Int.reduceGT, Int.reduceGE, Int.reduceBEq, Int.reduceBNe, Nat.reduceGT, Nat.reduceBEq, Nat.reduceBNe, Int.reduceAdd, Int.reduceSub, Int.reduceNeg, h1, h2, inb h1, inb h2, gm_all, hone out hg.one]
    have hg2 := hg.fr (Fr.set J (b := 1) (.cells 0 (gmc g a out) false) (S := [1]) (by simp)) (fun c hc hm => by simp at hm; subst hm; exact n1 hc)
    obtain ⟨u2, hu2, hul2⟩ := hg2.frzX (cd6 g.code) (by decide) (cd_pure g.code) (cd_one g.code)
    rw [cd_mk] at hul2
    generalize J.setIfInBounds 1 (.cells 0 (gmc g a out) false) = JF at *
    have fp : ∀ {v : IV}, ipure v = true → frz JF 11 v = some v := fun h => frz_pure _ _ h
    refine hK _ _ (.agg (gmc g a u2)) (frz_aggL (k := 11) ?_) ⟨a, u2, rfl, hal, hul2⟩
    simp only [gmc]
    rw [List.mapM_cons, List.mapM_cons, List.mapM_cons, List.mapM_cons, List.mapM_cons, List.mapM_cons, fp (v := .int .i64 g.obs) rfl, fp (v := .int .i64 g.players) rfl, fp (v := m32 g.moves) rfl, fp (v := m32 g.dflt) rfl, fp hal.pure, hu2 10]
    rfl
end Go.Proofs.Ytcdlipdeemlibaa.G
namespace Go.Proofs.Ytcdlipdeemlibaa.G
open Go
set_option linter.unusedSimpArgs false
set_option linter.unusedVariables false
set_option maxRecDepth 20000
set_option maxHeartbeats 2000000
theorem wrapI32 (w : BitVec 32) : IntKind.i32.wrap (w.toNat : Int) = w.toInt := by
  have := w.isLt
  simp only [IntKind.wrap, IntKind.bits, IntKind.signed, BitVec.toInt]; simp
  split <;> split <;> omega
theorem iW_toInt (w : BitVec 32) : iW w.toInt = w := BitVec.ofInt_toInt
theorem toInt_iW {n : Int} (h : I32 n) : (iW n).toInt = n := by
  obtain ⟨h0, h1⟩ := h
  rw [iW, BitVec.toInt_ofInt]
  simp only [Int.bmod]; split <;> omega
theorem nB_toNat (x : Byt) : nB x.toNat = x := by simp [nB]
theorem toNat_nB {n : Nat} (h : n < 256) : (nB n).toNat = n := ofNat8 h
def eCd (st : Option (List Byt)) : Cd × Option (List Byt) :=
  (⟨(eByte st).1.toNat, (eByte (eByte st).2).1.toNat, (eByte (eByte (eByte st).2).2).1.toNat, (eByte (eByte (eByte (eByte st).2).2).2).1.toNat, (eWord (eByte (eByte (eByte (eByte st).2).2).2).2).1.toInt, (eWord (eWord (eByte (eByte (eByte (eByte st).2).2).2).2).2).1⟩, (eWord (eWord (eByte (eByte (eByte (eByte st).2).2).2).2).2).2)
def eCds : Nat → Option (List Byt) → List Cd × Option (List Byt)
  | 0, st => ([], st)
  | k + 1, st => ((eCd st).1 :: (eCds k (eCd st).2).1, (eCds k (eCd st).2).2)
def codeP (bs : List Byt) : Option (List Cd) := if eDone (eCds (eNum (some bs) 96).1 (eNum (some bs) 96).2).2 then some (eCds (eNum (some bs) 96).1 (eNum (some bs) 96).2).1 else none
theorem eCd_wf (st : Option (List Byt)) : (eCd st).1.wf := by
  have h := fun x : Byt => x.isLt
  refine ⟨h _, h _, h _, h _, ?_, ?_⟩
  · exact BitVec.le_toInt _
  · exact BitVec.toInt_lt
theorem eCds_wf : ∀ (k : Nat) (st : Option (List Byt)), ∀ c ∈ (eCds k st).1, c.wf
  | 0, st, c, h => by cases h
  | k + 1, st, c, h => by
    rcases List.mem_cons.1 h with rfl | h
    · exact eCd_wf st
    · exact eCds_wf k _ c h
theorem eCds_len : ∀ (k : Nat) (st : Option (List Byt)), (eCds k st).1.length = k
  | 0, st => rfl
  | k + 1, st => by rw [eCds, List.length_cons, eCds_len k]
theorem cParse_step {J : JH} {st : Option (List Byt)} {out : IV} {cs : List IV} (n i : Nat) (hi : i < n) (hn : n ≤ 96) (h : EyeAt J 0 st) (hg : Grow J out 6 cs) (hn0 : 0 ∉ blk out) (hl : cs.length ≤ 2000) (K : Out IV → JH → Prop)
    (hk : ∀ out' J', EyeAt J' 0 (eCd st).2 → Grow J' out' 6 (cs ++ (eCd st).1.cs) → 0 ∉ blk out' → K (.goto 1 [.ptr 0 0 0, out', .int .u64 (n : Int), .int .u64 ((i + 1 : Nat) : Int)]) J') :
    WP (dn BI l_code_Parse_k0 [.ptr 0 0 0, out, .int .u64 (n : Int), .int .u64 (i : Int)] J) K := by
  have hw1 : IntKind.u64.wrap ((i : Int) + 1) = ((i + 1 : Nat) : Int) := by rw [wrap_u64 (by omega) (by omega)]; omega
  unfold eCd at hk
  unfold l_code_Parse_k0
  have keep : ∀ {J1 J2 : JH} {cs : List IV}, Grow J1 out 6 cs → Fr J1 J2 [0] → Grow J2 out 6 cs := fun hg hf => hg.fr hf (fun c hc hm => by simp at hm; subst hm; exact hn0 hc)
  simp -implicitDefEqProofs only [go_sem, dnW_ite, reduceIte, Nat.reduceAdd, Nat.reduceLeDiff, Nat.reduceMul, Nat.reduceEqDiff, Int.reduceLT, Int.reduceLE, Int.reduceToNat, Nat.reduceSub, Nat.reduceLT, Int.reduceEq, BitVec.reduceOfInt, BitVec.reduceOfNat, Int.reduceGT, Int.reduceGE, Int.reduceBEq, Int.reduceBNe, Nat.reduceGT, Nat.reduceBEq, Nat.reduceBNe, Int.reduceAdd, Int.reduceSub, Int.reduceNeg, show ((i : Int) < (n : Int)) by omega]
  refine WP_call (EByte_ok h) fun v J1 hv => ?_
  obtain ⟨rfl, h1, f1⟩ := hv
  have hg := keep hg f1
  simp -implicitDefEqProofs only [go_sem, dnW_ite, reduceIte, Nat.reduceAdd, Nat.reduceLeDiff, Nat.reduceMul, Nat.reduceEqDiff, Int.reduceLT, Int.reduceLE, Int.reduceToNat, Nat.reduceSub, Nat.reduceLT, Int.reduceEq, BitVec.reduceOfInt, BitVec.reduceOfNat, Int.reduceGT, Int.reduceGE, Int.reduceBEq, Int.reduceBNe, Nat.reduceGT, Nat.reduceBEq, Nat.reduceBNe, Int.reduceAdd, Int.reduceSub, Int.reduceNeg]
  refine WP_call (EByte_ok h1) fun v J2 hv => ?_
  obtain ⟨rfl, h2, f2⟩ := hv
  have hg := keep hg f2
  simp -implicitDefEqProofs only [go_sem, dnW_ite, reduceIte, Nat.reduceAdd, Nat.reduceLeDiff, Nat.reduceMul, Nat.reduceEqDiff, Int.reduceLT, Int.reduceLE, Int.reduceToNat, Nat.reduceSub, Nat.reduceLT, Int.reduceEq, BitVec.reduceOfInt, BitVec.reduceOfNat, Int.reduceGT, Int.reduceGE, Int.reduceBEq, Int.reduceBNe, Nat.reduceGT, Nat.reduceBEq, Nat.reduceBNe, Int.reduceAdd, Int.reduceSub, Int.reduceNeg]
  refine WP_call (EByte_ok h2) fun v J3 hv => ?_
  obtain ⟨rfl, h3, f3⟩ := hv
  have hg := keep hg f3
  simp -implicitDefEqProofs only [go_sem, dnW_ite, reduceIte, Nat.reduceAdd, Nat.reduceLeDiff, Nat.reduceMul, Nat.reduceEqDiff, Int.reduceLT, Int.reduceLE, Int.reduceToNat, Nat.reduceSub, Nat.reduceLT, Int.reduceEq, BitVec.reduceOfInt, BitVec.reduceOfNat, Int.reduceGT, Int.reduceGE, Int.reduceBEq, Int.reduceBNe, Nat.reduceGT, Nat.reduceBEq, Nat.reduceBNe, Int.reduceAdd, Int.reduceSub, Int.reduceNeg]
  refine WP_call (EByte_ok h3) fun v J4 hv => ?_
  obtain ⟨rfl, h4, f4⟩ := hv
  have hg := keep hg f4
  simp -implicitDefEqProofs only [go_sem, dnW_ite, reduceIte, Nat.reduceAdd, Nat.reduceLeDiff, Nat.reduceMul, Nat.reduceEqDiff, Int.reduceLT, Int.reduceLE, Int.reduceToNat, Nat.reduceSub, Nat.reduceLT, Int.reduceEq, BitVec.reduceOfInt, BitVec.reduceOfNat, Int.reduceGT, Int.reduceGE, Int.reduceBEq, Int.reduceBNe, Nat.reduceGT, Nat.reduceBEq, Nat.reduceBNe, Int.reduceAdd, Int.reduceSub, Int.reduceNeg]
  refine WP_call (EWord_ok h4) fun v J5 hv => ?_
  obtain ⟨rfl, h5, f5⟩ := hv
  have hg := keep hg f5
  generalize eByte st = e1 at *
  generalize eByte e1.2 = e2 at *
  generalize eByte e2.2 = e3 at *
  generalize eByte e3.2 = e4 at *
  generalize eWord e4.2 = w1 at *
  simp -implicitDefEqProofs only [go_sem, dnW_ite, reduceIte, Nat.reduceAdd, Nat.reduceLeDiff, Nat.reduceMul, Nat.reduceEqDiff, Int.reduceLT, Int.reduceLE, Int.reduceToNat, Nat.reduceSub, Nat.reduceLT, Int.reduceEq, BitVec.reduceOfInt, BitVec.reduceOfNat, Int.reduceGT, Int.reduceGE, Int.reduceBEq, Int.reduceBNe, Nat.reduceGT, Nat.reduceBEq, Nat.reduceBNe, Int.reduceAdd, Int.reduceSub, Int.reduceNeg, wrapI32]
  have h6 : EyeAt (J5.push (IB.cells 0 [by8 e1.fst, by8 e2.fst, by8 e3.fst, by8 e4.fst, IV.int IntKind.i32 w1.fst.toInt, IV.sc (Value.int IntKind.u32 0)] false)) 0 w1.2 := h5.fr (.push _ _ []) (by simp)
  have hg := hg.fr0 (.push _ (IB.cells 0 [by8 e1.fst, by8 e2.fst, by8 e3.fst, by8 e4.fst, IV.int IntKind.i32 w1.fst.toInt, IV.sc (Value.int IntKind.u32 0)] false) _)
  have hJ := push_get J5 (IB.cells 0 [by8 e1.fst, by8 e2.fst, by8 e3.fst, by8 e4.fst, IV.int IntKind.i32 w1.fst.toInt, IV.sc (Value.int IntKind.u32 0)] false)
  have h50 := lt_get h5.choose_spec.1
  have hod : ∀ c ∈ blk out, c ≠ J5.size := fun c hc e => by
    subst e
    have := (keep (J1 := J4) (J2 := J5) (by assumption) f5).low _ hc
    omega
  generalize hd : J5.size = d at *
  generalize J5.push (IB.cells 0 [by8 e1.fst, by8 e2.fst, by8 e3.fst, by8 e4.fst, IV.int IntKind.i32 w1.fst.toInt, IV.sc (Value.int IntKind.u32 0)] false) = J6 at *
  refine WP_call (EWord_ok h6) fun v J7 hv => ?_
  obtain ⟨rfl, h7, f7⟩ := hv
  have hg := keep hg f7
  have hJ7 : J7[d]? = some (IB.cells 0 [by8 e1.fst, by8 e2.fst, by8 e3.fst, by8 e4.fst, IV.int IntKind.i32 w1.fst.toInt, IV.sc (Value.int IntKind.u32 0)] false) := by
    rw [f7.2 d (lt_get hJ) (by simp; omega)]; exact hJ
  generalize eWord w1.2 = w2 at *
  have h70 := lt_get hJ7
  have hg8 : Grow (J7.setIfInBounds d (IB.cells 0 [by8 e1.fst, by8 e2.fst, by8 e3.fst, by8 e4.fst, IV.int IntKind.i32 w1.fst.toInt, m32 w2.1] false)) out 6 cs := hg.fr (Fr.set _ _ (S := [d]) (by simp)) (fun c hc hm => hod c hc (by simpa using hm))
  have h8 : EyeAt (J7.setIfInBounds d (IB.cells 0 [by8 e1.fst, by8 e2.fst, by8 e3.fst, by8 e4.fst, IV.int IntKind.i32 w1.fst.toInt, m32 w2.1] false)) 0 w2.2 := h7.fr (Fr.set _ _ (S := [d]) (by simp)) (by simp; omega)
  simp -implicitDefEqProofs only [go_sem, dnW_ite, reduceIte, Nat.reduceAdd, Nat.reduceLeDiff, Nat.reduceMul, Nat.reduceEqDiff, Int.reduceLT, Int.reduceLE, Int.reduceToNat, Nat.reduceSub, Nat.reduceLT, Int.reduceEq, BitVec.reduceOfInt, BitVec.reduceOfNat, Int.reduceGT, Int.reduceGE, Int.reduceBEq, Int.reduceBNe, Nat.reduceGT, Nat.reduceBEq, Nat.reduceBNe, Int.reduceAdd, Int.reduceSub, Int.reduceNeg, hJ7, inb hJ7, ipureL, ipure, grp, mkE, List.headD]
  refine WP_bind (hg8.app (m := 1) (ds := [by8 e1.fst, by8 e2.fst, by8 e3.fst, by8 e4.fst, IV.int IntKind.i32 w1.fst.toInt, m32 w2.1]) (by omega) rfl rfl rfl rfl (fits12 (by omega))) fun out' J9 hs2 => ?_
  obtain ⟨k1, k2, k3⟩ := hs2
  simp -implicitDefEqProofs only [go_sem, dnW_ite, reduceIte, Nat.reduceAdd, Nat.reduceLeDiff, Nat.reduceMul, Nat.reduceEqDiff, Int.reduceLT, Int.reduceLE, Int.reduceToNat, Nat.reduceSub, Nat.reduceLT, Int.reduceEq, BitVec.reduceOfInt, BitVec.reduceOfNat, Int.reduceGT, Int.reduceGE, Int.reduceBEq, Int.reduceBNe, Nat.reduceGT, Nat.reduceBEq, Nat.reduceBNe, Int.reduceAdd, Int.reduceSub, Int.reduceNeg, hw1]
  refine hk _ _ (h8.fr k2 hn0) k1 (fun hm => ?_)
  rcases k3 0 hm with hm | hm
  · exact hn0 hm
  · rw [Array.size_setIfInBounds] at hm; omega
theorem CParse_ok {x : IV} {bs : List Byt} (hx : Ls 1 x (bs.map by8)) (hb : bs.length ≤ 1000000) : ∃ u, pc BI F_code_Parse [x] = some u ∧ match codeP bs with | some l => ∃ y, u = .tup [y, nI 0] ∧ Ls 6 y (l.map Cd.e) | none => u = .tup [.sc (.slice none 0 0), nI 2] := by
  refine pcW fn_code_Parse rfl fun K hK => ?_
  unfold l_code_Parse
  simp -implicitDefEqProofs only [go_sem, dnW_ite, reduceIte, Nat.reduceAdd, Nat.reduceLeDiff, Nat.reduceMul, Nat.reduceEqDiff, Int.reduceLT, Int.reduceLE, Int.reduceToNat, Nat.reduceSub, Nat.reduceLT, Int.reduceEq, BitVec.reduceOfInt, BitVec.reduceOfNat, Int.reduceGT, Int.reduceGE, Int.reduceBEq, Int.reduceBNe, Nat.reduceGT, Nat.reduceBEq, Nat.reduceBNe, Int.reduceAdd, Int.reduceSub, Int.reduceNeg]
  refine WP_call (Read_ok hx hb) fun v J hv => ?_
  obtain ⟨rfl, h, f, hs⟩ := hv
  have e0 : (#[] : JH).size = 0 := rfl
  rw [e0] at h
  simp -implicitDefEqProofs only [go_sem, dnW_ite, reduceIte, Nat.reduceAdd, Nat.reduceLeDiff, Nat.reduceMul, Nat.reduceEqDiff, Int.reduceLT, Int.reduceLE, Int.reduceToNat, Nat.reduceSub, Nat.reduceLT, Int.reduceEq, BitVec.reduceOfInt, BitVec.reduceOfNat, Int.reduceGT, Int.reduceGE, Int.reduceBEq, Int.reduceBNe, Nat.reduceGT, Nat.reduceBEq, Nat.reduceBNe, Int.reduceAdd, Int.reduceSub, Int.reduceNeg]
  refine WP_join fun K2 j1 j2 j3 => ?_
  refine WP_call (ENum_ok h 96 (by omega)) fun v J2 hv => ?_
  obtain ⟨rfl, h2, f2⟩ := hv
  have hle := eNum_le (some bs) 96
  unfold codeP at hK
  generalize eNum (some bs) 96 = n at *
  simp -implicitDefEqProofs only [go_sem, dnW_ite, reduceIte, Nat.reduceAdd, Nat.reduceLeDiff, Nat.reduceMul, Nat.reduceEqDiff, Int.reduceLT, Int.reduceLE, Int.reduceToNat, Nat.reduceSub, Nat.reduceLT, Int.reduceEq, BitVec.reduceOfInt, BitVec.reduceOfNat, Int.reduceGT, Int.reduceGE, Int.reduceBEq, Int.reduceBNe, Nat.reduceGT, Nat.reduceBEq, Nat.reduceBNe, Int.reduceAdd, Int.reduceSub, Int.reduceNeg, dn_loop]
  refine WP_rangeT n.1 (fun i vs J => ∃ out st l, vs = [.ptr 0 0 0, out, .int .u64 (n.1 : Int), .int .u64 (i : Int)] ∧ EyeAt J 0 st ∧ Grow J out 6 (l.map Cd.cs).flatten ∧ 0 ∉ blk out ∧ l.length = i ∧ eCds n.1 n.2 = (l ++ (eCds (n.1 - i) st).1, (eCds (n.1 - i) st).2)) ?_ ⟨_, n.2, [], rfl, h2, .nil, by simp [blk, blkOf], rfl, by simp⟩
  rintro i vs J ⟨out, st, l, rfl, h, hg, hn, hl, he⟩ hi K1 g1 g2 g3
  by_cases hlt : i < n.1
  · refine cParse_step n.1 i hlt hle h hg hn (by rw [flat_len (cd6 _), List.length_map]; omega) _ fun out' J' h' hg' hn' => ?_
    refine g1 hlt _ _ ⟨out', (eCd st).2, l ++ [(eCd st).1], rfl, h', by rw [← Cd.c_flat]; exact hg', hn', by simp [hl], ?_⟩
    rw [he, show n.1 - i = (n.1 - (i + 1)) + 1 by omega, eCds]
    simp
  · unfold l_code_Parse_k0
    simp -implicitDefEqProofs only [go_sem, dnW_ite, reduceIte, Nat.reduceAdd, Nat.reduceLeDiff, Nat.reduceMul, Nat.reduceEqDiff, Int.reduceLT, Int.reduceLE, Int.reduceToNat, Nat.reduceSub, Nat.reduceLT, Int.reduceEq, BitVec.reduceOfInt, BitVec.reduceOfNat, Int.reduceGT, Int.reduceGE, Int.reduceBEq, Int.reduceBNe, Nat.reduceGT, Nat.reduceBEq, Nat.reduceBNe, Int.reduceAdd, Int.reduceSub, Int.reduceNeg, show ¬ ((i : Int) < (n.1 : Int)) by omega]
    refine g2 _ _ _ (by decide) (j1 _ _ ?_)
    obtain rfl : i = n.1 := by omega
    rw [Nat.sub_self, eCds, List.append_nil] at he
    simp only [he] at hK
    unfold l_code_Parse_k1
    simp -implicitDefEqProofs only [go_sem, dnW_ite, reduceIte, Nat.reduceAdd, Nat.reduceLeDiff, Nat.reduceMul, Nat.reduceEqDiff, Int.reduceLT, Int.reduceLE, Int.reduceToNat, Nat.reduceSub, Nat.reduceLT, Int.reduceEq, BitVec.reduceOfInt, BitVec.reduceOfNat, Int.reduceGT, Int.reduceGE, Int.reduceBEq, Int.reduceBNe, Nat.reduceGT, Nat.reduceBEq, Nat.reduceBNe, Int.reduceAdd, Int.reduceSub, Int.reduceNeg]
    refine WP_call (EDone_ok h) fun v J3 hv => ?_
    obtain ⟨rfl, rfl⟩ := hv
    cases hd : eDone st with
    | false =>
      simp -implicitDefEqProofs only [go_sem, dnW_ite, reduceIte, Nat.reduceAdd, Nat.reduceLeDiff, Nat.reduceMul, Nat.reduceEqDiff, Int.reduceLT, Int.reduceLE, Int.reduceToNat, Nat.reduceSub, Nat.reduceLT, Int.reduceEq, BitVec.reduceOfInt, BitVec.reduceOfNat, Int.reduceGT, Int.reduceGE, Int.reduceBEq, Int.reduceBNe, Nat.reduceGT, Nat.reduceBEq, Nat.reduceBNe, Int.reduceAdd, Int.reduceSub, Int.reduceNeg]
      exact hK _ _ _ (frzP rfl) (by rw [hd]; rfl)
    | true =>
      simp -implicitDefEqProofs only [go_sem, dnW_ite, reduceIte, Nat.reduceAdd, Nat.reduceLeDiff, Nat.reduceMul, Nat.reduceEqDiff, Int.reduceLT, Int.reduceLE, Int.reduceToNat, Nat.reduceSub, Nat.reduceLT, Int.reduceEq, BitVec.reduceOfInt, BitVec.reduceOfNat, Int.reduceGT, Int.reduceGE, Int.reduceBEq, Int.reduceBNe, Nat.reduceGT, Nat.reduceBEq, Nat.reduceBNe, Int.reduceAdd, Int.reduceSub, Int.reduceNeg]
      obtain ⟨u, hu, hul⟩ := hg.frzX (cd6 l) (by decide) (cd_pure l) (cd_one l)
      rw [cd_mk] at hul
      refine hK _ _ (.tup [u, nI 0]) ?_ (by rw [hd]; exact ⟨u, rfl, hul⟩)
      have hz : frz J3 11 (.int .i64 0) = some (nI 0) := frz_pure _ _ rfl
      exact frz_tupL (by simp only [List.mapM_cons, List.mapM_nil, hu, hz]; rfl)
end Go.Proofs.Ytcdlipdeemlibaa.G
namespace Go.Proofs.Ytcdlipdeemlibaa.G
open Go
set_option linter.unusedSimpArgs false
set_option linter.unusedVariables false
set_option maxRecDepth 20000
set_option maxHeartbeats 2000000
theorem WP_callS {f : FuncId} {args as : List IV} {u : IV} {J : JH} {k : L} {ρ : List IV} {P} (ha : args.mapM (frz J DEP) = some as) (hp : pc BI f as = some u) (hu : iscal u = true) (hk : WP (dn BI k (ρ ++ [u]) J) P) : WP (thenD (doCall (ic BI) .pure f args J) k ρ) P := by
  rw [dcf ha hp, if_pos hu]
  exact hk
def eCl (st : Option (List Byt)) : Cl × Option (List Byt) := (⟨(eWord st).1.toInt, (eWord (eWord st).2).1⟩, (eWord (eWord st).2).2)
def eCls : Nat → Option (List Byt) → List Cl × Option (List Byt)
  | 0, st => ([], st)
  | k + 1, st => ((eCl st).1 :: (eCls k (eCl st).2).1, (eCls k (eCl st).2).2)
theorem eCls_len : ∀ (k : Nat) (st : Option (List Byt)), (eCls k st).1.length = k
  | 0, st => rfl
  | k + 1, st => by rw [eCls, List.length_cons, eCls_len k]
def Gz : Gm := ⟨0, 0, 0#32, 0#32, [], []⟩
abbrev nilS : IV := .sc (.slice none 0 0)
theorem rParse_step {J : JH} {x : IV} {st : Option (List Byt)} {out : IV} {l : List Cl} {g : Gm} (q : Nat) (hq : 2 ≤ q) (n : Byt) (i : Nat) (hi : i < n.toNat) (h : EyeAt J 1 st) (h2 : J[q]? = some (.cells 0 (gmc g out nilS) false)) (hg : Grow J out 2 (l.map Cl.c).flatten) (n1 : 1 ∉ blk out) (n2 : q ∉ blk out) (n0 : 0 ∉ blk out) (hl : l.length = i) (K : Out IV → JH → Prop)
    (hk : ∀ out' J', EyeAt J' 1 (eCl st).2 → J'[q]? = some (.cells 0 (gmc g out' nilS) false) → Grow J' out' 2 ((l ++ [(eCl st).1]).map Cl.c).flatten → 1 ∉ blk out' → q ∉ blk out' → 0 ∉ blk out' → J'[0]? = J[0]? → K (.goto 1 [x, .ptr 0 0 0, .ptr 1 0 0, .ptr q 0 0, by8 n, .int .u8 ((i + 1 : Nat) : Int)]) J') :
    WP (dn BI l_rules_Parse_k0 [x, .ptr 0 0 0, .ptr 1 0 0, .ptr q 0 0, by8 n, .int .u8 (i : Int)] J) K := by
  have hnl := n.isLt
  have hw1 : IntKind.u8.wrap ((i : Int) + 1) = ((i + 1 : Nat) : Int) := by
    simp only [IntKind.wrap, IntKind.bits, IntKind.signed]; simp; omega
  unfold eCl at hk
  unfold l_rules_Parse_k0
  have keep : ∀ {J1 J2 : JH} {cs : List IV}, Grow J1 out 2 cs → Fr J1 J2 [1] → Grow J2 out 2 cs := fun hg hf => hg.fr hf (fun c hc hm => by simp at hm; subst hm; exact n1 hc)
  simp -implicitDefEqProofs only [go_sem, dnW_ite, reduceIte, Nat.reduceAdd, Nat.reduceLeDiff, Nat.reduceMul, Nat.reduceEqDiff, Int.reduceLT, Int.reduceLE, Int.reduceToNat, Nat.reduceSub, Nat.reduceLT, Int.reduceEq, BitVec.reduceOfInt, BitVec.reduceOfNat, Int.reduceGT, Int.reduceGE, Int.reduceBEq, Int.reduceBNe, Nat.reduceGT, Nat.reduceBEq, Nat.reduceBNe, Int.reduceAdd, Int.reduceSub, Int.reduceNeg, show ((i : Int) < (n.toNat : Int)) by omega]
  refine WP_call (EWord_ok h) fun v J1 hv => ?_
  obtain ⟨rfl, h1, f1⟩ := hv
  have hg := keep hg f1
  simp -implicitDefEqProofs only [go_sem, dnW_ite, reduceIte, Nat.reduceAdd, Nat.reduceLeDiff, Nat.reduceMul, Nat.reduceEqDiff, Int.reduceLT, Int.reduceLE, Int.reduceToNat, Nat.reduceSub, Nat.reduceLT, Int.reduceEq, BitVec.reduceOfInt, BitVec.reduceOfNat, Int.reduceGT, Int.reduceGE, Int.reduceBEq, Int.reduceBNe, Nat.reduceGT, Nat.reduceBEq, Nat.reduceBNe, Int.reduceAdd, Int.reduceSub, Int.reduceNeg]
  refine WP_call (EWord_ok h1) fun v J3 hv => ?_
  obtain ⟨rfl, h3, f3⟩ := hv
  have hg := keep hg f3
  have f13 := f1.trans f3 (fun _ _ h => h)
  have k2 : J3[q]? = some (.cells 0 (gmc g out nilS) false) := by rw [f13.2 q (lt_get h2) (by simp; omega)]; exact h2
  have e0 : J3[0]? = J[0]? := f13.2 0 (by have := lt_get h2; omega) (by simp)
  generalize eWord st = w1 at *
  generalize eWord w1.2 = w2 at *
  simp -implicitDefEqProofs only [go_sem, dnW_ite, reduceIte, Nat.reduceAdd, Nat.reduceLeDiff, Nat.reduceMul, Nat.reduceEqDiff, Int.reduceLT, Int.reduceLE, Int.reduceToNat, Nat.reduceSub, Nat.reduceLT, Int.reduceEq, BitVec.reduceOfInt, BitVec.reduceOfNat, Int.reduceGT, Int.reduceGE, Int.reduceBEq, Int.reduceBNe, Nat.reduceGT, Nat.reduceBEq, Nat.reduceBNe, Int.reduceAdd, Int.reduceSub, Int.reduceNeg, k2, wrapI32, ipureL, ipure, grp, mkE, List.headD]
  refine WP_bind (hg.app (m := 1) (ds := [.int .i32 w1.1.toInt, m32 w2.1]) (by omega) rfl rfl rfl rfl (fits8 ?_)) fun out' J4 hs2 => ?_
  · rw [flat_len (cl2 _), List.length_map]; simp; omega
  obtain ⟨k3, k4, k5⟩ := hs2
  have k6 : J4[q]? = some (.cells 0 (gmc g out nilS) false) := by rw [k4.2 q (lt_get k2) n2]; exact k2
  have nn : ∀ d, d < J3.size → d ∉ blk out → d ∉ blk out' := fun d hd hn hm => by
    rcases k5 d hm with hm | hm
    · exact hn hm
    · omega
  have hlt3 := lt_get k2
  simp -implicitDefEqProofs only [go_sem, dnW_ite, reduceIte, Nat.reduceAdd, Nat.reduceLeDiff, Nat.reduceMul, Nat.reduceEqDiff, Int.reduceLT, Int.reduceLE, Int.reduceToNat, Nat.reduceSub, Nat.reduceLT, Int.reduceEq, BitVec.reduceOfInt, BitVec.reduceOfNat, Int.reduceGT, Int.reduceGE, Int.reduceBEq, Int.reduceBNe, Nat.reduceGT, Nat.reduceBEq, Nat.reduceBNe, Int.reduceAdd, Int.reduceSub, Int.reduceNeg, hw1, k6, inb k6, gm_s4, gm_one' g k3.one (show ione nilS = true from rfl), ↓k3.icells, ↓k3.one]
  have fs := Fr.set J4 (b := q) (.cells 0 (gmc g out' nilS) false) (S := [q]) (by simp)
  refine hk _ _ ((h3.fr k4 n1).fr fs (by simp; omega)) (set_get _ (lt_get k6)) ?_ (nn 1 (by omega) n1) (nn q (by omega) n2) (nn 0 (by omega) n0) ?_
  · rw [← Cl.c_flat]
    exact k3.fr fs (fun c hc hm => by simp at hm; exact nn q (by omega) n2 (hm ▸ hc))
  · rw [fs.2 0 (by have := k4.1; omega) (by simp; omega), k4.2 0 (by omega) n0, e0]
def gmOf (o p : Byt) (m d : BitVec 32) (cs : List Cl) (cd : List Cd) : Gm := ⟨(o.toNat : Int), (p.toNat : Int), m, d, cs, cd⟩
def eHead (bs : List Byt) : (Byt × Byt × BitVec 32 × BitVec 32 × Byt) × Option (List Byt) :=
  (((eByte (some bs)).1, (eByte (eByte (some bs)).2).1, (eWord (eByte (eByte (some bs)).2).2).1, (eWord (eWord (eByte (eByte (some bs)).2).2).2).1, (eByte (eWord (eWord (eByte (eByte (some bs)).2).2).2).2).1), (eByte (eWord (eWord (eByte (eByte (some bs)).2).2).2).2).2)
def gameP (bs : List Byt) : Option Gm :=
  match codeP (eBlob (eCls (eHead bs).1.2.2.2.2.toNat (eHead bs).2).2 bs.length).1 with
  | none => none
  | some cd =>
    if eDone (eBlob (eCls (eHead bs).1.2.2.2.2.toNat (eHead bs).2).2 bs.length).2 = true ∧ (gmOf (eHead bs).1.1 (eHead bs).1.2.1 (eHead bs).1.2.2.1 (eHead bs).1.2.2.2.1 (eCls (eHead bs).1.2.2.2.2.toNat (eHead bs).2).1 cd).right = true then
      some (gmOf (eHead bs).1.1 (eHead bs).1.2.1 (eHead bs).1.2.2.1 (eHead bs).1.2.2.2.1 (eCls (eHead bs).1.2.2.2.2.toNat (eHead bs).2).1 cd)
    else none
theorem eBlob_len (st : Option (List Byt)) (most : Nat) : (eBlob st most).1.length ≤ most := by
  have h := eNum_le st most
  unfold eBlob
  generalize eNum st most = g at *
  match g, h with
  | (n, some l), h =>
    simp only at h ⊢
    split
    · rw [List.length_take]; exact Nat.le_trans (Nat.min_le_left _ _) h
    · exact Nat.zero_le _
  | (n, none), h => exact Nat.zero_le _
theorem GParse_ok {x : IV} {bs : List Byt} (hx : Ls 1 x (bs.map by8)) (hb : bs.length ≤ 1000000) : ∃ u, pc BI F_rules_Parse [x] = some u ∧ match gameP bs with | some G => ∃ x2 y2, u = .tup [.agg (gmc G x2 y2), nI 0] ∧ GR G x2 y2 ∧ (∀ c ∈ G.code, c.wf) | none => u = .tup [.agg (gmc Gz nilS nilS), nI 2] := by
  refine pcW fn_rules_Parse rfl fun K hK => ?_
  unfold l_rules_Parse
  simp -implicitDefEqProofs only [go_sem, dnW_ite, reduceIte, Nat.reduceAdd, Nat.reduceLeDiff, Nat.reduceMul, Nat.reduceEqDiff, Int.reduceLT, Int.reduceLE, Int.reduceToNat, Nat.reduceSub, Nat.reduceLT, Int.reduceEq, BitVec.reduceOfInt, BitVec.reduceOfNat, Int.reduceGT, Int.reduceGE, Int.reduceBEq, Int.reduceBNe, Nat.reduceGT, Nat.reduceBEq, Nat.reduceBNe, Int.reduceAdd, Int.reduceSub, Int.reduceNeg]
  refine WP_call (Read_ok hx hb) fun v J1 hv => ?_
  obtain ⟨hr, h1, f1, hs⟩ := hv
  have hr : v = .ptr 1 0 0 := hr
  subst hr
  have h1 : EyeAt J1 1 (some bs) := h1
  have hs1 : J1.size = 2 := hs
  have z1 : J1[0]? = some (.cells 0 (gmc Gz nilS nilS) false) := by rw [f1.2 0 (by simp) (by simp)]; rfl
  have hwi : ∀ y : Byt, IntKind.i64.wrap (y.toNat : Int) = (y.toNat : Int) := fun y => by have := y.isLt; exact wrap_i64 (by omega) (by omega)
  have keep : ∀ {J J' : JH}, J[0]? = some (.cells 0 (gmc Gz nilS nilS) false) → Fr J J' [1] → J'[0]? = some (.cells 0 (gmc Gz nilS nilS) false) := fun h f => by rw [f.2 0 (lt_get h) (by simp)]; exact h
  unfold gameP eHead at hK
  simp -implicitDefEqProofs only [go_sem, dnW_ite, reduceIte, Nat.reduceAdd, Nat.reduceLeDiff, Nat.reduceMul, Nat.reduceEqDiff, Int.reduceLT, Int.reduceLE, Int.reduceToNat, Nat.reduceSub, Nat.reduceLT, Int.reduceEq, BitVec.reduceOfInt, BitVec.reduceOfNat, Int.reduceGT, Int.reduceGE, Int.reduceBEq, Int.reduceBNe, Nat.reduceGT, Nat.reduceBEq, Nat.reduceBNe, Int.reduceAdd, Int.reduceSub, Int.reduceNeg]
  refine WP_call (EByte_ok h1) fun v J2 hv => ?_
  obtain ⟨rfl, h2, f2⟩ := hv
  have z2 := keep z1 f2
  generalize eByte (some bs) = o at *
  simp -implicitDefEqProofs only [go_sem, dnW_ite, reduceIte, Nat.reduceAdd, Nat.reduceLeDiff, Nat.reduceMul, Nat.reduceEqDiff, Int.reduceLT, Int.reduceLE, Int.reduceToNat, Nat.reduceSub, Nat.reduceLT, Int.reduceEq, BitVec.reduceOfInt, BitVec.reduceOfNat, Int.reduceGT, Int.reduceGE, Int.reduceBEq, Int.reduceBNe, Nat.reduceGT, Nat.reduceBEq, Nat.reduceBNe, Int.reduceAdd, Int.reduceSub, Int.reduceNeg, hwi]
  refine WP_call (EByte_ok h2) fun v J3 hv => ?_
  obtain ⟨rfl, h3, f3⟩ := hv
  have z3 := keep z2 f3
  generalize eByte o.2 = p at *
  simp -implicitDefEqProofs only [go_sem, dnW_ite, reduceIte, Nat.reduceAdd, Nat.reduceLeDiff, Nat.reduceMul, Nat.reduceEqDiff, Int.reduceLT, Int.reduceLE, Int.reduceToNat, Nat.reduceSub, Nat.reduceLT, Int.reduceEq, BitVec.reduceOfInt, BitVec.reduceOfNat, Int.reduceGT, Int.reduceGE, Int.reduceBEq, Int.reduceBNe, Nat.reduceGT, Nat.reduceBEq, Nat.reduceBNe, Int.reduceAdd, Int.reduceSub, Int.reduceNeg, hwi]
  refine WP_call (EWord_ok h3) fun v J4 hv => ?_
  obtain ⟨rfl, h4, f4⟩ := hv
  have z4 := keep z3 f4
  generalize eWord p.2 = m at *
  simp -implicitDefEqProofs only [go_sem, dnW_ite, reduceIte, Nat.reduceAdd, Nat.reduceLeDiff, Nat.reduceMul, Nat.reduceEqDiff, Int.reduceLT, Int.reduceLE, Int.reduceToNat, Nat.reduceSub, Nat.reduceLT, Int.reduceEq, BitVec.reduceOfInt, BitVec.reduceOfNat, Int.reduceGT, Int.reduceGE, Int.reduceBEq, Int.reduceBNe, Nat.reduceGT, Nat.reduceBEq, Nat.reduceBNe, Int.reduceAdd, Int.reduceSub, Int.reduceNeg]
  refine WP_call (EWord_ok h4) fun v J5 hv => ?_
  obtain ⟨rfl, h5, f5⟩ := hv
  have z5 := keep z4 f5
  generalize eWord m.2 = d at *
  have hs5 : 2 ≤ J5.size := by have := f2.1; have := f3.1; have := f4.1; have := f5.1; omega
  simp -implicitDefEqProofs only [go_sem, dnW_ite, reduceIte, Nat.reduceAdd, Nat.reduceLeDiff, Nat.reduceMul, Nat.reduceEqDiff, Int.reduceLT, Int.reduceLE, Int.reduceToNat, Nat.reduceSub, Nat.reduceLT, Int.reduceEq, BitVec.reduceOfInt, BitVec.reduceOfNat, Int.reduceGT, Int.reduceGE, Int.reduceBEq, Int.reduceBNe, Nat.reduceGT, Nat.reduceBEq, Nat.reduceBNe, Int.reduceAdd, Int.reduceSub, Int.reduceNeg]
  have h6 : EyeAt (J5.push (IB.cells 0 (gmc (gmOf o.1 p.1 m.1 d.1 [] []) nilS nilS) false)) 1 d.2 := h5.fr (.push _ _ []) (by simp)
  have z6 : (J5.push (IB.cells 0 (gmc (gmOf o.1 p.1 m.1 d.1 [] []) nilS nilS) false))[0]? = some (.cells 0 (gmc Gz nilS nilS) false) := by
    rw [Array.getElem?_push, if_neg (by omega)]; exact z5
  have hJ6 := push_get J5 (IB.cells 0 (gmc (gmOf o.1 p.1 m.1 d.1 [] []) nilS nilS) false)
  refine WP_join fun K2 j1 j2 j3 => ?_
  refine WP_call (EByte_ok h6) fun v J7 hv => ?_
  obtain ⟨rfl, h7, f7⟩ := hv
  have z7 := keep z6 f7
  have hJ7 : J7[J5.size]? = some (IB.cells 0 (gmc (gmOf o.1 p.1 m.1 d.1 [] []) nilS nilS) false) := by rw [f7.2 J5.size (lt_get hJ6) (by simp; omega)]; exact hJ6
  generalize J5.size = q at *
  generalize eByte d.2 = c at *
  simp -implicitDefEqProofs only [go_sem, dnW_ite, reduceIte, Nat.reduceAdd, Nat.reduceLeDiff, Nat.reduceMul, Nat.reduceEqDiff, Int.reduceLT, Int.reduceLE, Int.reduceToNat, Nat.reduceSub, Nat.reduceLT, Int.reduceEq, BitVec.reduceOfInt, BitVec.reduceOfNat, Int.reduceGT, Int.reduceGE, Int.reduceBEq, Int.reduceBNe, Nat.reduceGT, Nat.reduceBEq, Nat.reduceBNe, Int.reduceAdd, Int.reduceSub, Int.reduceNeg, dn_loop]
  have hcl := c.1.isLt
  refine WP_rangeT c.1.toNat (fun i vs J => ∃ out st l, vs = [x, .ptr 0 0 0, .ptr 1 0 0, .ptr q 0 0, by8 c.1, .int .u8 (i : Int)] ∧ EyeAt J 1 st ∧ J[0]? = some (.cells 0 (gmc Gz nilS nilS) false) ∧ J[q]? = some (.cells 0 (gmc (gmOf o.1 p.1 m.1 d.1 [] []) out nilS) false) ∧ Grow J out 2 (l.map Cl.c).flatten ∧ 1 ∉ blk out ∧ q ∉ blk out ∧ 0 ∉ blk out ∧ l.length = i ∧ eCls c.1.toNat c.2 = (l ++ (eCls (c.1.toNat - i) st).1, (eCls (c.1.toNat - i) st).2)) ?_ ⟨nilS, c.2, [], rfl, h7, z7, hJ7, .nil, by simp [blk, blkOf], by simp [blk, blkOf], by simp [blk, blkOf], rfl, by simp⟩
  rintro i vs J ⟨out, st, l, rfl, h, z, hq, hg, n1, n2, n0, hl, he⟩ hi K1 g1 g2 g3
  by_cases hlt : i < c.1.toNat
  · refine rParse_step q hs5 c.1 i hlt h hq hg n1 n2 n0 hl _ fun out' J' h' hq' hg' m1 m2 m0 e0 => ?_
    refine g1 hlt _ _ ⟨out', (eCl st).2, l ++ [(eCl st).1], rfl, h', by rw [e0]; exact z, hq', hg', m1, m2, m0, by simp [hl], ?_⟩
    rw [he, show c.1.toNat - i = (c.1.toNat - (i + 1)) + 1 by omega, eCls]
    simp
  · unfold l_rules_Parse_k0
    simp -implicitDefEqProofs only [go_sem, dnW_ite, reduceIte, Nat.reduceAdd, Nat.reduceLeDiff, Nat.reduceMul, Nat.reduceEqDiff, Int.reduceLT, Int.reduceLE, Int.reduceToNat, Nat.reduceSub, Nat.reduceLT, Int.reduceEq, BitVec.reduceOfInt, BitVec.reduceOfNat, Int.reduceGT, Int.reduceGE, Int.reduceBEq, Int.reduceBNe, Nat.reduceGT, Nat.reduceBEq, Nat.reduceBNe, Int.reduceAdd, Int.reduceSub, Int.reduceNeg, show ¬ ((i : Int) < (c.1.toNat : Int)) by omega]
    refine g2 _ _ _ (by decide) (j1 _ _ ?_)
    obtain rfl : i = c.1.toNat := by omega
    rw [Nat.sub_self, eCls, List.append_nil] at he
    simp only [he] at hK
    have hql := lt_get hq
    unfold l_rules_Parse_k1
    simp -implicitDefEqProofs only [go_sem, dnW_ite, reduceIte, Nat.reduceAdd, Nat.reduceLeDiff, Nat.reduceMul, Nat.reduceEqDiff, Int.reduceLT, Int.reduceLE, Int.reduceToNat, Nat.reduceSub, Nat.reduceLT, Int.reduceEq, BitVec.reduceOfInt, BitVec.reduceOfNat, Int.reduceGT, Int.reduceGE, Int.reduceBEq, Int.reduceBNe, Nat.reduceGT, Nat.reduceBEq, Nat.reduceBNe, Int.reduceAdd, Int.reduceSub, Int.reduceNeg, hx.lenF, List.length_map]
    refine WP_call (EBlob_ok h bs.length hb) fun v J8 hv => ?_
    obtain ⟨hbl, h8, f8⟩ := hv
    have z8 := keep z f8
    have hq8 : J8[q]? = some (.cells 0 (gmc (gmOf o.1 p.1 m.1 d.1 [] []) out nilS) false) := by rw [f8.2 q (lt_get hq) (by simp; omega)]; exact hq
    have hg8 : Grow J8 out 2 (l.map Cl.c).flatten := hg.fr f8 (fun c hc hm => by simp at hm; exact n1 (hm ▸ hc))
    have hbbl : (eBlob st bs.length).1.length ≤ 1000000 := Nat.le_trans (eBlob_len _ _) hb
    generalize eBlob st bs.length = B at *
    obtain ⟨u, hu, hu2⟩ := CParse_ok hbl hbbl
    have hout := hg8.one
    have houi := hg8.icells
    have hq0 : ¬ (q = 0) := by omega
    have hq0' : ¬ (0 = q) := by omega
    have h2t : (((2 : Nat) : Int) != 0) = true := rfl
    have h0f : (((0 : Nat) : Int) != 0) = false := rfl
    have hzz : ∀ a b, isplice (gmc (gmOf o.1 p.1 m.1 d.1 [] []) a b) 0 [IV.sc (Value.int IntKind.i64 0), IV.sc (Value.int IntKind.i64 0), IV.sc (Value.int IntKind.u32 0), IV.sc (Value.int IntKind.u32 0), nilS, nilS] = gmc Gz nilS nilS := fun a b => rfl
    have hz2 : isplice (gmc Gz nilS nilS) 0 [IV.sc (Value.int IntKind.i64 0), IV.sc (Value.int IntKind.i64 0), IV.sc (Value.int IntKind.u32 0), IV.sc (Value.int IntKind.u32 0), nilS, nilS] = gmc Gz nilS nilS := rfl
    cases hc : codeP B.1 with
    | none =>
      rw [hc] at hu2 hK
      simp only at hu2 hK
      subst hu2
      simp -implicitDefEqProofs only [go_sem, dnW_ite, reduceIte, Nat.reduceAdd, Nat.reduceLeDiff, Nat.reduceMul, Nat.reduceEqDiff, Int.reduceLT, Int.reduceLE, Int.reduceToNat, Nat.reduceSub, Nat.reduceLT, Int.reduceEq, BitVec.reduceOfInt, BitVec.reduceOfNat, Int.reduceGT, Int.reduceGE, Int.reduceBEq, Int.reduceBNe, Nat.reduceGT, Nat.reduceBEq, Nat.reduceBNe, Int.reduceAdd, Int.reduceSub, Int.reduceNeg, dcp hu (by simp [ipureL, hbl.pure]), hq8, inb hq8, gm_s5, hq0, hq0', gm_one' _ hout (show ione nilS = true from rfl), h2t, z8, inb z8, hz2]
      exact hK [_, _] _ _ (frzP rfl) rfl
    | some cd =>
      rw [hc] at hu2
      obtain ⟨y, rfl, hy⟩ := hu2
      have hone := fun g : Gm => gm_one' g hout hy.one
      simp -implicitDefEqProofs only [go_sem, dnW_ite, reduceIte, Nat.reduceAdd, Nat.reduceLeDiff, Nat.reduceMul, Nat.reduceEqDiff, Int.reduceLT, Int.reduceLE, Int.reduceToNat, Nat.reduceSub, Nat.reduceLT, Int.reduceEq, BitVec.reduceOfInt, BitVec.reduceOfNat, Int.reduceGT, Int.reduceGE, Int.reduceBEq, Int.reduceBNe, Nat.reduceGT, Nat.reduceBEq, Nat.reduceBNe, Int.reduceAdd, Int.reduceSub, Int.reduceNeg, dcp hu (by simp [ipureL, hbl.pure]), hq8, inb hq8, gm_s5, hq0, hq0', hone, h0f, z8, inb z8, ↓hy.icells, ↓hy.one]
      rw [hc] at hK
      simp only at hK
      have f9 := Fr.set J8 (b := q) (IB.cells 0 (gmc (gmOf o.1 p.1 m.1 d.1 [] []) out y) false) (S := [q]) (by simp)
      have hg9 := hg8.fr f9 (fun c hc hm => by simp at hm; exact n2 (hm ▸ hc))
      have h9 := h8.fr f9 (by simp; omega)
      have hq9 : (J8.setIfInBounds q (IB.cells 0 (gmc (gmOf o.1 p.1 m.1 d.1 [] []) out y) false))[q]? = some (IB.cells 0 (gmc (gmOf o.1 p.1 m.1 d.1 [] []) out y) false) := set_get _ (lt_get hq8)
      have z9 : (J8.setIfInBounds q (IB.cells 0 (gmc (gmOf o.1 p.1 m.1 d.1 [] []) out y) false))[0]? = some (.cells 0 (gmc Gz nilS nilS) false) := by rw [f9.2 0 (lt_get z8) (by simp; omega)]; exact z8
      generalize J8.setIfInBounds q (IB.cells 0 (gmc (gmOf o.1 p.1 m.1 d.1 [] []) out y) false) = J9 at *
      refine WP_call (EDone_ok h9) fun v J10 hv => ?_
      obtain ⟨rfl, rfl⟩ := hv
      cases hd : eDone B.2 with
      | false =>
        rw [hd] at hK
        simp -implicitDefEqProofs only [go_sem, dnW_ite, reduceIte, Nat.reduceAdd, Nat.reduceLeDiff, Nat.reduceMul, Nat.reduceEqDiff, Int.reduceLT, Int.reduceLE, Int.reduceToNat, Nat.reduceSub, Nat.reduceLT, Int.reduceEq, BitVec.reduceOfInt, BitVec.reduceOfNat, Int.reduceGT, Int.reduceGE, Int.reduceBEq, Int.reduceBNe, Nat.reduceGT, Nat.reduceBEq, Nat.reduceBNe, Int.reduceAdd, Int.reduceSub, Int.reduceNeg, h2t, z9, inb z9, hz2]
        exact hK [_, _] _ _ (frzP rfl) (by rw [if_neg (by simp)]; rfl)
      | true =>
        rw [hd] at hK
        obtain ⟨uo, huo, hul⟩ := hg9.frzX (cl2 l) (by decide) (cl_pure l) (flat_one l)
        rw [cl_mk] at hul
        have hGR : GR (gmOf o.1 p.1 m.1 d.1 l cd) uo y := ⟨hul, hy⟩
        have hwf : ∀ c ∈ cd, c.wf := by
          intro c hcm
          unfold codeP at hc
          split at hc
          · cases hc; exact eCds_wf _ _ c hcm
          · cases hc
        have hcdl : cd.length ≤ 96 := by
          unfold codeP at hc
          split at hc
          · cases hc; rw [eCds_len]; exact eNum_le _ _
          · cases hc
        have hrg := gRight_ok _ uo y hGR hwf (show cd.length ≤ _ by omega)
        have hfz : ∀ k, frz J10 (k + 2) (.agg (gmc (gmOf o.1 p.1 m.1 d.1 [] []) out y)) = some (.agg (gmc (gmOf o.1 p.1 m.1 d.1 l cd) uo y)) := fun k => frz_aggL (by
          have hp := fun v (h : ipure v = true) => frz_pure J10 (k + 1) h
          simp only [gmc, List.mapM_cons, List.mapM_nil, huo, hp (.int .i64 _) rfl, hp (m32 _) rfl, hp y hy.pure]; rfl)
        have hargs : [IV.agg (gmc (gmOf o.1 p.1 m.1 d.1 [] []) out y)].mapM (frz J10 DEP) = some [.agg (gmc (gmOf o.1 p.1 m.1 d.1 l cd) uo y)] := by
          have := hfz 10
          simp only [List.mapM_cons, List.mapM_nil, show frz J10 DEP _ = _ from this]; rfl
        simp -implicitDefEqProofs only [go_sem, dnW_ite, reduceIte, Nat.reduceAdd, Nat.reduceLeDiff, Nat.reduceMul, Nat.reduceEqDiff, Int.reduceLT, Int.reduceLE, Int.reduceToNat, Nat.reduceSub, Nat.reduceLT, Int.reduceEq, BitVec.reduceOfInt, BitVec.reduceOfNat, Int.reduceGT, Int.reduceGE, Int.reduceBEq, Int.reduceBNe, Nat.reduceGT, Nat.reduceBEq, Nat.reduceBNe, Int.reduceAdd, Int.reduceSub, Int.reduceNeg, h0f, hq9, inb hq9]
        refine WP_callS hargs hrg rfl ?_
        cases hr : (gmOf o.1 p.1 m.1 d.1 l cd).right with
        | false =>
          rw [hr] at hK
          simp -implicitDefEqProofs only [go_sem, dnW_ite, reduceIte, Nat.reduceAdd, Nat.reduceLeDiff, Nat.reduceMul, Nat.reduceEqDiff, Int.reduceLT, Int.reduceLE, Int.reduceToNat, Nat.reduceSub, Nat.reduceLT, Int.reduceEq, BitVec.reduceOfInt, BitVec.reduceOfNat, Int.reduceGT, Int.reduceGE, Int.reduceBEq, Int.reduceBNe, Nat.reduceGT, Nat.reduceBEq, Nat.reduceBNe, Int.reduceAdd, Int.reduceSub, Int.reduceNeg, z9, inb z9, hz2]
          exact hK [_, _] _ _ (frzP rfl) (by rw [if_neg (by simp)]; rfl)
        | true =>
          rw [hr] at hK
          simp -implicitDefEqProofs only [go_sem, dnW_ite, reduceIte, Nat.reduceAdd, Nat.reduceLeDiff, Nat.reduceMul, Nat.reduceEqDiff, Int.reduceLT, Int.reduceLE, Int.reduceToNat, Nat.reduceSub, Nat.reduceLT, Int.reduceEq, BitVec.reduceOfInt, BitVec.reduceOfNat, Int.reduceGT, Int.reduceGE, Int.reduceBEq, Int.reduceBNe, Nat.reduceGT, Nat.reduceBEq, Nat.reduceBNe, Int.reduceAdd, Int.reduceSub, Int.reduceNeg, hq9, inb hq9, z9, inb z9, hone, gm_all]
          have hg10 := hg9.fr (Fr.set J10 (b := 0) (IB.cells 0 (gmc (gmOf o.1 p.1 m.1 d.1 [] []) out y) false) (S := [0]) (by simp)) (fun c hc hm => by simp at hm; exact n0 (hm ▸ hc))
          generalize J10.setIfInBounds 0 (IB.cells 0 (gmc (gmOf o.1 p.1 m.1 d.1 [] []) out y) false) = J11 at *
          obtain ⟨uo, huo, hul⟩ := hg10.frzX (cl2 l) (by decide) (cl_pure l) (flat_one l)
          rw [cl_mk] at hul
          have hfz : frz J11 11 (.agg (gmc (gmOf o.1 p.1 m.1 d.1 [] []) out y)) = some (.agg (gmc (gmOf o.1 p.1 m.1 d.1 l cd) uo y)) := frz_aggL (by
            have hp := fun v (h : ipure v = true) => frz_pure J11 10 h
            simp only [gmc, List.mapM_cons, List.mapM_nil, huo, hp (.int .i64 _) rfl, hp (m32 _) rfl, hp y hy.pure]; rfl)
          refine hK [_, _] _ (.tup [.agg (gmc (gmOf o.1 p.1 m.1 d.1 l cd) uo y), nI 0]) ?_ (by rw [if_pos (by simp)]; exact ⟨uo, y, rfl, ⟨hul, hy⟩, hwf⟩)
          have hz : frz J11 11 (.int .i64 0) = some (nI 0) := frz_pure _ _ rfl
          exact frz_tupL (by simp only [List.mapM_cons, List.mapM_nil, hfz, hz]; rfl)
end Go.Proofs.Ytcdlipdeemlibaa.G
namespace Go.Proofs.Ytcdlipdeemlibaa.G
open Go
set_option linter.unusedSimpArgs false
set_option linter.unusedVariables false
set_option maxRecDepth 20000
set_option maxHeartbeats 2000000
theorem eDone_iff {st : Option (List Byt)} : eDone st = true ↔ st = some [] := by simp [eDone]
theorem eCd_on {c : Cd} (h : c.wf) (r : List Byt) : eCd (some (cdB c ++ r)) = (c, some r) := by
  have e : cdB c ++ r = nB c.op :: nB c.a :: nB c.b :: nB c.c :: (leW (iW c.n) ++ (leW c.mask ++ r)) := by simp [cdB]
  rw [e]
  unfold eCd
  simp only [eByte_on, eWord_on, toNat_nB h.op, toNat_nB h.a, toNat_nB h.b, toNat_nB h.c, toInt_iW (⟨h.n0, by have := h.n1; omega⟩ : I32 c.n)]
theorem eCds_on : ∀ (l : List Cd) (r : List Byt), (∀ c ∈ l, c.wf) → eCds l.length (some (l.flatMap cdB ++ r)) = (l, some r)
  | [], r, h => rfl
  | c :: l, r, h => by
    rw [List.length_cons, eCds, List.flatMap_cons, List.append_assoc, eCd_on (h c (by simp)), eCds_on l r (fun c hc => h c (by simp [hc]))]
theorem codeP_on {l : List Cd} (h : ∀ c ∈ l, c.wf) (hl : l.length ≤ 96) : codeP (codeB l) = some l := by
  have e := eCds_on l [] h
  rw [List.append_nil] at e
  unfold codeP codeB
  rw [eNum_on _ (by omega) hl]
  simp only [e]
  rw [if_pos (by rfl)]
theorem eCd_inv {st : Option (List Byt)} {r : List Byt} (h : (eCd st).2 = some r) : st = some (cdB (eCd st).1 ++ r) := by
  unfold eCd at h ⊢
  have h6 := eWord_inv h
  have h5 := eWord_inv h6
  have h4 := eByte_inv h5
  have h3 := eByte_inv h4
  have h2 := eByte_inv h3
  have h1 := eByte_inv h2
  simp only [cdB, nB_toNat, iW_toInt]
  conv => lhs; rw [h1]
  simp
theorem eCds_inv : ∀ (k : Nat) (st : Option (List Byt)) (r : List Byt), (eCds k st).2 = some r → st = some ((eCds k st).1.flatMap cdB ++ r)
  | 0, st, r, h => h
  | k + 1, st, r, h => by
    rw [eCds] at h
    have h1 := eCds_inv k _ r h
    have h2 := eCd_inv h1
    rw [eCds, List.flatMap_cons, List.append_assoc]
    exact h2
theorem codeP_inv {bs : List Byt} {l : List Cd} (h : codeP bs = some l) : codeB l = bs ∧ l.length ≤ 96 ∧ ∀ c ∈ l, c.wf := by
  unfold codeP at h
  split at h
  · next hd =>
    cases h
    have h1 := eCds_inv _ _ _ (eDone_iff.1 hd)
    have h2 := eNum_inv h1
    refine ⟨?_, ?_, eCds_wf _ _⟩
    · have := h2.1
      rw [codeB, eCds_len]
      rw [List.append_nil] at this
      exact (Option.some.inj this).symm
    · rw [eCds_len]; exact h2.2
  · cases h
theorem eCl_on {c : Cl} (h : I32 c.v) (r : List Byt) : eCl (some (clB c ++ r)) = (c, some r) := by
  rw [clB, List.append_assoc]
  unfold eCl
  simp only [eWord_on, toInt_iW h]
theorem eCls_on : ∀ (l : List Cl) (r : List Byt), (∀ c ∈ l, I32 c.v) → eCls l.length (some (l.flatMap clB ++ r)) = (l, some r)
  | [], r, h => rfl
  | c :: l, r, h => by
    rw [List.length_cons, eCls, List.flatMap_cons, List.append_assoc, eCl_on (h c (by simp)), eCls_on l r (fun c hc => h c (by simp [hc]))]
theorem eCl_inv {st : Option (List Byt)} {r : List Byt} (h : (eCl st).2 = some r) : st = some (clB (eCl st).1 ++ r) := by
  unfold eCl at h ⊢
  have h2 := eWord_inv h
  have h1 := eWord_inv h2
  simp only [clB, iW_toInt]
  conv => lhs; rw [h1]
  simp
theorem eCls_inv : ∀ (k : Nat) (st : Option (List Byt)) (r : List Byt), (eCls k st).2 = some r → st = some ((eCls k st).1.flatMap clB ++ r)
  | 0, st, r, h => h
  | k + 1, st, r, h => by
    rw [eCls] at h
    have h1 := eCls_inv k _ r h
    have h2 := eCl_inv h1
    rw [eCls, List.flatMap_cons, List.append_assoc]
    exact h2
theorem gameP_on {g : Gm} (hr : g.right = true) (hw : ∀ c ∈ g.code, c.wf) (hv : ∀ c ∈ g.cells, I32 c.v) : gameP (gameB g) = some g := by
  obtain ⟨⟨ho0, ho1⟩, ⟨hp0, hp1⟩, hc, hd⟩ := right_fits hr
  have e : gameB g = nB g.obs.toNat :: nB g.players.toNat :: (leW g.moves ++ (leW g.dflt ++ (nB g.cells.length :: (g.cells.flatMap clB ++ (numL 9 (codeB g.code).length ++ codeB g.code ++ []))))) := by simp [gameB]
  have hh : eHead (gameB g) = ((nB g.obs.toNat, nB g.players.toNat, g.moves, g.dflt, nB g.cells.length), some (g.cells.flatMap clB ++ (numL 9 (codeB g.code).length ++ codeB g.code ++ []))) := by
    rw [e]
    unfold eHead
    simp only [eByte_on, eWord_on]
  have hlen : (codeB g.code).length ≤ (gameB g).length := by
    rw [e]; simp; omega
  have hcl : (codeB g.code).length ≤ 1200 := by
    have := numL_len 9 g.code.length
    rw [codeB, List.length_append, codeB_len]; omega
  have hml : (gameB g).length < 18446744073709551616 := by
    have h1 := numL_len 9 (codeB g.code).length
    have h2 := clB_len g.cells
    rw [e]; simp only [List.length_cons, List.length_append, leW_len, h2, List.length_nil]; omega
  have hG : gmOf (nB g.obs.toNat) (nB g.players.toNat) g.moves g.dflt g.cells g.code = g := by
    unfold gmOf
    rw [toNat_nB (by omega), toNat_nB (by omega)]
    cases g
    congr 1 <;> simp only at * <;> omega
  unfold gameP
  rw [hh]
  simp only [toNat_nB (show g.cells.length < 256 by omega), eCls_on g.cells _ hv, eBlob_on [] hlen hml, codeP_on hw hd, hG, hr]
  rw [if_pos ⟨rfl, trivial⟩]
theorem gameP_inv {bs : List Byt} {g : Gm} (h : gameP bs = some g) : gameB g = bs ∧ g.right = true ∧ (∀ c ∈ g.code, c.wf) ∧ ∀ c ∈ g.cells, I32 c.v := by
  unfold gameP at h
  split at h
  · cases h
  · next cd hcd =>
    split at h
    · next hdr =>
      obtain ⟨hd, hr⟩ := hdr
      obtain ⟨c1, c2, c3⟩ := codeP_inv hcd
      have hb := eBlob_inv (eDone_iff.1 hd)
      have hcl := eCls_inv _ _ _ hb.1
      rw [← c1] at hcl
      unfold eHead at hcl hr h
      simp only at hcl hr h
      have h5 := eByte_inv hcl
      have h4 := eWord_inv h5
      have h3 := eWord_inv h4
      have h2 := eByte_inv h3
      have h1 := eByte_inv h2
      have hg := Option.some.inj h
      subst hg
      refine ⟨?_, hr, c3, ?_⟩
      · have e := Option.some.inj h1
        conv => rhs; rw [e]
        unfold gameB gmOf
        simp only [Int.toNat_natCast, nB_toNat, eCls_len, List.append_assoc, List.cons_append, List.nil_append, List.append_nil, c1]
      · intro c hc
        have hcls : ∀ (k : Nat) (st : Option (List Byt)), ∀ c ∈ (eCls k st).1, I32 c.v := by
          intro k
          induction k with
          | zero => intro st c hc; cases hc
          | succ k ih =>
            intro st c hc
            rcases List.mem_cons.1 hc with rfl | hc
            · exact ⟨BitVec.le_toInt _, BitVec.toInt_lt⟩
            · exact ih _ c hc
        exact hcls _ _ c hc
    · cases h
end Go.Proofs.Ytcdlipdeemlibaa.G
namespace Go.Proofs.Ytcdlipdeemlibaa.G
open Go
set_option linter.unusedSimpArgs false
set_option linter.unusedVariables false
set_option maxRecDepth 20000
set_option maxHeartbeats 2000000
abbrev BR (e : IV) (p : List Byt) : Prop := Ls 1 e (p.map by8)
theorem wrap_nB (n : Nat) : IntKind.u8.wrap (n : Int) = ((nB n).toNat : Int) := by
  simp only [IntKind.wrap, IntKind.bits, IntKind.signed, nB, BitVec.toNat_ofNat]; simp
theorem by8_grow (a b : List Byt) : a.map by8 ++ b.map by8 = (a ++ b).map by8 := by simp
theorem flat_le {ps : List (List Byt)} (i : Nat) : (ps.take i).flatten.length ≤ ps.flatten.length := by
  conv => rhs; rw [← List.take_append_drop i ps, List.flatten_append, List.length_append]
  omega
theorem RJoin_ok {x : IV} {ps : List (List Byt)} (hx : LsR 1 BR x ps) (hn : ps.length ≤ 1000) (hb : ps.flatten.length ≤ 1000000) : ∃ u, pc BI F_ref01_Join [x] = some u ∧ Ls 1 u (ps.flatten.map by8) := by
  refine pcW fn_ref01_Join rfl fun K hK => ?_
  unfold l_ref01_Join
  simp -implicitDefEqProofs only [go_sem, dnW_ite, reduceIte, Nat.reduceAdd, Nat.reduceLeDiff, Nat.reduceMul, Nat.reduceEqDiff, Int.reduceLT, Int.reduceLE, Int.reduceToNat, Nat.reduceSub, Nat.reduceLT, Int.reduceEq, BitVec.reduceOfInt, BitVec.reduceOfNat, Int.reduceGT, Int.reduceGE, Int.reduceBEq, Int.reduceBNe, Nat.reduceGT, Nat.reduceBEq, Nat.reduceBNe, Int.reduceAdd, Int.reduceSub, Int.reduceNeg, hx.lenF, dn_loop]
  refine WP_range (by decide) ps.length (fun i vs J => ∃ out, vs = [out, x, nI ps.length, nI i] ∧ Grow J out 1 ((ps.take i).flatten.map by8)) ?_ ⟨(.sc (.slice none 0 0)), rfl, .nil⟩
  rintro i vs J ⟨out, rfl, hg⟩ hi K1 g1 g2 g3
  unfold l_ref01_Join_k0
  by_cases h : i < ps.length
  · obtain ⟨e, he, hat⟩ := hx.at h
    have hw1 := wrapS h (show ps.length ≤ 9223372036854775807 by omega)
    have hfl := flat_le (ps := ps) (i + 1)
    rw [List.take_succ_eq_append_getElem h, List.flatten_append] at hfl
    simp only [List.flatten_cons, List.flatten_nil, List.append_nil, List.length_append] at hfl
    simp -implicitDefEqProofs only [go_sem, dnW_ite, reduceIte, Nat.reduceAdd, Nat.reduceLeDiff, Nat.reduceMul, Nat.reduceEqDiff, Int.reduceLT, Int.reduceLE, Int.reduceToNat, Nat.reduceSub, Nat.reduceLT, Int.reduceEq, BitVec.reduceOfInt, BitVec.reduceOfNat, Int.reduceGT, Int.reduceGE, Int.reduceBEq, Int.reduceBNe, Nat.reduceGT, Nat.reduceBEq, Nat.reduceBNe, Int.reduceAdd, Int.reduceSub, Int.reduceNeg, show ((i : Int) < (ps.length : Int)) by omega, hat, ↓he.icells]
    refine WP_bind (hg.app (m := ps[i].length) (ds := ps[i].map by8) (by omega) (by rw [he.cells, by8_cells]) (by rw [he.ilen, List.length_map]) (by simp) by8_one (fits1 ?_)) fun out' J' hs => ?_
    · simp only [List.length_map]; omega
    simp -implicitDefEqProofs only [go_sem, dnW_ite, reduceIte, Nat.reduceAdd, Nat.reduceLeDiff, Nat.reduceMul, Nat.reduceEqDiff, Int.reduceLT, Int.reduceLE, Int.reduceToNat, Nat.reduceSub, Nat.reduceLT, Int.reduceEq, BitVec.reduceOfInt, BitVec.reduceOfNat, Int.reduceGT, Int.reduceGE, Int.reduceBEq, Int.reduceBNe, Nat.reduceGT, Nat.reduceBEq, Nat.reduceBNe, Int.reduceAdd, Int.reduceSub, Int.reduceNeg, hw1]
    refine g1 h _ _ ⟨out', rfl, ?_⟩
    rw [List.take_succ_eq_append_getElem h, List.flatten_append]
    simp only [List.flatten_cons, List.flatten_nil, List.append_nil]
    rw [← by8_grow]
    exact hs.1
  · simp -implicitDefEqProofs only [go_sem, dnW_ite, reduceIte, Nat.reduceAdd, Nat.reduceLeDiff, Nat.reduceMul, Nat.reduceEqDiff, Int.reduceLT, Int.reduceLE, Int.reduceToNat, Nat.reduceSub, Nat.reduceLT, Int.reduceEq, BitVec.reduceOfInt, BitVec.reduceOfNat, Int.reduceGT, Int.reduceGE, Int.reduceBEq, Int.reduceBNe, Nat.reduceGT, Nat.reduceBEq, Nat.reduceBNe, Int.reduceAdd, Int.reduceSub, Int.reduceNeg, show ¬ ((i : Int) < (ps.length : Int)) by omega]
    refine g2 _ _ ?_
    unfold l_ref01_Join_k1
    simp -implicitDefEqProofs only [go_sem, dnW_ite, reduceIte, Nat.reduceAdd, Nat.reduceLeDiff, Nat.reduceMul, Nat.reduceEqDiff, Int.reduceLT, Int.reduceLE, Int.reduceToNat, Nat.reduceSub, Nat.reduceLT, Int.reduceEq, BitVec.reduceOfInt, BitVec.reduceOfNat, Int.reduceGT, Int.reduceGE, Int.reduceBEq, Int.reduceBNe, Nat.reduceGT, Nat.reduceBEq, Nat.reduceBNe, Int.reduceAdd, Int.reduceSub, Int.reduceNeg]
    rw [List.take_of_length_le (by omega)] at hg
    obtain ⟨u, hu, hl⟩ := hg.frz1 by8_pure by8_one
    exact hK _ _ u hu hl
theorem LsR.cons {α : Type} {sz : Nat} {R : IV → α → Prop} {f : Bool} {xs : List IV} {as : List α} (hl : xs.length = as.length) (h : ∀ i (h : i < xs.length) (h' : i < as.length), R xs[i] as[i]) : LsR sz R (.lst sz f xs) as := ⟨xs, .lst, hl, h⟩
theorem LsR2 {sz : Nat} {f : Bool} {a b : IV} {p q : List Byt} (ha : BR a p) (hb : BR b q) : LsR sz BR (.lst sz f [a, b]) [p, q] := .cons rfl fun i h h' => by
  match i, h with
  | 0, _ => exact ha
  | 1, _ => exact hb
theorem LsR3 {sz : Nat} {f : Bool} {a b c : IV} {p q r : List Byt} (ha : BR a p) (hb : BR b q) (hc : BR c r) : LsR sz BR (.lst sz f [a, b, c]) [p, q, r] := .cons rfl fun i h h' => by
  match i, h with
  | 0, _ => exact ha
  | 1, _ => exact hb
  | 2, _ => exact hc
theorem LsR4 {sz : Nat} {f : Bool} {a b c d : IV} {p q r s : List Byt} (ha : BR a p) (hb : BR b q) (hc : BR c r) (hd : BR d s) : LsR sz BR (.lst sz f [a, b, c, d]) [p, q, r, s] := .cons rfl fun i h h' => by
  match i, h with
  | 0, _ => exact ha
  | 1, _ => exact hb
  | 2, _ => exact hc
  | 3, _ => exact hd
theorem RLow_ok (w : BitVec 32) : ∃ u, pc BI F_ref01_Low [.int .u64 (w.toNat : Int), nI 4] = some u ∧ BR u (leW w) := by
  refine pcW fn_ref01_Low rfl fun K hK => ?_
  have hw := w.isLt
  unfold l_ref01_Low
  simp -implicitDefEqProofs only [go_sem, dnW_ite, reduceIte, Nat.reduceAdd, Nat.reduceLeDiff, Nat.reduceMul, Nat.reduceEqDiff, Int.reduceLT, Int.reduceLE, Int.reduceToNat, Nat.reduceSub, Nat.reduceLT, Int.reduceEq, BitVec.reduceOfInt, BitVec.reduceOfNat, Int.reduceGT, Int.reduceGE, Int.reduceBEq, Int.reduceBNe, Nat.reduceGT, Nat.reduceBEq, Nat.reduceBNe, Int.reduceAdd, Int.reduceSub, Int.reduceNeg, dn_loop]
  refine WP_range (by decide) 4 (fun i vs J => ∃ out, vs = [.int .u64 ((w.toNat / 256 ^ i : Nat) : Int), nI 4, out, nI i] ∧ Grow J out 1 (((List.range i).map fun j => nB (w.toNat / 256 ^ j)).map by8)) ?_ ⟨(.sc (.slice none 0 0)), by simp, .nil⟩
  rintro i vs J ⟨out, rfl, hg⟩ hi K1 g1 g2 g3
  unfold l_ref01_Low_k0
  by_cases h : i < 4
  · have hw1 : IntKind.i64.wrap ((i : Int) + 1) = ((i + 1 : Nat) : Int) := by rw [wrap_i64 (by omega) (by omega)]; omega
    have hle := Nat.div_le_self w.toNat (256 ^ i)
    have hd : w.toNat / 256 ^ (i + 1) = w.toNat / 256 ^ i / 256 := by rw [Nat.pow_succ, Nat.div_div_eq_div_mul]
    have hnb : nB (w.toNat / 256 ^ i) = nB (w.toNat / 256 ^ i % 256) := by
      apply BitVec.eq_of_toNat_eq
      simp only [nB, BitVec.toNat_ofNat]; omega
    have hgr : ((List.range (i + 1)).map fun j => nB (w.toNat / 256 ^ j)).map by8 = ((List.range i).map fun j => nB (w.toNat / 256 ^ j)).map by8 ++ [by8 (nB (w.toNat / 256 ^ i % 256))] := by
      rw [List.range_succ, ← hnb]; simp
    have hln : (((List.range i).map fun j => nB (w.toNat / 256 ^ j)).map by8).length = i := by simp
    generalize ((List.range i).map fun j => nB (w.toNat / 256 ^ j)).map by8 = cs at *
    have hnx : ∀ out' J', Grow J' out' 1 (cs ++ [by8 (nB (w.toNat / 256 ^ i % 256))]) → K1 (.goto 1 [.int .u64 ((w.toNat / 256 ^ i / 256 : Nat) : Int), nI 4, out', nI (i + 1)]) J' := fun out' J' hg' => g1 h _ _ ⟨out', by rw [hd], by rw [hgr]; exact hg'⟩
    generalize w.toNat / 256 ^ i = n at *
    have hm : ((n : Int).tmod 256) = ((n % 256 : Nat) : Int) := by rw [Int.tmod_eq_emod_of_nonneg (by omega)]; omega
    have hq : ((n : Int).tdiv 256) = ((n / 256 : Nat) : Int) := by rw [Int.tdiv_eq_ediv_of_nonneg (by omega)]; omega
    simp -implicitDefEqProofs only [go_sem, dnW_ite, reduceIte, Nat.reduceAdd, Nat.reduceLeDiff, Nat.reduceMul, Nat.reduceEqDiff, Int.reduceLT, Int.reduceLE, Int.reduceToNat, Nat.reduceSub, Nat.reduceLT, Int.reduceEq, BitVec.reduceOfInt, BitVec.reduceOfNat, Int.reduceGT, Int.reduceGE, Int.reduceBEq, Int.reduceBNe, Nat.reduceGT, Nat.reduceBEq, Nat.reduceBNe, Int.reduceAdd, Int.reduceSub, Int.reduceNeg, show ((i : Int) < ((4 : Nat) : Int)) by omega, hm, hq, wrap_nB, ipureL, ipure, grp, mkE, List.headD]
    refine WP_bind (hg.app (m := 1) (ds := [by8 (nB (n % 256))]) (by omega) rfl rfl rfl rfl (fits1 (by simp; omega))) fun out' J' hs => ?_
    have hqw : IntKind.u64.wrap ((n / 256 : Nat) : Int) = ((n / 256 : Nat) : Int) := wrap_u64 (by omega) (by omega)
    simp -implicitDefEqProofs only [go_sem, dnW_ite, reduceIte, Nat.reduceAdd, Nat.reduceLeDiff, Nat.reduceMul, Nat.reduceEqDiff, Int.reduceLT, Int.reduceLE, Int.reduceToNat, Nat.reduceSub, Nat.reduceLT, Int.reduceEq, BitVec.reduceOfInt, BitVec.reduceOfNat, Int.reduceGT, Int.reduceGE, Int.reduceBEq, Int.reduceBNe, Nat.reduceGT, Nat.reduceBEq, Nat.reduceBNe, Int.reduceAdd, Int.reduceSub, Int.reduceNeg, hq, hqw, hw1]
    exact hnx _ _ hs.1
  · simp -implicitDefEqProofs only [go_sem, dnW_ite, reduceIte, Nat.reduceAdd, Nat.reduceLeDiff, Nat.reduceMul, Nat.reduceEqDiff, Int.reduceLT, Int.reduceLE, Int.reduceToNat, Nat.reduceSub, Nat.reduceLT, Int.reduceEq, BitVec.reduceOfInt, BitVec.reduceOfNat, Int.reduceGT, Int.reduceGE, Int.reduceBEq, Int.reduceBNe, Nat.reduceGT, Nat.reduceBEq, Nat.reduceBNe, Int.reduceAdd, Int.reduceSub, Int.reduceNeg, show ¬ ((i : Int) < ((4 : Nat) : Int)) by omega]
    refine g2 _ _ ?_
    unfold l_ref01_Low_k1
    simp -implicitDefEqProofs only [go_sem, dnW_ite, reduceIte, Nat.reduceAdd, Nat.reduceLeDiff, Nat.reduceMul, Nat.reduceEqDiff, Int.reduceLT, Int.reduceLE, Int.reduceToNat, Nat.reduceSub, Nat.reduceLT, Int.reduceEq, BitVec.reduceOfInt, BitVec.reduceOfNat, Int.reduceGT, Int.reduceGE, Int.reduceBEq, Int.reduceBNe, Nat.reduceGT, Nat.reduceBEq, Nat.reduceBNe, Int.reduceAdd, Int.reduceSub, Int.reduceNeg]
    obtain rfl : i = 4 := by omega
    obtain ⟨u, hu, hl⟩ := hg.frz1 by8_pure by8_one
    have e : (List.range 4).map (fun j => nB (w.toNat / 256 ^ j)) = leW w := by
      rw [leW4]
      have hb : ∀ k, nB (w.toNat / 2 ^ k) = (w >>> k).setWidth 8 := fun k => by
        apply BitVec.eq_of_toNat_eq
        simp only [nB, BitVec.toNat_ofNat, BitVec.toNat_setWidth, BitVec.toNat_ushiftRight, Nat.shiftRight_eq_div_pow]
      have h0 := hb 0
      have h1 := hb 8
      have h2 := hb 16
      have h3 := hb 24
      simp only [Nat.pow_zero, BitVec.ushiftRight_zero] at h0
      rw [← h0, ← h1, ← h2, ← h3]
      rfl
    rw [e] at hl
    exact hK _ _ u hu hl
theorem RNum_ok : ∀ (k n : Nat), n < 2 ^ (7 * (k + 1)) → n < 18446744073709551616 → k ≤ 9 → ∃ u, pc BI F_ref01_Num [.int .u64 (n : Int)] = some u ∧ BR u (numL k n) := by
  intro k
  induction k with
  | zero =>
    intro n hn hn2 hk
    refine pcW fn_ref01_Num rfl fun K hK => ?_
    unfold l_ref01_Num
    simp -implicitDefEqProofs only [go_sem, dnW_ite, reduceIte, Nat.reduceAdd, Nat.reduceLeDiff, Nat.reduceMul, Nat.reduceEqDiff, Int.reduceLT, Int.reduceLE, Int.reduceToNat, Nat.reduceSub, Nat.reduceLT, Int.reduceEq, BitVec.reduceOfInt, BitVec.reduceOfNat, Int.reduceGT, Int.reduceGE, Int.reduceBEq, Int.reduceBNe, Nat.reduceGT, Nat.reduceBEq, Nat.reduceBNe, Int.reduceAdd, Int.reduceSub, Int.reduceNeg, show ((n : Int) < 128) by simp at hn; omega, wrap_nB]
    exact hK _ _ _ (frzP rfl) .lst
  | succ k ih =>
    intro n hn hn2 hk
    refine pcW fn_ref01_Num rfl fun K hK => ?_
    unfold l_ref01_Num
    rw [numL] at hK
    by_cases h : 128 ≤ n
    · rw [if_pos h] at hK
      have hlt : n / 128 < 2 ^ (7 * (k + 1)) := by
        have : 2 ^ (7 * (k + 1 + 1)) = 2 ^ (7 * (k + 1)) * 128 := by rw [show 7 * (k + 1 + 1) = 7 * (k + 1) + 7 by omega, Nat.pow_add]
        rw [this] at hn
        exact Nat.div_lt_of_lt_mul (by rw [Nat.mul_comm]; exact hn)
      obtain ⟨r, hr, hrl⟩ := ih (n / 128) hlt (by omega) (by omega)
      have hnl := numL_len k (n / 128)
      have hm : ((n : Int).tmod 128) = ((n % 128 : Nat) : Int) := by rw [Int.tmod_eq_emod_of_nonneg (by omega)]; omega
      have hq : ((n : Int).tdiv 128) = ((n / 128 : Nat) : Int) := by rw [Int.tdiv_eq_ediv_of_nonneg (by omega)]; omega
      have hw : IntKind.u8.wrap (((nB (n % 128)).toNat : Int) + 128) = ((nB (n % 128 + 128)).toNat : Int) := by
        rw [nB, nB, ofNat8 (by omega), ofNat8 (by omega)]
        simp only [IntKind.wrap, IntKind.bits, IntKind.signed]; simp; omega
      have hh : BR (.lst 1 true [by8 (nB (n % 128 + 128))]) [nB (n % 128 + 128)] := .lst
      obtain ⟨u, hu, hul⟩ := RJoin_ok (LsR2 (sz := 1) (f := true) hh hrl) (by simp) (by simp; omega)
      have hqw : IntKind.u64.wrap ((n / 128 : Nat) : Int) = ((n / 128 : Nat) : Int) := wrap_u64 (by omega) (by omega)
      simp -implicitDefEqProofs only [go_sem, dnW_ite, reduceIte, Nat.reduceAdd, Nat.reduceLeDiff, Nat.reduceMul, Nat.reduceEqDiff, Int.reduceLT, Int.reduceLE, Int.reduceToNat, Nat.reduceSub, Nat.reduceLT, Int.reduceEq, BitVec.reduceOfInt, BitVec.reduceOfNat, Int.reduceGT, Int.reduceGE, Int.reduceBEq, Int.reduceBNe, Nat.reduceGT, Nat.reduceBEq, Nat.reduceBNe, Int.reduceAdd, Int.reduceSub, Int.reduceNeg, show ¬ ((n : Int) < 128) by omega, hm, hq, hqw, wrap_nB, hw, ipureL, ipure, grp, mkE, List.headD, dcp hr rfl, ↓hrl.pure, ↓hrl.icells, ↓hrl.one, List.drop_one, List.drop_succ_cons, dcp hu (by simp [ipureL, ipure, hrl.pure])]
      refine hK _ _ u (frzP (by simpa [itup] using hul.pure)) ?_
      rw [show BitVec.ofNat 8 (n % 128 + 128) :: numL k (n / 128) = [[nB (n % 128 + 128)], numL k (n / 128)].flatten by simp [nB]]
      exact hul
    · rw [if_neg h] at hK
      simp -implicitDefEqProofs only [go_sem, dnW_ite, reduceIte, Nat.reduceAdd, Nat.reduceLeDiff, Nat.reduceMul, Nat.reduceEqDiff, Int.reduceLT, Int.reduceLE, Int.reduceToNat, Nat.reduceSub, Nat.reduceLT, Int.reduceEq, BitVec.reduceOfInt, BitVec.reduceOfNat, Int.reduceGT, Int.reduceGE, Int.reduceBEq, Int.reduceBNe, Nat.reduceGT, Nat.reduceBEq, Nat.reduceBNe, Int.reduceAdd, Int.reduceSub, Int.reduceNeg, show ((n : Int) < 128) by omega, wrap_nB]
      exact hK _ _ _ (frzP rfl) .lst
end Go.Proofs.Ytcdlipdeemlibaa.G
namespace Go.Proofs.Ytcdlipdeemlibaa.G
open Go
set_option linter.unusedSimpArgs false
set_option linter.unusedVariables false
set_option maxRecDepth 20000
set_option maxHeartbeats 2000000
theorem wrapW (w : BitVec 32) : IntKind.u64.wrap (w.toNat : Int) = (w.toNat : Int) := by have := w.isLt; exact wrap_u64 (by omega) (by omega)
theorem iW_w (n : Int) : IntKind.u32.wrap n = ((iW n).toNat : Int) := by
  have := iW_m32 n
  simpa [m32] using this
theorem RCell_ok (c : Cl) : ∃ u, pc BI F_ref06_Bytes [c.e] = some u ∧ BR u (clB c) := by
  obtain ⟨a, ha, hal⟩ := RLow_ok (iW c.v)
  obtain ⟨b, hb, hbl⟩ := RLow_ok c.s
  obtain ⟨u, hu, hul⟩ := RJoin_ok (LsR2 (sz := 1) (f := true) hal hbl) (by simp) (by simp [leW_len])
  refine pcW fn_ref06_Bytes rfl fun K hK => ?_
  have ha' : pc BI F_ref01_Low [.int .u64 ((iW c.v).toNat : Int), .int .i64 4] = some a := ha
  have hb' : pc BI F_ref01_Low [.int .u64 (c.s.toNat : Int), .int .i64 4] = some b := hb
  unfold l_ref06_Bytes
  simp -implicitDefEqProofs only [go_sem, dnW_ite, reduceIte, Nat.reduceAdd, Nat.reduceLeDiff, Nat.reduceMul, Nat.reduceEqDiff, Int.reduceLT, Int.reduceLE, Int.reduceToNat, Nat.reduceSub, Nat.reduceLT, Int.reduceEq, BitVec.reduceOfInt, BitVec.reduceOfNat, Int.reduceGT, Int.reduceGE, Int.reduceBEq, Int.reduceBNe, Nat.reduceGT, Nat.reduceBEq, Nat.reduceBNe, Int.reduceAdd, Int.reduceSub, Int.reduceNeg, Cl.e, Cl.c, iW_w, wrapW, dcp ha' rfl, dcp hb' rfl, ipureL, ipure, grp, mkE, List.headD, List.drop_one, List.drop_succ_cons, ↓hal.icells, ↓hal.one, ↓hal.pure, ↓hbl.icells, ↓hbl.one, ↓hbl.pure, dcp hu (by simp [ipureL, ipure, hal.pure, hbl.pure])]
  refine hK _ _ u (frzP (by simpa [itup] using hul.pure)) ?_
  rw [show clB c = [leW (iW c.v), leW c.s].flatten by simp [clB]]
  exact hul
theorem RCode_ok {x : IV} {l : List Cd} (hx : Ls 6 x (l.map Cd.e)) (hw : ∀ c ∈ l, c.wf) (hb : l.length ≤ 1000) : ∃ u, pc BI F_ref08_Bytes [x] = some u ∧ BR u (codeB l) := by
  obtain ⟨a, ha, hal⟩ := RNum_ok 9 l.length (by omega) (by omega) (by omega)
  refine pcW fn_ref08_Bytes rfl fun K hK => ?_
  have hnl := numL_len 9 l.length
  have hw0 : IntKind.u64.wrap (l.length : Int) = (l.length : Int) := wrap_u64 (by omega) (by omega)
  unfold l_ref08_Bytes
  simp -implicitDefEqProofs only [go_sem, dnW_ite, reduceIte, Nat.reduceAdd, Nat.reduceLeDiff, Nat.reduceMul, Nat.reduceEqDiff, Int.reduceLT, Int.reduceLE, Int.reduceToNat, Nat.reduceSub, Nat.reduceLT, Int.reduceEq, BitVec.reduceOfInt, BitVec.reduceOfNat, Int.reduceGT, Int.reduceGE, Int.reduceBEq, Int.reduceBNe, Nat.reduceGT, Nat.reduceBEq, Nat.reduceBNe, Int.reduceAdd, Int.reduceSub, Int.reduceNeg, hx.lenF, List.length_map, hw0, dcp ha rfl, dn_loop]
  refine WP_range (by decide) l.length (fun i vs J => ∃ s, vs = [s, x, nI l.length, nI i] ∧ BR s (numL 9 l.length ++ (l.take i).flatMap cdB)) ?_ ⟨a, rfl, by simpa using hal⟩
  rintro i vs J ⟨s, rfl, h⟩ hi K1 g1 g2 g3
  unfold l_ref08_Bytes_k0
  by_cases h2 : i < l.length
  · have hat := fun J => hx.at (i := i) (by simpa using h2) (J := J)
    simp only [List.getElem_map, Cd.e, Cd.cs] at hat
    have hw1 := wrapS h2 (show l.length ≤ 9223372036854775807 by omega)
    have hc := hw l[i] (List.getElem_mem h2)
    have hL : (numL 9 l.length ++ (l.take i).flatMap cdB).length ≤ 20000 := by
      rw [List.length_append, codeB_len, List.length_take]; omega
    have hnext : numL 9 l.length ++ (l.take (i + 1)).flatMap cdB = [numL 9 l.length ++ (l.take i).flatMap cdB, [nB l[i].op, nB l[i].a, nB l[i].b, nB l[i].c], leW (iW l[i].n), leW l[i].mask].flatten := by
      rw [List.take_succ_eq_append_getElem h2, List.flatMap_append]
      simp [cdB]
    generalize numL 9 l.length ++ (l.take i).flatMap cdB = L at *
    obtain ⟨p, hp, hpl⟩ := RLow_ok (iW l[i].n)
    obtain ⟨q, hq, hql⟩ := RLow_ok l[i].mask
    have h4 : BR (.lst 1 true [by8 (nB l[i].op), by8 (nB l[i].a), by8 (nB l[i].b), by8 (nB l[i].c)]) [nB l[i].op, nB l[i].a, nB l[i].b, nB l[i].c] := .lst
    obtain ⟨u, hu, hul⟩ := RJoin_ok (LsR4 (sz := 1) (f := true) h h4 hpl hql) (by simp) (by simp [leW_len]; omega)
    have hp' : pc BI F_ref01_Low [.int .u64 ((iW l[i].n).toNat : Int), .int .i64 4] = some p := hp
    have hq' : pc BI F_ref01_Low [.int .u64 (l[i].mask.toNat : Int), .int .i64 4] = some q := hq
    simp -implicitDefEqProofs only [go_sem, dnW_ite, reduceIte, Nat.reduceAdd, Nat.reduceLeDiff, Nat.reduceMul, Nat.reduceEqDiff, Int.reduceLT, Int.reduceLE, Int.reduceToNat, Nat.reduceSub, Nat.reduceLT, Int.reduceEq, BitVec.reduceOfInt, BitVec.reduceOfNat, Int.reduceGT, Int.reduceGE, Int.reduceBEq, Int.reduceBNe, Nat.reduceGT, Nat.reduceBEq, Nat.reduceBNe, Int.reduceAdd, Int.reduceSub, Int.reduceNeg, show ((i : Int) < (l.length : Int)) by omega, hat, nB_by8 hc.op, nB_by8 hc.a, nB_by8 hc.b, nB_by8 hc.c, iW_w, wrapW, dcp hp' rfl, dcp hq' rfl, ipureL, ipure, grp, mkE, List.headD, List.drop_one, List.drop_succ_cons, List.take_succ_cons, ↓h.icells, ↓h.one, ↓h.pure, ↓hpl.icells, ↓hpl.one, ↓hpl.pure, ↓hql.icells, ↓hql.one, ↓hql.pure, hw1, dcp hu (by simp [ipureL, ipure, h.pure, hpl.pure, hql.pure])]
    exact g1 h2 _ _ ⟨u, rfl, by rw [hnext]; exact hul⟩
  · simp -implicitDefEqProofs only [go_sem, dnW_ite, reduceIte, Nat.reduceAdd, Nat.reduceLeDiff, Nat.reduceMul, Nat.reduceEqDiff, Int.reduceLT, Int.reduceLE, Int.reduceToNat, Nat.reduceSub, Nat.reduceLT, Int.reduceEq, BitVec.reduceOfInt, BitVec.reduceOfNat, Int.reduceGT, Int.reduceGE, Int.reduceBEq, Int.reduceBNe, Nat.reduceGT, Nat.reduceBEq, Nat.reduceBNe, Int.reduceAdd, Int.reduceSub, Int.reduceNeg, show ¬ ((i : Int) < (l.length : Int)) by omega]
    refine g2 _ _ ?_
    rw [List.take_of_length_le (by omega)] at h
    unfold l_ref08_Bytes_k1
    simp -implicitDefEqProofs only [go_sem, dnW_ite, reduceIte, Nat.reduceAdd, Nat.reduceLeDiff, Nat.reduceMul, Nat.reduceEqDiff, Int.reduceLT, Int.reduceLE, Int.reduceToNat, Nat.reduceSub, Nat.reduceLT, Int.reduceEq, BitVec.reduceOfInt, BitVec.reduceOfNat, Int.reduceGT, Int.reduceGE, Int.reduceBEq, Int.reduceBNe, Nat.reduceGT, Nat.reduceBEq, Nat.reduceBNe, Int.reduceAdd, Int.reduceSub, Int.reduceNeg]
    exact hK _ _ s (frzP (by simpa [itup] using h.pure)) h
theorem RGame_ok (g : Gm) (x y : IV) (h : GR g x y) (hw : ∀ c ∈ g.code, c.wf) (hr : g.right = true) : ∃ u, pc BI F_ref10_Bytes [.agg (gmc g x y)] = some u ∧ BR u (gameB g) := by
  refine pcW fn_ref10_Bytes rfl fun K hK => ?_
  obtain ⟨⟨ho0, ho1⟩, ⟨hp0, hp1⟩, hc, hd⟩ := right_fits hr
  obtain ⟨cb, hcb, hcl⟩ := RCode_ok h.y hw (by omega)
  have hcbl : (codeB g.code).length ≤ 1200 := by
    have := numL_len 9 g.code.length
    rw [codeB, List.length_append, codeB_len]; omega
  obtain ⟨a, ha, hal⟩ := RLow_ok g.moves
  obtain ⟨b, hb, hbl⟩ := RLow_ok g.dflt
  have ha' : pc BI F_ref01_Low [.int .u64 (g.moves.toNat : Int), .int .i64 4] = some a := ha
  have hb' : pc BI F_ref01_Low [.int .u64 (g.dflt.toNat : Int), .int .i64 4] = some b := hb
  have k1 : BR (.lst 1 true [by8 (nB g.obs.toNat), by8 (nB g.players.toNat)]) [nB g.obs.toNat, nB g.players.toNat] := .lst
  have k2 : BR (.lst 1 true [by8 (nB g.cells.length)]) [nB g.cells.length] := .lst
  obtain ⟨H, hH, hHl⟩ := RJoin_ok (LsR4 (sz := 1) (f := true) k1 hal hbl k2) (by simp) (by simp [leW_len])
  have nBi : ∀ {n : Int}, 0 ≤ n → n < 256 → IntKind.u8.wrap n = ((nB n.toNat).toNat : Int) := fun h0 h1 => by
    have := nB_i h0 h1
    simpa [by8] using this
  unfold l_ref10_Bytes
  simp -implicitDefEqProofs only [go_sem, dnW_ite, reduceIte, Nat.reduceAdd, Nat.reduceLeDiff, Nat.reduceMul, Nat.reduceEqDiff, Int.reduceLT, Int.reduceLE, Int.reduceToNat, Nat.reduceSub, Nat.reduceLT, Int.reduceEq, BitVec.reduceOfInt, BitVec.reduceOfNat, Int.reduceGT, Int.reduceGE, Int.reduceBEq, Int.reduceBNe, Nat.reduceGT, Nat.reduceBEq, Nat.reduceBNe, Int.reduceAdd, Int.reduceSub, Int.reduceNeg, h.one, nBi (show 0 ≤ g.obs by omega) (show g.obs < 256 by omega), nBi (show 0 ≤ g.players by omega) (show g.players < 256 by omega), nBi (show (0 : Int) ≤ (g.cells.length : Int) by omega) (show (g.cells.length : Int) < 256 by omega), Int.toNat_natCast, h.x.lenF, List.length_map, wrapW, dcp ha' rfl, dcp hb' rfl, ipureL, ipure, grp, mkE, List.headD, List.drop_succ_cons, List.take_succ_cons, ↓hal.icells, ↓hal.one, ↓hal.pure, ↓hbl.icells, ↓hbl.one, ↓hbl.pure, dcp hH (by simp [ipureL, ipure, hal.pure, hbl.pure]), dn_loop]
  have hHd : [[nB g.obs.toNat, nB g.players.toNat], leW g.moves, leW g.dflt, [nB g.cells.length]].flatten.length = 11 := by simp [leW_len]
  have hG : gameB g = [[[nB g.obs.toNat, nB g.players.toNat], leW g.moves, leW g.dflt, [nB g.cells.length]].flatten ++ g.cells.flatMap clB, numL 9 (codeB g.code).length, codeB g.code].flatten := by simp [gameB]
  rw [hG] at hK
  generalize [[nB g.obs.toNat, nB g.players.toNat], leW g.moves, leW g.dflt, [nB g.cells.length]].flatten = HL at *
  refine WP_range (by decide) g.cells.length (fun i vs J => ∃ s, vs = [.ptr 0 0 0, s, x, nI g.cells.length, nI i] ∧ BR s (HL ++ (g.cells.take i).flatMap clB) ∧ J[0]? = some (.cells 0 (gmc g x y) false)) ?_ ⟨H, rfl, by simpa using hHl, rfl⟩
  rintro i vs J ⟨s, rfl, h1, hB⟩ hi K1 g1 g2 g3
  unfold l_ref10_Bytes_k0
  have hL : (HL ++ (g.cells.take i).flatMap clB).length ≤ 2000 := by
    rw [List.length_append, clB_len, List.length_take]; omega
  by_cases h2 : i < g.cells.length
  · have hat := fun J => h.x.at (i := i) (by simpa using h2) (J := J)
    obtain ⟨cv, hcv, hcvl⟩ := RCell_ok g.cells[i]
    simp only [List.getElem_map, Cl.e, Cl.c] at hat hcv
    have hw1 := wrapS h2 (show g.cells.length ≤ 9223372036854775807 by omega)
    have hnext : HL ++ (g.cells.take (i + 1)).flatMap clB = [HL ++ (g.cells.take i).flatMap clB, clB g.cells[i]].flatten := by
      rw [List.take_succ_eq_append_getElem h2, List.flatMap_append]
      simp
    generalize HL ++ (g.cells.take i).flatMap clB = L at *
    obtain ⟨u, hu, hul⟩ := RJoin_ok (LsR2 (sz := 1) (f := true) h1 hcvl) (by simp) (by simp [clB, leW_len]; omega)
    have z0 : (J.push (IB.cells 0 [IV.int IntKind.i32 g.cells[i].v, m32 g.cells[i].s] false))[0]? = some (.cells 0 (gmc g x y) false) := by
      rw [Array.getElem?_push, if_neg (by have := lt_get hB; omega)]; exact hB
    simp -implicitDefEqProofs only [go_sem, dnW_ite, reduceIte, Nat.reduceAdd, Nat.reduceLeDiff, Nat.reduceMul, Nat.reduceEqDiff, Int.reduceLT, Int.reduceLE, Int.reduceToNat, Nat.reduceSub, Nat.reduceLT, Int.reduceEq, BitVec.reduceOfInt, BitVec.reduceOfNat, Int.reduceGT, Int.reduceGE, Int.reduceBEq, Int.reduceBNe, Nat.reduceGT, Nat.reduceBEq, Nat.reduceBNe, Int.reduceAdd, Int.reduceSub, Int.reduceNeg, show ((i : Int) < (g.cells.length : Int)) by omega, hat, dcp hcv rfl, ipureL, ipure, grp, mkE, List.headD, List.drop_succ_cons, List.take_succ_cons, ↓h1.icells, ↓h1.one, ↓h1.pure, ↓hcvl.icells, ↓hcvl.one, ↓hcvl.pure, hw1, dcp hu (by simp [ipureL, ipure, h1.pure, hcvl.pure])]
    exact g1 h2 _ _ ⟨u, rfl, by rw [hnext]; exact hul, z0⟩
  · simp -implicitDefEqProofs only [go_sem, dnW_ite, reduceIte, Nat.reduceAdd, Nat.reduceLeDiff, Nat.reduceMul, Nat.reduceEqDiff, Int.reduceLT, Int.reduceLE, Int.reduceToNat, Nat.reduceSub, Nat.reduceLT, Int.reduceEq, BitVec.reduceOfInt, BitVec.reduceOfNat, Int.reduceGT, Int.reduceGE, Int.reduceBEq, Int.reduceBNe, Nat.reduceGT, Nat.reduceBEq, Nat.reduceBNe, Int.reduceAdd, Int.reduceSub, Int.reduceNeg, show ¬ ((i : Int) < (g.cells.length : Int)) by omega]
    refine g2 _ _ ?_
    rw [List.take_of_length_le (by omega)] at h1
    have hL := clB_len g.cells
    have hnl2 := numL_len 9 (codeB g.code).length
    have hw0 : IntKind.u64.wrap ((codeB g.code).length : Int) = ((codeB g.code).length : Int) := wrap_u64 (by omega) (by omega)
    obtain ⟨p, hp, hpl⟩ := RNum_ok 9 (codeB g.code).length (by omega) (by omega) (by omega)
    obtain ⟨u, hu, hul⟩ := RJoin_ok (LsR3 (sz := 1) (f := true) h1 hpl hcl) (by simp) (by simp only [List.flatten_cons, List.flatten_nil, List.length_append, List.length_nil, hL]; omega)
    unfold l_ref10_Bytes_k1
    simp -implicitDefEqProofs only [go_sem, dnW_ite, reduceIte, Nat.reduceAdd, Nat.reduceLeDiff, Nat.reduceMul, Nat.reduceEqDiff, Int.reduceLT, Int.reduceLE, Int.reduceToNat, Nat.reduceSub, Nat.reduceLT, Int.reduceEq, BitVec.reduceOfInt, BitVec.reduceOfNat, Int.reduceGT, Int.reduceGE, Int.reduceBEq, Int.reduceBNe, Nat.reduceGT, Nat.reduceBEq, Nat.reduceBNe, Int.reduceAdd, Int.reduceSub, Int.reduceNeg, hB, dcp hcb (by simp [ipureL, h.y.pure]), hcl.lenF, List.length_map, hw0, dcp hp rfl, ipureL, ipure, grp, mkE, List.headD, List.drop_succ_cons, List.take_succ_cons, ↓h1.icells, ↓h1.one, ↓h1.pure, ↓hcl.icells, ↓hcl.one, ↓hcl.pure, ↓hpl.icells, ↓hpl.one, ↓hpl.pure, dcp hu (by simp [ipureL, ipure, h1.pure, hpl.pure, hcl.pure])]
    exact hK _ _ u (frzP (by simpa [itup] using hul.pure)) hul
end Go.Proofs.Ytcdlipdeemlibaa.G
namespace Go.Proofs.Ytcdlipdeemlibaa.G
open Go
set_option linter.unusedSimpArgs false
set_option linter.unusedVariables false
set_option maxRecDepth 20000
set_option maxHeartbeats 1000000
end Go.Proofs.Ytcdlipdeemlibaa.G
namespace Go.Proofs.Ytcdlipdeemlibaa.G
open Go
set_option linter.unusedSimpArgs false
set_option linter.unusedVariables false
set_option maxRecDepth 20000
set_option maxHeartbeats 1000000
theorem bit_get {i : Int} (h0 : 0 ≤ i) (h : i < 64) (j : Nat) : (bit i).getLsbD j = decide (j = i.toNat) := by
  unfold bit
  rw [BitVec.getLsbD_shiftLeft]
  by_cases e : j = i.toNat
  · subst e
    simp; omega
  · by_cases hlt : j < i.toNat
    · simp [hlt, e]
    · have : j - i.toNat ≠ 0 := by omega
      simp [e, BitVec.getLsbD_one, this]
theorem within_self (m : BitVec 32) : within m m = true := by
  unfold within
  rw [beq_iff_eq]
  apply BitVec.eq_of_getLsbD_eq
  intro i hi
  simp
theorem within_or (m n : BitVec 32) : within m (m ||| n) = true := by
  unfold within
  rw [beq_iff_eq]
  apply BitVec.eq_of_getLsbD_eq
  intro i hi
  simp only [BitVec.getLsbD_and, BitVec.getLsbD_not, BitVec.getLsbD_or, BitVec.getLsbD_zero]
  cases m.getLsbD i <;> simp
theorem within_iff {m n : BitVec 32} : within m n = true ↔ ∀ i, m.getLsbD i = true → n.getLsbD i = true := by
  unfold within
  rw [beq_iff_eq]
  constructor
  · intro h i hi
    have := congrArg (fun z => BitVec.getLsbD z i) h
    simp only [BitVec.getLsbD_and, BitVec.getLsbD_not, BitVec.getLsbD_zero, hi, Bool.true_and] at this
    have hlt : i < 32 := BitVec.lt_of_getLsbD hi
    simpa [hlt] using this
  · intro h
    apply BitVec.eq_of_getLsbD_eq
    intro i hi
    simp only [BitVec.getLsbD_and, BitVec.getLsbD_not, BitVec.getLsbD_zero]
    cases hm : m.getLsbD i with
    | false => simp
    | true => simp [h i hm]
theorem within_trans {a b c : BitVec 32} (h : within a b = true) (k : within b c = true) : within a c = true := by
  rw [within_iff] at *
  exact fun i hi => k i (h i hi)
structure KP (b : Bd) (ns : Bool) (m : Mc) : Prop where
  len : m.bd.l.length = b.l.length
  kept : ∀ i, m.touched.getLsbD i = false → m.bd.l[i]? = b.l[i]?
  high : ∀ i, b.l.length ≤ i → m.touched.getLsbD i = false
  lab : ns = true → ∀ (i : Nat) (c : Cl), b.l[i]? = some c → ∃ c' : Cl, m.bd.l[i]? = some c' ∧ c'.v = c.v ∧ within c.s c'.s = true
variable {b : Bd} {ns : Bool} {m : Mc} {E : Me}
theorem KP.set (h : KP b ns m) {i : Int} (hi : m.bd.there i = true) (c : Cl) (bd : Bd) (hb : bd.l = m.bd.l.set i.toNat c) (hc : ns = true → c.v = (m.bd.at i).v ∧ within (m.bd.at i).s c.s = true) : KP b ns { m with bd := bd, touched := m.touched ||| bit i } := by
  have hbl := b.h
  have hlen := h.len
  obtain ⟨h0, h1⟩ : 0 ≤ i ∧ i < (m.bd.l.length : Int) := by simpa [Bd.there] using hi
  refine ⟨by rw [hb, List.length_set]; exact h.len, fun j hj => ?_, fun j hj => ?_, fun hn j d hd => ?_⟩
  · simp only [BitVec.getLsbD_or, bit_get h0 (by omega), Bool.or_eq_false_iff, decide_eq_false_iff_not] at hj
    rw [hb, List.getElem?_set_ne (fun e => hj.2 e.symm)]
    exact h.kept j hj.1
  · simp only [BitVec.getLsbD_or, bit_get h0 (by omega), Bool.or_eq_false_iff, decide_eq_false_iff_not]
    exact ⟨h.high j hj, by omega⟩
  · obtain ⟨c', k1, k2, k3⟩ := h.lab hn j d hd
    rw [hb]
    by_cases e : i.toNat = j
    · subst e
      have hlt : i.toNat < m.bd.l.length := by omega
      refine ⟨c, by simp [hlt], ?_⟩
      obtain ⟨c1, c2⟩ := hc hn
      have ea : m.bd.at i = c' := by simp [Bd.at, List.getD_eq_getElem?_getD, k1]
      rw [ea] at c1 c2
      exact ⟨c1.trans k2, within_trans k3 c2⟩
    · rw [List.getElem?_set_ne e]
      exact ⟨c', k1, k2, k3⟩
theorem KP.same (h : KP b ns m) {m' : Mc} (h1 : m'.bd = m.bd) (h2 : m'.touched = m.touched) : KP b ns m' := ⟨by rw [h1]; exact h.len, by rw [h1, h2]; exact h.kept, by rw [h2]; exact h.high, by rw [h1]; exact h.lab⟩
theorem KP.put (h : KP b false m) {i : Int} (hi : m.bd.there i = true) (c : Cl) : KP b false { m with bd := m.bd.put i c, touched := m.touched ||| bit i } :=
  h.set hi c _ (by rw [Bd.put, if_pos hi]; rfl) (fun e => by cases e)
theorem KP.show (h : KP b ns m) {i : Int} (hi : m.bd.there i = true) (to : BitVec 32) : KP b ns { m with bd := m.bd.show i to, touched := m.touched ||| bit i } :=
  h.set hi ⟨(m.bd.at i).v, (m.bd.at i).s ||| to⟩ _ (by rw [Bd.show, if_pos hi]; rfl) (fun _ => ⟨rfl, within_or _ _⟩)
theorem KP.fill {start : Nat} {out : List Int} : ∀ (k : Nat) (m : Mc), KP b false m → start + k ≤ m.bd.l.length → KP b false (fillN m start out k)
  | 0, m, h, _ => h
  | k + 1, m, h, hk => by
    have ih := KP.fill (start := start) (out := out) k m h (by omega)
    have hl := fillN_len m start out k
    exact ih.put (by simp only [Bd.there, hl, decide_eq_true_eq]; omega) _
def isStore (x : Cd) : Bool := x.op == 3 || x.op == 5 || x.op == 24
theorem KP.reach (h : KP b ns m) (x : Cd) {size : Nat} (hr : x.right size m.bd.l.length E.moves.length = true) (hn : ns = true → isStore x = false) : KP b ns (reachF E m x) := by
  have hf : isStore x = true → ns = false := fun e => by cases ns with | false => rfl | true => rw [hn rfl] at e; cases e
  unfold reachF
  split
  · split
    · exact h.same rfl rfl
    · exact h.same rfl rfl
  · rename_i hop
    obtain rfl := hf (by simp [isStore, hop])
    split
    · rename_i hnm
      exact h.put (named_ok hnm).1 _
    · exact h.same rfl rfl
  · unfold revealF
    split
    · exact h.same rfl rfl
    · rename_i hnm
      have := h.show (named_ok (by simpa using hnm)).1 (Sh.one m x E.all (named E m x).1)
      exact this.same rfl rfl
  · rename_i hop
    obtain rfl := hf (by simp [isStore, hop])
    simp [Cd.right, hop, useOf] at hr
    have h' : KP b false { m with dice := (shufL m.dice (x.c - 1) (rowV m x.n.toNat x.c)).2 } := h.same rfl rfl
    exact KP.fill x.c _ h' (by show x.n.toNat + x.c ≤ m.bd.l.length; omega)
  · exact h
theorem KP.follow (h : KP b ns m) (x : Cd) {size : Nat} (hr : x.right size m.bd.l.length E.moves.length = true) (hn : ns = true → isStore x = false) : KP b ns (followF E m x) := by
  have hg : KP b ns m.go := h.same rfl rfl
  have hf : isStore x = true → ns = false := fun e => by cases ns with | false => rfl | true => rw [hn rfl] at e; cases e
  unfold followF
  simp only
  split
  all_goals first
    | exact hg.same rfl rfl
    | exact hg.reach x hr hn
    | skip
  · rename_i hop
    obtain rfl := hf (by simp [isStore, hop])
    simp [Cd.right, hop, useOf, nOk] at hr
    exact hg.put (decide_eq_true hr.1.1.1.1) _
  · split
    · split
      · exact hg.same rfl rfl
      · exact hg
    · exact hg.same rfl rfl
theorem KP.loop (l : List Cd) (hr : ∀ x ∈ l, x.right l.length b.l.length E.moves.length = true) (hn : ns = true → ∀ x ∈ l, isStore x = false) : ∀ (k : Nat) (m : Mc), KP b ns m → KP b ns (loopF E l k m)
  | 0, m, h => by
    rw [loopF]; split
    · exact h.same rfl rfl
    · exact h
  | k + 1, m, h => by
    rw [loopF]
    split
    · rename_i hc
      have hm := List.getElem_mem hc.2
      have e : l.getD m.pc ⟨0, 0, 0, 0, 0, 0⟩ = l[m.pc] := by simp [hc.2]
      rw [e]
      split
      · exact h.same rfl rfl
      · have h' : KP b ns { m with used := m.used + 1 } := h.same rfl rfl
        exact KP.loop l hr hn k _ (h'.follow l[m.pc] (by show l[m.pc].right l.length m.bd.l.length _ = true; rw [h.len]; exact hr _ hm) (fun e => hn e _ hm))
    · exact h
theorem KP.start (d : Int) : KP b ns (Go.Proofs.Ytcdlipdeemlibaa.G.start E b d) := ⟨rfl, fun _ _ => rfl, fun _ _ => by simp [Go.Proofs.Ytcdlipdeemlibaa.G.start], fun _ i c h => ⟨c, h, rfl, within_self _⟩⟩
end Go.Proofs.Ytcdlipdeemlibaa.G
namespace Go.Proofs.Ytcdlipdeemlibaa.G
open Go
set_option linter.unusedSimpArgs false
set_option linter.unusedVariables false
set_option maxRecDepth 20000
set_option maxHeartbeats 2000000
theorem push_set1 {α : Type} (J : Array α) (A X Y : α) : ((J.push A).push X).setIfInBounds (J.size + 1) Y = (J.push A).push Y := by
  have := push_set (J.push A) X Y
  rwa [Array.size_push] at this
attribute [go_sem] push_set1
theorem eqAgg_cl (a b : Cl) : iaggEq [.int .i32 a.v, m32 a.s] [.int .i32 b.v, m32 b.s] = some (decide (a = b)) := by
  simp only [iaggEq, if_true, beqB, Bool.and_true]
  congr 1
  rw [Bool.eq_iff_iff]
  cases a; cases b
  simp
end Go.Proofs.Ytcdlipdeemlibaa.G
namespace Go.Proofs.Ytcdlipdeemlibaa.G
open Go
set_option linter.unusedSimpArgs false
set_option linter.unusedVariables false
set_option maxRecDepth 20000
set_option maxHeartbeats 2000000
theorem eqAgg_cd (a b : Cd) : iaggEq a.cs b.cs = some (decide (a = b)) := by
  simp only [Cd.cs, iaggEq, if_true, beqB, Bool.and_true]
  congr 1
  rw [Bool.eq_iff_iff]
  cases a; cases b
  simp [Int.natCast_inj]
theorem take_dec {α : Type} [DecidableEq α] {l m : List α} (h : l.length = m.length) {i : Nat} (hi : i < l.length) (hm : i < m.length) (ht : l.take i = m.take i) (he : l[i] = m[i]) : l.take (i + 1) = m.take (i + 1) := by
  rw [List.take_succ_eq_append_getElem hi, List.take_succ_eq_append_getElem hm, ht, he]
theorem EqCl_ok {x y : IV} {l m : List Cl} (hx : Ls 2 x (l.map Cl.e)) (hy : Ls 2 y (m.map Cl.e)) (hl : l.length ≤ 9223372036854775807) (hm : m.length ≤ 9223372036854775807) : pc BI F_slices_Equal_Lboard_Cell_board_Cell [x, y] = some (.bool (decide (l = m))) := by
  refine pcE fn_slices_Equal_Lboard_Cell_board_Cell rfl fun K hK => ?_
  unfold l_slices_Equal_Lboard_Cell_board_Cell
  by_cases hlm : l.length = m.length
  · have hne : (((l.length : Nat) : Int) != ((m.length : Nat) : Int)) = false := by rw [hlm]; simp
    simp -implicitDefEqProofs only [go_sem, dnW_ite, reduceIte, Nat.reduceAdd, Nat.reduceLeDiff, Nat.reduceMul, Nat.reduceEqDiff, Int.reduceLT, Int.reduceLE, Int.reduceToNat, Nat.reduceSub, Nat.reduceLT, Int.reduceEq, BitVec.reduceOfInt, BitVec.reduceOfNat, Int.reduceGT, Int.reduceGE, Int.reduceBEq, Int.reduceBNe, Nat.reduceGT, Nat.reduceBEq, Nat.reduceBNe, Int.reduceAdd, Int.reduceSub, Int.reduceNeg, hx.lenF, hy.lenF, List.length_map, hne, dn_loop]
    refine WP_range (by decide) l.length (fun i vs J => vs = [x, y, nI l.length, nI i] ∧ l.take i = m.take i) ?_ ⟨rfl, rfl⟩
    rintro i vs J ⟨rfl, ht⟩ hi K1 g1 g2 g3
    unfold l_slices_Equal_Lboard_Cell_board_Cell_k0
    by_cases h : i < l.length
    · have h' : i < m.length := by omega
      have hat := fun J => hx.at (i := i) (by simpa using h) (J := J)
      have hbt := fun J => hy.at (i := i) (by simpa using h') (J := J)
      have heq := eqAgg_cl l[i] m[i]
      simp only [List.getElem_map, Cl.e, Cl.c] at hat hbt
      have hw1 := wrapS h hl
      by_cases he : l[i] = m[i]
      · rw [he] at heq hat
        simp -implicitDefEqProofs only [go_sem, dnW_ite, reduceIte, Nat.reduceAdd, Nat.reduceLeDiff, Nat.reduceMul, Nat.reduceEqDiff, Int.reduceLT, Int.reduceLE, Int.reduceToNat, Nat.reduceSub, Nat.reduceLT, Int.reduceEq, BitVec.reduceOfInt, BitVec.reduceOfNat, Int.reduceGT, Int.reduceGE, Int.reduceBEq, Int.reduceBNe, Nat.reduceGT, Nat.reduceBEq, Nat.reduceBNe, Int.reduceAdd, Int.reduceSub, Int.reduceNeg, show ((i : Int) < (l.length : Int)) by omega, hat, hbt, ↓heq, decide_true, hw1]
        exact g1 h _ _ ⟨rfl, take_dec hlm h h' ht he⟩
      · simp -implicitDefEqProofs only [go_sem, dnW_ite, reduceIte, Nat.reduceAdd, Nat.reduceLeDiff, Nat.reduceMul, Nat.reduceEqDiff, Int.reduceLT, Int.reduceLE, Int.reduceToNat, Nat.reduceSub, Nat.reduceLT, Int.reduceEq, BitVec.reduceOfInt, BitVec.reduceOfNat, Int.reduceGT, Int.reduceGE, Int.reduceBEq, Int.reduceBNe, Nat.reduceGT, Nat.reduceBEq, Nat.reduceBNe, Int.reduceAdd, Int.reduceSub, Int.reduceNeg, show ((i : Int) < (l.length : Int)) by omega, hat, hbt, ↓heq, he, decide_false, hw1]
        refine g3 _ _ (hK [.bool false] _ (frzE rfl ?_))
        have : ¬ (l = m) := fun e => he (by subst e; rfl)
        simp [itup, this]
    · simp -implicitDefEqProofs only [go_sem, dnW_ite, reduceIte, Nat.reduceAdd, Nat.reduceLeDiff, Nat.reduceMul, Nat.reduceEqDiff, Int.reduceLT, Int.reduceLE, Int.reduceToNat, Nat.reduceSub, Nat.reduceLT, Int.reduceEq, BitVec.reduceOfInt, BitVec.reduceOfNat, Int.reduceGT, Int.reduceGE, Int.reduceBEq, Int.reduceBNe, Nat.reduceGT, Nat.reduceBEq, Nat.reduceBNe, Int.reduceAdd, Int.reduceSub, Int.reduceNeg, show ¬ ((i : Int) < (l.length : Int)) by omega]
      refine g2 _ _ ?_
      rw [List.take_of_length_le (by omega), List.take_of_length_le (by omega)] at ht
      unfold l_slices_Equal_Lboard_Cell_board_Cell_k1
      simp -implicitDefEqProofs only [go_sem, dnW_ite, reduceIte, Nat.reduceAdd, Nat.reduceLeDiff, Nat.reduceMul, Nat.reduceEqDiff, Int.reduceLT, Int.reduceLE, Int.reduceToNat, Nat.reduceSub, Nat.reduceLT, Int.reduceEq, BitVec.reduceOfInt, BitVec.reduceOfNat, Int.reduceGT, Int.reduceGE, Int.reduceBEq, Int.reduceBNe, Nat.reduceGT, Nat.reduceBEq, Nat.reduceBNe, Int.reduceAdd, Int.reduceSub, Int.reduceNeg]
      exact hK [_] _ (frzE rfl (by simp [itup, ht]))
  · have hne : (((l.length : Nat) : Int) != ((m.length : Nat) : Int)) = true := by
      rw [bne_iff_ne]; omega
    simp -implicitDefEqProofs only [go_sem, dnW_ite, reduceIte, Nat.reduceAdd, Nat.reduceLeDiff, Nat.reduceMul, Nat.reduceEqDiff, Int.reduceLT, Int.reduceLE, Int.reduceToNat, Nat.reduceSub, Nat.reduceLT, Int.reduceEq, BitVec.reduceOfInt, BitVec.reduceOfNat, Int.reduceGT, Int.reduceGE, Int.reduceBEq, Int.reduceBNe, Nat.reduceGT, Nat.reduceBEq, Nat.reduceBNe, Int.reduceAdd, Int.reduceSub, Int.reduceNeg, hx.lenF, hy.lenF, List.length_map, hne]
    have : ¬ (l = m) := fun e => hlm (by rw [e])
    exact hK [_] _ (frzE rfl (by simp [itup, this]))
theorem EqCd_ok {x y : IV} {l m : List Cd} (hx : Ls 6 x (l.map Cd.e)) (hy : Ls 6 y (m.map Cd.e)) (hl : l.length ≤ 9223372036854775807) (hm : m.length ≤ 9223372036854775807) : pc BI F_slices_Equal_Lcode_Code_code_Code [x, y] = some (.bool (decide (l = m))) := by
  refine pcE fn_slices_Equal_Lcode_Code_code_Code rfl fun K hK => ?_
  unfold l_slices_Equal_Lcode_Code_code_Code
  by_cases hlm : l.length = m.length
  · have hne : (((l.length : Nat) : Int) != ((m.length : Nat) : Int)) = false := by rw [hlm]; simp
    simp -implicitDefEqProofs only [go_sem, dnW_ite, reduceIte, Nat.reduceAdd, Nat.reduceLeDiff, Nat.reduceMul, Nat.reduceEqDiff, Int.reduceLT, Int.reduceLE, Int.reduceToNat, Nat.reduceSub, Nat.reduceLT, Int.reduceEq, BitVec.reduceOfInt, BitVec.reduceOfNat, Int.reduceGT, Int.reduceGE, Int.reduceBEq, Int.reduceBNe, Nat.reduceGT, Nat.reduceBEq, Nat.reduceBNe, Int.reduceAdd, Int.reduceSub, Int.reduceNeg, hx.lenF, hy.lenF, List.length_map, hne, dn_loop]
    refine WP_range (by decide) l.length (fun i vs J => vs = [x, y, nI l.length, nI i] ∧ l.take i = m.take i) ?_ ⟨rfl, rfl⟩
    rintro i vs J ⟨rfl, ht⟩ hi K1 g1 g2 g3
    unfold l_slices_Equal_Lcode_Code_code_Code_k0
    by_cases h : i < l.length
    · have h' : i < m.length := by omega
      have hat := fun J => hx.at (i := i) (by simpa using h) (J := J)
      have hbt := fun J => hy.at (i := i) (by simpa using h') (J := J)
      have heq := eqAgg_cd l[i] m[i]
      simp only [List.getElem_map, Cd.e, Cd.cs] at hat hbt heq
      have hw1 := wrapS h hl
      by_cases he : l[i] = m[i]
      · rw [he] at heq hat
        simp -implicitDefEqProofs only [go_sem, dnW_ite, reduceIte, Nat.reduceAdd, Nat.reduceLeDiff, Nat.reduceMul, Nat.reduceEqDiff, Int.reduceLT, Int.reduceLE, Int.reduceToNat, Nat.reduceSub, Nat.reduceLT, Int.reduceEq, BitVec.reduceOfInt, BitVec.reduceOfNat, Int.reduceGT, Int.reduceGE, Int.reduceBEq, Int.reduceBNe, Nat.reduceGT, Nat.reduceBEq, Nat.reduceBNe, Int.reduceAdd, Int.reduceSub, Int.reduceNeg, show ((i : Int) < (l.length : Int)) by omega, hat, hbt, ↓heq, decide_true, hw1]
        exact g1 h _ _ ⟨rfl, take_dec hlm h h' ht he⟩
      · simp -implicitDefEqProofs only [go_sem, dnW_ite, reduceIte, Nat.reduceAdd, Nat.reduceLeDiff, Nat.reduceMul, Nat.reduceEqDiff, Int.reduceLT, Int.reduceLE, Int.reduceToNat, Nat.reduceSub, Nat.reduceLT, Int.reduceEq, BitVec.reduceOfInt, BitVec.reduceOfNat, Int.reduceGT, Int.reduceGE, Int.reduceBEq, Int.reduceBNe, Nat.reduceGT, Nat.reduceBEq, Nat.reduceBNe, Int.reduceAdd, Int.reduceSub, Int.reduceNeg, show ((i : Int) < (l.length : Int)) by omega, hat, hbt, ↓heq, he, decide_false, hw1]
        refine g3 _ _ (hK [.bool false] _ (frzE rfl ?_))
        have : ¬ (l = m) := fun e => he (by subst e; rfl)
        simp [itup, this]
    · simp -implicitDefEqProofs only [go_sem, dnW_ite, reduceIte, Nat.reduceAdd, Nat.reduceLeDiff, Nat.reduceMul, Nat.reduceEqDiff, Int.reduceLT, Int.reduceLE, Int.reduceToNat, Nat.reduceSub, Nat.reduceLT, Int.reduceEq, BitVec.reduceOfInt, BitVec.reduceOfNat, Int.reduceGT, Int.reduceGE, Int.reduceBEq, Int.reduceBNe, Nat.reduceGT, Nat.reduceBEq, Nat.reduceBNe, Int.reduceAdd, Int.reduceSub, Int.reduceNeg, show ¬ ((i : Int) < (l.length : Int)) by omega]
      refine g2 _ _ ?_
      rw [List.take_of_length_le (by omega), List.take_of_length_le (by omega)] at ht
      unfold l_slices_Equal_Lcode_Code_code_Code_k1
      simp -implicitDefEqProofs only [go_sem, dnW_ite, reduceIte, Nat.reduceAdd, Nat.reduceLeDiff, Nat.reduceMul, Nat.reduceEqDiff, Int.reduceLT, Int.reduceLE, Int.reduceToNat, Nat.reduceSub, Nat.reduceLT, Int.reduceEq, BitVec.reduceOfInt, BitVec.reduceOfNat, Int.reduceGT, Int.reduceGE, Int.reduceBEq, Int.reduceBNe, Nat.reduceGT, Nat.reduceBEq, Nat.reduceBNe, Int.reduceAdd, Int.reduceSub, Int.reduceNeg]
      exact hK [_] _ (frzE rfl (by simp [itup, ht]))
  · have hne : (((l.length : Nat) : Int) != ((m.length : Nat) : Int)) = true := by
      rw [bne_iff_ne]; omega
    simp -implicitDefEqProofs only [go_sem, dnW_ite, reduceIte, Nat.reduceAdd, Nat.reduceLeDiff, Nat.reduceMul, Nat.reduceEqDiff, Int.reduceLT, Int.reduceLE, Int.reduceToNat, Nat.reduceSub, Nat.reduceLT, Int.reduceEq, BitVec.reduceOfInt, BitVec.reduceOfNat, Int.reduceGT, Int.reduceGE, Int.reduceBEq, Int.reduceBNe, Nat.reduceGT, Nat.reduceBEq, Nat.reduceBNe, Int.reduceAdd, Int.reduceSub, Int.reduceNeg, hx.lenF, hy.lenF, List.length_map, hne]
    have : ¬ (l = m) := fun e => hlm (by rw [e])
    exact hK [_] _ (frzE rfl (by simp [itup, this]))
deriving instance DecidableEq for Gm
theorem GSame_ok (g h : Gm) (x y z w : IV) (hg : GR g x y) (hh : GR h z w) (h1 : g.cells.length ≤ 9223372036854775807) (h2 : h.cells.length ≤ 9223372036854775807) (h3 : g.code.length ≤ 9223372036854775807) (h4 : h.code.length ≤ 9223372036854775807) : pc BI F_rules_Same [.agg (gmc g x y), .agg (gmc h z w)] = some (.bool (decide (g = h))) := by
  refine pcE fn_rules_Same rfl fun K hK => ?_
  have e1 := EqCl_ok hg.x hh.x h1 h2
  have e2 := EqCd_ok hg.y hh.y h3 h4
  unfold l_rules_Same
  have no : ¬ (g = h) → ∀ J, K (.ret [.bool false]) J := fun e J => hK [_] _ (frzE rfl (by simp [itup, e]))
  have yes : ∀ b : Bool, (b = true ↔ g = h) → ∀ J, K (.ret [.bool b]) J := fun b e J => hK [_] _ (frzE rfl (by
    have : b = decide (g = h) := by rw [Bool.eq_iff_iff, e]; simp
    rw [this]; rfl))
  simp -implicitDefEqProofs only [go_sem, dnW_ite, reduceIte, Nat.reduceAdd, Nat.reduceLeDiff, Nat.reduceMul, Nat.reduceEqDiff, Int.reduceLT, Int.reduceLE, Int.reduceToNat, Nat.reduceSub, Nat.reduceLT, Int.reduceEq, BitVec.reduceOfInt, BitVec.reduceOfNat, Int.reduceGT, Int.reduceGE, Int.reduceBEq, Int.reduceBNe, Nat.reduceGT, Nat.reduceBEq, Nat.reduceBNe, Int.reduceAdd, Int.reduceSub, Int.reduceNeg, hg.one, hh.one]
  split
  · next e1' =>
    split
    · next e2' =>
      split
      · next e3' =>
        split
        · next e4' =>
          by_cases hc : g.cells = h.cells
          · simp -implicitDefEqProofs only [go_sem, dnW_ite, reduceIte, Nat.reduceAdd, Nat.reduceLeDiff, Nat.reduceMul, Nat.reduceEqDiff, Int.reduceLT, Int.reduceLE, Int.reduceToNat, Nat.reduceSub, Nat.reduceLT, Int.reduceEq, BitVec.reduceOfInt, BitVec.reduceOfNat, Int.reduceGT, Int.reduceGE, Int.reduceBEq, Int.reduceBNe, Nat.reduceGT, Nat.reduceBEq, Nat.reduceBNe, Int.reduceAdd, Int.reduceSub, Int.reduceNeg, dcp e1 (by simp [ipureL, hg.x.pure, hh.x.pure]), hc, decide_true, dcp e2 (by simp [ipureL, hg.y.pure, hh.y.pure])]
            refine yes _ ?_ _
            cases g; cases h
            simp_all
          · simp -implicitDefEqProofs only [go_sem, dnW_ite, reduceIte, Nat.reduceAdd, Nat.reduceLeDiff, Nat.reduceMul, Nat.reduceEqDiff, Int.reduceLT, Int.reduceLE, Int.reduceToNat, Nat.reduceSub, Nat.reduceLT, Int.reduceEq, BitVec.reduceOfInt, BitVec.reduceOfNat, Int.reduceGT, Int.reduceGE, Int.reduceBEq, Int.reduceBNe, Nat.reduceGT, Nat.reduceBEq, Nat.reduceBNe, Int.reduceAdd, Int.reduceSub, Int.reduceNeg, dcp e1 (by simp [ipureL, hg.x.pure, hh.x.pure]), hc, decide_false]
            exact no (fun e => hc (by rw [e])) _
        · next e4' => exact no (fun e => e4' (by rw [e]; simp)) _
      · next e3' => exact no (fun e => e3' (by rw [e]; simp)) _
    · next e2' => exact no (fun e => e2' (by rw [e]; simp)) _
  · next e1' => exact no (fun e => e1' (by rw [e]; simp)) _
end Go.Proofs.Ytcdlipdeemlibaa.G
