/- Joined: W12 to RH1. -/
import Derived.Test.YticfcmaigffhmaaXG
set_option linter.unusedVariables false
set_option linter.unusedSimpArgs false
namespace Go.Proofs.Yticfcmaigffhmaa.G
open Go
set_option linter.unusedSimpArgs false
set_option linter.unusedVariables false
set_option maxRecDepth 20000
set_option maxHeartbeats 1000000
def clL (X : List Cl) : List IV := (X.map Cl.c).flatten
theorem clL_len (X : List Cl) : (clL X).length = X.length * 2 := by rw [clL, flat_len (cl2 X), List.length_map]
theorem clL_pure (X : List Cl) : ipureL (clL X) = true := cl_pure X
def RawC (J : JH) (s : IV) (X : List Cl) : Prop := (X = [] ∧ s = .lst 2 true []) ∨ (X ≠ [] ∧ ∃ b, s = .sl b 0 0 X.length (UNK + 2) 2 ∧ J[b]? = some (.cells 0 (clL X) false))
theorem Clip.raw {J J' : JH} {s : IV} {X : List Cl} (h : Clip J J' s 2 (X.map Cl.c)) : RawC J' s X := by
  rcases h with ⟨h, rfl, _⟩ | ⟨h, rfl, rfl⟩
  · exact .inl ⟨List.map_eq_nil_iff.1 h, rfl⟩
  · refine .inr ⟨fun e => h (by rw [e]; rfl), J.size, by rw [List.length_map], by rw [push_get]; rfl⟩
theorem Clip.new {J J' : JH} {s : IV} {sz : Nat} {X : List (List IV)} (h : Clip J J' s sz X) : ∀ d ∈ blk s, J.size ≤ d := by
  rcases h with ⟨_, rfl, _⟩ | ⟨_, rfl, _⟩ <;> simp [blk, blkOf]
theorem RawC.fr {J J' : JH} {s : IV} {X : List Cl} {S : List Nat} (h : RawC J s X) (hf : Fr J J' S) (hs : ∀ d ∈ blk s, d ∉ S) : RawC J' s X := by
  rcases h with h | ⟨h, b, rfl, hb⟩
  · exact .inl h
  · exact .inr ⟨h, b, rfl, by rw [hf.2 b (lt_get hb) (hs b (by simp [blk, blkOf]))]; exact hb⟩
theorem RawC.low {J : JH} {s : IV} {X : List Cl} (h : RawC J s X) : ∀ d ∈ blk s, d < J.size := by
  rcases h with ⟨_, rfl⟩ | ⟨_, b, rfl, hb⟩
  · simp [blk, blkOf]
  · intro d hd; simp [blk, blkOf] at hd; subst hd; exact lt_get hb
theorem RawC.lenF {J : JH} {s : IV} {X : List Cl} (h : RawC J s X) (J2 : JH) : Go.Proofs.Yticfcmaigffhmaa.G.lenF false s J2 = some (nI X.length, J2) := by
  rcases h with ⟨rfl, rfl⟩ | ⟨_, _, rfl, _⟩ <;> rfl
theorem RawC.get {J : JH} {s : IV} {X : List Cl} (h : RawC J s X) {i : Nat} (hi : i < X.length) : ∃ b, s = .sl b 0 0 X.length (UNK + 2) 2 ∧ J[b]? = some (.cells 0 (clL X) false) := by
  rcases h with ⟨rfl, _⟩ | h
  · cases hi
  · exact h.2
theorem RawC.frz {J : JH} {s : IV} {X : List Cl} (h : RawC J s X) : ∃ u, (∀ k, Go.Proofs.Yticfcmaigffhmaa.G.frz J (k + 1) s = some u) ∧ Ls 2 u (X.map Cl.e) := by
  rcases h with ⟨rfl, rfl⟩ | ⟨hne, b, rfl, hb⟩
  · exact ⟨_, fun k => frz_pure _ _ rfl, .lst⟩
  · have hl : X.length = (X.map Cl.c).length := by simp
    have hr : ird J b 0 0 (X.length * 2) = some (X.map Cl.c).flatten := by
      simp only [ird, hb, true_and, Nat.zero_add, List.drop_zero]
      rw [if_pos (by rw [clL_len]; exact Nat.le_refl _), List.take_of_length_le (by rw [clL_len]; exact Nat.le_refl _)]; rfl
    refine ⟨_, fun k => frz_sl (by decide) hr (cl_pure X) (flat_one X), ?_⟩
    rw [hl, grp_flat (cl2 X), cl_mk]; exact .lst
theorem RawC.shows {J : JH} {s : IV} {X : List Cl} (h : RawC J s X) : ∀ d ∈ Go.Proofs.Yticfcmaigffhmaa.G.shows J DEP s, d ∈ blk s := by
  rcases h with ⟨rfl, rfl⟩ | ⟨hne, b, rfl, hb⟩
  · intro d hd; rw [shows_pure J DEP rfl] at hd; cases hd
  · intro d hd
    have hr : ird J b 0 0 (X.length * 2) = some (clL X) := by
      simp only [ird, hb, true_and, Nat.zero_add, List.drop_zero]
      rw [if_pos (by rw [clL_len]; exact Nat.le_refl _), List.take_of_length_le (by rw [clL_len]; exact Nat.le_refl _)]
    rw [frz12, shows_sl hr (clL_pure X)] at hd
    exact hd
end Go.Proofs.Yticfcmaigffhmaa.G
namespace Go.Proofs.Yticfcmaigffhmaa.G
open Go
set_option linter.unusedSimpArgs false
set_option linter.unusedVariables false
set_option maxRecDepth 20000
set_option maxHeartbeats 1000000
theorem BE.view (p : Int) (b : Bd) : BE (fun s => hasM s p) b (b.view p) := by
  refine ⟨by simp [Bd.view, Bd.map], fun j => ?_⟩
  simp only [Bd.at, Bd.view, Bd.map, List.getD_eq_getElem?_getD, List.getElem?_map]
  cases h : b.l[j.toNat]? with
  | none => exact CE.refl _ _
  | some c =>
    show CE _ c (viewC p c)
    unfold viewC
    split
    · exact CE.refl _ _
    · rename_i hn; exact ⟨rfl, fun h => absurd h hn⟩
variable {P : BitVec 32 → Bool} {E F : Me} {m n : Mc}
def Diff (P : BitVec 32 → Bool) (a b : List Sh) : Prop := ∃ (j : Nat) (s t : Sh), a[j]? = some s ∧ b[j]? = some t ∧ P s.to = true ∧ s.v ≠ t.v ∧ SE (a.take (j + 1)) (b.take (j + 1))
theorem Diff.ext {a b c d : List Sh} (h : Diff P a b) : Diff P (a ++ c) (b ++ d) := by
  obtain ⟨j, s, t, h1, h2, h3, h4, h5⟩ := h
  have l1 := (List.getElem?_eq_some_iff.1 h1).1
  have l2 := (List.getElem?_eq_some_iff.1 h2).1
  refine ⟨j, s, t, by rw [List.getElem?_append_left l1]; exact h1, by rw [List.getElem?_append_left l2]; exact h2, h3, h4, ?_⟩
  rw [List.take_append_of_le_length (by omega), List.take_append_of_le_length (by omega)]
  exact h5
end Go.Proofs.Yticfcmaigffhmaa.G
namespace Go.Proofs.Yticfcmaigffhmaa.G
open Go
set_option linter.unusedSimpArgs false
set_option linter.unusedVariables false
set_option maxRecDepth 20000
set_option maxHeartbeats 2000000
end Go.Proofs.Yticfcmaigffhmaa.G
namespace Go.Proofs.Yticfcmaigffhmaa.G
open Go
set_option linter.unusedSimpArgs false
set_option linter.unusedVariables false
set_option maxRecDepth 20000
set_option maxHeartbeats 2000000
end Go.Proofs.Yticfcmaigffhmaa.G
namespace Go.Proofs.Yticfcmaigffhmaa.G
open Go
set_option linter.unusedSimpArgs false
set_option linter.unusedVariables false
set_option maxRecDepth 20000
set_option maxHeartbeats 2000000
end Go.Proofs.Yticfcmaigffhmaa.G
namespace Go.Proofs.Yticfcmaigffhmaa.G
open Go
set_option linter.unusedSimpArgs false
set_option linter.unusedVariables false
set_option maxRecDepth 20000
set_option maxHeartbeats 2000000
theorem obs_nat {g : Gm} (hr : g.right = true) : ∃ n : Nat, g.obs = n ∧ 1 ≤ n ∧ n ≤ 32 := by
  obtain ⟨_, ⟨h1, h2⟩, _⟩ := right_48 hr
  exact ⟨g.obs.toNat, by omega, by omega, by omega⟩
theorem EE.refl (P : BitVec 32 → Bool) (E : Me) : EE P E E := ⟨rfl, rfl, fun _ _ => rfl⟩
theorem sta_eq (b c : Bd) (d t : Int) (e u : Int) : iaggEq (stc b d t) (stc c e u) = some (decide (b = c) && (decide (d = e) && decide (t = u))) := by
  have hb := b.h
  have hc := c.h
  have key : ∀ (p q : List Cl) (n m : Nat), p.length = q.length → iaggEq ((p.map Cl.c).flatten ++ [nI n, .int .u64 d, .int .u32 t]) ((q.map Cl.c).flatten ++ [nI m, .int .u64 e, .int .u32 u]) = some (decide (p = q ∧ n = m) && (decide (d = e) && decide (t = u))) := by
    intro p
    induction p with
    | nil =>
      intro q n m h
      cases q with
      | nil =>
        simp only [List.map_nil, List.flatten_nil, List.nil_append, iaggEq, if_true, Bool.and_true, true_and]
        congr 1
        rw [Bool.eq_iff_iff]; simp; omega
      | cons _ _ => simp at h
    | cons a p ih =>
      intro q n m h
      cases q with
      | nil => simp at h
      | cons b q =>
        have ih := ih q n m (by simpa using h)
        obtain ⟨av, as1⟩ := a
        obtain ⟨bv, bs1⟩ := b
        simp only [List.map_cons, List.flatten_cons, Cl.c, List.cons_append, List.nil_append, iaggEq, if_true, List.append_eq, ih, beqB]
        congr 1
        rw [Bool.eq_iff_iff]
        simp [and_assoc]
  rw [stc, stc, bdc, bdc, Bd.pad, Bd.pad, List.append_assoc, List.append_assoc]
  simp only [List.cons_append, List.nil_append]
  rw [key _ _ _ _ (by simp; omega)]
  congr 2
  rw [decide_eq_decide]
  constructor
  · rintro ⟨h1, h2⟩
    apply Bd.ext
    rw [h2] at h1
    exact List.append_cancel_right h1
  · rintro rfl
    exact ⟨rfl, rfl⟩
attribute [go_sem] sta_eq
theorem modN (o n : Nat) (hn : 1 ≤ n) : (o : Int).tmod (n : Int) = ((o % n : Nat) : Int) := by
  rw [Int.tmod_eq_emod_of_nonneg (by omega)]; omega
end Go.Proofs.Yticfcmaigffhmaa.G
