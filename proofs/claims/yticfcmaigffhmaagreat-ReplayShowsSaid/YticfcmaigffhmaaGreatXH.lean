/- Joined: I10 to XV1. -/
import Derived.Test.YticfcmaigffhmaaGreatXG
import Derived.Carry
import Derived.RowKit
import Derived.ChangeShapes
import Derived.KernelRfl
set_option linter.unusedVariables false
set_option linter.unusedSimpArgs false
set_option maxRecDepth 20000
set_option maxHeartbeats 2000000
namespace Go.Proofs.YticfcmaigffhmaaGreat.G
open Go
def WTF (p : TypeId → List IV → Prop) : List Field → List IV → Prop
 | [], xs => xs = []
 | f :: fs, xs => ∃ a b, xs = a ++ b ∧ p f.type a ∧ WTF p fs b
def WTN (p : List IV → Prop) : Nat → List IV → Prop
 | 0, xs => xs = []
 | n + 1, xs => ∃ a b, xs = a ++ b ∧ p a ∧ WTN p n b
def WT (P : Program) : Nat → TypeId → List IV → Prop
 | 0, _, _ => False
 | d + 1, t, xs =>
  match P.underlying t with
  | some .bool => ∃ b, xs = [.bool b]
  | some (.int k) => ∃ n, xs = [.int k n] ∧ (Lit.int k n).wf = true
  | some .string => ∃ s, xs = [.sc (.string s)] ∧ s.size ≤ maxLen
  | some (.slice e) => xs = [.sc (.slice none 0 0)] ∨ ∃ ys, xs = [.lst (P.cellsOf e) false ys] ∧ ys.length ≤ maxLen ∧ ∀ y ∈ ys, ∃ cs, y = mkE (P.cellsOf e) cs ∧ cs.length = P.cellsOf e ∧ WT P d e cs
  | some (.struct fs) => WTF (WT P d) fs.toList xs
  | some (.array n e) => WTN (WT P d e) n xs
  | _ => False
def okT (P : Program) : Nat → TypeId → Bool
 | 0, _ => false
 | d + 1, t =>
  match P.underlying t with
  | some .bool | some (.int _) | some .string => P.cellsOf t == 1
  | some (.slice e) => P.cellsOf t == 1 && decide (0 < P.cellsOf e) && okT P d e
  | some (.struct fs) => tiles P fs.toList 0 (P.cellsOf t) && fs.toList.all fun f => okT P d f.type
  | some (.array n e) => P.cellsOf t == n * P.cellsOf e && okT P d e
  | _ => false
def FH (H : Heap) (b : Nat) : Option (List Value) := match H[b]? with | some (.cells cs _) => some cs | _ => none
def W0 (H : Heap) : Wd := ⟨fun _ => none, FH H⟩
structure Lay (w : World) (ι : Inj) (H : Heap) : Prop where
 rel : Rel ι H w
 ro : ∀ b, b < H.size → ∃ cs, H[b]? = some (.cells cs true)
structure Ext (ι : Inj) (H : Heap) (ι' : Inj) (H' : Heap) : Prop where
 le : Le ι ι'
 F : ∀ b cs, FH H b = some cs → FH H' b = some cs
theorem Ext.refl (ι : Inj) (H : Heap) : Ext ι H ι H := ⟨.refl ι, fun _ _ h => h⟩
theorem Ext.trans {ι ι' ι'' : Inj} {H H' H'' : Heap} (h : Ext ι H ι' H') (k : Ext ι' H' ι'' H'') : Ext ι H ι'' H'' := ⟨h.le.trans k.le, fun b cs e => k.F b cs (h.F b cs e)⟩
theorem lay_empty (w : World) : Lay w (fun _ => none) #[] := by
 refine ⟨⟨?_, ?_, ?_, ?_, ?_, ?_⟩, ?_⟩
 ·intro b l h; cases h
 ·intro b l h; cases h
 ·intro b l cs ro h; cases h
 ·intro b l cs h; cases h
 ·intro b l es k h; cases h
 ·intro b c l m h; cases h
 ·intro b h; simp at h
theorem Lay.push {w : World} {ι : Inj} {H : Heap} (h : Lay w ι H) {cs : List Value} {l : Loc} (hb : l.blk < w.heap.size)
  (hc : ∀ (i : Nat) v, cs[i]? = some v → one v = true ∧ ∃ c, w.cell? ⟨l.blk, l.δ + i, none⟩ = some c ∧ VR ι v c) :
  ∃ ι', Lay w ι' (H.push (.cells cs true)) ∧ Ext ι H ι' (H.push (.cells cs true)) ∧ ι' H.size = some l := by
 refine ⟨fun b => if b = H.size then some l else ι b, ?_, ?_, by simp⟩
 ·have hle : Le ι (fun b => if b = H.size then some l else ι b) := fun b m hm => by
   have := h.rel.dom b m hm
   show (if b = H.size then some l else ι b) = some m
   rw [if_neg (Nat.ne_of_lt this)]
   exact hm
  have hold : ∀ {b m}, (if b = H.size then some l else ι b) = some m → b ≠ H.size → ι b = some m := fun {b m} hm hne => by rwa [if_neg hne] at hm
  have hnot : ∀ b, ¬ own (H.push (.cells cs true)) b := by
   intro b ho
   have : ∃ ds, (H.push (Blk.cells cs true))[b]? = some (.cells ds true) ∨ (H.push (Blk.cells cs true))[b]? = none := by
    rw [Array.getElem?_push]
    split
    ·exact ⟨cs, .inl rfl⟩
    ·rcases Nat.lt_or_ge b H.size with hlt | hge
     ·obtain ⟨ds, hd⟩ := h.ro b hlt
      exact ⟨ds, .inl hd⟩
     ·exact ⟨[], .inr (Array.getElem?_eq_none hge)⟩
   obtain ⟨ds, hd | hd⟩ := this <;> rcases ho with ⟨es, he⟩ | ⟨es, k, he⟩ <;> rw [hd] at he <;> cases he
  refine ⟨⟨?_, ?_, ?_, ?_, ?_, ?_⟩, ?_⟩
  ·intro b m hm
   by_cases hb : b = H.size
   ·subst hb; simp
   ·have := h.rel.dom b m (hold hm hb); simp; omega
  ·intro b m hm
   by_cases hbs : b = H.size
   ·subst hbs; simp at hm; subst hm; exact hb
   ·exact h.rel.bound b m (hold hm hbs)
  ·intro b m ds ro hm hH i v hv
   by_cases hbs : b = H.size
   ·subst hbs
    simp at hm
    subst hm
    rw [Array.getElem?_push, if_pos rfl] at hH
    simp only [Option.some.injEq, Blk.cells.injEq] at hH
    obtain ⟨rfl, rfl⟩ := hH
    obtain ⟨h1, c, h2, h3⟩ := hc i v hv
    exact ⟨h1, c, h2, h3.mono hle⟩
   ·have hm' := hold hm hbs
    rw [Array.getElem?_push, if_neg hbs] at hH
    obtain ⟨h1, c, h2, h3⟩ := h.rel.cells b m ds ro hm' hH i v hv
    exact ⟨h1, c, h2, h3.mono hle⟩
  ·intro b m ds hm hH
   exact (hnot b (.inl ⟨ds, hH⟩)).elim
  ·intro b m es k hm hH
   exact (hnot b (.inr ⟨es, k, hH⟩)).elim
  ·intro b c m m' _ _ _ _ ho
   exact (hnot b ho).elim
  ·intro b hb
   simp at hb
   rw [Array.getElem?_push]
   split
   ·exact ⟨cs, rfl⟩
   ·exact h.ro b (by omega)
 ·refine ⟨fun b m hm => ?_, fun b ds hF => ?_⟩
  ·have := h.rel.dom b m hm
   show (if b = H.size then some l else ι b) = some m
   rw [if_neg (Nat.ne_of_lt this)]
   exact hm
  ·unfold FH at hF ⊢
   rw [Array.getElem?_push, if_neg]
   ·exact hF
   ·rintro rfl
    simp at hF
theorem W0.le {ι ι' : Inj} {H H' : Heap} (h : Ext ι H ι' H') : ∀ β cs, (W0 H).F β = some cs → (W0 H').F β = some cs := h.F
def Laid (ι : Inj) (H : Heap) (xs : List IV) (cs : List Value) : Prop := ∃ gs, CRL (W0 H) xs gs ∧ VRL ι gs cs
theorem Laid.ext {ι ι' : Inj} {H H' : Heap} {xs : List IV} {cs : List Value} (h : Laid ι H xs cs) (hp : ipureL xs = true) (hx : Ext ι H ι' H') : Laid ι' H' xs cs := by
 obtain ⟨gs, h1, h2⟩ := h
 exact ⟨gs, h1.pure hx.F _ _ hp, VRL.mono hx.le _ _ h2⟩
theorem Laid.append {ι : Inj} {H : Heap} {xs ys : List IV} {cs ds : List Value} (h : Laid ι H xs cs) (k : Laid ι H ys ds) : Laid ι H (xs ++ ys) (cs ++ ds) := by
 obtain ⟨gs, h1, h2⟩ := h
 obtain ⟨es, k1, k2⟩ := k
 exact ⟨gs ++ es, h1.append k1, h2.append k2⟩
theorem Laid.one {ι : Inj} {H : Heap} {v : Value} (h1 : scOK v = true) (h2 : one v = true) (h3 : VR ι v v) : Laid ι H [.sc v] [v] :=
 ⟨[v], CRL.cons_iff.2 ⟨v, [], rfl, by simpa [ione] using h2, h2, by simp [CR, h1, h2], CRL.nil_iff.2 rfl⟩, by simp [VRL, h3]⟩
theorem Laid.len {ι : Inj} {H : Heap} {xs : List IV} {cs : List Value} (h : Laid ι H xs cs) : cs.length = xs.length := by
 obtain ⟨gs, h1, h2⟩ := h
 rw [← h2.length, h1.len]
theorem ipureL_app {a b : List IV} (h : ipureL a = true) (k : ipureL b = true) : ipureL (a ++ b) = true :=
 ipureL_iff.2 fun x hx => by
  rcases List.mem_append.1 hx with hx | hx
  ·exact ipureL_iff.1 h x hx
  ·exact ipureL_iff.1 k x hx
section
variable {Hd : Type} {enc : TypeId × Value → Hd} {P : Program} {w : World} {sp : Nat → Bool} {held : Bool}
def LayT (P : Program) (w : World) (d : Nat) (t : TypeId) (cs : List Value) : Prop :=
 ∀ ι H, Lay w ι H → ∃ xs ι' H', Lay w ι' H' ∧ Ext ι H ι' H' ∧ WT P d t xs ∧ ipureL xs = true ∧ Laid ι' H' xs cs ∧ xs.length = P.cellsOf t
theorem drop_take_split {α : Type} (l : List α) (a b : Nat) : l.drop a = (l.drop a).take b ++ l.drop (a + b) := by
 rw [← List.drop_drop]; exact (List.take_append_drop b (l.drop a)).symm
theorem lay_fields {d : Nat} {cs : List Value} : ∀ (fs : List Field) (off : Nat), tiles P fs off cs.length = true → (∀ f ∈ fs, LayT P w d f.type ((cs.drop f.offset).take (P.cellsOf f.type))) →
  ∀ ι H, Lay w ι H → ∃ xs ι' H', Lay w ι' H' ∧ Ext ι H ι' H' ∧ WTF (WT P d) fs xs ∧ ipureL xs = true ∧ Laid ι' H' xs (cs.drop off)
 | [], off, ht, _, ι, H, hL => by
  simp only [tiles, beq_iff_eq] at ht
  subst ht
  exact ⟨[], ι, H, hL, .refl _ _, rfl, rfl, [], by simp [CRL], by simp [VRL]⟩
 | f :: fs, off, ht, hf, ι, H, hL => by
  simp only [tiles, Bool.and_eq_true, beq_iff_eq] at ht
  obtain ⟨ho, ht⟩ := ht
  obtain ⟨xs, ι1, H1, h1, h2, h3, h4, h5, h6⟩ := hf f (by simp) ι H hL
  obtain ⟨ys, ι2, H2, k1, k2, k3, k4, k5⟩ := lay_fields fs (off + P.cellsOf f.type) ht (fun g hg => hf g (by simp [hg])) ι1 H1 h1
  refine ⟨xs ++ ys, ι2, H2, k1, h2.trans k2, ⟨xs, ys, rfl, h3, k3⟩, ipureL_app h4 k4, ?_⟩
  rw [drop_take_split cs off (P.cellsOf f.type), ← ho]
  exact (h5.ext h4 k2).append (by rw [ho]; exact k5)
theorem lay_array {d : Nat} {e : TypeId} {cs : List Value} : ∀ (n i : Nat), cs.length = (i + n) * P.cellsOf e → (∀ j, i ≤ j → j < i + n → LayT P w d e ((cs.drop (j * P.cellsOf e)).take (P.cellsOf e))) →
  ∀ ι H, Lay w ι H → ∃ xs ι' H', Lay w ι' H' ∧ Ext ι H ι' H' ∧ WTN (WT P d e) n xs ∧ ipureL xs = true ∧ Laid ι' H' xs (cs.drop (i * P.cellsOf e))
 | 0, i, hl, _, ι, H, hL => by
  refine ⟨[], ι, H, hL, .refl _ _, rfl, rfl, [], by simp [CRL], ?_⟩
  rw [List.drop_eq_nil_of_le (by rw [hl]; simp)]
  simp [VRL]
 | n + 1, i, hl, hf, ι, H, hL => by
  obtain ⟨xs, ι1, H1, h1, h2, h3, h4, h5, h6⟩ := hf i (Nat.le_refl _) (by omega) ι H hL
  obtain ⟨ys, ι2, H2, k1, k2, k3, k4, k5⟩ := lay_array n (i + 1) (by rw [hl]; congr 1; omega) (fun j hj hj2 => hf j (by omega) (by omega)) ι1 H1 h1
  refine ⟨xs ++ ys, ι2, H2, k1, h2.trans k2, ⟨xs, ys, rfl, h3, k3⟩, ipureL_app h4 k4, ?_⟩
  rw [drop_take_split cs (i * P.cellsOf e) (P.cellsOf e), ← Nat.succ_mul]
  exact (h5.ext h4 k2).append k5
theorem mapM_ex {α β : Type} {f : α → Option β} : ∀ {l : List α} {m : List β}, l.mapM f = some m → ∀ x ∈ l, ∃ y, f x = some y
 | [], m, _, x, hx => by simp at hx
 | a :: l, m, h, x, hx => by
  rcases mapM_some h with ⟨h0, _⟩ | ⟨a', r, y, s, h0, rfl, h1, h2⟩
  ·cases h0
  ·cases h0
   rcases List.mem_cons.1 hx with rfl | hx
   ·exact ⟨y, h1⟩
   ·exact mapM_ex h2 x hx
theorem mapM_idx {α β : Type} {f : α → Option β} : ∀ {l : List α} {m : List β} {i : Nat} {x : α}, l.mapM f = some m → l[i]? = some x → ∃ y, m[i]? = some y ∧ f x = some y
 | [], m, i, x, _, hx => by simp at hx
 | a :: l, m, i, x, h, hx => by
  rcases mapM_some h with ⟨h0, _⟩ | ⟨a', r, y, s, h0, rfl, h1, h2⟩
  ·cases h0
  ·cases h0
   cases i with
   | zero => simp at hx; subst hx; exact ⟨y, by simp, h1⟩
   | succ i => simpa using mapM_idx (i := i) h2 (by simpa using hx)
theorem lay_row {d : Nat} {e : TypeId} {a : Addr} {len : Nat} (hsp : a.spot = none) (hel : ∀ i, i < len → ∃ cs, w.cells? 0 (a.add (i * P.cellsOf e)) (P.cellsOf e) = some cs ∧ LayT P w d e cs) :
  ∀ (n i : Nat), i + n = len → ∀ ι H, Lay w ι H → ∃ ys gs ι' H', Lay w ι' H' ∧ Ext ι H ι' H' ∧ ys.length = n ∧ (∀ y ∈ ys, ∃ cs, y = mkE (P.cellsOf e) cs ∧ cs.length = P.cellsOf e ∧ WT P d e cs) ∧ ipureL ys = true ∧
   CRF (W0 H') (P.cellsOf e) ys gs ∧ gs.length = n * P.cellsOf e ∧ ∀ (j : Nat) v, gs[j]? = some v → one v = true ∧ ∃ c, w.cell? ⟨a.block, a.off + i * P.cellsOf e + j, none⟩ = some c ∧ VR ι' v c
 | 0, i, _, ι, H, hL => ⟨[], [], ι, H, hL, .refl _ _, rfl, by simp, rfl, by simp [CRF], by simp, by simp⟩
 | n + 1, i, hi, ι, H, hL => by
  obtain ⟨cs, hcs, hlay⟩ := hel i (by omega)
  obtain ⟨xs, ι1, H1, h1, h2, h3, h4, h5, h6⟩ := hlay ι H hL
  obtain ⟨ys, gs, ι2, H2, k1, k2, k3, k4, k5, k6, k7, k8⟩ := lay_row hsp hel n (i + 1) (by omega) ι1 H1 h1
  obtain ⟨gx, hx1, hx2⟩ := h5.ext h4 k2
  have hgl : gx.length = P.cellsOf e := by rw [hx1.len, h6]
  have hcl : cs.length = P.cellsOf e := by rw [← hx2.length, hgl]
  refine ⟨mkE (P.cellsOf e) xs :: ys, gx ++ gs, ι2, H2, k1, h2.trans k2, by simp [k3], ?_, ?_, ?_, ?_, ?_⟩
  ·intro y hy
   rcases List.mem_cons.1 hy with rfl | hy
   ·exact ⟨xs, rfl, h6, h3⟩
   ·exact k4 y hy
  ·simp only [ipureL, k5, Bool.and_true]; exact ipure_mkE (ipureL_iff.1 h4)
  ·simp only [CRF]
   refine ⟨by rw [mkE_len h6 hx1.ones.1]; exact h6, ?_, ?_⟩
   ·rw [List.take_left' hgl]; exact mkE_CR h6 hx1
   ·rw [List.drop_left' hgl]; exact k6
  ·simp [hgl, k7, Nat.succ_mul]; omega
  ·intro j v hj
   rcases Nat.lt_or_ge j (P.cellsOf e) with hlt | hge
   ·rw [List.getElem?_append_left (by omega)] at hj
    have ho : one v = true := List.all_eq_true.1 hx1.ones.2 v (List.mem_of_getElem? hj)
    refine ⟨ho, ?_⟩
    obtain ⟨c, hc1, hc2⟩ := hx2.get hj
    refine ⟨c, ?_, hc2⟩
    simp only [World.cells?, Nat.zero_le, if_true] at hcs
    obtain ⟨y, hy1, hy2⟩ := mapM_idx hcs (i := j) (x := j) (by simp [hlt])
    rw [hc1] at hy1
    cases hy1
    have : (a.add (i * P.cellsOf e)).add j = ⟨a.block, a.off + i * P.cellsOf e + j, none⟩ := by
     obtain ⟨ab, ao, as⟩ := a
     simp only at hsp
     subst hsp
     unfold Addr.add
     simp only
     split <;> split <;> simp_all
    rw [this] at hy2
    exact hy2
   ·rw [List.getElem?_append_right (by omega)] at hj
    obtain ⟨ho, c, hc1, hc2⟩ := k8 _ v hj
    refine ⟨ho, c, ?_, hc2⟩
    rw [← hc1]
    congr 2
    rw [Nat.succ_mul, hgl]
    omega
theorem cell_lt {a : Addr} {c : Value} (h : w.cell? a = some c) : a.block < w.heap.size := by
 rcases Nat.lt_or_ge a.block w.heap.size with hlt | hge
 ·exact hlt
 ·unfold World.cell? at h
  rw [Array.getElem?_eq_none hge] at h
  simp at h
theorem spot_of {a : Addr} {n : Nat} {cs : List Value} (hn : 0 < n) (h : w.cells? 0 (a.add 0) n = some cs) : a.spot = none ∧ a.block < w.heap.size := by
 simp only [World.cells?, Nat.zero_le, if_true] at h
 obtain ⟨y, hy⟩ := mapM_ex h 0 (by simp [hn])
 have ha : (a.add 0).add 0 = a := rfl
 rw [ha] at hy
 refine ⟨?_, cell_lt hy⟩
 unfold World.cell? at hy
 split at hy
 ·cases hs : a.spot with
  | none => rfl
  | some s => rw [hs] at hy; simp at hy
 ·simp at hy
def noSl (cs : List Value) : Prop := ∀ c ∈ cs, ∀ a n k, c ≠ .slice (some a) n k
theorem lay_trod : ∀ (d n : Nat) (t : TypeId) (cs : List Value) (x : DataW Hd × List MemPlace), (0 < w.heap.size ∨ noSl cs) → okT P d t = true → DataW.trod enc P w 0 (fun _ => true) held n t cs = some x → LayT P w d t cs
 | 0, n, t, cs, x, hz, hok, h => by simp [okT] at hok
 | d + 1, 0, t, cs, x, hz, hok, h => by simp [DataW.trod] at h
 | d + 1, n + 1, t, cs, x, hz, hok, h => by
  intro ι H hL
  unfold DataW.trod at h
  cases ht : P.underlying t with
  | none => simp [okT, ht] at hok
  | some u =>
  simp only [okT, ht] at hok
  simp only [ht] at h
  cases u with
  | bool =>
   simp only [beq_iff_eq] at hok
   match cs, h with
   | [.bool b], _ => exact ⟨[.bool b], ι, H, hL, .refl _ _, by simp [WT, ht], rfl, .one rfl rfl (by simp [VR]), by simp [hok]⟩
  | int k =>
   simp only [beq_iff_eq] at hok
   match cs, h with
   | [.int k' m], h =>
    simp only at h
    split at h
    ·rename_i hc
     obtain ⟨rfl, hw⟩ := hc
     exact ⟨[.int k' m], ι, H, hL, .refl _ _, by simp [WT, ht, hw], rfl, .one rfl rfl (by simp [VR]), by simp [hok]⟩
    ·simp at h
  | string =>
   simp only [beq_iff_eq] at hok
   match cs, h with
   | [.string s], h =>
    simp only at h
    split at h
    ·rename_i hc
     exact ⟨[.sc (.string s)], ι, H, hL, .refl _ _, by simp [WT, ht, hc], rfl, .one rfl rfl (by simp [VR]), by simp [hok]⟩
    ·simp at h
  | slice e =>
   simp only [Bool.and_eq_true, beq_iff_eq, decide_eq_true_eq] at hok
   obtain ⟨⟨hct, hce⟩, hoke⟩ := hok
   match cs, h, hz with
   | [.slice none 0 0], h, _ => exact ⟨[.sc (.slice none 0 0)], ι, H, hL, .refl _ _, by simp [WT, ht], rfl, .one rfl rfl (by simp [VR]), by simp [hct]⟩
   | [.slice (some a) len cap], h, hz =>
    have hpos : 0 < w.heap.size := by
     rcases hz with hz | hz
     ·exact hz
     ·exact absurd rfl (hz _ (by simp) a len cap)
    simp only at h
    split at h
    ·rename_i hc
     obtain ⟨_, hlc, hcm⟩ := hc
     cases hel : (List.range len).mapM (fun i => (w.cells? 0 (a.add (i * P.cellsOf e)) (P.cellsOf e)).bind (DataW.trod enc P w 0 (fun _ => true) held n e)) with
     | none => rw [hel] at h; simp at h
     | some els =>
     rw [hel] at h
     simp only [Option.bind_some, if_true] at h
     cases hsr : (List.range (cap - len)).mapM (fun j => (w.cells? 0 (a.add ((len + j) * P.cellsOf e)) (P.cellsOf e)).bind (DataW.trod enc P w 0 (fun _ => true) held n e)) with
     | none => rw [hsr] at h; simp at h
     | some rest =>
     have hmU : cap < UNK := by unfold maxLen at hcm; unfold UNK; omega
     have helem : ∀ i, i < len → ∃ cs, w.cells? 0 (a.add (i * P.cellsOf e)) (P.cellsOf e) = some cs ∧ LayT P w d e cs := by
      intro i hi
      obtain ⟨y, hy⟩ := mapM_ex hel i (by simp [hi])
      cases hcs : w.cells? 0 (a.add (i * P.cellsOf e)) (P.cellsOf e) with
      | none => rw [hcs] at hy; simp at hy
      | some cs =>
       rw [hcs] at hy
       exact ⟨cs, rfl, lay_trod d n e cs y (.inl hpos) hoke hy⟩
     have hspot : 0 < cap → a.spot = none ∧ a.block < w.heap.size := by
      intro hcp
      by_cases hl0 : 0 < len
      ·obtain ⟨cs, hcs, _⟩ := helem 0 hl0
       rw [Nat.zero_mul] at hcs
       exact spot_of hce hcs
      ·obtain ⟨y, hy⟩ := mapM_ex hsr 0 (by simp; omega)
       cases hcs : w.cells? 0 (a.add ((len + 0) * P.cellsOf e)) (P.cellsOf e) with
       | none => rw [hcs] at hy; simp at hy
       | some cs =>
        obtain rfl : len = 0 := by omega
        rw [Nat.add_zero, Nat.zero_mul] at hcs
        exact spot_of hce hcs
     by_cases hcp : 0 < cap
     ·obtain ⟨hsp, hblk⟩ := hspot hcp
      obtain ⟨ys, gs, ι1, H1, k1, k2, k3, k4, k5, k6, k7, k8⟩ := lay_row (P := P) hsp helem len 0 (by omega) ι H hL
      obtain ⟨ι2, h1, h2, h3⟩ := k1.push (cs := gs) (l := ⟨a.block, a.off, 0⟩) hblk (fun j v hj => by
       obtain ⟨ho, c, hc1, hc2⟩ := k8 j v hj
       refine ⟨ho, c, ?_, hc2⟩
       rw [Nat.zero_mul, Nat.add_zero] at hc1
       exact hc1)
      have hF : (W0 (H1.push (.cells gs true))).F H1.size = some gs := by simp [W0, FH]
      refine ⟨[.lst (P.cellsOf e) false ys], ι2, _, h1, k2.trans h2, ?_, rfl, ⟨[.slice (some ⟨H1.size, 0, none⟩) len cap], ?_, ?_⟩, by simp [hct]⟩
      ·simp only [WT, ht]
       exact .inr ⟨ys, rfl, by rw [k3]; omega, k4⟩
      ·refine CRL.cons_iff.2 ⟨_, [], rfl, rfl, rfl, ?_, CRL.nil_iff.2 rfl⟩
       have := IR.mk_lst (full := false) (xs := ys) (o := 0) (cap := cap) (n := len) hF k3.symm hce (by rw [k7, k3]; omega) (.inl ⟨hmU, by rw [k3]; exact hlc⟩) (fun e => by cases e) k5 (by simpa using k6.pure h2.F _ _ _ k5)
       simpa only [IR] using this
      ·obtain ⟨ab, ao, as⟩ := a
       simp only at hsp
       subst hsp
       simp only [VRL, VR, and_true]
       exact ⟨_, h3, trivial, .inl ⟨hmU, hlc, by simp⟩⟩
     ·obtain rfl : cap = 0 := by omega
      obtain rfl : len = 0 := by omega
      obtain ⟨ι2, h1, h2, h3⟩ := hL.push (cs := []) (l := ⟨0, 0, 0⟩) hpos (fun j v hj => by simp at hj)
      have hF : (W0 (H.push (.cells [] true))).F H.size = some [] := by simp [W0, FH]
      refine ⟨[.lst (P.cellsOf e) false []], ι2, _, h1, h2, ?_, rfl, ⟨[.slice (some ⟨H.size, 0, none⟩) 0 0], ?_, ?_⟩, by simp [hct]⟩
      ·simp only [WT, ht]
       exact .inr ⟨[], rfl, by simp, by simp⟩
      ·refine CRL.cons_iff.2 ⟨_, [], rfl, rfl, rfl, ?_, CRL.nil_iff.2 rfl⟩
       have := IR.mk_lst (full := false) (xs := []) (o := 0) (cap := 0) (n := 0) hF rfl hce (by simp) (.inl ⟨by simp [UNK], by simp⟩) (fun e => by cases e) rfl (by simp [CRF])
       simpa only [IR] using this
      ·simp only [VRL, VR, and_true]
       exact ⟨_, h3, trivial, .inr (.inr (.inr ⟨trivial, trivial, a, rfl⟩))⟩
    ·simp at h
  | struct fs =>
   simp only [Bool.and_eq_true, List.all_eq_true] at hok
   simp only at h
   split at h
   ·rename_i hlen
    cases hel : fs.toList.mapM (fun f => DataW.trod enc P w 0 (fun _ => true) held n f.type ((cs.drop f.offset).take (P.cellsOf f.type))) with
    | none => rw [hel] at h; simp at h
    | some els =>
    obtain ⟨xs, ι1, H1, h1, h2, h3, h4, h5⟩ := lay_fields (P := P) (w := w) (d := d) (cs := cs) fs.toList 0 (by rw [hlen]; exact hok.1) (fun f hf => by
     obtain ⟨y, hy⟩ := mapM_ex hel f hf
     refine lay_trod d n f.type _ y ?_ (hok.2 f hf) hy
     rcases hz with hz | hz
     ·exact .inl hz
     ·exact .inr fun c hc => hz c (List.mem_of_mem_drop (List.mem_of_mem_take hc))) ι H hL
    rw [List.drop_zero] at h5
    exact ⟨xs, ι1, H1, h1, h2, by simp only [WT, ht]; exact h3, h4, h5, by rw [← h5.len, hlen]⟩
   ·simp at h
  | array m e =>
   simp only [Bool.and_eq_true, beq_iff_eq] at hok
   simp only at h
   split at h
   ·rename_i hlen
    cases hel : (List.range m).mapM (fun i => DataW.trod enc P w 0 (fun _ => true) held n e ((cs.drop (i * P.cellsOf e)).take (P.cellsOf e))) with
    | none => rw [hel] at h; simp at h
    | some els =>
    obtain ⟨xs, ι1, H1, h1, h2, h3, h4, h5⟩ := lay_array (P := P) (w := w) (d := d) (e := e) (cs := cs) m 0 (by rw [hlen, hok.1]; simp) (fun j _ hj => by
     obtain ⟨y, hy⟩ := mapM_ex hel j (by simp; omega)
     refine lay_trod d n e _ y ?_ hok.2 hy
     rcases hz with hz | hz
     ·exact .inl hz
     ·exact .inr fun c hc => hz c (List.mem_of_mem_drop (List.mem_of_mem_take hc))) ι H hL
    rw [Nat.zero_mul, List.drop_zero] at h5
    exact ⟨xs, ι1, H1, h1, h2, by simp only [WT, ht]; exact h3, h4, h5, by rw [← h5.len, hlen]⟩
   ·simp at h
  | _ => simp at hok
end
end Go.Proofs.YticfcmaigffhmaaGreat.G
namespace Go.Proofs.YticfcmaigffhmaaGreat.G
open Go Go.RowKit Go.ChangeShapes
def argOf (P : Program) (t : TypeId) (cs : List IV) : IV := if isAggT P t then .agg cs else cs.headD (.tup [])
def WTA (P : Program) (D : Nat) : List TypeId → List IV → Prop
 | [], xs => xs = []
 | t :: ts, xs => ∃ cs r, xs = argOf P t cs :: r ∧ WT P D t cs ∧ WTA P D ts r
section
variable {Hd : Type} {enc : TypeId × Value → Hd} {P : Program} {W : World}
theorem okWide_sl {r : Reach} {base : Nat} {u : TypeId} {a : Addr} {n k : Nat} (h : Cell.okWide P W r base u (.slice (some a) n k)) : 0 < W.heap.size := by
 unfold Cell.okWide at h
 split at h
 all_goals first
  | (rename_i heq; cases heq; done)
  | (unfold Cell.ok at h
     split at h
     all_goals first
      | (rename_i heq; cases heq; done)
      | (exact h.elim)
      | skip)
 all_goals try (rename_i heq _; cases heq; done)
 rename_i heq
 cases heq
 obtain ⟨_, _, _, _, row, cells, hs, _⟩ := h
 unfold World.shape? at hs
 rcases Nat.lt_or_ge a.block W.heap.size with hlt | hge
 ·omega
 ·rw [Array.getElem?_eq_none hge] at hs
  simp at hs
theorem arg_shape {D : Nat} {t : TypeId} {r : Reach} {base : Nat} {v : Value} (hok : okT P D t = true) (h : Value.okWide P W r base t v) :
  ((isAggT P t = true ∧ ∃ a, v = .agg a) ∨ (isAggT P t = false ∧ v.cells.toList = [v])) ∧ (0 < W.heap.size ∨ noSl v.cells.toList) := by
 cases D with
 | zero => simp [okT] at hok
 | succ D =>
 cases ht : P.underlying t with
 | none => simp [okT, ht] at hok
 | some u =>
 unfold Value.okWide at h
 simp only [ht] at h
 have agg : ∀ {cs : Array Value}, Row.okWide P W r base t cs → (0 < W.heap.size ∨ noSl cs.toList) := by
  intro cs hr
  by_cases hz : 0 < W.heap.size
  ·exact .inl hz
  ·refine .inr fun c hc a n k e => ?_
   subst e
   obtain ⟨ts, _, _, hall⟩ := hr
   obtain ⟨i, hi, hi2⟩ := List.mem_iff_getElem.1 hc
   obtain ⟨u, _, hu⟩ := hall i _ (by rw [← Array.getElem?_toList]; rw [List.getElem?_eq_getElem hi, hi2])
   exact hz (okWide_sl hu)
 have one1 : ∀ {r : Reach} {base : Nat}, Cell.okWide P W r base t v → (0 < W.heap.size ∨ noSl [v]) := by
  intro r base hr
  by_cases hz : 0 < W.heap.size
  ·exact .inl hz
  ·refine .inr fun c hc a n k e => ?_
   simp at hc
   subst hc e
   exact hz (okWide_sl hr)
 cases u with
 | struct fs =>
  obtain ⟨cs, rfl, _, hr⟩ := h
  exact ⟨.inl ⟨by simp [isAggT, ht], cs, rfl⟩, agg hr⟩
 | array n e =>
  obtain ⟨cs, rfl, _, hr⟩ := h
  exact ⟨.inl ⟨by simp [isAggT, ht], cs, rfl⟩, agg hr⟩
 | bool =>
  have h' := h
  unfold Cell.okWide at h'
  simp only [ht] at h'
  unfold Cell.ok at h'
  simp only [ht] at h'
  cases v <;> simp at h'
  exact ⟨.inr ⟨by simp [isAggT, ht], rfl⟩, one1 h⟩
 | int k =>
  have h' := h
  unfold Cell.okWide at h'
  simp only [ht] at h'
  unfold Cell.ok at h'
  simp only [ht] at h'
  cases v <;> simp at h'
  exact ⟨.inr ⟨by simp [isAggT, ht], rfl⟩, one1 h⟩
 | string =>
  have h' := h
  unfold Cell.okWide at h'
  simp only [ht] at h'
  unfold Cell.ok at h'
  simp only [ht] at h'
  cases v <;> simp at h'
  exact ⟨.inr ⟨by simp [isAggT, ht], rfl⟩, one1 h⟩
 | slice e =>
  have h' := h
  unfold Cell.okWide at h'
  simp only [ht] at h'
  unfold Cell.ok at h'
  simp only [ht] at h'
  cases v <;> simp at h'
  exact ⟨.inr ⟨by simp [isAggT, ht], rfl⟩, one1 h⟩
 | _ => simp [okT, ht] at hok
theorem lay_all {D : Nat} : ∀ (ts : List TypeId) (vs : List Value) (ds : List (DataW Hd)) (p : List MemPlace) {r : Reach} {base : Nat}, DataW.TrodAll enc P W 0 (fun _ => true) true ts vs ds p → (∀ t ∈ ts, okT P D t = true) →
  (∀ (j : Nat) t v, ts[j]? = some t → vs[j]? = some v → Value.okWide P W r base t v) →
  ∀ ι H, Lay W ι H → ∃ xs gs ι' H', Lay W ι' H' ∧ Ext ι H ι' H' ∧ WTA P D ts xs ∧ ipureL xs = true ∧ IRL (W0 H') xs gs ∧ VRL ι' gs vs
 | [], [], [], p, r, base, h, _, _, ι, H, hL => ⟨[], [], ι, H, hL, .refl _ _, rfl, rfl, by simp [IRL], by simp [VRL]⟩
 | t :: ts, v :: vs, d :: ds, p, r, base, h, hok, hval, ι, H, hL => by
  obtain ⟨p1, q1, ⟨fuel, h1⟩, h2, _⟩ := h
  have hv := hval 0 t v rfl rfl
  have hot := hok t (by simp)
  obtain ⟨hsh, hz⟩ := arg_shape hot hv
  obtain ⟨cs, ι1, H1, k1, k2, k3, k4, ⟨gs1, k5, k6⟩, k7⟩ := lay_trod D fuel t _ _ hz hot h1 ι H hL
  obtain ⟨xs, gs, ι2, H2, m1, m2, m3, m4, m5, m6⟩ := lay_all ts vs ds q1 h2 (fun u hu => hok u (by simp [hu])) (fun j u w hu hw => hval (j + 1) u w (by simpa using hu) (by simpa using hw)) ι1 H1 k1
  rcases hsh with ⟨hagg, a, rfl⟩ | ⟨hagg, hc⟩
  ·refine ⟨.agg cs :: xs, .agg gs1.toArray :: gs, ι2, H2, m1, k2.trans m2, ⟨cs, xs, by simp [argOf, hagg], k3, m3⟩, by simp [ipureL, ipure, k4, m4], IRL.cons_iff.2 ⟨_, _, rfl, (IR.mk_agg k5).pure m2.F _ _ (by simp [ipure, k4]), m5⟩, ?_⟩
   simp only [VRL, VR]
   exact ⟨⟨a, rfl, VRA_iff.2 (VRL.mono m2.le _ _ k6), k5.ones.2⟩, m6⟩
  ·rw [hc] at k6
   have hl := k6.length
   have hl2 := k5.len
   match cs, gs1, hl, hl2, k5, k4, k3, k6 with
   | [x], [g], _, _, k5, k4, k3, k6 =>
    obtain ⟨g', gs', hg, hx1, hx2, hx3, _⟩ := CRL.cons_iff.1 k5
    simp only [List.cons.injEq] at hg
    obtain ⟨rfl, rfl⟩ := hg
    simp only [ipureL, Bool.and_true] at k4
    simp only [VRL, and_true] at k6
    refine ⟨x :: xs, g :: gs, ι2, H2, m1, k2.trans m2, ⟨[x], xs, by simp [argOf, hagg], k3, m3⟩, by simp [ipureL, k4, m4], IRL.cons_iff.2 ⟨_, _, rfl, (hx3.toIR hx1).pure m2.F _ _ k4, m5⟩, ?_⟩
    simp only [VRL]
    exact ⟨k6.mono m2.le, m6⟩
 | [], [], _ :: _, _, _, _, h, _, _, _, _, _ => by simp [DataW.TrodAll] at h
 | [], _ :: _, _, _, _, _, h, _, _, _, _, _ => by simp [DataW.TrodAll] at h
 | _ :: _, [], _, _, _, _, h, _, _, _, _, _ => by simp [DataW.TrodAll] at h
 | _ :: _, _ :: _, [], _, _, _, h, _, _, _, _, _ => by simp [DataW.TrodAll] at h
theorem trodAll_below (hl : laidOutB P = true) {W' : World} (hb : Below W.heap.size W W') : ∀ (ts : List TypeId) (vs : List Value) (ds : List (DataW Hd)) (p : List MemPlace), (∀ t ∈ ts, P.readableRec t = true ∧ t < P.types.size) →
  DataW.TrodAll enc P W 0 (fun _ => true) true ts vs ds p → (∀ x ∈ p, x.block < W.heap.size) → DataW.TrodAll enc P W' 0 (fun b => decide (b < W.heap.size)) true ts vs ds p
 | [], [], [], p, _, h, _ => h
 | t :: ts, v :: vs, d :: ds, p, hr, h, hlt => by
  obtain ⟨p1, q1, h1, h2, rfl⟩ := h
  refine ⟨p1, q1, Below.trod hl (hr t (by simp)).1 (hr t (by simp)).2 h1 hb (fun x hx => hlt x (by simp [hx])), trodAll_below hl hb ts vs ds q1 (fun u hu => hr u (by simp [hu])) h2 (fun x hx => hlt x (by simp [hx])), rfl⟩
 | [], [], _ :: _, _, _, h, _ => by simp [DataW.TrodAll] at h
 | [], _ :: _, _, _, _, h, _ => by simp [DataW.TrodAll] at h
 | _ :: _, [], _, _, _, h, _ => by simp [DataW.TrodAll] at h
 | _ :: _, _ :: _, [], _, _, h, _ => by simp [DataW.TrodAll] at h
theorem frz_bool {J : JH} {k : Nat} {v : IV} {b : Bool} (h : frz J k v = some (.bool b)) : v = .bool b := by
 cases k with
 | zero =>
  simp only [frz] at h
  split at h
  ·simpa using h
  ·simp at h
 | succ k =>
  simp only [frz] at h
  split at h
  ·simpa using h
  ·cases v with
   | agg cs => simp only at h; cases hm : cs.mapM (frz J k) <;> rw [hm] at h <;> simp at h
   | tup cs => simp only at h; cases hm : cs.mapM (frz J k) <;> rw [hm] at h <;> simp at h
   | fn f a c => simp only at h; split at h <;> simp at h
   | sl b0 v off n cap sz =>
    simp only at h
    split at h
    ·simp at h
    ·split at h
     ·split at h
      ·split at h <;> simp at h
      ·simp at h
     ·simp at h
   | _ => simp at h
theorem run_law {B : IBook} {Bg : Book} (hg : BookOK Bg) (hP : Bg.P = P) (hB : IBookOK B Bg) {f : FuncId} {xs : List IV} (hp : pc B f xs = some (.bool true)) {ι : Inj} {H : Heap} (hL : Lay W ι H) {gs cargs : List Value} (h1 : IRL (W0 H) xs gs) (h2 : VRL ι gs cargs) :
  Calls P f cargs.toArray W fun e w' => e = .returned (.bool true) ∧ Below W.heap.size W w' := by
 subst hP
 unfold pc at hp
 split at hp
 ·rename_i v J1 hc
  obtain rfl := frz_bool hp
  obtain ⟨n, hn⟩ := ic_lim hc
  have hHR : HR (W0 H) #[] H := ⟨fun b w β h => by simp [W0] at h, fun b w β cs ro h => by simp [W0] at h, fun b w β es k h => by simp [W0] at h, fun b c w v β h => by simp [W0] at h, fun β cs h => by
   simp only [W0, FH] at h
   split at h
   ·rename_i cs' r hr
    simp only [Option.some.injEq] at h
    subst h
    exact ⟨r, hr⟩
   ·simp at h⟩
  obtain ⟨W', c, H', k1, k2, k3⟩ := icall_ok hB n f xs #[] _ J1 hn (W0 H) H gs hHR h1
  obtain ⟨rfl, _⟩ := k3.sc
  obtain ⟨g1, g2⟩ := acall_ok hg n f gs H _ H' k1 ι W cargs hL.rel h2
  refine g2.mono fun e w' hh => ?_
  obtain ⟨ι', c, rfl, hv, hst⟩ := hh
  simp only [VR] at hv
  subst hv
  refine ⟨rfl, hst.os, hst.tape, hst.output, hst.wsize, fun k hk => hst.keep k hk fun b l hb _ ho => ?_⟩
  obtain ⟨cs, hcs⟩ := hL.ro b (hL.rel.dom b l hb)
  rcases ho with ⟨es, he⟩ | ⟨es, q, he⟩ <;> rw [hcs] at he <;> cases he
 ·simp at hp
theorem law_calls {B : IBook} {Bg : Book} (hg : BookOK Bg) (hP : Bg.P = P) (hB : IBookOK B Bg) {f : FuncId} {D : Nat} {ts : List TypeId} {vs : List Value} {ds : List (DataW Hd)} {p : List MemPlace} {r : Reach} {base : Nat}
  (hok : ∀ t ∈ ts, okT P D t = true) (hA : DataW.TrodAll enc P W 0 (fun _ => true) true ts vs ds p) (hval : ∀ (j : Nat) t v, ts[j]? = some t → vs[j]? = some v → Value.okWide P W r base t v)
  (hp : ∀ xs, WTA P D ts xs → ipureL xs = true → pc B f xs = some (.bool true)) : Calls P f vs.toArray W fun e w' => e = .returned (.bool true) ∧ Below W.heap.size W w' := by
 obtain ⟨xs, gs, ι, H, m1, _, m3, m4, m5, m6⟩ := lay_all ts vs ds p hA hok hval _ _ (lay_empty W)
 exact run_law hg hP hB (hp xs m3 m4) m1 m5 m6
end
#print axioms law_calls
end Go.Proofs.YticfcmaigffhmaaGreat.G
namespace Go.Proofs.YticfcmaigffhmaaGreat.G
open Go
section
variable {P : Program}
theorem wt_int {d : Nat} {t : TypeId} {k : IntKind} (ht : P.underlying t = some (.int k)) {cs : List IV} (h : WT P (d + 1) t cs) : ∃ n, cs = [.int k n] ∧ (Lit.int k n).wf = true := by
 simp only [WT, ht] at h; exact h
theorem wt_slice {d : Nat} {t e : TypeId} (ht : P.underlying t = some (.slice e)) {cs : List IV} (h : WT P (d + 1) t cs) :
  cs = [.sc (.slice none 0 0)] ∨ ∃ ys, cs = [.lst (P.cellsOf e) false ys] ∧ ys.length ≤ maxLen ∧ ∀ y ∈ ys, ∃ cs, y = mkE (P.cellsOf e) cs ∧ cs.length = P.cellsOf e ∧ WT P d e cs := by
 simp only [WT, ht] at h; exact h
theorem wt_struct {d : Nat} {t : TypeId} {fs : Array Field} (ht : P.underlying t = some (.struct fs)) {cs : List IV} (h : WT P (d + 1) t cs) : WTF (WT P d) fs.toList cs := by
 simp only [WT, ht] at h; exact h
theorem choose_list {α : Type} {f : α → IV} {p : α → Prop} : ∀ {ys : List IV}, (∀ y ∈ ys, ∃ a, y = f a ∧ p a) → ∃ l : List α, ys = l.map f ∧ ∀ a ∈ l, p a
 | [], _ => ⟨[], rfl, by simp⟩
 | y :: ys, h => by
  obtain ⟨a, rfl, ha⟩ := h y (by simp)
  obtain ⟨l, rfl, hl⟩ := choose_list (ys := ys) fun z hz => h z (by simp [hz])
  exact ⟨a :: l, rfl, fun b hb => by
   rcases List.mem_cons.1 hb with rfl | hb
   ·exact ha
   ·exact hl b hb⟩
theorem wf_u32 {n : Int} (h : (Lit.int .u32 n).wf = true) : 0 ≤ n ∧ n < 4294967296 := by
 simp [Lit.wf, IntKind.min, IntKind.max, IntKind.signed, IntKind.bits] at h
 omega
theorem wf_u16 {n : Int} (h : (Lit.int .u16 n).wf = true) : 0 ≤ n ∧ n < 65536 := by
 simp [Lit.wf, IntKind.min, IntKind.max, IntKind.signed, IntKind.bits] at h
 omega
theorem wf_u8 {n : Int} (h : (Lit.int .u8 n).wf = true) : 0 ≤ n ∧ n < 256 := by
 simp [Lit.wf, IntKind.min, IntKind.max, IntKind.signed, IntKind.bits] at h
 omega
theorem wf_i32 {n : Int} (h : (Lit.int .i32 n).wf = true) : -2147483648 ≤ n ∧ n < 2147483648 := by
 simp [Lit.wf, IntKind.min, IntKind.max, IntKind.signed, IntKind.bits] at h
 omega
theorem argOf_one {t : TypeId} (h : isAggT P t = false) (x : IV) : argOf P t [x] = x := by simp [argOf, h]
theorem argOf_agg {t : TypeId} (h : isAggT P t = true) (cs : List IV) : argOf P t cs = .agg cs := by simp [argOf, h]
end
end Go.Proofs.YticfcmaigffhmaaGreat.G
namespace Go.Proofs.YticfcmaigffhmaaGreat.G
open Go
theorem m32_of {a : Int} (h : (Lit.int .u32 a).wf = true) : ∃ m : BitVec 32, a = (m.toNat : Int) := by
 obtain ⟨h0, h1⟩ := wf_u32 h
 exact ⟨BitVec.ofNat 32 a.toNat, by rw [BitVec.toNat_ofNat, Nat.mod_eq_of_lt (by omega)]; omega⟩
theorem u8_of {a : Int} (h : (Lit.int .u8 a).wf = true) : ∃ m : Nat, a = (m : Int) ∧ m < 256 := by
 obtain ⟨h0, h1⟩ := wf_u8 h
 exact ⟨a.toNat, by omega, by omega⟩
section
variable {P : Program} {d : Nat}
theorem dec_slice {α : Type} {f : α → IV} {p : α → Prop} {t e : TypeId} (ht : P.underlying t = some (.slice e)) (hel : ∀ cs, cs.length = P.cellsOf e → WT P d e cs → ∃ a, mkE (P.cellsOf e) cs = f a ∧ p a) {cs : List IV} (h : WT P (d + 1) t cs) : ∃ (x : IV) (l : List α), cs = [x] ∧ Ls (P.cellsOf e) x (l.map f) ∧ l.length ≤ 9223372036854775807 ∧ ∀ a ∈ l, p a := by
 rcases wt_slice ht h with rfl | ⟨ys, rfl, h1, h2⟩
 ·exact ⟨_, [], rfl, .nil, by simp, by simp⟩
 ·obtain ⟨l, rfl, hl⟩ := choose_list (f := f) (p := p) (ys := ys) fun y hy => by
   obtain ⟨cs, rfl, hl, hw⟩ := h2 y hy
   exact hel cs hl hw
  rw [List.length_map] at h1
  exact ⟨_, l, rfl, .lst, Nat.le_trans h1 (by decide), hl⟩
theorem dec_cl {e a b : TypeId} {fs : Array Field} (he : P.underlying e = some (.struct fs)) (hf : fs.toList.map (·.type) = [a, b]) (ha : P.underlying a = some (.int .i32)) (hb : P.underlying b = some (.int .u32)) {cs : List IV} (h : WT P (d + 2) e cs) : ∃ c : Cl, cs = c.c ∧ I32 c.v := by
 have hs := wt_struct he h
 generalize fs.toList = l at *
 match l, hf with
 | [x, y], hf =>
  simp only [List.map_cons, List.map_nil, List.cons.injEq, and_true] at hf
  obtain ⟨rfl, rfl⟩ := hf
  obtain ⟨_, _, rfl, h1, _, _, rfl, h2, rfl⟩ := hs
  obtain ⟨n, rfl, w1⟩ := wt_int ha h1
  obtain ⟨k, rfl, w2⟩ := wt_int hb h2
  obtain ⟨m, rfl⟩ := m32_of w2
  exact ⟨⟨n, m⟩, rfl, wf_i32 w1⟩
theorem dec_cells {t e a b : TypeId} {fs : Array Field} (ht : P.underlying t = some (.slice e)) (he : P.underlying e = some (.struct fs)) (hf : fs.toList.map (·.type) = [a, b]) (ha : P.underlying a = some (.int .i32)) (hb : P.underlying b = some (.int .u32)) (hc : P.cellsOf e = 2) {cs : List IV} (h : WT P (d + 3) t cs) : ∃ (x : IV) (l : List Cl), cs = [x] ∧ Ls 2 x (l.map Cl.e) ∧ l.length ≤ 9223372036854775807 ∧ ∀ c ∈ l, I32 c.v := by
 have := dec_slice (f := Cl.e) (p := fun c => I32 c.v) ht (fun cs hl hw => by
  obtain ⟨c, rfl, hv⟩ := dec_cl he hf ha hb hw
  exact ⟨c, by rw [hc]; rfl, hv⟩) h
 rw [hc] at this
 exact this
theorem dec_cd {e a b c g i j : TypeId} {fs : Array Field} (he : P.underlying e = some (.struct fs)) (hf : fs.toList.map (·.type) = [a, b, c, g, i, j]) (ha : P.underlying a = some (.int .u8)) (hb : P.underlying b = some (.int .u8)) (hc : P.underlying c = some (.int .u8)) (hg : P.underlying g = some (.int .u8)) (hi : P.underlying i = some (.int .i32)) (hj : P.underlying j = some (.int .u32)) {cs : List IV} (h : WT P (d + 2) e cs) : ∃ c : Cd, cs = c.cs ∧ c.wf := by
 have hs := wt_struct he h
 generalize fs.toList = l at *
 match l, hf with
 | [x1, x2, x3, x4, x5, x6], hf =>
  simp only [List.map_cons, List.map_nil, List.cons.injEq, and_true] at hf
  obtain ⟨rfl, rfl, rfl, rfl, rfl, rfl⟩ := hf
  obtain ⟨_, _, rfl, h1, _, _, rfl, h2, _, _, rfl, h3, _, _, rfl, h4, _, _, rfl, h5, _, _, rfl, h6, rfl⟩ := hs
  obtain ⟨_, rfl, v1⟩ := wt_int ha h1
  obtain ⟨_, rfl, v2⟩ := wt_int hb h2
  obtain ⟨_, rfl, v3⟩ := wt_int hc h3
  obtain ⟨_, rfl, v4⟩ := wt_int hg h4
  obtain ⟨n5, rfl, v5⟩ := wt_int hi h5
  obtain ⟨_, rfl, v6⟩ := wt_int hj h6
  obtain ⟨n1, rfl, w1⟩ := u8_of v1
  obtain ⟨n2, rfl, w2⟩ := u8_of v2
  obtain ⟨n3, rfl, w3⟩ := u8_of v3
  obtain ⟨n4, rfl, w4⟩ := u8_of v4
  obtain ⟨m, rfl⟩ := m32_of v6
  exact ⟨⟨n1, n2, n3, n4, n5, m⟩, rfl, w1, w2, w3, w4, (wf_i32 v5).1, (wf_i32 v5).2⟩
theorem dec_codes {t e a b c g i j : TypeId} {fs : Array Field} (ht : P.underlying t = some (.slice e)) (he : P.underlying e = some (.struct fs)) (hf : fs.toList.map (·.type) = [a, b, c, g, i, j]) (ha : P.underlying a = some (.int .u8)) (hb : P.underlying b = some (.int .u8)) (hc : P.underlying c = some (.int .u8)) (hg : P.underlying g = some (.int .u8)) (hi : P.underlying i = some (.int .i32)) (hj : P.underlying j = some (.int .u32)) (h6 : P.cellsOf e = 6) {cs : List IV} (h : WT P (d + 3) t cs) : ∃ (x : IV) (l : List Cd), cs = [x] ∧ Ls 6 x (l.map Cd.e) ∧ l.length ≤ 9223372036854775807 ∧ ∀ c ∈ l, c.wf := by
 have := dec_slice (f := Cd.e) (p := Cd.wf) ht (fun cs hl hw => by
  obtain ⟨c, rfl, hv⟩ := dec_cd he hf ha hb hc hg hi hj hw
  exact ⟨c, by rw [h6]; rfl, hv⟩) h
 rw [h6] at this
 exact this
end
end Go.Proofs.YticfcmaigffhmaaGreat.G
namespace Go.Proofs.YticfcmaigffhmaaGreat.G
open Go
section
variable {P : Program} {d : Nat}
theorem dec_m32 {t : TypeId} (ht : P.underlying t = some (.int .u32)) {cs : List IV} (h : WT P (d + 1) t cs) : ∃ m : BitVec 32, cs = [m32 m] := by
 obtain ⟨n, rfl, hn⟩ := wt_int ht h
 obtain ⟨m, rfl⟩ := m32_of hn
 exact ⟨m, rfl⟩
theorem dec_m32s {t e : TypeId} (ht : P.underlying t = some (.slice e)) (he : P.underlying e = some (.int .u32)) (hc : P.cellsOf e = 1) {cs : List IV} (h : WT P (d + 2) t cs) : ∃ (x : IV) (l : List (BitVec 32)), cs = [x] ∧ Ls 1 x (l.map m32) ∧ l.length ≤ 9223372036854775807 := by
 have := dec_slice (f := m32) (p := fun _ => True) ht (fun cs hl hw => by
  obtain ⟨m, rfl⟩ := dec_m32 he hw
  exact ⟨m, by rw [hc]; rfl, trivial⟩) h
 rw [hc] at this
 obtain ⟨x, l, h1, h2, h3, _⟩ := this
 exact ⟨x, l, h1, h2, h3⟩
theorem dec_m32ss {t u e : TypeId} (ht : P.underlying t = some (.slice u)) (hu : P.underlying u = some (.slice e)) (he : P.underlying e = some (.int .u32)) (hc : P.cellsOf e = 1) (hcu : P.cellsOf u = 1) {cs : List IV} (h : WT P (d + 3) t cs) : ∃ (x : IV) (l : List (List (BitVec 32))), cs = [x] ∧ LsR 1 (fun v ms => Ls 1 v (ms.map m32)) x l ∧ l.length ≤ 9223372036854775807 ∧ ∀ ms ∈ l, ms.length ≤ 9223372036854775807 := by
 obtain ⟨x, l, h1, h2, h3, h4⟩ := dec_slice (f := fun p : IV × List (BitVec 32) => p.1) (p := fun p => Ls 1 p.1 (p.2.map m32) ∧ p.2.length ≤ 9223372036854775807) ht (fun cs hl hw => by
  obtain ⟨y, ms, rfl, hy, hn⟩ := dec_m32s hu he hc hw
  exact ⟨(y, ms), by rw [hcu]; rfl, hy, hn⟩) h
 rw [hcu] at h2
 refine ⟨x, l.map (·.2), h1, ⟨l.map (·.1), h2, by simp, fun i hi hi2 => ?_⟩, by simpa using h3, fun ms hms => ?_⟩
 ·simp only [List.getElem_map]
  exact (h4 _ (List.getElem_mem _)).1
 ·obtain ⟨p, hp, rfl⟩ := List.mem_map.1 hms
  exact (h4 p hp).2
theorem dec_gm {e a b c f k l : TypeId} {fs : Array Field} (he : P.underlying e = some (.struct fs)) (hf : fs.toList.map (·.type) = [a, b, c, f, k, l]) (ha : P.underlying a = some (.int .i64)) (hb : P.underlying b = some (.int .i64)) (hc : P.underlying c = some (.int .u32)) (hd : P.underlying f = some (.int .u32))
  (hk : ∀ cs, WT P (d + 4) k cs → ∃ (x : IV) (l : List Cl), cs = [x] ∧ Ls 2 x (l.map Cl.e) ∧ l.length ≤ 9223372036854775807 ∧ ∀ c ∈ l, I32 c.v) (hl : ∀ cs, WT P (d + 4) l cs → ∃ (x : IV) (l : List Cd), cs = [x] ∧ Ls 6 x (l.map Cd.e) ∧ l.length ≤ 9223372036854775807 ∧ ∀ c ∈ l, c.wf) {cs : List IV} (h : WT P (d + 5) e cs) :
  ∃ (g : Gm) (x y : IV), cs = gmc g x y ∧ GR g x y ∧ (∀ c ∈ g.code, c.wf) ∧ (∀ c ∈ g.cells, I32 c.v) ∧ g.cells.length ≤ 9223372036854775807 ∧ g.code.length ≤ 9223372036854775807 := by
 have hs := wt_struct he h
 generalize fs.toList = L at *
 match L, hf with
 | [x1, x2, x3, x4, x5, x6], hf =>
  simp only [List.map_cons, List.map_nil, List.cons.injEq, and_true] at hf
  obtain ⟨rfl, rfl, rfl, rfl, rfl, rfl⟩ := hf
  obtain ⟨_, _, rfl, h1, _, _, rfl, h2, _, _, rfl, h3, _, _, rfl, h4, _, _, rfl, h5, _, _, rfl, h6, rfl⟩ := hs
  obtain ⟨n1, rfl, _⟩ := wt_int ha h1
  obtain ⟨n2, rfl, _⟩ := wt_int hb h2
  obtain ⟨m3, rfl⟩ := dec_m32 hc h3
  obtain ⟨m4, rfl⟩ := dec_m32 hd h4
  obtain ⟨x, C, rfl, e1, e2, e3⟩ := hk _ h5
  obtain ⟨y, D, rfl, f1, f2, f3⟩ := hl _ h6
  exact ⟨⟨n1, n2, m3, m4, C, D⟩, x, y, rfl, ⟨e1, f1⟩, f3, e3, e2, f2⟩
end
end Go.Proofs.YticfcmaigffhmaaGreat.G
namespace Go.Proofs.YticfcmaigffhmaaGreat.G
open Go
structure Dl where
 t : BitVec 32
 h : BitVec 32
 ps : List Byt
 cs : List Cl
def dlc (d : Dl) (x y : IV) : List IV := [m32 d.t, m32 d.h, x, y]
structure DR (d : Dl) (x y : IV) : Prop where
 x : Ls 1 x (d.ps.map by8)
 y : Ls 2 y (d.cs.map Cl.e)
theorem dl_len (d x y) : (dlc d x y).length = 4 := rfl
theorem dl_take (d x y) : (dlc d x y).take 4 = dlc d x y := rfl
theorem dl_0 (d x y) : ((dlc d x y).drop 0).take 1 = [m32 d.t] := rfl
theorem dl_00 (d x y) : (dlc d x y).take 1 = [m32 d.t] := rfl
theorem dl_1 (d x y) : ((dlc d x y).drop 1).take 1 = [m32 d.h] := rfl
theorem dl_2 (d x y) : ((dlc d x y).drop 2).take 1 = [x] := rfl
theorem dl_3 (d x y) : ((dlc d x y).drop 3).take 1 = [y] := rfl
theorem dl_s2 (d : Dl) (x y v : IV) : isplice (dlc d x y) 2 [v] = dlc d v y := rfl
theorem dl_s3 (d : Dl) (x y v : IV) : isplice (dlc d x y) 3 [v] = dlc d x v := rfl
theorem dl_all (d d2 : Dl) (x y x2 y2 : IV) : isplice (dlc d x y) 0 (dlc d2 x2 y2) = dlc d2 x2 y2 := rfl
attribute [go_sem] dl_len dl_take dl_0 dl_00 dl_1 dl_2 dl_3 dl_s2 dl_s3 dl_all
theorem DR.pure {d x y} (h : DR d x y) : ipureL (dlc d x y) = true := by simp [ipureL, dlc, ipure, h.x.pure, h.y.pure]
theorem DR.one {d x y} (h : DR d x y) : (dlc d x y).all ione = true := by
 have h1 := h.x.one
 have h2 := h.y.one
 simp only [dlc, List.all_cons, List.all_nil, h1, h2]; rfl
theorem dl_one {d : Dl} {x y : IV} (h1 : ione x = true) (h2 : ione y = true) : (dlc d x y).all ione = true := by
 simp only [dlc, List.all_cons, List.all_nil, h1, h2]; rfl
theorem frz_dlc {J : JH} {d : Dl} {x y u1 u2 : IV} (h1 : ∀ k, frz J (k + 1) x = some u1) (h2 : ∀ k, frz J (k + 1) y = some u2) (k : Nat) : frz J (k + 2) (.agg (dlc d x y)) = some (.agg (dlc d u1 u2)) := by
 have fp : ∀ {v : IV} {J : JH}, ipure v = true → frz J (k + 1) v = some v := fun h => frz_pure _ _ h
 refine frz_aggL (k := k + 1) ?_
 simp only [dlc]
 rw [List.mapM_cons, List.mapM_cons, List.mapM_cons, List.mapM_cons, fp (v := m32 _) rfl, fp (v := m32 _) rfl, h1 k, h2 k]
 rfl
theorem Hash_ok (b : Bd) : pc BI F_board_Board_Hash [.agg (bdc b)] = some (m32 (sumB true b)) := by
 refine pcE fn_board_Board_Hash rfl fun K hK => ?_
 unfold l_board_Board_Hash
 simp -implicitDefEqProofs only [go_sem, dnW_ite, go_sem_proc, bdc_one, bdc_take, bdc_len, dcp (sum_ok b true) (by simp [ipureL, ipure, bdc_pure])]
 exact hK _ _ (frzE rfl rfl)
def ofP (q : BitVec 64) (n : Nat) : List Nat := (List.range n).filter fun i => q.getLsbD i
theorem ofP_succ (q : BitVec 64) (n : Nat) : ofP q (n + 1) = if q.getLsbD n then ofP q n ++ [n] else ofP q n := by
 simp only [ofP, List.range_succ, List.filter_append, List.filter_cons, List.filter_nil]
 split <;> simp
theorem ofP_len (q : BitVec 64) (n : Nat) : (ofP q n).length ≤ n := by
 have := List.length_filter_le (fun i => q.getLsbD i) (List.range n)
 simpa [ofP] using this
def ofF (b : Bd) (q : BitVec 64) (o : Int) (t : BitVec 32) (n : Nat) : Dl := ⟨t, sumB true (b.view o), (ofP q n).map (BitVec.ofNat 8), (ofP q n).map fun (i : Nat) => (b.view o).at (i : Int)⟩
theorem bit_u64 (q : BitVec 64) (i : Nat) (hi : i < 64) : (((q >>> i) &&& 1#64) = 0#64) ↔ q.getLsbD i = false := by
 constructor
 ·intro h
  have := congrArg (fun x : BitVec 64 => x.getLsbD 0) h
  simpa [BitVec.getLsbD_and, BitVec.getLsbD_ushiftRight] using this
 ·intro h
  apply BitVec.eq_of_getLsbD_eq
  intro j hj
  by_cases h0 : j = 0
  ·subst h0; simp [BitVec.getLsbD_and, BitVec.getLsbD_ushiftRight, h]
  ·simp [BitVec.getLsbD_and, BitVec.getLsbD_ushiftRight, BitVec.getLsbD_one, h0]
theorem dOf_ok (b : Bd) (q : BitVec 64) (o : Int) (t : BitVec 32) : ∃ x y, pc BI F_delta_Of [.agg (bdc b), .int .u64 (q.toNat : Int), .int .i64 o, m32 t] = some (.agg (dlc (ofF b q o t b.l.length) x y)) ∧ DR (ofF b q o t b.l.length) x y := by
 suffices h : ∃ u, pc BI F_delta_Of [.agg (bdc b), .int .u64 (q.toNat : Int), .int .i64 o, m32 t] = some u ∧ ∃ x y, u = .agg (dlc (ofF b q o t b.l.length) x y) ∧ DR (ofF b q o t b.l.length) x y by
  obtain ⟨u, hu, x, y, rfl, hd⟩ := h
  exact ⟨x, y, hu, hd⟩
 refine pcW fn_delta_Of rfl fun K hK => ?_
 unfold l_delta_Of
 have hV : (b.view o).l.length = b.l.length := by simp [Bd.view, Bd.map]
 have h48 := b.h
 simp -implicitDefEqProofs only [go_sem, dnW_ite, go_sem_proc, bdc_one, bdc_take, bdc_len, bdc_all, dcp (View_ok b o) (by simp [ipureL, ipure, bdc_pure]), dcp (Hash_ok (b.view o)) (by simp [ipureL, ipure, bdc_pure]), dcp (Len_ok (b.view o)) (by simp [ipureL, ipure, bdc_pure]), zc_bd, dn_loop]
 rw [hV]
 generalize hn : b.l.length = n at *
 refine WP_range (by decide) n (fun i vs J => ∃ px cx, vs = [.int .u64 (q.toNat : Int), .ptr 1 0 0, .ptr 2 0 0, .ptr 3 0 0, nI n, nI i] ∧ J[1]? = some (.cells 0 [.sc (.int .u32 0), .sc (.int .u32 0), .sc (.slice none 0 0), .sc (.slice none 0 0)] false) ∧ J[2]? = some (.cells 0 (bdc (b.view o)) false) ∧ J[3]? = some (.cells 0 (dlc (ofF b q o t i) px cx) false) ∧ Grow J px 1 ((ofF b q o t i).ps.map by8) ∧ Grow J cx 2 ((ofF b q o t i).cs.map Cl.c).flatten ∧ (∀ q ∈ blk px, 4 ≤ q) ∧ (∀ q ∈ blk cx, 4 ≤ q) ∧ ∀ q ∈ blk px, q ∉ blk cx) ?_ ⟨_, _, rfl, rfl, rfl, rfl, .nil, .nil, by simp [blk, blkOf], by simp [blk, blkOf], by simp [blk, blkOf]⟩
 rintro i vs J ⟨px, cx, rfl, h1, h2, h3, gp, gc, lp, lc, hd⟩ hi K1 g1 g2 g3
 unfold l_delta_Of_k0
 by_cases hlt : i < n
 ·have hw1 := wrapS hlt (show n ≤ 9223372036854775807 by omega)
  have hm : min i 64 = i := by omega
  have h64 := bit_u64 q i (by omega)
  cases hb : q.getLsbD i with
  | false =>
   have e0 := h64.2 hb
   simp -implicitDefEqProofs only [go_sem, dnW_ite, go_sem_proc, show ((i : Int) < (n : Int)) by omega, show ¬ ((i : Int) < 0) by omega, hm, fdivB, e0, hw1]
   refine g1 hlt _ _ ⟨px, cx, rfl, h1, h2, ?_, ?_, ?_, lp, lc, hd⟩
   ·rw [h3]; rfl
   ·have : (ofF b q o t (i + 1)).ps = (ofF b q o t i).ps := by simp [ofF, ofP_succ, hb]
    rw [this]; exact gp
   ·have : (ofF b q o t (i + 1)).cs = (ofF b q o t i).cs := by simp [ofF, ofP_succ, hb]
    rw [this]; exact gc
  | true =>
   have e0 : (((q >>> i) &&& 1#64) == 0#64) = false := by rw [beq_eq_false_iff_ne]; exact fun h => by rw [h64.1 h] at hb; cases hb
   have hth : (b.view o).there i = true := by simp only [Bd.there, decide_eq_true_eq]; omega
   have hA := At_ok (b.view o) i
   rw [hth, if_pos rfl] at hA
   have hl2 := lt_get h2
   have hl3 := lt_get h3
   have hcv : IntKind.u8.wrap (i : Int) = ((BitVec.ofNat 8 i).toNat : Int) := by
    simp only [IntKind.wrap, IntKind.bits, IntKind.signed, BitVec.toNat_ofNat]; simp
   generalize hc : (b.view o).at (i : Int) = c at *
   simp -implicitDefEqProofs only [go_sem, dnW_ite, go_sem_proc, show ((i : Int) < (n : Int)) by omega, show ¬ ((i : Int) < 0) by omega, hm, fdivB, e0, h2, h3, inb h2, inb h3, bdc_len, bdc_take, dcp hA (by simp [ipureL, ipure, bdc_pure]), hcv, Cl.c, ipureL, ipure, grp, mkE, List.headD, ↓gp.blkF]
   have hps : (ofF b q o t (i + 1)).ps = (ofF b q o t i).ps ++ [BitVec.ofNat 8 i] := by simp [ofF, ofP_succ, hb]
   have hcs : (ofF b q o t (i + 1)).cs = (ofF b q o t i).cs ++ [c] := by simp [ofF, ofP_succ, hb, hc]
   have hpl : (ofF b q o t i).ps.length ≤ 48 := by have := ofP_len q i; simp [ofF]; omega
   have hcl : (ofF b q o t i).cs.length ≤ 48 := by have := ofP_len q i; simp [ofF]; omega
   have gp1 := gp.fr0 (.push J (.cells 0 [.int .i32 c.v, m32 c.s] false) [])
   have gc1 := gc.fr0 (.push J (.cells 0 [.int .i32 c.v, m32 c.s] false) [])
   have hlp := gp.low
   have hlc := gc.low
   have h31 : (J.push (.cells 0 [.int .i32 c.v, m32 c.s] false))[3]? = some (.cells 0 (dlc (ofF b q o t i) px cx) false) := gpN hl3 h3
   have h21 : (J.push (.cells 0 [.int .i32 c.v, m32 c.s] false))[2]? = some (.cells 0 (bdc (b.view o)) false) := gpN hl2 h2
   have h11 : (J.push (.cells 0 [.int .i32 c.v, m32 c.s] false))[1]? = _ := gpN (lt_get h1) h1
   have hn1 : (J.push (.cells 0 [.int .i32 c.v, m32 c.s] false))[J.size]? = some (.cells 0 [.int .i32 c.v, m32 c.s] false) := push_get _ _
   have hsz : (J.push (.cells 0 [.int .i32 c.v, m32 c.s] false)).size = J.size + 1 := by simp
   have np : ∀ k, (k < 4 ∨ J.size ≤ k) → k ∉ blk px := fun k hk hm => by have := lp k hm; have := hlp k hm; omega
   have nc : ∀ k, (k < 4 ∨ J.size ≤ k) → k ∉ blk cx := fun k hk hm => by have := lc k hm; have := hlc k hm; omega
   generalize (J.push (.cells 0 [.int .i32 c.v, m32 c.s] false)) = J1 at *
   refine WP_bindC (gp1.app (m := 1) (ds := [by8 (BitVec.ofNat 8 i)]) (by omega) rfl rfl rfl rfl (fits1 (by simp; omega))) fun px' J2 hs => ?_
   obtain ⟨q1, q2, q3⟩ := hs
   have up : ∀ {d X}, (d < 4 ∨ J.size ≤ d) → J1[d]? = some X → J2[d]? = some X := fun hd h => by rw [q2.2 _ (lt_get h) (np _ hd)]; exact h
   have h32 := up (.inl (by omega)) h31
   have h22 := up (.inl (by omega)) h21
   have h12 := up (.inl (by omega)) h11
   have hn2 := up (.inr (by omega)) hn1
   have z2 := q2.1
   have e3 : (blk px).contains 3 = false := by simpa using np 3 (.inl (by omega))
   have en : (blk px).contains J.size = false := by simpa using np J.size (.inr (by omega))
   refine ⟨by simp -implicitDefEqProofs only [go_sem, dnW_ite, go_sem_proc, h31, h32, hn1, hn2, e3, en], ?_⟩
   have gc2 := gc1.fr q2 (fun k hk hm => hd k hm hk)
   simp -implicitDefEqProofs only [go_sem, dnW_ite, go_sem_proc, h32, inb h32]
   refine WP_bind (gc2.app (m := 1) (ds := c.c) (by omega) rfl rfl rfl rfl (fits8 (by rw [flat_len (cl2 _)]; simp; omega))) fun cx' J3 hs => ?_
   obtain ⟨r1, r2, r3⟩ := hs
   have up3 : ∀ {d X}, d < 4 → J2[d]? = some X → J3[d]? = some X := fun hd h => by rw [r2.2 _ (lt_get h) (nc _ (.inl hd))]; exact h
   have h33 := up3 (by omega) h32
   have h23 := up3 (by omega) h22
   have h13 := up3 (by omega) h12
   have hl33 := lt_get h33
   simp -implicitDefEqProofs only [go_sem, dnW_ite, go_sem_proc, h33, inb h33, ↓q1.icells, ↓q1.one, ↓r1.icells, ↓r1.one, set_get _ hl33, hw1]
   have lp' : ∀ k ∈ blk px', 4 ≤ k := fun k hk => by
    rcases q3 k hk with h | h
    ·exact lp k h
    ·omega
   have lc' : ∀ k ∈ blk cx', 4 ≤ k := fun k hk => by
    rcases r3 k hk with h | h
    ·exact lc k h
    ·omega
   have hd1 : ∀ k ∈ blk px', k ∉ blk cx := fun k hk hm => by
    rcases q3 k hk with h | h
    ·exact hd k h hm
    ·have := hlc k hm; omega
   have hlq := q1.low
   refine g1 hlt _ _ ⟨px', cx', rfl, gsN (by omega) h13, gsN (by omega) h23, ?_, ?_, ?_, lp', lc', ?_⟩
   ·rw [set_get _ hl33]; rfl
   ·rw [hps, List.map_append]
    exact (q1.fr r2 hd1).fr (Fr.set _ _ (S := [3]) (by simp)) (fun k hk hm => by have := lp' k hk; simp at hm; omega)
   ·rw [hcs, List.map_append, List.flatten_append]
    simp only [List.map_cons, List.map_nil, List.flatten_cons, List.flatten_nil, List.append_nil]
    exact r1.fr (Fr.set _ _ (S := [3]) (by simp)) (fun k hk hm => by have := lc' k hk; simp at hm; omega)
   ·intro k hk hm
    rcases r3 k hm with h | h
    ·exact hd1 k hk h
    ·have := hlq k hk; omega
 ·simp -implicitDefEqProofs only [go_sem, dnW_ite, go_sem_proc, show ¬ ((i : Int) < (n : Int)) by omega]
  refine g2 _ _ ?_
  unfold l_delta_Of_k1
  obtain rfl : i = n := by omega
  have ho := dl_one (d := ofF b q o t i) gp.one gc.one
  simp -implicitDefEqProofs only [go_sem, dnW_ite, go_sem_proc, h1, h2, h3, inb h1, inb h3, ho]
  have gp' := gp.fr (Fr.set J (.cells 0 (dlc (ofF b q o t i) px cx) false) (S := [1]) (b := 1) (by simp)) (fun q hq hm => by have := lp q hq; simp at hm; omega)
  have gc' := gc.fr (Fr.set J (.cells 0 (dlc (ofF b q o t i) px cx) false) (S := [1]) (b := 1) (by simp)) (fun q hq hm => by have := lc q hq; simp at hm; omega)
  obtain ⟨u1, hu1, hl1⟩ := gp'.frzE1 by8_pure by8_one
  obtain ⟨u2, hu2, hl2⟩ := gc'.frzX (cl2 _) (by omega) (cl_pure _) (flat_one _)
  rw [cl_mk] at hl2
  refine hK _ _ (.agg (dlc (ofF b q o t i) u1 u2)) (frz_dlc hu1 hu2 10) ⟨u1, u2, rfl, hl1, hl2⟩
theorem dFull_ok (b : Bd) (o : Int) (t : BitVec 32) : ∃ x y, pc BI F_delta_Full [.agg (bdc b), .int .i64 o, m32 t] = some (.agg (dlc (ofF b (BitVec.allOnes 64) o t b.l.length) x y)) ∧ DR (ofF b (BitVec.allOnes 64) o t b.l.length) x y := by
 obtain ⟨x, y, h, hd⟩ := dOf_ok b (BitVec.allOnes 64) o t
 refine ⟨x, y, ?_, hd⟩
 refine pcE fn_delta_Full rfl fun K hK => ?_
 unfold l_delta_Full
 have e : ((BitVec.allOnes 64).toNat : Int) = 18446744073709551615 := by decide
 rw [e] at h
 have ho := hd.one
 simp -implicitDefEqProofs only [go_sem, dnW_ite, go_sem_proc, bdc_one, bdc_take, bdc_len, dcp h (by simp [ipureL, ipure, bdc_pure]), ho]
 refine hK _ _ ?_
 exact frzP (by simp only [itup, ipure, hd.pure])
def apS (b : Bd) (z : Byt × Cl) : Option Bd := if b.there (z.1.toNat : Int) then some (b.put (z.1.toNat : Int) z.2) else none
def applyF (d : Dl) (v : Bd) : Bd × Int := match (d.ps.zip d.cs).foldlM apS v with | none => (v, 7) | some out => if sumB true out = d.h then (out, 0) else (v, 13)
theorem foldlM_take_succ {α β : Type} (f : β → α → Option β) (l : List α) (i : Nat) (h : i < l.length) (z : β) : (l.take (i + 1)).foldlM f z = ((l.take i).foldlM f z).bind fun s => f s l[i] := by
 rw [List.take_succ_eq_append_getElem h, List.foldlM_append]
 cases (l.take i).foldlM f z <;> simp
theorem foldlM_none {α β : Type} (f : β → α → Option β) (l : List α) (i : Nat) (z : β) (h : (l.take i).foldlM f z = none) : l.foldlM f z = none := by
 conv => lhs; rw [← List.take_append_drop i l, List.foldlM_append, h]
 rfl
theorem dApply_ok (d : Dl) (x y : IV) (h : DR d x y) (hb : d.ps.length ≤ 9223372036854775807) (v : Bd) : pc BI F_delta_Delta_Apply [.agg (dlc d x y), .agg (bdc v)] = some (.tup [.agg (bdc (applyF d v).1), .int .i64 (applyF d v).2]) := by
 refine pcE fn_delta_Delta_Apply rfl fun K hK => ?_
 unfold l_delta_Delta_Apply
 have ho := h.one
 simp -implicitDefEqProofs only [go_sem, dnW_ite, go_sem_proc, bdc_one, bdc_take, bdc_len, bdc_all, ho, zc_bd, dn_loop, h.x.lenF, List.length_map]
 refine WP_range (by decide) d.ps.length (fun i vs J => ∃ out, vs = [.ptr 0 0 0, .ptr 1 0 0, .ptr 2 0 0, .ptr 3 0 0, x, nI d.ps.length, nI i] ∧ J = #[.cells 0 (dlc d x y) false, .cells 0 (bdc v) false, .cells 0 (bdc Bd.z) false, .cells 0 (bdc out) false] ∧ ((d.ps.zip d.cs).take i).foldlM apS v = some out ∧ i ≤ d.cs.length) ?_ ⟨v, rfl, rfl, rfl, by omega⟩
 rintro i vs J ⟨out, rfl, rfl, hf, hic⟩ hi K1 g1 g2 g3
 unfold l_delta_Delta_Apply_k0
 have fin : (d.ps.zip d.cs).foldlM apS v = some out → WP (dn BI l_delta_Delta_Apply_k1 [.ptr 0 0 0, .ptr 1 0 0, .ptr 2 0 0, .ptr 3 0 0] #[.cells 0 (dlc d x y) false, .cells 0 (bdc v) false, .cells 0 (bdc Bd.z) false, .cells 0 (bdc out) false]) K := by
  intro hall
  unfold l_delta_Delta_Apply_k1
  simp -implicitDefEqProofs only [go_sem, dnW_ite, go_sem_proc, bdc_len, bdc_take, bdc_one, bdc_all, dcp (Hash_ok out) (by simp [ipureL, ipure, bdc_pure])]
  by_cases he : sumB true out = d.h
  ·rw [if_neg (by simp [he])]
   exact hK _ _ (frzE (by simp [itup, ipure, ipureL, bdc_pure]) (by simp only [applyF, hall, if_pos he]; rfl))
  ·rw [if_pos (by simp [he])]
   exact hK _ _ (frzE (by simp [itup, ipure, ipureL, bdc_pure]) (by simp only [applyF, hall, if_neg he]; rfl))
 by_cases hlt : i < d.ps.length
 ·by_cases hc : i < d.cs.length
  ·have hat := fun J => h.x.at (i := i) (by simpa using hlt) (J := J)
   have hct := fun J => h.y.at (i := i) (by simpa using hc) (J := J)
   simp only [List.getElem_map, Cl.e, Cl.c] at hat hct
   have hP := Put_ok out (d.ps[i].toNat : Int) d.cs[i]
   have hz : i < (d.ps.zip d.cs).length := by simp; omega
   have hs := foldlM_take_succ apS (d.ps.zip d.cs) i hz v
   rw [hf] at hs
   simp only [Option.bind_some, List.getElem_zip, apS] at hs
   have hw1 := wrapS hlt hb
   cases hth : out.there (d.ps[i].toNat : Int) with
   | true =>
    rw [hth] at hP hs
    simp only [Cl.c, if_true, Bool.false_eq_true, if_false] at hP hs
    simp -implicitDefEqProofs only [go_sem, dnW_ite, go_sem_proc, show ((i : Int) < (d.ps.length : Int)) by omega, hat, hct, i64B8, h.y.lenF, List.length_map, show ¬ ((i : Int) ≥ (d.cs.length : Int)) by omega, bdc_len, bdc_take, bdc_one, bdc_all, dcp hP (by simp [ipureL, ipure, bdc_pure, Cl.c]), Cl.c, hw1]
    rw [if_neg (by decide)]
    exact g1 hlt _ _ ⟨_, rfl, rfl, hs, by omega⟩
   | false =>
    rw [hth] at hP hs
    simp only [Cl.c, if_true, Bool.false_eq_true, if_false] at hP hs
    simp -implicitDefEqProofs only [go_sem, dnW_ite, go_sem_proc, show ((i : Int) < (d.ps.length : Int)) by omega, hat, hct, i64B8, h.y.lenF, List.length_map, show ¬ ((i : Int) ≥ (d.cs.length : Int)) by omega, bdc_len, bdc_take, bdc_one, bdc_all, dcp hP (by simp [ipureL, ipure, bdc_pure, Cl.c]), Cl.c, hw1]
    rw [if_pos (by decide)]
    refine g3 _ _ (hK _ _ (frzE (by simp [itup, ipure, ipureL, bdc_pure]) ?_))
    have : (d.ps.zip d.cs).foldlM apS v = none := foldlM_none _ _ (i + 1) _ hs
    simp only [applyF, this]; rfl
  ·have hat := fun J => h.x.at (i := i) (by simpa using hlt) (J := J)
   simp only [List.getElem_map] at hat
   simp -implicitDefEqProofs only [go_sem, dnW_ite, go_sem_proc, show ((i : Int) < (d.ps.length : Int)) by omega, hat, i64B8, h.y.lenF, List.length_map, show ((i : Int) ≥ (d.cs.length : Int)) by omega]
   refine g2 _ _ (fin ?_)
   rw [List.take_of_length_le (by simp; omega)] at hf; exact hf
 ·simp -implicitDefEqProofs only [go_sem, dnW_ite, go_sem_proc, show ¬ ((i : Int) < (d.ps.length : Int)) by omega]
  refine g2 _ _ (fin ?_)
  rw [List.take_of_length_le (by simp; omega)] at hf; exact hf
def okP (ps : List Byt) (i : Nat) : Bool := decide ((ps.getD i 0#8).toNat < 48) && (decide (i = 0) || decide ((ps.getD (i - 1) 0#8).toNat < (ps.getD i 0#8).toNat))
def Dl.ok (d : Dl) : Bool := (List.range d.ps.length).all (okP d.ps) && decide (d.ps.length = d.cs.length)
theorem dRight_ok (d : Dl) (x y : IV) (h : DR d x y) (hb : d.ps.length ≤ 9223372036854775807) : pc BI F_delta_Delta_right [.agg (dlc d x y)] = some (.bool d.ok) := by
 refine pcE fn_delta_Delta_right rfl fun K hK => ?_
 unfold l_delta_Delta_right
 have ho := h.one
 simp -implicitDefEqProofs only [go_sem, dnW_ite, go_sem_proc, ho, dn_loop, h.x.lenF, List.length_map]
 refine WP_range (by decide) d.ps.length (fun i vs J => vs = [.ptr 0 0 0, x, nI d.ps.length, nI i] ∧ J = #[.cells 0 (dlc d x y) false] ∧ ∀ k < i, okP d.ps k = true) ?_ ⟨rfl, rfl, by simp⟩
 rintro i vs J ⟨rfl, rfl, hok⟩ hi K1 g1 g2 g3
 unfold l_delta_Delta_right_k0
 by_cases hlt : i < d.ps.length
 ·have hat := fun J => h.x.at (i := i) (by simpa using hlt) (J := J)
  simp only [List.getElem_map] at hat
  have hw1 := wrapS hlt hb
  have hgi : d.ps.getD i 0#8 = d.ps[i] := by simp [hlt]
  have no : okP d.ps i = false → K1 (.ret [.bool false]) #[.cells 0 (dlc d x y) false] := fun e => g3 _ _ (hK _ _ (frzE rfl (by
   have : d.ok = false := by
    simp only [Dl.ok, Bool.and_eq_false_iff]
    left
    rw [List.all_eq_false]
    exact ⟨i, by simpa using hlt, by rw [e]; decide⟩
   rw [this]; rfl)))
  have yes : okP d.ps i = true → K1 (.goto 1 [.ptr 0 0 0, x, nI d.ps.length, nI (i + 1)]) #[.cells 0 (dlc d x y) false] := fun e => g1 hlt _ _ ⟨rfl, rfl, fun k hk => by
   rcases Nat.lt_or_ge k i with h | h
   ·exact hok k h
   ·obtain rfl : k = i := by omega
    exact e⟩
  by_cases c1 : (d.ps[i].toNat : Int) ≥ 48
  ·simp -implicitDefEqProofs only [go_sem, dnW_ite, go_sem_proc, show ((i : Int) < (d.ps.length : Int)) by omega, hat, i64B8, c1]
   exact no (by simp only [okP, hgi]; simp; omega)
  ·by_cases c2 : i = 0
   ·simp -implicitDefEqProofs only [go_sem, dnW_ite, go_sem_proc, show ((i : Int) < (d.ps.length : Int)) by omega, hat, i64B8, c1, hw1, show ¬ ((i : Int) > 0) by omega]
    exact yes (by
     have e1 : decide (d.ps[i].toNat < 48) = true := by simp; omega
     simp only [okP, hgi, e1, Bool.true_and]; simp [c2])
   ·have hw2 : IntKind.i64.wrap ((i : Int) - 1) = ((i - 1 : Nat) : Int) := by rw [wrap_i64 (by omega) (by omega)]; omega
    have hat2 := fun J => h.x.at (i := i - 1) (by simp; omega) (J := J)
    simp only [List.getElem_map] at hat2
    have hgi2 : d.ps.getD (i - 1) 0#8 = d.ps[i - 1] := by simp [show i - 1 < d.ps.length by omega]
    by_cases c3 : (d.ps[i].toNat : Int) ≤ (d.ps[i - 1].toNat : Int)
    ·simp -implicitDefEqProofs only [go_sem, dnW_ite, go_sem_proc, show ((i : Int) < (d.ps.length : Int)) by omega, hat, hat2, i64B8, c1, hw1, hw2, show (i : Int) > 0 by omega, c3]
     exact no (by simp only [okP, hgi, hgi2]; simp; omega)
    ·simp -implicitDefEqProofs only [go_sem, dnW_ite, go_sem_proc, show ((i : Int) < (d.ps.length : Int)) by omega, hat, hat2, i64B8, c1, hw1, hw2, show (i : Int) > 0 by omega, c3]
     exact yes (by simp only [okP, hgi, hgi2]; simp; omega)
 ·simp -implicitDefEqProofs only [go_sem, dnW_ite, go_sem_proc, show ¬ ((i : Int) < (d.ps.length : Int)) by omega]
  refine g2 _ _ ?_
  unfold l_delta_Delta_right_k1
  simp -implicitDefEqProofs only [go_sem, dnW_ite, go_sem_proc, h.x.lenF, h.y.lenF, List.length_map]
  refine hK _ _ (frzE rfl ?_)
  have e1 : (List.range d.ps.length).all (okP d.ps) = true := List.all_eq_true.2 fun k hk => hok k (by have := List.mem_range.1 hk; omega)
  simp only [Dl.ok, e1, Bool.true_and, itup]
  congr 1
  by_cases e : d.ps.length = d.cs.length
  ·simp [e]
  ·simp [e]; omega
def cpB (z : Byt × Cl) : List Byt := [z.1] ++ leW (iW z.2.v) ++ leW z.2.s
def deltaB (d : Dl) : List Byt := leW d.t ++ leW d.h ++ [nB d.ps.length] ++ (d.ps.zip d.cs).flatMap cpB
theorem cpB_len (l : List (Byt × Cl)) : (l.flatMap cpB).length = 9 * l.length := by
 induction l with
 | nil => rfl
 | cons a l ih => rw [List.flatMap_cons, List.length_append, ih]; simp [cpB, leW_len]; omega
theorem dBytes_ok (d : Dl) (x y : IV) (h : DR d x y) (hb : d.ps.length ≤ 48) (hr : d.ok = true) : ∃ u, pc BI F_delta_Delta_Bytes [.agg (dlc d x y)] = some u ∧ Ls 1 u ((deltaB d).map by8) := by
 refine pcW fn_delta_Delta_Bytes rfl fun K hK => ?_
 have hR := dRight_ok d x y h (by omega)
 have hlen : d.ps.length = d.cs.length := by
  simp only [Dl.ok, Bool.and_eq_true, decide_eq_true_eq] at hr; exact hr.2
 unfold l_delta_Delta_Bytes
 simp -implicitDefEqProofs only [go_sem, dnW_ite, go_sem_proc, h.one, dcp hR (by simp [ipureL, ipure, h.pure]), hr, ↓dnW_ocr, h.x.lenF, List.length_map, nB_i (show (0 : Int) ≤ (d.ps.length : Int) by omega) (show (d.ps.length : Int) < 256 by omega), Int.toNat_natCast]
 refine WP_penW (s := .sc (.slice none 0 0)) (l := []) (b := 1) ⟨rfl, by simp [blk, blkOf], .nil⟩ (by simp) (fun J' => by simp -implicitDefEqProofs only [go_sem, dnW_ite, go_sem_proc, blk, blkOf, Option.getD_some]) fun J2 s2 p2 u2 => ?_
 have hB := (show Bes #[IB.cells 0 (dlc d x y) false, IB.cells 0 [.sc (.slice none 0 0)] false] 0 (dlc d x y) 1 (.sc (.slice none 0 0)) from ⟨rfl, by decide, by simp [blk, blkOf]⟩).upd u2
 simp -implicitDefEqProofs only [go_sem, dnW_ite, go_sem_proc, ↓dnW_ocr]
 refine WP_penW p2 (by simp [leW_len]) (fun J' => by simp -implicitDefEqProofs only [go_sem, dnW_ite, go_sem_proc, hB.1, hB.no]) fun J3 s3 p3 u3 => ?_
 have hB := hB.upd u3
 simp -implicitDefEqProofs only [go_sem, dnW_ite, go_sem_proc]
 refine WP_call (PByte_ok J3 1 s3 _ _ p3 (by simp [leW_len])) fun v J6 hv => ?_
 obtain ⟨rfl, s6, p6, u6⟩ := hv
 have hB := hB.upd u6
 simp -implicitDefEqProofs only [go_sem, dnW_ite, go_sem_proc, hB.1, h.y.lenF, List.length_map, dn_loop]
 have hG : deltaB d = ([] ++ leW d.t ++ leW d.h ++ [nB d.ps.length]) ++ (d.ps.zip d.cs).flatMap cpB := by simp [deltaB]
 have hHd : (([] : List Byt) ++ leW d.t ++ leW d.h ++ [nB d.ps.length]).length = 9 := by simp [leW_len]
 rw [hG] at hK
 generalize ([] : List Byt) ++ leW d.t ++ leW d.h ++ [nB d.ps.length] = H at *
 have hzl : (d.ps.zip d.cs).length = d.cs.length := by simp; omega
 refine WP_range (by decide) d.cs.length (fun i vs J => ∃ s, vs = [.ptr 0 0 0, .ptr 1 0 0, y, nI d.cs.length, nI i] ∧ PenAt J 1 s (H ++ ((d.ps.zip d.cs).take i).flatMap cpB) ∧ Bes J 0 (dlc d x y) 1 s) ?_ ⟨s6, rfl, by simpa using p6, hB⟩
 rintro i vs J ⟨s, rfl, h1, hB⟩ hi K1 g1 g2 g3
 unfold l_delta_Delta_Bytes_k0
 have hL : (H ++ ((d.ps.zip d.cs).take i).flatMap cpB).length ≤ 2000 := by
  rw [List.length_append, cpB_len, List.length_take]; omega
 by_cases h2 : i < d.cs.length
 ·have hat := fun J => h.y.at (i := i) (by simpa using h2) (J := J)
  have hap := fun J => h.x.at (i := i) (by simp; omega) (J := J)
  simp only [List.getElem_map, Cl.e, Cl.c] at hat hap
  have hw1 := wrapS h2 (show d.cs.length ≤ 9223372036854775807 by omega)
  have hB1 := hB.1
  simp -implicitDefEqProofs only [go_sem, dnW_ite, go_sem_proc, show ((i : Int) < (d.cs.length : Int)) by omega, hat, hap, ↓dnW_ocr, inb h1.1, inb hB1, hB1, iW_m32]
  have hp := h1.psh (.cells 0 [IV.int IntKind.i32 d.cs[i].v, m32 d.cs[i].s] false)
  have hC := h1.bes [IV.int IntKind.i32 d.cs[i].v, m32 d.cs[i].s]
  have hB : Bes (J.push (.cells 0 [IV.int IntKind.i32 d.cs[i].v, m32 d.cs[i].s] false)) 0 (dlc d x y) 1 s := hB.upd (.push _)
  have hnext : H ++ ((d.ps.zip d.cs).take (i + 1)).flatMap cpB = H ++ ((d.ps.zip d.cs).take i).flatMap cpB ++ [d.ps[i]] ++ leW (iW d.cs[i].v) ++ leW d.cs[i].s := by
   rw [List.take_succ_eq_append_getElem (by omega), List.flatMap_append]
   simp [cpB]
  generalize H ++ ((d.ps.zip d.cs).take i).flatMap cpB = L at *
  generalize hJ1 : J.push (IB.cells 0 [IV.int IntKind.i32 d.cs[i].v, m32 d.cs[i].s] false) = J1 at *
  generalize J.size = e at *
  refine WP_penB hp (by omega) (fun J' => by simp -implicitDefEqProofs only [go_sem, dnW_ite, go_sem_proc, hC.1, hC.no]) fun J2 s2 p2 u2 => ?_
  have hB := hB.upd u2
  have hC := hC.upd u2
  simp -implicitDefEqProofs only [go_sem, dnW_ite, go_sem_proc, ↓dnW_ocr]
  refine WP_penW p2 (by simp; omega) (fun J' => by simp -implicitDefEqProofs only [go_sem, dnW_ite, go_sem_proc, hC.1, hC.no]) fun J3 s3 p3 u3 => ?_
  have hB := hB.upd u3
  simp -implicitDefEqProofs only [go_sem, dnW_ite, go_sem_proc]
  refine WP_call (Word_ok J3 1 s3 _ _ p3 (by simp [leW_len]; omega)) fun v J7 hv => ?_
  obtain ⟨rfl, s7, p7, u7⟩ := hv
  have hB := hB.upd u7
  simp -implicitDefEqProofs only [go_sem, dnW_ite, go_sem_proc, hw1]
  refine g1 h2 _ _ ⟨s7, rfl, ?_, hB⟩
  rw [hnext]
  exact p7
 ·simp -implicitDefEqProofs only [go_sem, dnW_ite, go_sem_proc, show ¬ ((i : Int) < (d.cs.length : Int)) by omega]
  refine g2 _ _ ?_
  rw [List.take_of_length_le (by omega)] at h1
  unfold l_delta_Delta_Bytes_k1
  simp -implicitDefEqProofs only [go_sem, dnW_ite, go_sem_proc]
  refine WP_call (PBytes_ok J 1 s _ h1 (by simp only [List.length_append, cpB_len]; omega)) fun v J2 hv => ?_
  simp -implicitDefEqProofs only [go_sem, dnW_ite, go_sem_proc]
  exact hK _ _ _ (frzP (by simpa [itup] using hv.pure)) hv
theorem clone2 {x : IV} {l : List Cl} (hx : Ls 2 x (l.map Cl.e)) (hb : l.length ≤ 100000) : ∃ u, pc BI F_slices_Clone_Lboard_Cell_board_Cell [x] = some u ∧ Ls 2 u (l.map Cl.e) := by
 refine pcW fn_slices_Clone_Lboard_Cell_board_Cell rfl fun K hK => ?_
 unfold l_slices_Clone_Lboard_Cell_board_Cell
 rcases hx with ⟨rfl, h0⟩ | ⟨f, rfl⟩
 ·simp -implicitDefEqProofs only [go_sem, dnW_ite, go_sem_proc, iisNil, isNil]
  exact hK _ _ _ (frzE rfl rfl) (by rw [h0]; exact .nil)
 ·simp -implicitDefEqProofs only [go_sem, dnW_ite, go_sem_proc, iisNil, ipureL, grp]
  have hy : Ls 2 (.lst 2 f (l.map Cl.e)) ((l.map Cl.c).map (mkE 2)) := by rw [cl_mk]; exact .lst
  refine WP_bind (app_clip hy (by decide) (cl2 _) (flat_one _) (fits8 (by simp; omega))) fun s J hs => ?_
  simp -implicitDefEqProofs only [go_sem, dnW_ite, go_sem_proc]
  obtain ⟨u, hu, hul⟩ := hs.frz (by decide) (cl2 _) (cl_pure _) (flat_one _)
  rw [cl_mk] at hul
  exact hK _ _ u (hu 11) hul
theorem clone6 {x : IV} {l : List Cd} (hx : Ls 6 x (l.map Cd.e)) (hb : l.length ≤ 100000) : ∃ u, pc BI F_slices_Clone_Lcode_Code_code_Code [x] = some u ∧ Ls 6 u (l.map Cd.e) := by
 refine pcW fn_slices_Clone_Lcode_Code_code_Code rfl fun K hK => ?_
 unfold l_slices_Clone_Lcode_Code_code_Code
 rcases hx with ⟨rfl, h0⟩ | ⟨f, rfl⟩
 ·simp -implicitDefEqProofs only [go_sem, dnW_ite, go_sem_proc, iisNil, isNil]
  exact hK _ _ _ (frzE rfl rfl) (by rw [h0]; exact .nil)
 ·simp -implicitDefEqProofs only [go_sem, dnW_ite, go_sem_proc, iisNil, ipureL, grp]
  have hy : Ls 6 (.lst 6 f (l.map Cd.e)) ((l.map Cd.cs).map (mkE 6)) := by rw [cd_mk]; exact .lst
  refine WP_bind (app_clip hy (by decide) (cd6 _) (cd_one _) (fits12 (by simp; omega))) fun s J hs => ?_
  simp -implicitDefEqProofs only [go_sem, dnW_ite, go_sem_proc]
  obtain ⟨u, hu, hul⟩ := hs.frz (by decide) (cd6 _) (cd_pure _) (cd_one _)
  rw [cd_mk] at hul
  exact hK _ _ u (hu 11) hul
def tpc (g : Gm) (x y : IV) (o : Int) (b : Bd) (t : Int) (l : IV) : List IV := gmc g x y ++ ([.int .i64 o] ++ (stc b 0 t ++ [l]))
section
variable (g : Gm) (x y : IV) (o : Int) (b : Bd) (t : Int) (l : IV)
theorem tp_len : (tpc g x y o b t l).length = 107 := by simp [tpc, sta_len, gm_len]
theorem tp_take : (tpc g x y o b t l).take 107 = tpc g x y o b t l := List.take_of_length_le (by rw [tp_len]; exact Nat.le_refl _)
theorem tp_g : (tpc g x y o b t l).take 6 = gmc g x y := by rw [tpc, List.take_append_of_le_length (by simp [gm_len]), gm_take]
theorem tp_d6 : (tpc g x y o b t l).drop 6 = [.int .i64 o] ++ (stc b 0 t ++ [l]) := by rw [tpc, List.drop_left' (by simp [gm_len])]
theorem tp_o : ((tpc g x y o b t l).drop 6).take 1 = [.int .i64 o] := by rw [tp_d6]; rfl
theorem tp_d7 : (tpc g x y o b t l).drop 7 = stc b 0 t ++ [l] := by rw [show 7 = 6 + 1 from rfl, ← List.drop_drop, tp_d6]; rfl
theorem tp_s : ((tpc g x y o b t l).drop 7).take 99 = stc b 0 t := by rw [tp_d7, List.take_append_of_le_length (by simp [sta_len]), sta_take]
theorem tp_b : ((tpc g x y o b t l).drop 7).take 97 = bdc b := by rw [tp_d7, List.take_append_of_le_length (by simp [sta_len]), sta_bd]
theorem tp_t : ((tpc g x y o b t l).drop 105).take 1 = [.int .u32 t] := by
 rw [show 105 = 7 + 98 from rfl, ← List.drop_drop, tp_d7, stc, List.append_assoc, List.drop_append, bdc_len, List.drop_of_length_le (by rw [bdc_len]; omega)]; rfl
theorem tp_d106 : (tpc g x y o b t l).drop 106 = [l] := by rw [show 106 = 7 + 99 from rfl, ← List.drop_drop, tp_d7, List.drop_left' (by simp [sta_len])]
theorem tp_l : ((tpc g x y o b t l).drop 106).take 1 = [l] := by rw [tp_d106]; rfl
theorem tp_t7 : (tpc g x y o b t l).take 7 = gmc g x y ++ [.int .i64 o] := by
 rw [tpc, ← List.append_assoc, List.take_left' (by simp [gm_len])]
theorem tp_s7 (b2 : Bd) (t2 : Int) : isplice (tpc g x y o b t l) 7 (stc b2 0 t2) = tpc g x y o b2 t2 l := by
 rw [isplice, tp_t7, sta_len, tp_d106, tpc]; simp
theorem tp_s106 (l2 : IV) : isplice (tpc g x y o b t l) 106 [l2] = tpc g x y o b t l2 := by
 have h : (tpc g x y o b t l).take 106 = gmc g x y ++ [.int .i64 o] ++ stc b 0 t := by
  rw [tpc, ← List.append_assoc, ← List.append_assoc, List.take_left' (by simp [gm_len, sta_len])]
 rw [isplice, h, List.drop_of_length_le (by rw [tp_len]; simp), tpc]; simp
end
attribute [go_sem] tp_len tp_take tp_g tp_o tp_s tp_b tp_t tp_l tp_s7 tp_s106
theorem tp_one {g x y o b t l} (h : GR g x y) (hl : ione l = true) : (tpc g x y o b t l).all ione = true := by
 simp only [tpc, List.all_append, h.one, sta_one, List.all_cons, List.all_nil, hl]; rfl
theorem tp_s0 (g g2 : Gm) (x y x2 y2 : IV) (o : Int) (b : Bd) (t : Int) (l : IV) : isplice (tpc g x y o b t l) 0 (gmc g2 x2 y2) = tpc g2 x2 y2 o b t l := by
 simp only [isplice, List.take_zero, List.nil_append, Nat.zero_add, gm_len, tp_d6]; rfl
theorem tp_s6 (g : Gm) (x y : IV) (o o2 : Int) (b : Bd) (t : Int) (l : IV) : isplice (tpc g x y o b t l) 6 [.int .i64 o2] = tpc g x y o2 b t l := by
 rw [isplice, tp_g, show 6 + [IV.int IntKind.i64 o2].length = 7 from rfl, tp_d7, tpc]; simp
theorem tp_z0 : IV.sc (Value.int .i64 0) :: List.map IV.sc (reps 48 [Value.int .i32 0, .int .u32 0] ++ [.int .i64 0, .int .u64 0, .int .u32 0, .slice none 0 0]) = [.int .i64 0] ++ (stc Bd.z 0 0 ++ [nilS]) := by kernel_rfl
theorem tp_z (g : Gm) (x y : IV) : gmc g x y ++ IV.sc (Value.int .i64 0) :: List.map IV.sc (reps 48 [Value.int .i32 0, .int .u32 0] ++ [.int .i64 0, .int .u64 0, .int .u32 0, .slice none 0 0]) = tpc g x y 0 Bd.z 0 nilS := by rw [tp_z0]; rfl
attribute [go_sem] tp_s0 tp_s6
def TL (J : JH) (s : IV) (ds : List (List IV)) : Prop := (∃ d, s = .lst 4 true [.agg d] ∧ ds = [d]) ∨ Grow J s 4 ds.flatten
structure TapeAt (J : JH) (b : Nat) (g : Gm) (x y : IV) (o : Int) (v : Bd) (t : BitVec 32) (s : IV) (ds : List (Dl × IV × IV)) : Prop where
 cells : J[b]? = some (.cells 0 (tpc g x y o v (t.toNat : Int) s) false)
 told : TL J s (ds.map fun d => dlc d.1 d.2.1 d.2.2)
 gr : GR g x y
 each : ∀ d ∈ ds, DR d.1 d.2.1 d.2.2 ∧ d.1.ok = true ∧ d.1.ps.length ≤ 48
 off : b ∉ blk s
 some' : ds ≠ []
theorem ofP_mem {q : BitVec 64} {n i : Nat} : i ∈ ofP q n ↔ i < n ∧ q.getLsbD i = true := by simp [ofP]
theorem ofP_pw (q : BitVec 64) (n : Nat) : (ofP q n).Pairwise (· < ·) := List.Pairwise.filter _ List.pairwise_lt_range
theorem of_ok (b : Bd) (q : BitVec 64) (o : Int) (t : BitVec 32) (n : Nat) (hn : n ≤ 48) : (ofF b q o t n).ok = true ∧ (ofF b q o t n).ps.length ≤ 48 := by
 have hl := ofP_len q n
 refine ⟨?_, by simp [ofF]; omega⟩
 simp only [Dl.ok, Bool.and_eq_true, List.all_eq_true, decide_eq_true_eq]
 refine ⟨fun k hk => ?_, by simp [ofF]⟩
 have hk := List.mem_range.1 hk
 have hk2 : k < (ofP q n).length := by simpa [ofF] using hk
 have hm := (ofP_mem.1 (List.getElem_mem hk2)).1
 have e1 : ((ofF b q o t n).ps.getD k 0#8) = BitVec.ofNat 8 (ofP q n)[k] := by simp [ofF, hk2]
 have t1 : (BitVec.ofNat 8 (ofP q n)[k]).toNat = (ofP q n)[k] := by rw [BitVec.toNat_ofNat]; exact Nat.mod_eq_of_lt (by omega)
 simp only [okP, e1, t1, Bool.and_eq_true, Bool.or_eq_true, decide_eq_true_eq]
 refine ⟨by omega, ?_⟩
 by_cases h0 : k = 0
 ·exact .inl h0
 ·right
  have hk3 : k - 1 < (ofP q n).length := by omega
  have hm2 := (ofP_mem.1 (List.getElem_mem hk3)).1
  have e2 : ((ofF b q o t n).ps.getD (k - 1) 0#8) = BitVec.ofNat 8 (ofP q n)[k - 1] := by simp [ofF, hk3]
  have t2 : (BitVec.ofNat 8 (ofP q n)[k - 1]).toNat = (ofP q n)[k - 1] := by rw [BitVec.toNat_ofNat]; exact Nat.mod_eq_of_lt (by omega)
  rw [e2, t2]
  exact List.pairwise_iff_getElem.1 (ofP_pw q n) (k - 1) k hk3 hk2 (by omega)
theorem tNew_ok (g : Gm) (x y : IV) (h : GR g x y) (hr : g.right = true) (hw : ∀ c ∈ g.code, c.wf) (o : Int) (ho : 0 ≤ o ∧ o < g.obs) (b : Bd) (hb : b.l.length = g.cells.length) (d : Int) (t : BitVec 32) (J : JH) :
  RP (ic BI F_replay_New [.agg (gmc g x y), .int .i64 o, .agg (stc b d (t.toNat : Int))] J) fun v J' => ∃ c x2 y2 x3 y3, v = .ptr c 0 0 ∧ J.size ≤ c ∧ Fr J J' [] ∧ TapeAt J' c g x2 y2 o (b.view o) t (.lst 4 true [.agg (dlc (ofF b (BitVec.allOnes 64) o t b.l.length) x3 y3)]) [(ofF b (BitVec.allOnes 64) o t b.l.length, x3, y3)] := by
 refine RP_run fn_replay_New rfl fun K hK => ?_
 unfold l_replay_New
 have hR := gRight_ok g x y h hw (by have := right_48 hr; omega)
 obtain ⟨c48, _, _, _, c96⟩ := right_48 hr
 obtain ⟨u1, hu1, hl1⟩ := clone2 h.x (by omega)
 obtain ⟨u2, hu2, hl2⟩ := clone6 h.y (by omega)
 obtain ⟨x3, y3, hF, hDR⟩ := dFull_ok b o t
 have hg2 : GR g u1 u2 := ⟨hl1, hl2⟩
 rw [hr] at hR
 simp -implicitDefEqProofs only [go_sem, dnW_ite, go_sem_proc, h.one, sta_one, dcp hR (by simp [ipureL, ipure, h.pure]), show ¬ o < 0 by omega, show ¬ o ≥ g.obs by omega, h.x.lenF, List.length_map, dcp (Len_ok b) (by simp [ipureL, ipure, bdc_pure]), hb]
 unfold l_replay_New_k0
 have hS := SView_ok b d (t.toNat : Int) o
 have gp : ipureL (gmc g x y) = true := h.pure
 have dp := hDR.pure
 have do1 := hDR.one
 have go1 := hg2.one
 simp -implicitDefEqProofs only [go_sem, dnW_ite, go_sem_proc, dcp hu1 (by simp [ipureL, h.x.pure]), dcp hu2 (by simp [ipureL, h.y.pure]), ↓hl1.icells, ↓hl1.one, ↓hl2.icells, ↓hl2.one, dcp hS (by simp [ipureL, ipure, sta_pure]), dcp hF (by simp [ipureL, ipure, bdc_pure]), dp, do1, go1, ipureL, ipure, grp, mkE, dl_len, dl_take, tp_z]
 have to1 := tp_one (o := o) (b := b.view o) (t := (t.toNat : Int)) (l := .lst 4 true [IV.agg (dlc (ofF b (BitVec.allOnes 64) o t b.l.length) x3 y3)]) hg2 rfl
 simp -implicitDefEqProofs only [go_sem, dnW_ite, go_sem_proc, to1]
 refine hK _ _ ⟨J.size + 2, u1, u2, x3, y3, by simp [itup], by omega, ?_, ⟨?_, .inl ⟨_, rfl, rfl⟩, hg2, ?_, by simp [blk, blkOf], by simp⟩⟩
 ·have hf := Fr.refl J []
  (have hsz_ := hf.1; repeat (first | with_reducible exact hf | with_reducible apply Fr.psh | ((with_reducible apply Fr.stn); rotate_left; first | omega | (simp only [Array.size_push, Array.size_setIfInBounds] <;> omega)) | ((with_reducible apply Fr.sts); rotate_left; focus (simp only [List.mem_cons, eq_self, true_or, or_true]; done))))
 ·(repeat (first | with_reducible assumption | ((with_reducible refine gsE ?_ ?_); (focus omega); focus (first | omega | (simp only [Array.size_push, Array.size_setIfInBounds] <;> omega))) | ((with_reducible refine gsN ?_ ?_); focus omega) | ((with_reducible refine gpN ?_ ?_); focus (first | omega | (simp only [Array.size_push, Array.size_setIfInBounds] <;> omega))) | ((with_reducible refine gpE ?_); focus (first | omega | (simp only [Array.size_push, Array.size_setIfInBounds] <;> omega)))))
 ·intro e he
  simp at he
  subst he
  have := of_ok b (BitVec.allOnes 64) o t b.l.length (by omega)
  exact ⟨hDR, this.1, this.2⟩
end Go.Proofs.YticfcmaigffhmaaGreat.G
namespace Go.Proofs.YticfcmaigffhmaaGreat.G
open Go
theorem TL.fr {J J' : JH} {s : IV} {ds : List (List IV)} {S : List Nat} (h : TL J s ds) (hf : Fr J J' S) (hs : ∀ q ∈ blk s, q ∉ S) : TL J' s ds := by
 rcases h with h | h
 ·exact .inl h
 ·exact .inr (h.fr hf hs)
theorem TL.low {J : JH} {s : IV} {ds : List (List IV)} (h : TL J s ds) : ∀ q ∈ blk s, q < J.size := by
 rcases h with ⟨d, rfl, _⟩ | h
 ·simp [blk, blkOf]
 ·exact h.low
theorem TL.one {J : JH} {s : IV} {ds : List (List IV)} (h : TL J s ds) : ione s = true := by
 rcases h with ⟨d, rfl, _⟩ | h
 ·rfl
 ·exact h.one
theorem TL.icells {J : JH} {s : IV} {ds : List (List IV)} (h : TL J s ds) : Go.Proofs.YticfcmaigffhmaaGreat.G.icells s = [s] := by
 rcases h with ⟨d, rfl, _⟩ | h
 ·rfl
 ·exact h.icells
theorem TL.lenF {J : JH} {s : IV} {ds : List (List IV)} (h : TL J s ds) (h4 : ∀ d ∈ ds, d.length = 4) (J' : JH) : Go.Proofs.YticfcmaigffhmaaGreat.G.lenF false s J' = some (nI ds.length, J') := by
 rcases h with ⟨d, rfl, rfl⟩ | h
 ·rfl
 ·exact h.lenF (by rw [flat_len h4]) (by omega)
theorem TL.app {J : JH} {s : IV} {ds : List (List IV)} (h : TL J s ds) (h4 : ∀ d ∈ ds, d.length = 4) (h1 : ∀ d ∈ ds, d.all ione = true) {e : List IV} (he : e.length = 4) (ho : e.all ione = true) (hl : ds.length ≤ 100000) :
  RP (appF 4 56 s (.lst 4 true [.agg e]) J) fun s' J' => TL J' s' (ds ++ [e]) ∧ Fr J J' (blk s) ∧ ∀ q ∈ blk s', q ∈ blk s ∨ J.size ≤ q := by
 rcases h with ⟨d, rfl, rfl⟩ | h
 ·have hd4 := h4 d (by simp)
  have hd1 := h1 d (by simp)
  have hc : iscells J 4 (.lst 4 true [.agg e]) = some e := by simp [iscells, Go.Proofs.YticfcmaigffhmaaGreat.G.icells]
  have hf : fits (1 + 1) 56 = true := by decide
  simp only [appF, show 0 < 4 by omega, if_true, iappend, hc, ilen, List.length_cons, List.length_nil, Nat.zero_add, show ¬ (1 = 0) by omega, if_false, beq_self_eq_true, Bool.true_and, hf, ho, Bool.and_self, List.flatMap_cons, List.flatMap_nil, List.append_nil, Go.Proofs.YticfcmaigffhmaaGreat.G.icells, RP]
  refine ⟨.inr (.inr ⟨J.size, 0, 2, d ++ e, rfl, push_get _ _, by simp; omega, ?_, ?_⟩), Fr.push _ _ _, by simp [blk, blkOf]⟩
  ·rw [List.take_of_length_le (by simp; omega)]; simp
  ·rw [List.drop_of_length_le (by simp; omega)]; rfl
 ·have := h.app (m := 1) (y := .lst 4 true [.agg e]) (ds := e) (by' := 56) (by omega) (by simp [iscells, Go.Proofs.YticfcmaigffhmaaGreat.G.icells]) rfl (by omega) ho (by rw [flat_len h4]; simp only [fits, Bool.and_eq_true, decide_eq_true_eq]; omega)
  refine RP_mono this fun v J' hv => ⟨.inr ?_, hv.2.1, hv.2.2⟩
  rw [List.flatten_append]; simpa using hv.1
theorem Fr.weak {J J' : JH} {S T : List Nat} (h : Fr J J' S) (hs : ∀ d ∈ S, d ∈ T) : Fr J J' T := ⟨h.1, fun d hd hn => h.2 d hd fun hm => hn (hs d hm)⟩
abbrev dlc3 (d : Dl × IV × IV) : List IV := dlc d.1 d.2.1 d.2.2
theorem dl4 (ds : List (Dl × IV × IV)) : ∀ e ∈ ds.map dlc3, e.length = 4 := by
 intro e he; obtain ⟨d, _, rfl⟩ := List.mem_map.1 he; rfl
theorem TapeAt.fr {J J' : JH} {c g x y o v t s ds} {S : List Nat} (h : TapeAt J c g x y o v t s ds) (hf : Fr J J' S) (hc : c ∉ S) (hs : ∀ q ∈ blk s, q ∉ S) : TapeAt J' c g x y o v t s ds :=
 ⟨by rw [hf.2 c (lt_get h.cells) hc]; exact h.cells, h.told.fr hf hs, h.gr, h.each, h.off, h.some'⟩
theorem TapeAt.ones {J : JH} {c g x y o v t s ds} (h : TapeAt J c g x y o v t s ds) : ∀ e ∈ ds.map dlc3, e.all ione = true := by
 intro e he; obtain ⟨d, hd, rfl⟩ := List.mem_map.1 he; exact (h.each d hd).1.one
theorem tAdd_ok {J : JH} {c : Nat} {g : Gm} {x y : IV} {o : Int} {v : Bd} {t : BitVec 32} {s : IV} {ds : List (Dl × IV × IV)} (h : TapeAt J c g x y o v t s ds) (b : Bd) (d : Int) (t' : BitVec 32) (q : BitVec 64) (hl : ds.length < 65536) :
  RP (ic BI F_replay_Tape_Add [.ptr c 0 0, .agg (stc b d (t'.toNat : Int)), .int .u64 (q.toNat : Int)] J) fun r J' => (t'.toNat ≠ t.toNat + 1 → r = .int .i64 10 ∧ Fr J J' []) ∧
   (t'.toNat = t.toNat + 1 → applyF (ofF b q o t' b.l.length) v = (b.view o, 0) → r = .int .i64 0 ∧ ∃ s' x3 y3, TapeAt J' c g x y o (b.view o) t' s' (ds ++ [(ofF b q o t' b.l.length, x3, y3)]) ∧ Fr J J' (c :: blk s) ∧ ∀ q ∈ blk s', q ∈ blk s ∨ J.size ≤ q) := by
 refine RP_run fn_replay_Tape_Add rfl fun K hK => ?_
 unfold l_replay_Tape_Add
 obtain ⟨x3, y3, hF, hDR⟩ := dOf_ok b q o t'
 have hok := of_ok b q o t' b.l.length b.h
 have hA := dApply_ok _ x3 y3 hDR (by omega) v
 have do1 := hDR.one
 have dp := hDR.pure
 have h0 := h.cells
 have hl0 := lt_get h0
 have hto := h.told.one
 have tp1 := fun b2 t2 s2 hs2 => tp_one (o := o) (b := b2) (t := t2) (l := s2) h.gr hs2
 generalize hD : ofF b q o t' b.l.length = D at *
 have w1 : IntKind.u64.wrap (t'.toNat : Int) = (t'.toNat : Int) := by have := t'.isLt; exact wrap_u64 (by omega) (by omega)
 have w2 : IntKind.u64.wrap (t.toNat : Int) = (t.toNat : Int) := by have := t.isLt; exact wrap_u64 (by omega) (by omega)
 have w3 : IntKind.u64.wrap ((t.toNat : Int) + 1) = (t.toNat : Int) + 1 := by have := t.isLt; exact wrap_u64 (by omega) (by omega)
 by_cases ht : t'.toNat = t.toNat + 1
 ·have n1 : ((t'.toNat : Int) != (t.toNat : Int) + 1) = false := by simp; omega
  by_cases hap : applyF D v = (b.view o, 0)
  ·rw [hap] at hA
   have hlen := TL.lenF h.told (dl4 ds)
   rw [List.length_map] at hlen
   simp -implicitDefEqProofs only [go_sem, dnW_ite, go_sem_proc, iisNil, sta_one, h0, inb h0, dcp hF (by simp [ipureL, ipure, bdc_pure]), do1, dl_len, dl_take, dl_all, dcp hA (by simp [ipureL, ipure, bdc_pure, dp]), bdc_len, bdc_one, bdc_take, bdc_all, zc_bd, ↓w1, ↓w2, ↓w3, n1, dcp (View_ok b o) (by simp [ipureL, ipure, bdc_pure]), bdc_eq, decide_true, hlen, show ¬ ((ds.length : Int) ≥ 65536) by omega]
   suffices H : ∀ J1, Fr J J1 [] → J1[J.size]? = some (.cells 0 (stc b d (t'.toNat : Int)) false) → J1[J.size + 1]? = some (.cells 0 (dlc D x3 y3) false) → WP (dn BI l_replay_Tape_Add_k0 [.ptr c 0 0, .ptr J.size 0 0, .ptr (J.size + 1) 0 0] J1) K by
    refine H _ ?_ ?_ ?_
    ·have hf := Fr.refl J []
     (have hsz_ := hf.1; repeat (first | with_reducible exact hf | with_reducible apply Fr.psh | ((with_reducible apply Fr.stn); rotate_left; first | omega | (simp only [Array.size_push, Array.size_setIfInBounds] <;> omega)) | ((with_reducible apply Fr.sts); rotate_left; focus (simp only [List.mem_cons, eq_self, true_or, or_true]; done))))
    ·(repeat (first | with_reducible assumption | ((with_reducible refine gsE ?_ ?_); (focus omega); focus (first | omega | (simp only [Array.size_push, Array.size_setIfInBounds] <;> omega))) | ((with_reducible refine gsN ?_ ?_); focus omega) | ((with_reducible refine gpN ?_ ?_); focus (first | omega | (simp only [Array.size_push, Array.size_setIfInBounds] <;> omega))) | ((with_reducible refine gpE ?_); focus (first | omega | (simp only [Array.size_push, Array.size_setIfInBounds] <;> omega)))))
    ·(repeat (first | with_reducible assumption | ((with_reducible refine gsE ?_ ?_); (focus omega); focus (first | omega | (simp only [Array.size_push, Array.size_setIfInBounds] <;> omega))) | ((with_reducible refine gsN ?_ ?_); focus omega) | ((with_reducible refine gpN ?_ ?_); focus (first | omega | (simp only [Array.size_push, Array.size_setIfInBounds] <;> omega))) | ((with_reducible refine gpE ?_); focus (first | omega | (simp only [Array.size_push, Array.size_setIfInBounds] <;> omega)))))
   intro J1 f1 hs1 hd1
   have h1 := h.fr f1 (by simp) (by simp)
   have hc1 := h1.cells
   have z1 := f1.1
   have hlow := h.told.low
   have hns : ∀ k, J.size ≤ k → k ∉ blk s := fun k hk hm => by have := hlow k hm; omega
   unfold l_replay_Tape_Add_k0
   simp -implicitDefEqProofs only [go_sem, dnW_ite, go_sem_proc, hs1, hd1, hc1, inb hs1, inb hd1, inb hc1, dp, dcp (SView_ok b d (t'.toNat : Int) o) (by simp [ipureL, ipure, sta_pure]), ipureL, ipure, grp, mkE, dl_len, dl_take, do1]
   refine WP_bind (h1.told.app (dl4 ds) h1.ones (e := dlc D x3 y3) rfl do1 (by rw [List.length_map]; omega)) fun s' J2 hv => ?_
   obtain ⟨q1, q2, q3⟩ := hv
   have hc2 : J2[c]? = some (.cells 0 (tpc g x y o v (t.toNat : Int) s) false) := by rw [q2.2 c (lt_get hc1) h1.off]; exact hc1
   have hl2 := lt_get hc2
   have z2 := q2.1
   simp -implicitDefEqProofs only [go_sem, dnW_ite, go_sem_proc, hc2, inb hc2, set_get _ hl2, ↓q1.icells, ↓q1.one]
   have hlc := lt_get hc1
   have hcs' : c ∉ blk s' := fun hm => by
    rcases q3 c hm with h' | h'
    ·exact h.off h'
    ·omega
   have ff : Fr J (J2.setIfInBounds c (.cells 0 (tpc g x y o (b.view o) (t'.toNat : Int) s') false)) (c :: blk s) :=
    (((f1.weak (T := blk s) (by simp)).trans q2 (fun _ _ h => h)).weak (T := c :: blk s) (fun d hd => by simp [hd])).trans (Fr.set _ _ (S := c :: blk s) (by simp)) (fun _ _ h => h)
   refine hK _ _ ⟨fun e => absurd ht e, fun _ _ => ⟨rfl, s', x3, y3, ⟨set_get _ hl2, ?_, h.gr, ?_, hcs', by simp⟩, ff, fun q hq => ?_⟩⟩
   ·rw [List.map_append]
    exact q1.fr (Fr.set _ _ (S := [c]) (by simp)) (fun q hq hm => by simp at hm; subst hm; exact hcs' hq)
   ·intro e he
    rcases List.mem_append.1 he with he | he
    ·exact h.each e he
    ·simp at he; subst he; exact ⟨hDR, hok.1, hok.2⟩
   ·rcases q3 q hq with h' | h'
    ·exact .inl h'
    ·exact .inr (by omega)
  ·cases he : (applyF D v).2 == 0 with
   | false =>
    have he' : ((applyF D v).2 != 0) = true := by simp only [bne, he]; rfl
    simp -implicitDefEqProofs only [go_sem, dnW_ite, go_sem_proc, iisNil, sta_one, h0, inb h0, dcp hF (by simp [ipureL, ipure, bdc_pure]), do1, dl_len, dl_take, dl_all, dcp hA (by simp [ipureL, ipure, bdc_pure, dp]), bdc_len, bdc_one, bdc_take, bdc_all, zc_bd, ↓w1, ↓w2, ↓w3, n1, he']
    exact hK _ _ ⟨fun e => absurd ht e, fun _ e => absurd e hap⟩
   | true =>
    have he0 : (applyF D v).2 = 0 := by simpa using he
    have hne : (applyF D v).1 ≠ b.view o := fun e => hap (Prod.ext e he0)
    rw [he0] at hA
    simp -implicitDefEqProofs only [go_sem, dnW_ite, go_sem_proc, iisNil, sta_one, h0, inb h0, dcp hF (by simp [ipureL, ipure, bdc_pure]), do1, dl_len, dl_take, dl_all, dcp hA (by simp [ipureL, ipure, bdc_pure, dp]), bdc_len, bdc_one, bdc_take, bdc_all, zc_bd, ↓w1, ↓w2, ↓w3, n1, dcp (View_ok b o) (by simp [ipureL, ipure, bdc_pure]), bdc_eq, hne, decide_false]
    exact hK _ _ ⟨fun e => absurd ht e, fun _ e => absurd e hap⟩
 ·have n1 : ((t'.toNat : Int) != (t.toNat : Int) + 1) = true := by simp; omega
  simp -implicitDefEqProofs only [go_sem, dnW_ite, go_sem_proc, iisNil, sta_one, h0, inb h0, dcp hF (by simp [ipureL, ipure, bdc_pure]), do1, dl_len, dl_take, dl_all, dcp hA (by simp [ipureL, ipure, bdc_pure, dp]), bdc_len, bdc_one, bdc_take, bdc_all, zc_bd, ↓w1, ↓w2, ↓w3, n1]
  refine hK _ _ ⟨fun _ => ⟨rfl, ?_⟩, fun e => absurd e ht⟩
  have hf := Fr.refl J []
  (have hsz_ := hf.1; repeat (first | with_reducible exact hf | with_reducible apply Fr.psh | ((with_reducible apply Fr.stn); rotate_left; first | omega | (simp only [Array.size_push, Array.size_setIfInBounds] <;> omega)) | ((with_reducible apply Fr.sts); rotate_left; focus (simp only [List.mem_cons, eq_self, true_or, or_true]; done))))
def magicB : List Byt := [104#8, 111#8, 111#8, 100#8, 119#8, 105#8, 110#8, 107#8]
def blobB (l : List Byt) : List Byt := numL 9 l.length ++ l
def tapeL (g : Gm) (o : Int) (ds : List Dl) : List Byt := magicB ++ blobB (gameB g) ++ [nB o.toNat] ++ numL 9 ds.length ++ ds.flatMap fun d => blobB (deltaB d)
def tapeB (g : Gm) (o : Int) (ds : List Dl) : List Byt := tapeL g o ds ++ tail4 (tapeL g o ds)
theorem gameB_len {g : Gm} (hr : g.right = true) : (gameB g).length ≤ 2000 := by
 obtain ⟨_, _, h1, h2⟩ := right_fits hr
 have a := numL_len 9 (codeB g.code).length
 have b := numL_len 9 g.code.length
 simp only [gameB, List.length_append, clB_len, codeB, codeB_len, leW_len, List.length_cons, List.length_nil] at *
 omega
theorem deltaB_len {d : Dl} (h : d.ps.length ≤ 48) : (deltaB d).length ≤ 441 := by
 simp only [deltaB, List.length_append, cpB_len, leW_len, List.length_zip, List.length_cons, List.length_nil]; omega
theorem blobB_len (l : List Byt) : (blobB l).length ≤ 10 + l.length := by
 have := numL_len 9 l.length
 simp [blobB]; omega
theorem tapeS_len : ∀ {ds : List Dl}, (∀ d ∈ ds, d.ps.length ≤ 48) → (ds.flatMap fun d => blobB (deltaB d)).length ≤ 451 * ds.length
 | [], _ => by simp
 | d :: ds, h => by
  have h1 := tapeS_len (ds := ds) fun e he => h e (List.mem_cons_of_mem _ he)
  have h2 := blobB_len (deltaB d)
  have h3 := deltaB_len (h d (by simp))
  rw [List.flatMap_cons, List.length_append, List.length_cons]; omega
structure PenN (J0 J : JH) (b : Nat) (s : IV) (l : List Byt) : Prop where
 at' : PenAt J b s l
 fr : Fr J0 J []
 nb : J0.size ≤ b
 ns : ∀ q ∈ blk s, J0.size ≤ q
theorem PenN.upd {J0 J J' : JH} {b : Nat} {s s' : IV} {l l' : List Byt} (h : PenN J0 J b s l) (p : PenAt J' b s' l') (u : Upd b J s J' s') : PenN J0 J' b s' l' := by
 have hz := h.fr.1
 refine ⟨p, h.fr.trans u.1 (fun d hd hm => ?_), h.nb, fun q hq => ?_⟩
 ·simp only [List.mem_cons] at hm
  rcases hm with rfl | hm
  ·have := h.nb; omega
  ·have := h.ns d hm; omega
 ·rcases u.2 q hq with hm | hm
  ·exact h.ns q hm
  ·omega
theorem PenN.no {J0 J : JH} {b : Nat} {s : IV} {l : List Byt} (h : PenN J0 J b s l) {c : Nat} (hc : c < J0.size) : (b :: blk s).contains c = false := by
 have h1 := h.nb
 have h2 : c ∉ blk s := fun hm => by have := h.ns c hm; omega
 simp only [List.contains_eq_mem, List.mem_cons, h2, or_false, decide_eq_false_iff_not]; omega
theorem PenN.old {J0 J : JH} {b : Nat} {s : IV} {l : List Byt} (h : PenN J0 J b s l) {c : Nat} {X : IB} (hc : J0[c]? = some X) : J[c]? = some X := by rw [h.fr.2 c (lt_get hc) (by simp)]; exact hc
section
variable {ρ : List IV} {J : JH} {chk : List (Option (Operand × Bool) × SOp)} {k : L} {b : Nat} {s : IV} {l : List Byt} {P : Out IV → JH → Prop}
theorem WP_penBl {x : IV} {d : List Byt} (hx : Ls 1 x (d.map by8)) (h : PenAt J b s l) (hb : l.length + 10 + d.length ≤ 1000000) (hc : ∀ J', chk.all (ichk J J' (some (b :: blk s)) ρ) = true) (hk : ∀ J' s', PenAt J' b s' (l ++ blobB d) → Upd b J s J' s' → WP (dn BI k (ρ ++ [.ptr b 0 0]) J') P) : WP (thenC (ic BI F_ink_Pen_Blob [.ptr b 0 0, x] J) J chk (rchF J [.ptr b 0 0, x]) ρ k) P := by
 rw [h.reach (irefs_pure _ hx.pure)]
 refine WP_bindC (PBlob_ok b J s x l d hx h hb) fun v J' hv => ⟨hc J', ?_⟩
 obtain ⟨rfl, s', h', u'⟩ := hv
 exact hk J' s' (by simpa [blobB] using h') u'
end
theorem magic_at {i : Nat} (h : i < magicB.length) : ((magicB.map by8).drop i).take 1 = [by8 magicB[i]] := by rw [take1 (by rw [List.length_map]; exact h), List.getElem_map]
theorem PBytesF (J : JH) (b : Nat) (s : IV) (l : List Byt) (h : PenAt J b s l) (hb : l.length ≤ 1000000) :
  RP (ic BI F_ink_Pen_Bytes [.ptr b 0 0] J) fun r J' => Ls 1 r (l.map by8) ∧ Fr J J' (blk s) := by
 refine RP_run fn_ink_Pen_Bytes rfl fun K hK => ?_
 obtain ⟨hb1, hb2, hg⟩ := h
 obtain ⟨u, hu, hl⟩ := hg.frzE1 by8_pure by8_one
 obtain ⟨y, hy, hy2⟩ := bClone8 hl hb
 unfold l_ink_Pen_Bytes
 simp -implicitDefEqProofs only [go_sem, dnW_ite, go_sem_proc, hb1]
 refine WP_callG (S := blk s) (.raw (hu 11) (hg.shows by8_pure) .nil) hy fun J' f _ => ?_
 simp -implicitDefEqProofs only [go_sem, dnW_ite, go_sem_proc]
 exact hK _ _ ⟨hy2, f⟩
theorem tBytes_ok {J0 : JH} {c : Nat} {g : Gm} {x y : IV} {o : Int} {v : Bd} {t : BitVec 32} {s : IV} {ds : List (Dl × IV × IV)} (h : TapeAt J0 c g x y o v t s ds) (hr : g.right = true) (hw : ∀ c ∈ g.code, c.wf) (ho : 0 ≤ o ∧ o < 256) (hl : ds.length ≤ 1000) :
  RP (ic BI F_replay_Tape_Bytes [.ptr c 0 0] J0) fun r J' => Ls 1 r ((tapeB g o (ds.map (·.1))).map by8) ∧ Fr J0 J' [] := by
 refine RP_run fn_replay_Tape_Bytes rfl fun K hK => ?_
 unfold l_replay_Tape_Bytes
 have hm : (magicB.map by8).all ione = true := by8_one
 have hmc : [IV.int .u8 104, .int .u8 111, .int .u8 111, .int .u8 100, .int .u8 119, .int .u8 105, .int .u8 110, .int .u8 107] = magicB.map by8 := rfl
 have hz8 : magicB.length = 8 := rfl
 simp -implicitDefEqProofs only [go_sem, dnW_ite, go_sem_proc, iisNil, imark, lt_UNK, dn_loop]
 rw [hmc]
 have p0 : PenN J0 ((J0.push (.cells 0 [.sc (.slice none 0 0)] false)).push (.cells 0 (magicB.map by8) false)) J0.size (.sc (.slice none 0 0)) [] := ⟨⟨by (repeat (first | with_reducible assumption | ((with_reducible refine gsE ?_ ?_); (focus omega); focus (first | omega | (simp only [Array.size_push, Array.size_setIfInBounds] <;> omega))) | ((with_reducible refine gsN ?_ ?_); focus omega) | ((with_reducible refine gpN ?_ ?_); focus (first | omega | (simp only [Array.size_push, Array.size_setIfInBounds] <;> omega))) | ((with_reducible refine gpE ?_); focus (first | omega | (simp only [Array.size_push, Array.size_setIfInBounds] <;> omega))))), by simp [blk, blkOf], .nil⟩, (by have hf := Fr.refl J0 []; (have hsz_ := hf.1; repeat (first | with_reducible exact hf | with_reducible apply Fr.psh | ((with_reducible apply Fr.stn); rotate_left; first | omega | (simp only [Array.size_push, Array.size_setIfInBounds] <;> omega)) | ((with_reducible apply Fr.sts); rotate_left; focus (simp only [List.mem_cons, eq_self, true_or, or_true]; done))))), Nat.le_refl _, by simp [blk, blkOf]⟩
 have hl0 := lt_get h.cells
 refine WP_range (by decide) 8 (fun i vs J => ∃ sp, vs = [.ptr c 0 0, .ptr J0.size 0 0, .sl (J0.size + 1) 0 0 8 8 1, .int .i64 8, nI i] ∧ PenN J0 J J0.size sp (magicB.take i) ∧ J[J0.size + 1]? = some (.cells 0 (magicB.map by8) false) ∧ J0.size + 1 ∉ blk sp) ?_ ⟨_, rfl, p0, by (repeat (first | with_reducible assumption | ((with_reducible refine gsE ?_ ?_); (focus omega); focus (first | omega | (simp only [Array.size_push, Array.size_setIfInBounds] <;> omega))) | ((with_reducible refine gsN ?_ ?_); focus omega) | ((with_reducible refine gpN ?_ ?_); focus (first | omega | (simp only [Array.size_push, Array.size_setIfInBounds] <;> omega))) | ((with_reducible refine gpE ?_); focus (first | omega | (simp only [Array.size_push, Array.size_setIfInBounds] <;> omega))))), by simp [blk, blkOf]⟩
 rintro i vs J ⟨sp, rfl, hp, hmg, hns⟩ hi K1 g1 g2 g3
 unfold l_replay_Tape_Bytes_k0
 by_cases hlt : i < 8
 ·have hw1 := wrapS hlt (show (8 : Nat) ≤ 9223372036854775807 by omega)
  have hma := magic_at (i := i) (by omega)
  simp -implicitDefEqProofs only [go_sem, dnW_ite, go_sem_proc, show ((i : Int) < 8) by omega, iaddrF_sl, hlt, hmg, hma, show i + 1 ≤ 8 by omega, hz8, List.length_map]
  refine WP_call (PByte_ok J J0.size sp _ _ hp.at' (by rw [List.length_take]; omega)) fun r J2 hv => ?_
  obtain ⟨rfl, s2, p2, u2⟩ := hv
  simp -implicitDefEqProofs only [go_sem, dnW_ite, go_sem_proc, hw1]
  refine g1 hlt _ _ ⟨s2, rfl, ?_, u2.keep hmg (by omega) hns, fun hm => ?_⟩
  ·rw [List.take_succ_eq_append_getElem (by omega)]
   exact hp.upd p2 u2
  ·rcases u2.2 _ hm with hm | hm
   ·exact hns hm
   ·have := lt_get hmg; omega
 ·simp -implicitDefEqProofs only [go_sem, dnW_ite, go_sem_proc, show ¬ ((i : Int) < 8) by omega]
  refine g2 _ _ ?_
  rw [List.take_of_length_le (by omega)] at hp
  clear hmg hns g1 g2 g3
  obtain ⟨gb, hgb, hgl⟩ := GBytes_ok g x y h.gr hw hr
  have hgB := gameB_len hr
  have hlen := TL.lenF (h.fr hp.fr (by simp) (by simp)).told (dl4 ds)
  rw [List.length_map] at hlen
  have hc1 := hp.old h.cells
  have w1 : IntKind.u64.wrap (ds.length : Int) = (ds.length : Int) := wrap_u64 (by omega) (by omega)
  have gp : ipureL (gmc g x y) = true := h.gr.pure
  have e8 : magicB.length = 8 := rfl
  unfold l_replay_Tape_Bytes_k3
  simp -implicitDefEqProofs only [go_sem, dnW_ite, go_sem_proc, hc1, inb hc1, dcp hgb (by simp [ipureL, ipure, gp]), hlen, ↓w1, nB_i ho.1 ho.2, ↓dnW_ocr]
  refine WP_penBl hgl hp.at' (by omega) (fun J' => by simp -implicitDefEqProofs only [go_sem, dnW_ite, go_sem_proc, hc1, hp.no hl0]) fun J2 s2 p2 u2 => ?_
  have hp := hp.upd p2 u2
  have hc1 := hp.old h.cells
  simp -implicitDefEqProofs only [go_sem, dnW_ite, go_sem_proc, ↓dnW_ocr]
  refine WP_penB hp.at' (by have := blobB_len (gameB g); rw [List.length_append]; omega) (fun J' => by simp -implicitDefEqProofs only [go_sem, dnW_ite, go_sem_proc, hc1, hp.no hl0]) fun J3 s3 p3 u3 => ?_
  have hp := hp.upd p3 u3
  simp -implicitDefEqProofs only [go_sem, dnW_ite, go_sem_proc]
  refine WP_call (PNum_ok J0.size ds.length (by omega) J3 s3 _ hp.at' (by have := blobB_len (gameB g); simp only [List.length_append, List.length_cons, List.length_nil]; omega)) fun r J4 hv => ?_
  obtain ⟨rfl, s4, p4, u4⟩ := hv
  have hp := hp.upd p4 u4
  have hc1 := hp.old h.cells
  have hT := (h.fr hp.fr (by simp) (by simp)).told
  have hlen := TL.lenF hT (dl4 ds)
  rw [List.length_map] at hlen
  have hH : magicB ++ blobB (gameB g) ++ [nB o.toNat] ++ numL 9 ds.length = magicB ++ blobB (gameB g) ++ [nB o.toNat] ++ numL 9 (ds.map (·.1)).length := by rw [List.length_map]
  have hHl : (magicB ++ blobB (gameB g) ++ [nB o.toNat] ++ numL 9 ds.length).length ≤ 2100 := by
   have := blobB_len (gameB g)
   have := numL_len 9 ds.length
   simp only [List.length_append, List.length_cons, List.length_nil]; omega
  simp -implicitDefEqProofs only [go_sem, dnW_ite, go_sem_proc, hc1, inb hc1, hlen, dn_loop]
  generalize hHH : magicB ++ blobB (gameB g) ++ [nB o.toNat] ++ numL 9 ds.length = HH at *
  refine WP_range (by decide) ds.length (fun i vs J => ∃ sp, vs = [.ptr J0.size 0 0, s, nI ds.length, nI i] ∧ PenN J0 J J0.size sp (HH ++ ((ds.map (·.1)).take i).flatMap fun d => blobB (deltaB d))) ?_ ⟨s4, rfl, by simpa using hp⟩
  rintro i vs J ⟨sp, rfl, hp⟩ hi K1 g1 g2 g3
  have hL : (HH ++ ((ds.map (·.1)).take i).flatMap fun d => blobB (deltaB d)).length ≤ 2100 + 451 * 1000 := by
   have := tapeS_len (ds := (ds.map (·.1)).take i) (fun d hd => by
    obtain ⟨e, he, rfl⟩ := List.mem_map.1 (List.mem_of_mem_take hd)
    exact (h.each e he).2.2)
   rw [List.length_take, List.length_map] at this
   rw [List.length_append]; omega
  unfold l_replay_Tape_Bytes_k1
  by_cases hlt : i < ds.length
  ·have hw1 := wrapS hlt (show ds.length ≤ 9223372036854775807 by omega)
   have hE := h.each ds[i] (List.getElem_mem hlt)
   obtain ⟨db, hdb, hdl⟩ := dBytes_ok _ _ _ hE.1 hE.2.2 hE.2.1
   have hdB := deltaB_len hE.2.2
   have hbl := blobB_len (deltaB ds[i].1)
   have e1 := hE.1.one
   have e2 := hE.1.pure
   have hnext : HH ++ (((ds.map (·.1)).take (i + 1)).flatMap fun d => blobB (deltaB d)) = HH ++ (((ds.map (·.1)).take i).flatMap fun d => blobB (deltaB d)) ++ blobB (deltaB ds[i].1) := by
    rw [List.take_succ_eq_append_getElem (by simpa using hlt), List.flatMap_append]; simp
   have hp1 : PenN J0 (J.push (.cells 0 (dlc3 ds[i]) false)) J0.size sp (HH ++ ((ds.map (·.1)).take i).flatMap fun d => blobB (deltaB d)) := hp.upd (hp.at'.psh _) (.push _)
   have fin : ∀ ρ : List IV, ρ.length = 7 → WP (thenD (ic BI F_ink_Pen_Blob [.ptr J0.size 0 0, db] (J.push (.cells 0 (dlc3 ds[i]) false))) (Go.Proofs.YticfcmaigffhmaaGreat.G.o (.bin .add (.tmp 3) (.const (.int .i64 1))) <| .goto 2 [(.tmp 0), (.tmp 1), (.tmp 2), (.tmp 12)]) ([.ptr J0.size 0 0, s, nI ds.length, nI i] ++ ρ)) K1 := by
    intro ρ hρ
    match ρ, hρ with
    | [r0, r1, r2, r3, r4, r5, r6], _ =>
    refine WP_bind (PBlob_ok J0.size _ sp db _ _ hdl hp1.at' (by omega)) fun r J2 hv => ?_
    obtain ⟨rfl, s2, p2, u2⟩ := hv
    have hp2 := hp1.upd p2 u2
    simp -implicitDefEqProofs only [go_sem, dnW_ite, go_sem_proc, hw1]
    refine g1 hlt _ _ ⟨s2, rfl, ?_⟩
    rw [hnext]; simpa [blobB] using hp2
   have hT2 := (h.fr hp.fr (by simp) (by simp)).told
   rcases hT2 with ⟨d0, rfl, hd0⟩ | hg
   ·have hl1 := congrArg List.length hd0
    simp only [List.length_map, List.length_cons, List.length_nil] at hl1
    obtain rfl : i = 0 := by omega
    have hd1 : d0 = dlc3 ds[0] := by
     have := congrArg (fun l => l[0]?) hd0
     simpa [hlt] using this.symm
    subst hd1
    simp -implicitDefEqProofs only [go_sem, dnW_ite, go_sem_proc, show ((0 : Nat) : Int) < (ds.length : Int) by omega, iaddrF_lst, dl_len, dl_take, dl_all, e1, dcp hdb (by simp [ipureL, ipure, e2])]
    exact fin [_, _, _, _, _, _, _] rfl
   ·obtain ⟨_, ⟨_, h0⟩ | ⟨bs, v, rest, rfl, hb, _⟩⟩ := hg.slx (dl4 ds) (by omega)
    ·simp at h0; subst h0; simp at hlt
    have hat := flat_at (rest := rest) (dl4 ds) (i := i) (by simpa using hlt)
    simp only [List.getElem_map] at hat
    have hfl := flat_len (dl4 ds)
    rw [List.length_map] at hfl
    simp -implicitDefEqProofs only [go_sem, dnW_ite, go_sem_proc, show ((i : Int) < (ds.length : Int)) by omega, iaddrF_sl, List.length_map, hlt, hb, hat, hfl, List.length_append, show i * 4 + 4 ≤ ds.length * 4 + rest.length by omega, dl_len, dl_take, dl_all, e1, dcp hdb (by simp [ipureL, ipure, e2])]
    simp only [List.length_map] at fin
    exact fin [_, _, _, _, _, _, _] rfl
  ·simp -implicitDefEqProofs only [go_sem, dnW_ite, go_sem_proc, show ¬ ((i : Int) < (ds.length : Int)) by omega]
   refine g2 _ _ ?_
   rw [List.take_of_length_le (by simp; omega)] at hp hL
   unfold l_replay_Tape_Bytes_k2
   have hE : HH ++ ((ds.map (·.1)).flatMap fun d => blobB (deltaB d)) = tapeL g o (ds.map (·.1)) := by rw [hH]; rfl
   rw [hE] at hp hL
   simp -implicitDefEqProofs only [go_sem, dnW_ite, go_sem_proc, dcp Make_ok rfl]
   refine WP_call (PBytesF J J0.size sp _ hp.at' (by omega)) fun r J5 hv => ?_
   obtain ⟨hr5, f5⟩ := hv
   obtain ⟨u, hu, hul⟩ := Seal_ok hr5 (by omega)
   simp -implicitDefEqProofs only [go_sem, dnW_ite, go_sem_proc, dcp hu (by simp [ipureL, ipure, tabL_pure, hr5.pure])]
   exact hK _ _ ⟨hul, hp.fr.trans f5 (fun d hd hm => by have := hp.ns d hm; omega)⟩
end Go.Proofs.YticfcmaigffhmaaGreat.G
namespace Go.Proofs.YticfcmaigffhmaaGreat.G
open Go
theorem step_kept (g : Gm) (hr : g.right = true) (hw : ∀ c ∈ g.code, c.wf) (ms : List (BitVec 32)) (b : Bd) (hb : b.ok) (d t : Int) : ∀ i, (g.run ms b d t).touched.getLsbD i = false → (g.run ms b d t).bd.l[i]? = b.l[i]? := by
 intro i hi
 by_cases he : (g.run ms b d t).err = 0
 ·obtain ⟨h1, h6, _⟩ := right_players hr
  have hE : (g.env ms t (.lst 1 true ((g.allF ms g.players.toNat).map (IV.int .i32)))).ok := ⟨.lst, allF_rng _ _ _, by show (g.allF ms g.players.toNat).length ≤ _; rw [allF_len]; omega⟩
  rw [← run_mv g ms b d t (.lst 1 true ((g.allF ms g.players.toNat).map (IV.int .i32)))] at he hi ⊢
  obtain ⟨m, hm, k1, k2⟩ := (keeps_run hE g.code hw b hb d false (fun e => by cases e)).2 he
  rw [k2] at hi
  rw [k1]
  exact hm.kept i hi
 ·rw [(step_err g ms b d t he).1]
theorem put_l (v : Bd) (i : Nat) (c : Cl) (h : i < v.l.length) : (v.put (i : Int) c).l = v.l.set i c := by
 have : v.there (i : Int) = true := by simp [Bd.there]; exact h
 simp [Bd.put, this, Bd.set]
theorem apS_map (w : Bd) : ∀ (P : List Nat) (v : Bd), (∀ i ∈ P, i < v.l.length ∧ i < 256) → ∃ r : Bd, (P.map fun i => (BitVec.ofNat 8 i, w.at (i : Int))).foldlM apS v = some r ∧ r.l.length = v.l.length ∧ ∀ i, r.l[i]? = if i ∈ P ∧ i < v.l.length then some (w.at (i : Int)) else v.l[i]?
 | [], v, _ => ⟨v, rfl, rfl, fun i => by simp⟩
 | p :: P, v, h => by
  obtain ⟨h1, h2⟩ := h p (by simp)
  have hn : (BitVec.ofNat 8 p).toNat = p := by rw [BitVec.toNat_ofNat]; exact Nat.mod_eq_of_lt h2
  have hth : v.there (p : Int) = true := by simp [Bd.there]; exact h1
  have hpl := put_l v p (w.at (p : Int)) h1
  have hlen : (v.put (p : Int) (w.at (p : Int))).l.length = v.l.length := by rw [hpl, List.length_set]
  obtain ⟨r, r1, r2, r3⟩ := apS_map w P (v.put (p : Int) (w.at (p : Int))) fun i hi => by rw [hlen]; exact h i (by simp [hi])
  refine ⟨r, ?_, by rw [r2, hlen], fun i => ?_⟩
  ·rw [List.map_cons, List.foldlM_cons]
   simp only [apS, hn, hth, if_true]
   exact r1
  ·rw [r3, hlen, hpl]
   by_cases hi : i ∈ P ∧ i < v.l.length
   ·rw [if_pos hi, if_pos ⟨by simp [hi.1], hi.2⟩]
   ·rw [if_neg hi]
    by_cases hp : i = p
    ·subst hp
     rw [if_pos ⟨by simp, h1⟩, List.getElem?_set_self h1]
    ·rw [List.getElem?_set_ne (fun e => hp e.symm)]
     rw [if_neg]
     rintro ⟨hm, hl⟩
     rcases List.mem_cons.1 hm with hm | hm
     ·exact hp hm
     ·exact hi ⟨hm, hl⟩
theorem apply_step (b b' : Bd) (hl : b'.l.length = b.l.length) (q : BitVec 64) (hq : ∀ i, q.getLsbD i = false → b'.l[i]? = b.l[i]?) (o : Int) (t : BitVec 32) : applyF (ofF b' q o t b'.l.length) (b.view o) = (b'.view o, 0) := by
 have hv : (b.view o).l.length = b.l.length := by simp [Bd.view, Bd.map]
 have hv' : (b'.view o).l.length = b'.l.length := by simp [Bd.view, Bd.map]
 have hb := b'.h
 have hz : (ofF b' q o t b'.l.length).ps.zip (ofF b' q o t b'.l.length).cs = (ofP q b'.l.length).map fun (i : Nat) => (BitVec.ofNat 8 i, (b'.view o).at (i : Int)) := by
  simp only [ofF, List.zip_map']
 obtain ⟨r, r1, r2, r3⟩ := apS_map (b'.view o) (ofP q b'.l.length) (b.view o) fun i hi => by
  have := (ofP_mem.1 hi).1
  rw [hv]; omega
 have hr : r = b'.view o := by
  apply Bd.ext
  apply List.ext_getElem?
  intro i
  rw [r3]
  by_cases hi : i < b'.l.length
  ·by_cases hqi : q.getLsbD i = true
   ·rw [if_pos ⟨ofP_mem.2 ⟨hi, hqi⟩, by rw [hv]; omega⟩]
    have : i < (b'.view o).l.length := by rw [hv']; exact hi
    simp [Bd.at, List.getD_eq_getElem?_getD, this]
   ·rw [if_neg (fun e => hqi (ofP_mem.1 e.1).2)]
    have := hq i (by simpa using hqi)
    simp only [Bd.view, Bd.map, List.getElem?_map, this]
  ·rw [if_neg (fun e => by have := e.2; rw [hv] at this; omega)]
   rw [List.getElem?_eq_none (by rw [hv]; omega), List.getElem?_eq_none (by rw [hv']; omega)]
 simp only [applyF, hz, r1, hr]
 rw [if_pos (show sumB true (b'.view o) = (ofF b' q o t b'.l.length).h from rfl)]
theorem EyeAt.reach {J : JH} {b : Nat} {st : Option (List Byt)} (h : EyeAt J b st) : rchF J [.ptr b 0 0] = some [b] := by
 obtain ⟨x, h1, h2, _⟩ := h
 have hx : irefsL [x] = [] := irefsL_pure _ (by simp [ipureL, h2.pure])
 have hr : refsB J b = [] := by
  have : irefsL [x, .bool st.isNone] = irefsL [x] := by simp [irefsL, irefs]
  simp only [refsB, h1, this, hx]
 have key : ∀ k, reachN J (k + 1) [b] = [b] := fun k => by simp [reachN, hr]
 have h40 := key 39
 simp only [rchF, Go.Proofs.YticfcmaigffhmaaGreat.G.reach, irefsL, irefs, List.append_nil, h40]
 simp [hr]
def eCp (st : Option (List Byt)) : (Byt × Cl) × Option (List Byt) := (((eByte st).1, (eCl (eByte st).2).1), (eCl (eByte st).2).2)
def eCps : Nat → Option (List Byt) → List (Byt × Cl) × Option (List Byt)
 | 0, st => ([], st)
 | k + 1, st => ((eCp st).1 :: (eCps k (eCp st).2).1, (eCps k (eCp st).2).2)
theorem eCps_len : ∀ (k : Nat) (st : Option (List Byt)), (eCps k st).1.length = k
 | 0, st => rfl
 | k + 1, st => by rw [eCps, List.length_cons, eCps_len k]
def dlOf (t h : BitVec 32) (l : List (Byt × Cl)) : Dl := ⟨t, h, l.map (·.1), l.map (·.2)⟩
def Dz : Dl := ⟨0#32, 0#32, [], []⟩
def deltaP (bs : List Byt) : Option Dl :=
 if eDone (eCps (eByte (eWord (eWord (some bs)).2).2).1.toNat (eByte (eWord (eWord (some bs)).2).2).2).2 = true ∧ (dlOf (eWord (some bs)).1 (eWord (eWord (some bs)).2).1 (eCps (eByte (eWord (eWord (some bs)).2).2).1.toNat (eByte (eWord (eWord (some bs)).2).2).2).1).ok = true then
  some (dlOf (eWord (some bs)).1 (eWord (eWord (some bs)).2).1 (eCps (eByte (eWord (eWord (some bs)).2).2).1.toNat (eByte (eWord (eWord (some bs)).2).2).2).1)
 else none
structure PD (J : JH) (q : Nat) (px cx : IV) (t h : BitVec 32) (l : List (Byt × Cl)) (st : Option (List Byt)) : Prop where
 eye : EyeAt J 1 st
 box : J[q]? = some (.cells 0 (dlc (dlOf t h l) px cx) false)
 zero : J[0]? = some (.cells 0 (dlc Dz nilS nilS) false)
 gp : Grow J px 1 ((l.map (·.1)).map by8)
 gc : Grow J cx 2 ((l.map (·.2)).map Cl.c).flatten
 np : ∀ k ∈ blk px, k ≠ 0 ∧ k ≠ 1 ∧ k ≠ q
 nc : ∀ k ∈ blk cx, k ≠ 0 ∧ k ≠ 1 ∧ k ≠ q
 dis : ∀ k ∈ blk px, k ∉ blk cx
theorem dParse_step {J : JH} {px cx : IV} {st : Option (List Byt)} {t h : BitVec 32} {l : List (Byt × Cl)} (q : Nat) (hq : 2 ≤ q) (n : Byt) (i : Nat) (hi : i < n.toNat) (H : PD J q px cx t h l st) (hl : l.length = i) (K : Out IV → JH → Prop)
  (hk : ∀ px' cx' J', PD J' q px' cx' t h (l ++ [(eCp st).1]) (eCp st).2 → K (.goto 1 [.ptr 0 0 0, .ptr 1 0 0, .ptr q 0 0, by8 n, .int .u8 ((i + 1 : Nat) : Int)]) J') :
  WP (dn BI l_delta_Parse_k0 [.ptr 0 0 0, .ptr 1 0 0, .ptr q 0 0, by8 n, .int .u8 (i : Int)] J) K := by
 have hnl := n.isLt
 have hw1 : IntKind.u8.wrap ((i : Int) + 1) = ((i + 1 : Nat) : Int) := by
  simp only [IntKind.wrap, IntKind.bits, IntKind.signed]; simp; omega
 unfold eCp eCl at hk
 unfold l_delta_Parse_k0
 have hbx := H.box
 have hc1 : ([1] : List Nat).contains q = false := by simp; omega
 simp -implicitDefEqProofs only [go_sem, dnW_ite, go_sem_proc, show ((i : Int) < (n.toNat : Int)) by omega, hbx, ↓dnW_ocr]
 rw [H.eye.reach]
 refine WP_bindC (EByte_ok H.eye) fun v J1 hv => ?_
 obtain ⟨rfl, h1, f1⟩ := hv
 have hbx1 : J1[q]? = _ := (f1.2 q (lt_get hbx) (by simp; omega)).trans hbx
 refine ⟨by simp -implicitDefEqProofs only [go_sem, dnW_ite, go_sem_proc, hbx, hbx1, hc1], ?_⟩
 have gp1 := H.gp.fr f1 fun k hk hm => by simp at hm; exact (H.np k hk).2.1 hm
 have gc1 := H.gc.fr f1 fun k hk hm => by simp at hm; exact (H.nc k hk).2.1 hm
 have z1 : J1[0]? = _ := (f1.2 0 (lt_get H.zero) (by simp)).trans H.zero
 generalize eByte st = e1 at *
 simp -implicitDefEqProofs only [go_sem, dnW_ite, go_sem_proc]
 refine WP_bind (gp1.app (m := 1) (ds := [by8 e1.1]) (by omega) rfl rfl rfl rfl (fits1 (by simp; omega))) fun px' J2 hs => ?_
 obtain ⟨q1, q2, q3⟩ := hs
 have hbx2 : J2[q]? = _ := (q2.2 q (lt_get hbx1) (fun hm => (H.np q hm).2.2 rfl)).trans hbx1
 have z2 : J2[0]? = _ := (q2.2 0 (lt_get z1) (fun hm => (H.np 0 hm).1 rfl)).trans z1
 have h2 := h1.fr q2 (fun hm => (H.np 1 hm).2.1 rfl)
 have gc2 := gc1.fr q2 fun k hk hm => H.dis k hm hk
 have l1 := lt_get hbx1
 have l2 := lt_get hbx2
 have lo1 := lt_get h1.choose_spec.1
 have lgc := gc1.low
 have np' : ∀ k ∈ blk px', k ≠ 0 ∧ k ≠ 1 ∧ k ≠ q := fun k hk => by
  rcases q3 k hk with h' | h'
  ·exact H.np k h'
  ·omega
 have dis' : ∀ k ∈ blk px', k ∉ blk cx := fun k hk hm => by
  rcases q3 k hk with h' | h'
  ·exact H.dis k h' hm
  ·have := lgc k hm; omega
 simp -implicitDefEqProofs only [go_sem, dnW_ite, go_sem_proc, hbx2, inb hbx2, ↓q1.icells, ↓q1.one, dl_s2]
 have fs := Fr.set J2 (b := q) (.cells 0 (dlc (dlOf t h l) px' cx) false) (S := [q]) (by simp)
 have h3 := h2.fr fs (by simp; omega)
 have hbx3 := set_get (X := IB.cells 0 (dlc (dlOf t h l) px' cx) false) (J := J2) (b := q) l2
 have z3 := (fs.2 0 (lt_get z2) (by simp; omega)).trans z2
 have gp3 := q1.fr fs fun k hk hm => by simp at hm; exact (np' k hk).2.2 hm
 have gc3 := gc2.fr fs fun k hk hm => by simp at hm; exact (H.nc k hk).2.2 hm
 generalize J2.setIfInBounds q (.cells 0 (dlc (dlOf t h l) px' cx) false) = J3 at *
 refine WP_call (EWord_ok h3) fun v J4 hv => ?_
 obtain ⟨rfl, h4, f4⟩ := hv
 simp -implicitDefEqProofs only [go_sem, dnW_ite, go_sem_proc]
 refine WP_call (EWord_ok h4) fun v J5 hv => ?_
 obtain ⟨rfl, h5, f5⟩ := hv
 have f45 := f4.trans f5 (fun _ _ h => h)
 have hbx5 : J5[q]? = _ := (f45.2 q (lt_get hbx3) (by simp; omega)).trans hbx3
 have z5 : J5[0]? = _ := (f45.2 0 (lt_get z3) (by simp)).trans z3
 have gp5 := gp3.fr f45 fun k hk hm => by simp at hm; exact (np' k hk).2.1 hm
 have gc5 := gc3.fr f45 fun k hk hm => by simp at hm; exact (H.nc k hk).2.1 hm
 generalize eWord e1.2 = w1 at *
 generalize eWord w1.2 = w2 at *
 simp -implicitDefEqProofs only [go_sem, dnW_ite, go_sem_proc, hbx5, inb hbx5, wrapI32, ipureL, ipure, grp, mkE, List.headD]
 refine WP_bind (gc5.app (m := 1) (ds := [.int .i32 w1.1.toInt, m32 w2.1]) (by omega) rfl rfl rfl rfl (fits8 ?_)) fun cx' J6 hs => ?_
 ·rw [flat_len (cl2 _), List.length_map, List.length_map]; omega
 obtain ⟨r1, r2, r3⟩ := hs
 have hbx6 : J6[q]? = _ := (r2.2 q (lt_get hbx5) (fun hm => (H.nc q hm).2.2 rfl)).trans hbx5
 have z6 : J6[0]? = _ := (r2.2 0 (lt_get z5) (fun hm => (H.nc 0 hm).1 rfl)).trans z5
 have h6 := h5.fr r2 (fun hm => (H.nc 1 hm).2.1 rfl)
 have gp6 := gp5.fr r2 dis'
 have l6 := lt_get hbx6
 have l5 := lt_get hbx5
 have lo5 := lt_get h5.choose_spec.1
 have lgp := gp5.low
 have nc' : ∀ k ∈ blk cx', k ≠ 0 ∧ k ≠ 1 ∧ k ≠ q := fun k hk => by
  rcases r3 k hk with h' | h'
  ·exact H.nc k h'
  ·omega
 simp -implicitDefEqProofs only [go_sem, dnW_ite, go_sem_proc, hbx6, inb hbx6, ↓r1.icells, ↓r1.one, dl_s3, hw1]
 have fs6 := Fr.set J6 (b := q) (.cells 0 (dlc (dlOf t h l) px' cx') false) (S := [q]) (by simp)
 refine hk px' cx' _ ⟨h6.fr fs6 (by simp; omega), ?_, (fs6.2 0 (lt_get z6) (by simp; omega)).trans z6, ?_, ?_, np', nc', fun k hk hm => ?_⟩
 ·rw [set_get _ l6]; rfl
 ·simp only [List.map_append, List.map_cons, List.map_nil] at gp6 ⊢
  exact gp6.fr fs6 fun k hk hm => by simp at hm; exact (np' k hk).2.2 hm
 ·rw [List.map_append, List.map_append, List.flatten_append]
  simp only [List.map_cons, List.map_nil, List.flatten_cons, List.flatten_nil, List.append_nil]
  exact r1.fr fs6 fun k hk hm => by simp at hm; exact (nc' k hk).2.2 hm
 ·rcases r3 k hm with h' | h'
  ·exact dis' k hk h'
  ·have := lgp k hk; omega
theorem DParse_ok {x : IV} {bs : List Byt} (hx : Ls 1 x (bs.map by8)) (hb : bs.length ≤ 1000000) : ∃ u, pc BI F_delta_Parse [x] = some u ∧ match deltaP bs with | some d => ∃ x2 y2, u = .tup [.agg (dlc d x2 y2), nI 0] ∧ DR d x2 y2 | none => u = .tup [.agg (dlc Dz nilS nilS), nI 2] := by
 refine pcW fn_delta_Parse rfl fun K hK => ?_
 unfold l_delta_Parse
 simp -implicitDefEqProofs only [go_sem, dnW_ite, go_sem_proc]
 refine WP_call (Read_ok hx hb) fun v J1 hv => ?_
 obtain ⟨hr, h1, f1, hs⟩ := hv
 have hr : v = .ptr 1 0 0 := hr
 subst hr
 have h1 : EyeAt J1 1 (some bs) := h1
 have hs1 : J1.size = 2 := hs
 have z1 : J1[0]? = some (.cells 0 (dlc Dz nilS nilS) false) := by rw [f1.2 0 (by simp) (by simp)]; rfl
 have keep : ∀ {J J' : JH}, J[0]? = some (.cells 0 (dlc Dz nilS nilS) false) → Fr J J' [1] → J'[0]? = some (.cells 0 (dlc Dz nilS nilS) false) := fun h f => by rw [f.2 0 (lt_get h) (by simp)]; exact h
 unfold deltaP at hK
 simp -implicitDefEqProofs only [go_sem, dnW_ite, go_sem_proc]
 refine WP_call (EWord_ok h1) fun v J2 hv => ?_
 obtain ⟨rfl, h2, f2⟩ := hv
 have z2 := keep z1 f2
 generalize eWord (some bs) = t at *
 simp -implicitDefEqProofs only [go_sem, dnW_ite, go_sem_proc]
 refine WP_call (EWord_ok h2) fun v J3 hv => ?_
 obtain ⟨rfl, h3, f3⟩ := hv
 have z3 := keep z2 f3
 generalize eWord t.2 = h at *
 have hs3 : 2 ≤ J3.size := by have := f2.1; have := f3.1; omega
 simp -implicitDefEqProofs only [go_sem, dnW_ite, go_sem_proc]
 have h6 : EyeAt (J3.push (IB.cells 0 (dlc (dlOf t.1 h.1 []) nilS nilS) false)) 1 h.2 := h3.fr (.push _ _ []) (by simp)
 have z6 : (J3.push (IB.cells 0 (dlc (dlOf t.1 h.1 []) nilS nilS) false))[0]? = some (.cells 0 (dlc Dz nilS nilS) false) := by
  rw [Array.getElem?_push, if_neg (by omega)]; exact z3
 have hJ6 := push_get J3 (IB.cells 0 (dlc (dlOf t.1 h.1 []) nilS nilS) false)
 refine WP_join fun K2 j1 j2 j3 => ?_
 refine WP_call (EByte_ok h6) fun v J7 hv => ?_
 obtain ⟨rfl, h7, f7⟩ := hv
 have z7 := keep z6 f7
 have hJ7 : J7[J3.size]? = some (IB.cells 0 (dlc (dlOf t.1 h.1 []) nilS nilS) false) := by rw [f7.2 J3.size (lt_get hJ6) (by simp; omega)]; exact hJ6
 generalize J3.size = q at *
 generalize eByte h.2 = c at *
 simp -implicitDefEqProofs only [go_sem, dnW_ite, go_sem_proc, dn_loop]
 have hcl := c.1.isLt
 refine WP_rangeT c.1.toNat (fun i vs J => ∃ px cx st l, vs = [.ptr 0 0 0, .ptr 1 0 0, .ptr q 0 0, by8 c.1, .int .u8 (i : Int)] ∧ PD J q px cx t.1 h.1 l st ∧ l.length = i ∧ eCps c.1.toNat c.2 = (l ++ (eCps (c.1.toNat - i) st).1, (eCps (c.1.toNat - i) st).2)) ?_ ⟨nilS, nilS, c.2, [], rfl, ⟨h7, hJ7, z7, .nil, .nil, by simp [blk, blkOf], by simp [blk, blkOf], by simp [blk, blkOf]⟩, rfl, by simp⟩
 rintro i vs J ⟨px, cx, st, l, rfl, H, hl, he⟩ hi K1 g1 g2 g3
 by_cases hlt : i < c.1.toNat
 ·refine dParse_step q hs3 c.1 i hlt H hl _ fun px' cx' J' H' => ?_
  refine g1 hlt _ _ ⟨px', cx', (eCp st).2, l ++ [(eCp st).1], rfl, H', by simp [hl], ?_⟩
  rw [he, show c.1.toNat - i = (c.1.toNat - (i + 1)) + 1 by omega, eCps]
  simp
 ·unfold l_delta_Parse_k0
  simp -implicitDefEqProofs only [go_sem, dnW_ite, go_sem_proc, show ¬ ((i : Int) < (c.1.toNat : Int)) by omega]
  refine g2 _ _ _ (by decide) (j1 _ _ ?_)
  obtain rfl : i = c.1.toNat := by omega
  rw [Nat.sub_self, eCps, List.append_nil] at he
  simp only [he] at hK
  have hbx := H.box
  have hz := H.zero
  have hql := lt_get hbx
  have hpp : (dlOf t.1 h.1 l).ps = l.map (·.1) := rfl
  have hcc : (dlOf t.1 h.1 l).cs = l.map (·.2) := rfl
  unfold l_delta_Parse_k1
  simp -implicitDefEqProofs only [go_sem, dnW_ite, go_sem_proc]
  refine WP_call (EDone_ok H.eye) fun v J8 hv => ?_
  obtain ⟨rfl, rfl⟩ := hv
  have h2t : (((2 : Nat) : Int) != 0) = true := rfl
  have h0f : (((0 : Nat) : Int) != 0) = false := rfl
  have hz2 : isplice (dlc Dz nilS nilS) 0 [IV.sc (Value.int IntKind.u32 0), IV.sc (Value.int IntKind.u32 0), nilS, nilS] = dlc Dz nilS nilS := rfl
  cases hd : eDone st with
  | false =>
   rw [hd] at hK
   simp -implicitDefEqProofs only [go_sem, dnW_ite, go_sem_proc, h2t, hz, inb hz, hz2, dl_take]
   exact hK [_, _] _ _ (frzP rfl) (by rw [if_neg (by simp)]; rfl)
  | true =>
   rw [hd] at hK
   have hll : l.length ≤ 255 := by omega
   obtain ⟨u1, hu1, hl1⟩ := H.gp.frzE1 by8_pure by8_one
   obtain ⟨u2, hu2, hl2⟩ := H.gc.frzX (cl2 _) (by omega) (cl_pure _) (flat_one _)
   rw [cl_mk] at hl2
   have hDR : DR (dlOf t.1 h.1 l) u1 u2 := ⟨hl1, hl2⟩
   have hR := dRight_ok _ u1 u2 hDR (by rw [hpp, List.length_map]; omega)
   have hargs : [IV.agg (dlc (dlOf t.1 h.1 l) px cx)].mapM (frz J8 DEP) = some [.agg (dlc (dlOf t.1 h.1 l) u1 u2)] := by
    have := frz_dlc (d := dlOf t.1 h.1 l) hu1 hu2 10
    simp only [List.mapM_cons, List.mapM_nil, show frz J8 DEP _ = _ from this]; rfl
   simp -implicitDefEqProofs only [go_sem, dnW_ite, go_sem_proc, h0f, hbx, inb hbx, dl_take]
   refine WP_callS hargs hR rfl ?_
   cases hr : (dlOf t.1 h.1 l).ok with
   | false =>
    rw [hr] at hK
    simp -implicitDefEqProofs only [go_sem, dnW_ite, go_sem_proc, hz, inb hz, hz2, dl_take]
    exact hK [_, _] _ _ (frzP rfl) (by rw [if_neg (by simp)]; rfl)
   | true =>
    rw [hr] at hK
    have hone := dl_one (d := dlOf t.1 h.1 l) H.gp.one H.gc.one
    simp -implicitDefEqProofs only [go_sem, dnW_ite, go_sem_proc, hbx, inb hbx, hz, inb hz, hone, dl_all, dl_take]
    have fs := Fr.set J8 (b := 0) (IB.cells 0 (dlc (dlOf t.1 h.1 l) px cx) false) (S := [0]) (by simp)
    have gp := H.gp.fr fs (fun c hc hm => by simp at hm; exact (H.np c hc).1 hm)
    have gc := H.gc.fr fs (fun c hc hm => by simp at hm; exact (H.nc c hc).1 hm)
    generalize J8.setIfInBounds 0 (IB.cells 0 (dlc (dlOf t.1 h.1 l) px cx) false) = J9 at *
    obtain ⟨u1, hu1, hl1⟩ := gp.frzE1 by8_pure by8_one
    obtain ⟨u2, hu2, hl2⟩ := gc.frzX (cl2 _) (by omega) (cl_pure _) (flat_one _)
    rw [cl_mk] at hl2
    have hfz := frz_dlc (d := dlOf t.1 h.1 l) hu1 hu2 9
    refine hK [_, _] _ (.tup [.agg (dlc (dlOf t.1 h.1 l) u1 u2), nI 0]) ?_ (by rw [if_pos (by simp)]; exact ⟨u1, u2, rfl, ⟨hl1, hl2⟩⟩)
    have hz : frz J9 11 (.int .i64 0) = some (nI 0) := frz_pure _ _ rfl
    exact frz_tupL (by simp only [List.mapM_cons, List.mapM_nil, show frz J9 11 _ = _ from hfz, hz]; rfl)
theorem eCp_on {z : Byt × Cl} (h : I32 z.2.v) (r : List Byt) : eCp (some (cpB z ++ r)) = (z, some r) := by
 obtain ⟨p, c⟩ := z
 have e : cpB (p, c) ++ r = p :: (clB c ++ r) := by simp [cpB, clB]
 rw [e, eCp, eByte_on]
 simp only [eCl_on h]
theorem eCps_on : ∀ (l : List (Byt × Cl)) (r : List Byt), (∀ z ∈ l, I32 z.2.v) → eCps l.length (some (l.flatMap cpB ++ r)) = (l, some r)
 | [], r, _ => by simp [eCps]
 | z :: l, r, h => by
  rw [List.length_cons, eCps, List.flatMap_cons, List.append_assoc, eCp_on (h z (by simp)), eCps_on l r fun c hc => h c (by simp [hc])]
theorem deltaP_on {d : Dl} (hk : d.ok = true) (hl : d.ps.length ≤ 48) (hv : ∀ c ∈ d.cs, I32 c.v) : deltaP (deltaB d) = some d := by
 have he : d.ps.length = d.cs.length := by simp only [Dl.ok, Bool.and_eq_true, decide_eq_true_eq] at hk; exact hk.2
 have e1 : eWord (some (deltaB d)) = (d.t, some (leW d.h ++ ([nB d.ps.length] ++ (d.ps.zip d.cs).flatMap cpB))) := by
  rw [deltaB, List.append_assoc, List.append_assoc]; exact eWord_on _ _
 have e2 : eWord (some (leW d.h ++ ([nB d.ps.length] ++ (d.ps.zip d.cs).flatMap cpB))) = (d.h, some ([nB d.ps.length] ++ (d.ps.zip d.cs).flatMap cpB)) := eWord_on _ _
 have e3 : eByte (some ([nB d.ps.length] ++ (d.ps.zip d.cs).flatMap cpB)) = (nB d.ps.length, some ((d.ps.zip d.cs).flatMap cpB)) := rfl
 have hz : (d.ps.zip d.cs).length = d.ps.length := by rw [List.length_zip]; omega
 have e4 := eCps_on (d.ps.zip d.cs) [] fun z hm => hv z.2 (List.of_mem_zip hm).2
 rw [hz, List.append_nil] at e4
 have e5 : dlOf d.t d.h (d.ps.zip d.cs) = d := by
  unfold dlOf
  rw [List.map_fst_zip (by omega), List.map_snd_zip (by omega)]
 unfold deltaP
 simp only [e1, e2, e3, toNat_nB (show d.ps.length < 256 by omega), e4, e5]
 rw [if_pos ⟨by simp [eDone], hk⟩]
def fullP (ps : List Byt) : Bool := (List.range ps.length).all fun i => (ps.getD i 0#8).toNat == i
def boardF (d : Dl) : Bd × Int := if fullP d.ps = true then (if d.cs.length ≤ 48 then (if sumB true (Bd.new d.cs) = d.h then (Bd.new d.cs, 0) else (Bd.z, 13)) else (Bd.z, 2)) else (Bd.z, 2)
theorem dBoard_ok (d : Dl) (x y : IV) (h : DR d x y) (hk : d.ok = true) (hb : d.ps.length ≤ 9223372036854775807) : pc BI F_delta_Delta_Board [.agg (dlc d x y)] = some (.tup [.agg (bdc (boardF d).1), .int .i64 (boardF d).2]) := by
 have he : d.ps.length = d.cs.length := by simp only [Dl.ok, Bool.and_eq_true, decide_eq_true_eq] at hk; exact hk.2
 refine pcE fn_delta_Delta_Board rfl fun K hK => ?_
 unfold l_delta_Delta_Board
 have ho := h.one
 simp -implicitDefEqProofs only [go_sem, dnW_ite, go_sem_proc, ho, dn_loop, h.x.lenF, List.length_map, zc_bd]
 have z97 : ∀ b : Bd, isplice (bdc b) 0 (bdc Bd.z) = bdc Bd.z := fun b => bdc_all _ _
 refine WP_range (by decide) d.ps.length (fun i vs J => vs = [.ptr 0 0 0, .ptr 1 0 0, x, nI d.ps.length, nI i] ∧ J = #[.cells 0 (dlc d x y) false, .cells 0 (bdc Bd.z) false] ∧ ∀ k < i, (d.ps.getD k 0#8).toNat = k) ?_ ⟨rfl, rfl, by simp⟩
 rintro i vs J ⟨rfl, rfl, hok⟩ hi K1 g1 g2 g3
 unfold l_delta_Delta_Board_k0
 by_cases hlt : i < d.ps.length
 ·have hat := fun J => h.x.at (i := i) (by simpa using hlt) (J := J)
  simp only [List.getElem_map] at hat
  have hw1 := wrapS hlt hb
  have hgi : d.ps.getD i 0#8 = d.ps[i] := by simp [hlt]
  by_cases c1 : d.ps[i].toNat = i
  ·have hwi : IntKind.i64.wrap (i : Int) = (i : Int) := wrap_i64 (by omega) (by omega)
   simp -implicitDefEqProofs only [go_sem, dnW_ite, go_sem_proc, show ((i : Int) < (d.ps.length : Int)) by omega, hat, i64B8, c1, hwi, hw1, bne_self_eq_false]
   refine g1 hlt _ _ ⟨rfl, rfl, fun k hk => ?_⟩
   rcases Nat.lt_or_ge k i with h' | h'
   ·exact hok k h'
   ·obtain rfl : k = i := by omega
    rw [hgi]; exact c1
  ·have hne : ((d.ps[i].toNat : Int) != (i : Int)) = true := by simp; omega
   have hf : boardF d = (Bd.z, 2) := by
    have : fullP d.ps = false := by
     rw [fullP, List.all_eq_false]
     exact ⟨i, by simpa using hlt, by rw [hgi]; simpa using c1⟩
    simp [boardF, this]
   rw [hf] at hK
   simp -implicitDefEqProofs only [go_sem, dnW_ite, go_sem_proc, show ((i : Int) < (d.ps.length : Int)) by omega, hat, i64B8, hne, bdc_len, bdc_take, bdc_all, zc_bd, bdc_one]
   exact g3 _ _ (hK _ _ (frzE (by simp [itup, ipure, ipureL, bdc_pure]) rfl))
 ·simp -implicitDefEqProofs only [go_sem, dnW_ite, go_sem_proc, show ¬ ((i : Int) < (d.ps.length : Int)) by omega]
  refine g2 _ _ ?_
  have hN := New_ok y d.cs h.y (by omega)
  have hfp : fullP d.ps = true := by
   rw [fullP, List.all_eq_true]
   intro k hk
   have := hok k (by have := List.mem_range.1 hk; omega)
   simpa using this
  unfold l_delta_Delta_Board_k1
  by_cases h48 : d.cs.length ≤ 48
  ·rw [if_pos h48] at hN
   by_cases hs : sumB true (Bd.new d.cs) = d.h
   ·have hf : boardF d = (Bd.new d.cs, 0) := by simp [boardF, hfp, h48, hs]
    rw [hf] at hK
    have hs' : (((sumB true (Bd.new d.cs)).toNat : Int) != (d.h.toNat : Int)) = false := by simp [hs]
    simp -implicitDefEqProofs only [go_sem, dnW_ite, go_sem_proc, dcp hN (by simp [ipureL, h.y.pure]), h.x.lenF, h.y.lenF, List.length_map, he, bne_self_eq_false, bdc_len, bdc_take, bdc_all, zc_bd, bdc_one, dcp (Hash_ok (Bd.new d.cs)) (by simp [ipureL, ipure, bdc_pure]), hs']
    rw [if_neg (by decide)]
    exact hK _ _ (frzE (by simp [itup, ipure, ipureL, bdc_pure]) rfl)
   ·have hf : boardF d = (Bd.z, 13) := by simp [boardF, hfp, h48, hs]
    rw [hf] at hK
    have hs' : (((sumB true (Bd.new d.cs)).toNat : Int) != (d.h.toNat : Int)) = true := by simp only [bne_iff_ne, ne_eq]; exact fun e => hs (BitVec.eq_of_toNat_eq (Int.ofNat.inj e))
    simp -implicitDefEqProofs only [go_sem, dnW_ite, go_sem_proc, dcp hN (by simp [ipureL, h.y.pure]), h.x.lenF, h.y.lenF, List.length_map, he, bne_self_eq_false, bdc_len, bdc_take, bdc_all, zc_bd, bdc_one, dcp (Hash_ok (Bd.new d.cs)) (by simp [ipureL, ipure, bdc_pure]), hs']
    rw [if_neg (by decide)]
    exact hK _ _ (frzE (by simp [itup, ipure, ipureL, bdc_pure]) rfl)
  ·rw [if_neg h48] at hN
   have hf : boardF d = (Bd.z, 2) := by simp [boardF, hfp, h48]
   rw [hf] at hK
   simp -implicitDefEqProofs only [go_sem, dnW_ite, go_sem_proc, dcp hN (by simp [ipureL, h.y.pure]), bdc_len, bdc_take, bdc_all, zc_bd, bdc_one]
   rw [if_pos (by decide)]
   exact hK _ _ (frzE (by simp [itup, ipure, ipureL, bdc_pure]) rfl)
def rlc (g : Gm) (x y : IV) (o : Int) (s : IV) : List IV := gmc g x y ++ [.int .i64 o, s]
section
variable {g : Gm} {x y : IV} {o : Int} {s : IV}
theorem rl_len : (rlc g x y o s).length = 8 := rfl
theorem rl_take : (rlc g x y o s).take 8 = rlc g x y o s := rfl
theorem rl_g : (rlc g x y o s).take 6 = gmc g x y := rfl
theorem rl_0 : ((rlc g x y o s).drop 0).take 1 = [.int .i64 g.obs] := rfl
theorem rl_00 : (rlc g x y o s).take 1 = [.int .i64 g.obs] := rfl
theorem rl_4 : ((rlc g x y o s).drop 4).take 1 = [x] := rfl
theorem rl_6 : ((rlc g x y o s).drop 6).take 1 = [.int .i64 o] := rfl
theorem rl_7 : ((rlc g x y o s).drop 7).take 1 = [s] := rfl
theorem rl_s7 (s2 : IV) : isplice (rlc g x y o s) 7 [s2] = rlc g x y o s2 := rfl
end
attribute [go_sem] rl_len rl_take rl_g rl_0 rl_00 rl_4 rl_6 rl_7 rl_s7
abbrev vwc (e : Bd × BitVec 32) : List IV := stc e.1 0 (e.2.toNat : Int)
structure ReelAt (J : JH) (r : Nat) (g : Gm) (x y : IV) (o : Int) (s : IV) (ws : List (Bd × BitVec 32)) : Prop where
 cells : J[r]? = some (.cells 0 (rlc g x y o s) false)
 vws : Grow J s 99 (ws.map vwc).flatten
 gr : GR g x y
 off : r ∉ blk s
theorem ReelAt.fr {J J' : JH} {r g x y o s ws} {S : List Nat} (h : ReelAt J r g x y o s ws) (hf : Fr J J' S) (hc : r ∉ S) (hs : ∀ q ∈ blk s, q ∉ S) : ReelAt J' r g x y o s ws :=
 ⟨by rw [hf.2 r (lt_get h.cells) hc]; exact h.cells, h.vws.fr hf hs, h.gr, h.off⟩
theorem vwc99 (ws : List (Bd × BitVec 32)) : ∀ e ∈ ws.map vwc, e.length = 99 := by
 intro e he; obtain ⟨d, _, rfl⟩ := List.mem_map.1 he; exact sta_len _ _ _
def NextV (ws : List (Bd × BitVec 32)) (d : Dl) (b : Bd) : Prop := (ws = [] ∧ boardF d = (b, 0)) ∨ ∃ us v t, ws = us ++ [(v, t)] ∧ applyF d v = (b, 0) ∧ d.t.toNat = t.toNat + 1
theorem st_z99 : (reps 48 [Value.int IntKind.i32 0, Value.int IntKind.u32 0] ++ [Value.int IntKind.i64 0, Value.int IntKind.u64 0, Value.int IntKind.u32 0]).length = 99 := by kernel_rfl
theorem fits408 {n : Nat} (h : n ≤ 100000000) : fits n 408 = true := by
 simp only [fits, Bool.and_eq_true, decide_eq_true_eq]; omega
theorem follow_on {J : JH} {r : Nat} {g : Gm} {x y : IV} {o : Int} {s : IV} {ws : List (Bd × BitVec 32)} (h : ReelAt J r g x y o s ws) {w : IV} {bs : List Byt} (hw : Ls 1 w (bs.map by8)) (hb : bs.length ≤ 1000000) (d : Dl) (hd : deltaP bs = some d) (hk : d.ok = true) (h48 : d.ps.length ≤ 48) (b : Bd) (hn : NextV ws d b) (hl : b.l.length = g.cells.length) (hv : b.view o = b) (hws : ws.length ≤ 100000) :
  RP (ic BI F_replay_Reel_follow [.ptr r 0 0, w] J) fun v J' => v = .bool true ∧ ∃ s', ReelAt J' r g x y o s' (ws ++ [(b, d.t)]) ∧ Fr J J' (r :: blk s) ∧ ∀ q ∈ blk s', q ∈ blk s ∨ J.size ≤ q := by
 refine RP_run fn_replay_Reel_follow rfl fun K hK => ?_
 unfold l_replay_Reel_follow
 obtain ⟨u, hu, hu2⟩ := DParse_ok hw hb
 rw [hd] at hu2
 obtain ⟨x2, y2, rfl, hDR⟩ := hu2
 have hB := dBoard_ok d x2 y2 hDR hk (by omega)
 have do1 := hDR.one
 have dp := hDR.pure
 have h0 := h.cells
 have hl0 := lt_get h0
 have hlo := h.vws.low
 have H : ∀ J1, Fr J J1 [] → J1[J.size]? = some (.cells 0 (dlc d x2 y2) false) → J1[J.size + 1]? = some (.cells 0 (bdc b) false) → WP (dn BI l_replay_Reel_follow_k1 [.ptr r 0 0, .ptr J.size 0 0, .int .i64 0, .ptr (J.size + 1) 0 0] J1) K := by
  intro J1 f1 hd1 hb1
  have h1 := h.fr f1 (by simp) (by simp)
  have hc1 := h1.cells
  have z1 := f1.1
  have hlx := fun J => h1.gr.x.lenF (J := J)
  unfold l_replay_Reel_follow_k1
  simp -implicitDefEqProofs only [go_sem, dnW_ite, go_sem_proc, hd1, hb1, hc1, inb hd1, inb hb1, inb hc1, bdc_len, bdc_take, hlx, List.length_map, dcp (Len_ok b) (by simp [ipureL, ipure, bdc_pure]), hl, bne_self_eq_false, dcp (View_ok b o) (by simp [ipureL, ipure, bdc_pure]), hv, bdc_eq, decide_true]
  unfold l_replay_Reel_follow_k0
  have hs98 : ∀ e : BitVec 32, isplice (stc b 0 0) 98 [m32 e] = stc b 0 (e.toNat : Int) := fun e => sta_s98 b 0 0 _
  have hsp : ∀ e : Int, ipureL (stc b 0 e) = true := fun e => sta_pure b 0 e
  simp -implicitDefEqProofs only [go_sem, dnW_ite, go_sem_proc, hd1, hb1, hc1, inb hd1, inb hb1, inb hc1, bdc_len, bdc_take, st_z99, sta_z, sta_sbd, hs98, sta_len, sta_take, hsp, ipureL, ipure, grp, mkE, show (97 : Nat) ≤ 99 by omega, show (99 : Nat) ≤ 99 by omega]
  refine WP_bind (h1.vws.app (m := 1) (ds := vwc (b, d.t)) (by omega) (by simp [iscells, Go.Proofs.YticfcmaigffhmaaGreat.G.icells]) rfl (sta_len _ _ _) (sta_one _ _ _) (fits408 (by rw [flat_len (vwc99 ws), List.length_map]; omega))) fun s' J2 hs => ?_
  obtain ⟨q1, q2, q3⟩ := hs
  have hc2 : J2[r]? = some (.cells 0 (rlc g x y o s) false) := by rw [q2.2 r (lt_get hc1) h1.off]; exact hc1
  have hl2 := lt_get hc2
  have z2 := q2.1
  simp -implicitDefEqProofs only [go_sem, dnW_ite, go_sem_proc, hc2, inb hc2, set_get _ hl2, ↓q1.icells, ↓q1.one]
  have hcs' : r ∉ blk s' := fun hm => by
   rcases q3 r hm with h' | h'
   ·exact h.off h'
   ·omega
  have ff : Fr J (J2.setIfInBounds r (.cells 0 (rlc g x y o s') false)) (r :: blk s) :=
   (((f1.weak (T := blk s) (by simp)).trans q2 (fun _ _ h => h)).weak (T := r :: blk s) (fun d hd => by simp [hd])).trans (Fr.set _ _ (S := r :: blk s) (by simp)) (fun _ _ h => h)
  refine hK _ _ ⟨rfl, s', ⟨set_get _ hl2, ?_, h.gr, hcs'⟩, ff, fun q hq => ?_⟩
  ·rw [List.map_append, List.flatten_append]
   simp only [List.map_cons, List.map_nil, List.flatten_cons, List.flatten_nil, List.append_nil]
   exact q1.fr (Fr.set _ _ (S := [r]) (by simp)) (fun q hq hm => by simp at hm; subst hm; exact hcs' hq)
  ·rcases q3 q hq with h' | h'
   ·exact .inl h'
   ·exact .inr (by omega)
 have hf := Fr.refl J []
 have hB2 : ∀ v : IV, IV.tup [IV.agg (bdc (boardF d).1), v] = IV.tup [IV.agg (bdc (boardF d).1), v] := fun _ => rfl
 have hln := fun J' => h.vws.lenF (J' := J') (n := ws.length) (by rw [flat_len (vwc99 ws), List.length_map]) (by omega)
 rcases hn with ⟨rfl, hbf⟩ | ⟨us, v, t, rfl, hap, htk⟩
 ·rw [hbf] at hB
  simp -implicitDefEqProofs only [go_sem, dnW_ite, go_sem_proc, ↓dcp hu (by simp [ipureL, hw.pure]), do1, dl_len, dl_take, dl_all, bne_self_eq_false, dcp hB (by simp [ipureL, ipure, dp]), bdc_len, bdc_one, bdc_take, bdc_all, zc_bd, h0, inb h0, hln, List.length_nil]
  refine H _ ?_ ?_ ?_
  ·(have hsz_ := hf.1; repeat (first | with_reducible exact hf | with_reducible apply Fr.psh | ((with_reducible apply Fr.stn); rotate_left; first | omega | (simp only [Array.size_push, Array.size_setIfInBounds] <;> omega)) | ((with_reducible apply Fr.sts); rotate_left; focus (simp only [List.mem_cons, eq_self, true_or, or_true]; done))))
  ·(repeat (first | with_reducible assumption | ((with_reducible refine gsE ?_ ?_); (focus omega); focus (first | omega | (simp only [Array.size_push, Array.size_setIfInBounds] <;> omega))) | ((with_reducible refine gsN ?_ ?_); focus omega) | ((with_reducible refine gpN ?_ ?_); focus (first | omega | (simp only [Array.size_push, Array.size_setIfInBounds] <;> omega))) | ((with_reducible refine gpE ?_); focus (first | omega | (simp only [Array.size_push, Array.size_setIfInBounds] <;> omega)))))
  ·(repeat (first | with_reducible assumption | ((with_reducible refine gsE ?_ ?_); (focus omega); focus (first | omega | (simp only [Array.size_push, Array.size_setIfInBounds] <;> omega))) | ((with_reducible refine gsN ?_ ?_); focus omega) | ((with_reducible refine gpN ?_ ?_); focus (first | omega | (simp only [Array.size_push, Array.size_setIfInBounds] <;> omega))) | ((with_reducible refine gpE ?_); focus (first | omega | (simp only [Array.size_push, Array.size_setIfInBounds] <;> omega)))))
 ·obtain ⟨h99, hx⟩ := h.vws.slx (vwc99 _) (by omega)
  rcases hx with ⟨_, hx⟩ | ⟨cb, cv, rest, rfl, hcb, _⟩
  ·simp at hx
  have eD : (((us ++ [(v, t)]).map vwc).flatten ++ rest).drop (us.length * 99) = stc v 0 (t.toNat : Int) ++ rest := by
   rw [flat_drop h99 (by simp)]
   simp
  have eD0 : ((((us ++ [(v, t)]).map vwc).flatten ++ rest).drop (us.length * 99)).take 97 = bdc v := by
   rw [eD, List.take_append_of_le_length (by rw [sta_len]; omega), sta_bd]
  have eD98 : ((((us ++ [(v, t)]).map vwc).flatten ++ rest).drop (us.length * 99 + 98)).take 1 = [.int .u32 (t.toNat : Int)] := by
   rw [← List.drop_drop, eD, List.drop_append_of_le_length (by rw [sta_len]; omega), stc, show 98 = 97 + 1 from rfl, ← List.drop_drop, List.drop_left' (bdc_len v)]
   rfl
  have eL : us.length * 99 + 99 ≤ (((us ++ [(v, t)]).map vwc).flatten ++ rest).length := by
   rw [List.length_append, flat_len h99]; simp; omega
  have hlX : ((us ++ [(v, t)]).map vwc).length = us.length + 1 := by simp
  generalize ((us ++ [(v, t)]).map vwc).flatten ++ rest = F at *
  have hw1 : IntKind.i64.wrap (((us.length + 1 : Nat) : Int) - 1) = (us.length : Int) := by
   have : us.length ≤ 100000 := by simp at hws; omega
   rw [wrap_i64 (by omega) (by omega)]; omega
  have w1 : IntKind.u64.wrap (d.t.toNat : Int) = (d.t.toNat : Int) := by have := d.t.isLt; exact wrap_u64 (by omega) (by omega)
  have w2 : IntKind.u64.wrap (t.toNat : Int) = (t.toNat : Int) := by have := t.isLt; exact wrap_u64 (by omega) (by omega)
  have w3 : IntKind.u64.wrap ((t.toNat : Int) + 1) = (t.toNat : Int) + 1 := by have := t.isLt; exact wrap_u64 (by omega) (by omega)
  have n1 : ((d.t.toNat : Int) != (t.toNat : Int) + 1) = false := by simp; omega
  have hA := dApply_ok d x2 y2 hDR (by omega) v
  rw [hap] at hA
  have lcb := lt_get hcb
  simp -implicitDefEqProofs only [go_sem, dnW_ite, go_sem_proc, ↓dcp hu (by simp [ipureL, hw.pure]), do1, dl_len, dl_take, dl_all, bne_self_eq_false, dcp hB (by simp [ipureL, ipure, dp]), bdc_len, bdc_one, bdc_take, bdc_all, zc_bd, h0, inb h0, hlX, hw1, hcb, inb hcb, eD0, eD98, show us.length * 99 + 97 ≤ F.length by omega, show us.length * 99 + 98 + 1 ≤ F.length by omega, show us.length < us.length + 1 by omega, show ((us.length + 1 : Nat) : Int) > 0 by omega, dcp hA (by simp [ipureL, ipure, bdc_pure, dp]), ↓w1, ↓w2, ↓w3, n1]
  rw [if_neg (by decide)]
  refine H _ ?_ ?_ ?_
  ·(have hsz_ := hf.1; repeat (first | with_reducible exact hf | with_reducible apply Fr.psh | ((with_reducible apply Fr.stn); rotate_left; first | omega | (simp only [Array.size_push, Array.size_setIfInBounds] <;> omega)) | ((with_reducible apply Fr.sts); rotate_left; focus (simp only [List.mem_cons, eq_self, true_or, or_true]; done))))
  ·(repeat (first | with_reducible assumption | ((with_reducible refine gsE ?_ ?_); (focus omega); focus (first | omega | (simp only [Array.size_push, Array.size_setIfInBounds] <;> omega))) | ((with_reducible refine gsN ?_ ?_); focus omega) | ((with_reducible refine gpN ?_ ?_); focus (first | omega | (simp only [Array.size_push, Array.size_setIfInBounds] <;> omega))) | ((with_reducible refine gpE ?_); focus (first | omega | (simp only [Array.size_push, Array.size_setIfInBounds] <;> omega)))))
  ·(repeat (first | with_reducible assumption | ((with_reducible refine gsE ?_ ?_); (focus omega); focus (first | omega | (simp only [Array.size_push, Array.size_setIfInBounds] <;> omega))) | ((with_reducible refine gsN ?_ ?_); focus omega) | ((with_reducible refine gpN ?_ ?_); focus (first | omega | (simp only [Array.size_push, Array.size_setIfInBounds] <;> omega))) | ((with_reducible refine gpE ?_); focus (first | omega | (simp only [Array.size_push, Array.size_setIfInBounds] <;> omega)))))
end Go.Proofs.YticfcmaigffhmaaGreat.G
namespace Go.Proofs.YticfcmaigffhmaaGreat.G
open Go
theorem unB8 (l : List Byt) : (l.map by8).mapM iunB = some (l.map fun b => UInt8.ofNat b.toNat) := by
 induction l with
 | nil => rfl
 | cons a l ih => simp only [List.map_cons, List.mapM_cons, ih]; rfl
theorem by8_ic (l : List Byt) : (l.map by8).flatMap icells = l.map by8 := by
 induction l with
 | nil => rfl
 | cons a l ih => rw [List.map_cons, List.flatMap_cons, ih]; rfl
theorem bEqual_on {x y : IV} {l : List Byt} (hx : Ls 1 x (l.map by8)) (hy : Ls 1 y (l.map by8)) : pc BI F_bytes_Equal [x, y] = some (.bool true) := by
 refine pcE fn_bytes_Equal rfl fun K hK => ?_
 unfold l_bytes_Equal
 rcases hx with ⟨rfl, h⟩ | ⟨f, rfl⟩
 ·rw [h] at hy
  rcases hy with ⟨rfl, h⟩ | ⟨f, rfl⟩
  ·simp -implicitDefEqProofs only [go_sem, dnW_ite, go_sem_proc, strOf, List.mapM_nil]
   exact hK _ _ (frzE rfl (by simp [itup]; rfl))
  ·simp -implicitDefEqProofs only [go_sem, dnW_ite, go_sem_proc, strOf, List.mapM_nil, List.flatMap_nil]
   exact hK _ _ (frzE rfl (by simp [itup]; rfl))
 ·rcases hy with ⟨rfl, h⟩ | ⟨f, rfl⟩
  ·rw [h]
   simp -implicitDefEqProofs only [go_sem, dnW_ite, go_sem_proc, strOf, List.mapM_nil, List.flatMap_nil]
   exact hK _ _ (frzE rfl (by simp [itup]; rfl))
  ·simp -implicitDefEqProofs only [go_sem, dnW_ite, go_sem_proc, by8_ic, unB8, strOf]
   exact hK _ _ (frzE rfl rfl)
theorem bPrefix_on {x y : IV} {p r : List Byt} (hx : Ls 1 x ((p ++ r).map by8)) (hy : Ls 1 y (p.map by8)) (hb : (p ++ r).length ≤ 1000000) : pc BI F_bytes_HasPrefix [x, y] = some (.bool true) := by
 refine pcE fn_bytes_HasPrefix rfl fun K hK => ?_
 unfold l_bytes_HasPrefix
 obtain ⟨z, hz, hzl⟩ := hx.slice (h := p.length) (by simp)
 rw [← List.map_take, List.take_left' rfl] at hzl
 have hE := bEqual_on hzl hy
 simp -implicitDefEqProofs only [go_sem, dnW_ite, go_sem_proc, hx.lenF, hy.lenF, List.length_map, List.length_append, show (((p.length + r.length : Nat) : Int)) ≥ (p.length : Int) by omega, hz, dcp hE (by simp [ipureL, hy.pure, hzl.pure])]
 exact hK _ _ (frzE rfl rfl)
theorem bCut_on {x y : IV} {p r : List Byt} (hx : Ls 1 x ((p ++ r).map by8)) (hy : Ls 1 y (p.map by8)) (hb : (p ++ r).length ≤ 1000000) : ∃ u, pc BI F_bytes_CutPrefix [x, y] = some u ∧ ∃ z, u = .tup [z, .bool true] ∧ Ls 1 z (r.map by8) := by
 refine pcW fn_bytes_CutPrefix rfl fun K hK => ?_
 unfold l_bytes_CutPrefix
 obtain ⟨z, hz, hzl⟩ := hx.sliceLo (l := p.length) (by simp)
 rw [← List.map_drop, List.drop_left' rfl] at hzl
 have hP := bPrefix_on hx hy hb
 simp -implicitDefEqProofs only [go_sem, dnW_ite, go_sem_proc, dcp hP (by simp [ipureL, hx.pure, hy.pure]), hy.lenF, List.length_map, hz]
 exact hK _ _ _ (frzE (by simp [itup, ipure, ipureL, hzl.pure]) rfl) ⟨z, rfl, hzl⟩
theorem bSame8 {x y : IV} {p q : List Byt} (hx : Ls 1 x (p.map by8)) (hy : Ls 1 y (q.map by8)) (hb : p.length ≤ 1000000) : pc BI F_ref01_Same [x, y] = some (.bool (decide (p = q))) := by
 have h := bSame_ok (x := x) (y := y) (as := p.map fun b => (b.toNat : Int)) (bs := q.map fun b => (b.toNat : Int)) (by rw [Bs, ← pmap_by8]; exact hx) (by rw [Bs, ← pmap_by8]; exact hy) (by simpa using hb)
 rw [h]
 congr 2
 rw [Bool.eq_iff_iff]
 simp only [decide_eq_true_eq]
 constructor
 ·intro e
  refine List.map_inj_right (f := fun b : Byt => (b.toNat : Int)) ?_ |>.1 e
  intro a b hab
  exact BitVec.eq_of_toNat_eq (by simpa using Int.ofNat.inj hab)
 ·intro e; rw [e]
theorem tapeB_len {g : Gm} (hr : g.right = true) (o : Int) {ds : List Dl} (h : ∀ d ∈ ds, d.ps.length ≤ 48) (hl : ds.length ≤ 1000) : (tapeB g o ds).length ≤ 500000 := by
 have h1 := gameB_len hr
 have h2 := blobB_len (gameB g)
 have h3 := numL_len 9 ds.length
 have h4 := tapeS_len h
 have e8 : magicB.length = 8 := rfl
 simp only [tapeB, tapeL, List.length_append, tail4_len, List.length_cons, List.length_nil, e8]
 omega
theorem TapeAt.lo {J : JH} {c g x y o v t s ds} (h : TapeAt J c g x y o v t s ds) : ∀ q ∈ c :: blk s, q < J.size := fun q hq => by
 rcases List.mem_cons.1 hq with rfl | hq
 ·exact lt_get h.cells
 ·exact h.told.low q hq
theorem TapeAt.frL {J J' : JH} {c g x y o v t s ds} {S : List Nat} (h : TapeAt J c g x y o v t s ds) (hf : Fr J J' S) (hs : ∀ q ∈ c :: blk s, q ∉ S) : TapeAt J' c g x y o v t s ds := h.fr hf (hs c (by simp)) fun q hq => hs q (by simp [hq])
def Chain (g : Gm) (o : Int) : List (Bd × BitVec 32) → List Dl → List (Bd × BitVec 32) → Prop
 | ws, [], vs => vs = ws
 | ws, d :: ds, vs => d.ok = true ∧ d.ps.length ≤ 48 ∧ (∀ c ∈ d.cs, I32 c.v) ∧ ∃ b, NextV ws d b ∧ b.l.length = g.cells.length ∧ b.view o = b ∧ Chain g o (ws ++ [(b, d.t)]) ds vs
theorem EyeAt.psh' {J : JH} {b : Nat} {st : Option (List Byt)} (h : EyeAt J b st) (X : IB) : EyeAt (J.push X) b st := h.fr (.push _ _ []) (by simp)
theorem Fr.trN {J J' J2 : JH} {S : List Nat} (h : Fr J J' []) (h2 : Fr J' J2 S) (hS : ∀ q ∈ S, J.size ≤ q) : Fr J J2 [] :=
 ⟨Nat.le_trans h.1 h2.1, fun d hd _ => by rw [h2.2 d (Nat.lt_of_lt_of_le hd h.1) (fun hm => by have := hS d hm; omega)]; exact h.2 d hd (by simp)⟩
theorem fr_magic (J : JH) : (∃ f, frz (J.push (.cells 0 (magicB.map by8) false)) DEP (.sl J.size 0 0 8 8 1) = some (.lst 1 f (magicB.map by8))) ∧ ∀ d ∈ shows (J.push (.cells 0 (magicB.map by8) false)) DEP (.sl J.size 0 0 8 8 1), d ∈ [J.size] := by
 have h : ird (J.push (.cells 0 (magicB.map by8) false)) J.size 0 0 (8 * 1) = some (magicB.map by8) := by
  simp only [ird, push_get]
  rfl
 refine ⟨⟨true, ?_⟩, fun d hd => ?_⟩
 ·rw [frz12, frz_sl (by omega) h by8_pure by8_one]
  rfl
 ·rw [frz12, shows_sl h by8_pure] at hd
  exact hd
theorem Read_on {g : Gm} {o : Int} {ds : List Dl} {vs : List (Bd × BitVec 32)} (hr : g.right = true) (hw : ∀ c ∈ g.code, c.wf) (hv : ∀ c ∈ g.cells, I32 c.v) (ho : 0 ≤ o ∧ o < g.obs) (hc : Chain g o [] ds vs) (hd0 : ds ≠ []) (hl : ds.length ≤ 1000) {x : IV} (hx : Ls 1 x ((tapeB g o ds).map by8)) (J : JH) :
  RP (ic BI F_replay_Read [x] J) fun v J' => ∃ r x2 y2 s, v = .tup [.ptr r 0 0, .int .i64 0] ∧ J.size ≤ r ∧ Fr J J' [] ∧ ReelAt J' r g x2 y2 o s vs ∧ ∀ q ∈ blk s, J.size ≤ q := by
 refine RP_run fn_replay_Read rfl fun K hK => ?_
 unfold l_replay_Read
 have hps : ∀ (ds : List Dl) ws, Chain g o ws ds vs → ∀ d ∈ ds, d.ps.length ≤ 48 := by
  intro ds
  induction ds with
  | nil => intro _ _; simp
  | cons d ds ih =>
   intro ws h e he
   obtain ⟨_, h2, _, b, _, _, _, h4⟩ := h
   rcases List.mem_cons.1 he with rfl | he
   ·exact h2
   ·exact ih _ h4 e he
 have hp48 := hps ds [] hc
 have hlen := tapeB_len hr o hp48 hl
 obtain ⟨u, hu, hu2⟩ := Open_ok hx (by omega)
 have htl : (tapeB g o ds).length = (tapeL g o ds).length + 4 := by rw [tapeB, List.length_append, tail4_len]
 rw [if_neg (by omega), htl, Nat.add_sub_cancel] at hu2
 have e1 : (tapeB g o ds).take (tapeL g o ds).length = tapeL g o ds := List.take_left' rfl
 have e2 : (tapeB g o ds).drop (tapeL g o ds).length = tail4 (tapeL g o ds) := List.drop_left' rfl
 rw [e1, e2, if_pos rfl] at hu2
 obtain ⟨y, rfl, hy⟩ := hu2
 have hmc : [IV.int .u8 104, .int .u8 111, .int .u8 111, .int .u8 100, .int .u8 119, .int .u8 105, .int .u8 110, .int .u8 107] = magicB.map by8 := rfl
 simp -implicitDefEqProofs only [go_sem, dnW_ite, go_sem_proc, dcp Make_ok rfl, dcp hu (by simp [ipureL, ipure, tabL_pure, hx.pure]), imark, lt_UNK]
 rw [hmc, if_neg (by decide)]
 obtain ⟨⟨f, hm1⟩, hm2⟩ := fr_magic J
 have hyl : (tapeL g o ds).length ≤ 500000 := by omega
 generalize hR1 : ds.flatMap (fun d => blobB (deltaB d)) = R1 at *
 generalize hR0 : blobB (gameB g) ++ ([nB o.toNat] ++ (numL 9 ds.length ++ R1)) = R0 at *
 have hT : tapeL g o ds = magicB ++ R0 := by rw [← hR0, ← hR1]; simp [tapeL]
 rw [hT] at hy hyl
 have hR0l : R0.length ≤ 500000 := by rw [List.length_append] at hyl; omega
 obtain ⟨u, hu, z, rfl, hz⟩ := bCut_on hy (.lst (f := f)) (by omega)
 refine WP_callG (S := [J.size]) (.pure hy.pure (.raw hm1 hm2 .nil)) hu fun J1 f1 z1 => ?_
 simp -implicitDefEqProofs only [go_sem, dnW_ite, go_sem_proc]
 refine WP_call (Read_ok hz (by omega)) fun v J2 hv => ?_
 obtain ⟨rfl, h2, f2, s2⟩ := hv
 simp -implicitDefEqProofs only [go_sem, dnW_ite, go_sem_proc, hx.lenF, List.length_map]
 refine WP_call (EBlob_ok h2 (tapeB g o ds).length (by omega)) fun v J3 hv => ?_
 obtain ⟨hb, h3, f3⟩ := hv
 have hB1 : eBlob (some R0) (tapeB g o ds).length = (gameB g, some ([nB o.toNat] ++ (numL 9 ds.length ++ R1))) := by
  rw [← hR0, blobB]
  exact eBlob_on _ (by have := congrArg List.length hR0; rw [List.length_append, blobB, List.length_append] at this; rw [htl, hT, List.length_append]; omega) (by omega)
 rw [hB1] at hb h3
 obtain ⟨u, hu, hu2⟩ := GParse_ok hb (by have := gameB_len hr; show (gameB g).length ≤ 1000000; omega)
 rw [show gameP (gameB g, some ([nB o.toNat] ++ (numL 9 ds.length ++ R1))).1 = some g from gameP_on hr hw hv] at hu2
 obtain ⟨x2, y2, rfl, hGR, _⟩ := hu2
 have hJ4 := push_get J3 (IB.cells 0 (gmc g x2 y2) false)
 have h4 := h3.psh' (.cells 0 (gmc g x2 y2) false)
 have f34 := Fr.push J3 (IB.cells 0 (gmc g x2 y2) false) []
 have gp : ipureL (gmc g x2 y2) = true := hGR.pure
 have hz3 := f3.1
 have hlt : J1.size < J3.size := by omega
 have zp : (J.push (IB.cells 0 (magicB.map by8) false)).size = J.size + 1 := by simp
 have hJJ1 : J.size < J1.size := by omega
 have f01 : Fr J J1 [] := (Fr.push J (.cells 0 (magicB.map by8) false) []).trN f1 (by simp)
 have f02 := f01.trans f2 (fun _ _ h => h)
 have f04 : Fr J (J3.push (IB.cells 0 (gmc g x2 y2) false)) [] := (f02.trN f3 (by simp; omega)).trans f34 (fun _ _ h => h)
 simp -implicitDefEqProofs only [go_sem, dnW_ite, go_sem_proc, dcp hu (by simp [ipureL, hb.pure]), hGR.one, ↓dnW_ocr]
 generalize hq : J3.size = q at *
 generalize J3.push (IB.cells 0 (gmc g x2 y2) false) = J4 at *
 rw [h4.reach]
 refine WP_bindC (EByte_ok h4) fun v J5 hv => ?_
 obtain ⟨rfl, h5, f5⟩ := hv
 have hq5 : J5[q]? = some (.cells 0 (gmc g x2 y2) false) := by rw [f5.2 q (lt_get hJ4) (by simp; omega)]; exact hJ4
 have hct : ([J1.size] : List Nat).contains q = false := by simp; omega
 refine ⟨by simp -implicitDefEqProofs only [go_sem, dnW_ite, go_sem_proc, hJ4, hq5, hct], ?_⟩
 rw [show eByte (gameB g, some ([nB o.toNat] ++ (numL 9 ds.length ++ R1))).2 = (nB o.toNat, some (numL 9 ds.length ++ R1)) from rfl] at h5 ⊢
 obtain ⟨_, ⟨ho1, ho2⟩, _⟩ := right_48 hr
 have hno : IntKind.i64.wrap ((nB o.toNat).toNat : Int) = o := by rw [i64B8, toNat_nB (by omega)]; omega
 have f05 := f04.trN f5 (by simp; omega)
 generalize hp : J1.size = p at *
 have h6 := h5.psh' (.cells 0 (rlc g x2 y2 o nilS) false)
 have hJ6 := push_get J5 (.cells 0 (rlc g x2 y2 o nilS) false)
 have f06 : Fr J (J5.push (.cells 0 (rlc g x2 y2 o nilS) false)) [] := f05.trans (Fr.push _ _ []) (fun _ _ h => h)
 have hq6 : (J5.push (.cells 0 (rlc g x2 y2 o nilS) false))[q]? = some (.cells 0 (gmc g x2 y2) false) := gpN (lt_get hq5) hq5
 have hpl := lt_get h5.choose_spec.1
 have hz5 := f05.1
 have hbu : gmc g x2 y2 ++ [IV.sc (Value.int IntKind.i64 0), IV.sc (Value.slice none 0 0)] = rlc g x2 y2 0 nilS := rfl
 have hb6 : isplice (rlc g x2 y2 0 nilS) 6 [IV.int .i64 o] = rlc g x2 y2 o nilS := rfl
 have hb1 : (rlc g x2 y2 o nilS).all ione = true := by rw [rlc, List.all_append, hGR.one]; rfl
 simp -implicitDefEqProofs only [go_sem, dnW_ite, go_sem_proc, hno, hbu, hb6, hb1, show (7 : Nat) ≤ 8 by omega]
 rw [if_pos hGR.one]
 have hq5l := lt_get hq5
 simp -implicitDefEqProofs only [go_sem, dnW_ite, go_sem_proc, hb1, hq5, show ¬ (q = J5.size) by omega, gm_len, show ¬ (o ≥ g.obs) by omega]
 rw [if_neg (by decide)]
 have hpr : p ≠ J5.size := by omega
 have hJp : J.size ≤ p := by omega
 have hrs : J.size ≤ J5.size := hz5
 clear hbu hb6 hb1 hq5l hz5 hno hq5 hq6 hct
 generalize hr0 : J5.size = r at *
 generalize J5.push (.cells 0 (rlc g x2 y2 o nilS) false) = J6 at *
 unfold l_replay_Read_k2
 simp -implicitDefEqProofs only [go_sem, dnW_ite, go_sem_proc]
 refine WP_call (ENum_ok h6 65536 (by omega)) fun v J7 hv => ?_
 obtain ⟨rfl, h7, f7⟩ := hv
 rw [eNum_on R1 (by omega) (by omega)] at h7 ⊢
 have hR7 : ReelAt J7 r g x2 y2 o nilS [] := ⟨by rw [f7.2 r (lt_get hJ6) (by simp; omega)]; exact hJ6, .nil, hGR, by simp [blk, blkOf]⟩
 have f07 := f06.trN f7 (by simp; omega)
 have htb : ∀ i (h : i < ds.length), (deltaB ds[i]).length ≤ (tapeB g o ds).length := fun i h => by
  have e : R1 = (ds.take i).flatMap (fun d => blobB (deltaB d)) ++ (blobB (deltaB ds[i]) ++ (ds.drop (i + 1)).flatMap fun d => blobB (deltaB d)) := by
   rw [← hR1]
   conv => lhs; rw [← List.take_append_drop i ds, List.drop_eq_getElem_cons h]
   rw [List.flatMap_append, List.flatMap_cons]
  have e3 := congrArg List.length e
  have e4 := congrArg List.length hR0
  simp only [List.length_append] at e3 e4
  have e5 : (blobB (deltaB ds[i])).length = (numL 9 (deltaB ds[i]).length).length + (deltaB ds[i]).length := by rw [blobB, List.length_append]
  rw [htl, hT, List.length_append]; omega
 simp -implicitDefEqProofs only [go_sem, dnW_ite, go_sem_proc, dn_loop]
 refine WP_range (by decide) ds.length (fun i ws J' => ∃ s us, ws = [x, .ptr p 0 0, .ptr r 0 0, .int .u64 (ds.length : Int), .int .u64 (ds.length : Int), .int .u64 (i : Int)] ∧ EyeAt J' p (some ((ds.drop i).flatMap fun d => blobB (deltaB d))) ∧ ReelAt J' r g x2 y2 o s us ∧ Chain g o us (ds.drop i) vs ∧ us.length = i ∧ Fr J J' [] ∧ (∀ q ∈ blk s, J.size ≤ q) ∧ p ∉ blk s) ?_ ⟨nilS, [], rfl, by rw [List.drop_zero, hR1]; exact h7, hR7, hc, rfl, f07, by simp [blk, blkOf], by simp [blk, blkOf]⟩
 rintro i ws J8 ⟨s, us, rfl, he, hR, hch, hul, f8, hbs, hps⟩ hi K1 g1 g2 g3
 unfold l_replay_Read_k0
 by_cases hlt : i < ds.length
 ·have hw1 : IntKind.u64.wrap ((i : Int) + 1) = ((i + 1 : Nat) : Int) := by rw [wrap_u64 (by omega) (by omega)]; omega
  rw [List.drop_eq_getElem_cons hlt] at he hch
  obtain ⟨c1, c2, c3, b, c4, c5, c6, c7⟩ := hch
  have hp' := lt_get he.choose_spec.1
  simp -implicitDefEqProofs only [go_sem, dnW_ite, go_sem_proc, show ((i : Int) < (ds.length : Int)) by omega, hx.lenF, List.length_map]
  refine WP_call (EBlob_ok he (tapeB g o ds).length (by omega)) fun v J9 hv => ?_
  obtain ⟨hb, h9, f9⟩ := hv
  rw [List.flatMap_cons, blobB, eBlob_on _ (htb i hlt) (by omega)] at hb h9
  have hR9 := hR.fr f9 (by simp; omega) (fun q hq hm => by simp at hm; subst hm; exact hps hq)
  have f09 := f8.trN f9 (by simp; omega)
  simp -implicitDefEqProofs only [go_sem, dnW_ite, go_sem_proc]
  refine WP_call (follow_on hR9 hb (by have := deltaB_len c2; show (deltaB ds[i]).length ≤ 1000000; omega) ds[i] (deltaP_on c1 c2 c3) c1 c2 b c4 c5 c6 (by omega)) fun v J10 hv => ?_
  obtain ⟨rfl, s', hR10, f10, n10⟩ := hv
  have z9 := f9.1
  have h10 := h9.fr f10 (fun hm => by
   rcases List.mem_cons.1 hm with h' | h'
   ·omega
   ·exact hps h')
  simp -implicitDefEqProofs only [go_sem, dnW_ite, go_sem_proc, hw1]
  refine g1 hlt _ _ ⟨s', us ++ [(b, ds[i].t)], rfl, h10, hR10, c7, by simp [hul], f09.trN f10 (fun q hq => ?_), fun q hq => ?_, fun hm => ?_⟩
  ·rcases List.mem_cons.1 hq with rfl | h'
   ·exact hrs
   ·exact hbs q h'
  ·rcases n10 q hq with h' | h'
   ·exact hbs q h'
   ·have := f8.1; omega
  ·rcases n10 p hm with h' | h'
   ·exact hps h'
   ·omega
 ·obtain rfl : i = ds.length := by omega
  simp -implicitDefEqProofs only [go_sem, dnW_ite, go_sem_proc, show ¬ ((ds.length : Int) < (ds.length : Int)) by omega]
  refine g2 _ _ ?_
  unfold l_replay_Read_k1
  rw [List.drop_length] at he hch
  have hn0 : ((ds.length : Int) == 0) = false := by
   have : ds.length ≠ 0 := fun e => hd0 (List.eq_nil_of_length_eq_zero e)
   simp; omega
  simp -implicitDefEqProofs only [go_sem, dnW_ite, go_sem_proc, hn0]
  refine WP_call (EDone_ok he) fun v J9 hv => ?_
  obtain ⟨rfl, rfl⟩ := hv
  simp -implicitDefEqProofs only [go_sem, dnW_ite, go_sem_proc]
  have hch' : vs = us := hch
  subst hch'
  exact hK _ _ ⟨r, x2, y2, s, rfl, hrs, f8, hR, hbs⟩
def x8 (a b : Int) : Int := IntKind.u8.wrap (BitVec.ofInt 8 a ^^^ BitVec.ofInt 8 b).toNat
def bitv (m : Int) (k : Nat) : Int := (m / 2 ^ k) % 2
def lturn1 (q : Nat) (m : Int) (l : List Int) (k : Nat) : List Int := if q + k < 8 * l.length then l.set ((q + k) / 8) (x8 (l.getD ((q + k) / 8) 0) (bitv m k * 2 ^ ((q + k) % 8))) else l
def turnN (q : Nat) (m : Int) (l : List Int) : Nat → List Int
 | 0 => l
 | k + 1 => lturn1 q m (turnN q m l k) k
theorem lturn1_len (q : Nat) (m : Int) (l : List Int) (k : Nat) : (lturn1 q m l k).length = l.length := by unfold lturn1; split <;> simp
theorem turnN_len (q : Nat) (m : Int) (l : List Int) : ∀ k, (turnN q m l k).length = l.length
 | 0 => rfl
 | k + 1 => by rw [turnN, lturn1_len, turnN_len q m l k]
theorem bitv_01 (m : Int) (k : Nat) : bitv m k = 0 ∨ bitv m k = 1 := by unfold bitv; omega
theorem getD_lt {α : Type} {l : List α} {i : Nat} {d : α} (h : i < l.length) : l.getD i d = l[i] := by simp [h]
def Wb (l : List Int) : Prop := ∀ z ∈ l, 0 ≤ z ∧ z < 256
theorem x8_0 (a : Int) (h0 : 0 ≤ a) (h1 : a < 256) : x8 a 0 = a := by
 obtain ⟨n, rfl⟩ := Int.eq_ofNat_of_zero_le h0
 unfold x8
 have h2 : (BitVec.ofInt 8 (n : Int)) = BitVec.ofNat 8 n := by simp
 have h3 : (BitVec.ofInt 8 0) = 0#8 := rfl
 rw [h2, h3, BitVec.xor_zero, BitVec.toNat_ofNat, Nat.mod_eq_of_lt (by omega)]
 simp only [IntKind.wrap, IntKind.bits, IntKind.signed]
 simp
 omega
theorem x8_rng (a b : Int) : 0 ≤ x8 a b ∧ x8 a b < 256 := by
 unfold x8
 simp only [IntKind.wrap, IntKind.bits, IntKind.signed]
 simp
 omega
theorem lturn1_0 (q : Nat) (m : Int) (l : List Int) (k : Nat) (hl : Wb l) (hb : bitv m k = 0) : lturn1 q m l k = l := by
 unfold lturn1
 split
 ·rename_i h
  have hi : (q + k) / 8 < l.length := by omega
  rw [hb, Int.zero_mul]
  have hg : l.getD ((q + k) / 8) 0 = l[(q + k) / 8] := by simp [hi]
  have hm := hl _ (List.getElem_mem hi)
  rw [hg, x8_0 _ hm.1 hm.2, List.set_getElem_self]
 ·rfl
theorem lturn1_wb (q : Nat) (m : Int) (l : List Int) (k : Nat) (hl : Wb l) : Wb (lturn1 q m l k) := by
 unfold lturn1
 split
 ·intro z hz
  rcases List.mem_or_eq_of_mem_set hz with h | rfl
  ·exact hl z h
  ·exact x8_rng _ _
 ·exact hl
theorem turnN_wb (q : Nat) (m : Int) (l : List Int) (hl : Wb l) : ∀ k, Wb (turnN q m l k)
 | 0 => hl
 | k + 1 => lturn1_wb q m _ k (turnN_wb q m l hl k)
theorem Bs.ones {x : IV} {l : List Int} (h : Bs x l) (J : JH) : iscells J 1 x = some (l.map (IV.int .u8)) := by rw [Ls.cells h, ints_cells]
theorem Join1_ok {x : IV} {l : List Int} (hx : Bs x l) (hb : l.length ≤ 1000000) (J : JH) : RP (ic BI F_ref01_Join [.lst 1 true [x]] J) fun v J' => Grow J' v 1 (l.map (IV.int .u8)) ∧ Fr J J' [] ∧ ∀ b ∈ blk v, J.size ≤ b := by
 refine RP_run fn_ref01_Join rfl fun K hK => ?_
 have hi := Ls.icells hx
 unfold l_ref01_Join
 simp -implicitDefEqProofs only [go_sem, dnW_ite, go_sem_proc, dn_loop]
 refine WP_range (by decide) 1 (fun i vs J' => ∃ out, vs = [out, .lst 1 true [x], nI 1, nI i] ∧ Fr J J' [] ∧ Grow J' out 1 (if i = 0 then [] else l.map (IV.int .u8)) ∧ ∀ b ∈ blk out, J.size ≤ b) ?_ ⟨_, rfl, .refl _ _, .nil, by simp [blk, blkOf]⟩
 rintro i vs J1 ⟨out, rfl, hf, hg, ho⟩ hi1 K1 g1 g2 g3
 unfold l_ref01_Join_k0
 by_cases h0 : i = 0
 ·subst h0
  rw [if_pos rfl] at hg
  have hw : IntKind.i64.wrap (((0 : Nat) : Int) + 1) = ((1 : Nat) : Int) := rfl
  simp -implicitDefEqProofs only [go_sem, dnW_ite, go_sem_proc, show (((0 : Nat) : Int) < ((1 : Nat) : Int)) by omega, ↓hi]
  refine WP_bind (hg.app (by' := 1) (m := l.length) (ds := l.map (IV.int .u8)) (by omega) (hx.ones J1) hx.len (by simp) ints_ione (fits1 (by simpa using hb))) fun out' J2 hs => ?_
  obtain ⟨k1, k2, k3⟩ := hs
  simp -implicitDefEqProofs only [go_sem, dnW_ite, go_sem_proc, hw]
  refine g1 (by omega) _ _ ⟨out', rfl, hf.trN k2 ho, by simpa using k1, fun b hb => ?_⟩
  rcases k3 b hb with h | h
  ·exact ho b h
  ·have := hf.1; omega
 ·obtain rfl : i = 1 := by omega
  simp -implicitDefEqProofs only [go_sem, dnW_ite, go_sem_proc, show ¬ (((1 : Nat) : Int) < ((1 : Nat) : Int)) by omega]
  refine g2 _ _ ?_
  unfold l_ref01_Join_k1
  simp -implicitDefEqProofs only [go_sem, dnW_ite, go_sem_proc]
  exact hK _ _ ⟨hg, hf, ho⟩
theorem x8_n (a : Int) (z : BitVec 8) (b : Int) (hb : BitVec.ofInt 8 b = z) : ((BitVec.ofInt 8 a ^^^ z).toNat : Int) = x8 a b := by
 subst hb
 unfold x8
 generalize BitVec.ofInt 8 a ^^^ BitVec.ofInt 8 b = w
 have := w.isLt
 simp only [IntKind.wrap, IntKind.bits, IntKind.signed]
 simp; omega
theorem turned_stepG (c v n q k : Nat) (full : List IV) (m : Int) (l : List Int) (hl : l.length = n) (hwb : Wb l) (hb : n ≤ 1000000) (hq : q ≤ 100000000) (hm0 : 0 ≤ m) (hm1 : m < 4294967296) (hk : k ≤ 32) (J : JH) (hJ : J[c]? = some (.cells v full false)) (hf : full.take n = l.map (IV.int .u8)) (hfl : n ≤ full.length) (P : Out IV → JH → Prop)
  (h0 : k = 32 → P (.goto 0 [.sl c v 0 n (UNK + 1) 1]) J)
  (h1 : k < 32 → ∀ J' full', J'[c]? = some (.cells v full' false) → full'.take n = (lturn1 q m l k).map (IV.int .u8) → n ≤ full'.length → Fr J J' [c] → P (.goto 1 [.int .i64 (q : Int), .int .u32 m, .sl c v 0 n (UNK + 1) 1, .int .i64 ((k + 1 : Nat) : Int)]) J') :
  WP (dn BI l_ref02_Turned_k0 [.int .i64 (q : Int), .int .u32 m, .sl c v 0 n (UNK + 1) 1, .int .i64 (k : Int)] J) P := by
 by_cases hk2 : k = 32
 ·subst hk2
  unfold l_ref02_Turned_k0
  simp -implicitDefEqProofs only [go_sem, dnW_ite, go_sem_proc, show ¬ (((32 : Nat) : Int) < 32) by omega]
  exact h0 rfl
 ·have e1 : ((k : Int) < 32) := by omega
  have e5 : IntKind.i64.wrap ((q : Int) + (k : Int)) = ((q + k : Nat) : Int) := by rw [wrap_i64 (by omega) (by omega)]; omega
  have e7 : IntKind.i64.wrap (((q + k : Nat) : Int).tdiv 8) = (((q + k) / 8 : Nat) : Int) := by
   rw [Int.tdiv_eq_ediv_of_nonneg (by omega), wrap_i64 (by omega) (by omega)]; omega
  have e10 : ((k : Int) < 0) = False := by simp
  have e11 : min k 32 = k := by omega
  have e12 : m.fdiv (2 ^ k) = m / 2 ^ k := Int.fdiv_eq_ediv_of_nonneg _ (by exact Int.le_of_lt (Int.pow_pos (by omega)))
  have e13 : (m / 2 ^ k).tmod 2 = bitv m k := by
   rw [Int.tmod_eq_emod_of_nonneg (Int.ediv_nonneg hm0 (Int.le_of_lt (Int.pow_pos (by omega))))]; rfl
  have e18 : IntKind.i64.wrap ((k : Int) + 1) = ((k + 1 : Nat) : Int) := by rw [wrap_i64 (by omega) (by omega)]; omega
  by_cases hlt : q + k < 8 * n
  ·have e6 : (((q + k) / 8 : Nat) : Int) < (n : Int) := by omega
   have e9 : (q + k) / 8 < n := by omega
   rcases bitv_01 m k with hbv | hbv
   ·have h1' := h1 (by omega) J full hJ (by rw [lturn1_0 q m l k hwb hbv]; exact hf) hfl (.refl _ _)
    unfold l_ref02_Turned_k0
    simp -implicitDefEqProofs only [go_sem, dnW_ite, go_sem_proc, e1, e5, e7, e6, e10, e11, e12, e13, hbv, e18, show ((0 : Int) == 1) = false by decide]
    exact h1'
   ·have e8 : (((q + k : Nat) : Int).tmod 8) = (((q + k) % 8 : Nat) : Int) := by
     rw [Int.tmod_eq_emod_of_nonneg (by omega)]; omega
    have hkf : (q + k) / 8 < full.length := by omega
    have hat2 : full[(q + k) / 8] = IV.int .u8 l[(q + k) / 8] := by
     have : (full.take n)[(q + k) / 8]'(by rw [List.length_take]; omega) = (l.map (IV.int .u8))[(q + k) / 8]'(by rw [List.length_map]; omega) := by simp only [hf]
     rw [List.getElem_take, List.getElem_map] at this
     exact this
    have e19 : (full.drop ((q + k) / 8)).take 1 = [IV.int .u8 l[(q + k) / 8]] := by
     rw [List.drop_eq_getElem_cons hkf, hat2]; rfl
    have e21 : (q + k) / 8 + 1 ≤ full.length := by omega
    have hlt2 := lt_get hJ
    have h8 : (q + k) % 8 < 8 := Nat.mod_lt _ (by omega)
    have fin : ∀ (X : IB) (y : Int), y = x8 l[(q + k) / 8] (2 ^ ((q + k) % 8)) → P (.goto 1 [.int .i64 (q : Int), .int .u32 m, .sl c v 0 n (UNK + 1) 1, .int .i64 ((k + 1 : Nat) : Int)]) ((J.push X).setIfInBounds c (.cells v (isplice full ((q + k) / 8) [IV.int .u8 y]) false)) := fun X y hy => by
     refine h1 (by omega) _ (isplice full ((q + k) / 8) [IV.int .u8 y]) (set_get _ (by rw [Array.size_push]; omega)) ?_ ?_ ((Fr.push J X [c]).trans (Fr.set _ _ (by simp)) (fun _ _ h => h))
     ·rw [isplice_set hkf, List.take_set, hf, ← List.map_set]
      unfold lturn1
      rw [hl, if_pos hlt, hbv, Int.one_mul, getD_lt (by omega), ← hy]
     ·rw [isplice_set hkf, List.length_set]; exact hfl
    generalize hr0 : (q + k) % 8 = r at *
    unfold l_ref02_Turned_k0
    have hr : r = 0 ∨ r = 1 ∨ r = 2 ∨ r = 3 ∨ r = 4 ∨ r = 5 ∨ r = 6 ∨ r = 7 := by omega
    rcases hr with rfl | rfl | rfl | rfl | rfl | rfl | rfl | rfl <;>
    ·simp -implicitDefEqProofs only [go_sem, dnW_ite, go_sem_proc, e1, e5, e7, e6, e8, e9, e10, e11, e12, e13, hbv, e18, show ((1 : Int) == 1) = true by decide, hJ, e19, e21, ipureL, ipure, grp, mkE, List.headD, lt_UNK (show 8 ≤ 1000000 by omega), show ¬ (c = J.size) by omega]
     exact fin _ _ (x8_n _ _ _ rfl)
  ·have e6 : ¬ ((((q + k) / 8 : Nat) : Int) < (n : Int)) := by omega
   have h1' := h1 (by omega) J full hJ (by unfold lturn1; rw [hl, if_neg hlt]; exact hf) hfl (.refl _ _)
   unfold l_ref02_Turned_k0
   simp -implicitDefEqProofs only [go_sem, dnW_ite, go_sem_proc, e1, e5, e7, e6, e18]
   exact h1'
theorem Turned_ok {x : IV} {l : List Int} (hx : Bs x l) (hwb : Wb l) (hb : l.length ≤ 1000000) (hl0 : l ≠ []) (q : Nat) (hq : q ≤ 100000000) (m : Int) (hm0 : 0 ≤ m) (hm1 : m < 4294967296) : ∃ y, pc BI F_ref02_Turned [x, nI q, .int .u32 m] = some y ∧ Bs y (turnN q m l 32) := by
 refine pcW fn_ref02_Turned rfl fun K hK => ?_
 unfold l_ref02_Turned
 simp -implicitDefEqProofs only [go_sem, dnW_ite, go_sem_proc, ipureL, ipure, grp, mkE, List.headD, ↓hx.icells, ↓hx.one, ↓hx.pure]
 refine WP_call (Join1_ok hx hb _) fun v J hv => ?_
 obtain ⟨hg, hf, hn⟩ := hv
 have hpos : 0 < l.length := List.length_pos_iff.2 hl0
 rcases hg with ⟨rfl, h0⟩ | ⟨b, ver, n, full, rfl, h1, h2, h3, h4⟩
 ·rw [List.map_eq_nil_iff] at h0; exact absurd h0 hl0
 have hnl : n = l.length := by
  have := congrArg List.length h3
  rw [List.length_take, List.length_map] at this
  omega
 subst hnl
 rw [Nat.mul_one] at h2 h3
 simp -implicitDefEqProofs only [go_sem, dnW_ite, go_sem_proc, dn_loop]
 refine WP_range (by decide) 32 (fun k vs J => vs = [nI q, .int .u32 m, .sl b ver 0 l.length (UNK + 1) 1, nI k] ∧ ∃ full, J[b]? = some (.cells ver full false) ∧ full.take l.length = (turnN q m l k).map (IV.int .u8) ∧ l.length ≤ full.length) ?_ ⟨rfl, full, h1, h3, h2⟩
 rintro k vs J2 ⟨rfl, full2, k1, k2, k3⟩ hk K1 g1 g2 g3
 refine turned_stepG b ver l.length q k full2 m (turnN q m l k) (turnN_len _ _ _ _) (turnN_wb q m l hwb k) hb hq hm0 hm1 hk J2 k1 k2 k3 K1 (fun e => ?_) (fun hlt J' full' i1 i2 i3 _ => ?_)
 ·refine g2 _ _ ?_
  subst e
  unfold l_ref02_Turned_k1
  simp -implicitDefEqProofs only [go_sem, dnW_ite, go_sem_proc]
  have hln := turnN_len q m l 32
  obtain ⟨f, hf⟩ := frz_bytes (J := J2) (b := b) (n := l.length) (k := ver) (κ := .u8) (cap := UNK + 1) (xs := turnN q m l 32) (by
   simp only [ird, k1, true_and, Nat.zero_add, List.drop_zero, Nat.mul_one]
   rw [if_pos k3, k2]) hln.symm
  exact hK _ _ _ hf (.inr ⟨f, rfl⟩)
 ·exact g1 hlt _ _ ⟨rfl, full', i1, i2, i3⟩
theorem cut_step (x out : IV) (l : List Int) (hx : Bs x l) (most : Nat) (i : Nat) (hi : i ≤ l.length) (hb : l.length ≤ 9223372036854775807) (J : JH) (cs : List IV) (hg : Grow J out 1 cs) (hc : cs.length < 1000000) (P : Out IV → JH → Prop)
  (h0 : i = l.length → P (.goto 0 [out]) J)
  (h1 : ∀ (h : i < l.length), i < most → ∀ out' J', Grow J' out' 1 (cs ++ [IV.int .u8 l[i]]) → P (.goto 1 [.int .i64 (most : Int), out', x, .int .i64 ((l.length : Nat) : Int), .int .i64 ((i + 1 : Nat) : Int)]) J')
  (h2 : ∀ (h : i < l.length), ¬ i < most → P (.goto 1 [.int .i64 (most : Int), out, x, .int .i64 ((l.length : Nat) : Int), .int .i64 ((i + 1 : Nat) : Int)]) J) :
  WP (dn BI l_ref01_Cut_k0 [.int .i64 (most : Int), out, x, .int .i64 ((l.length : Nat) : Int), .int .i64 (i : Int)] J) P := by
 by_cases h : i < l.length
 ·have hw : IntKind.i64.wrap ((i : Int) + 1) = ((i + 1 : Nat) : Int) := by rw [wrap_i64 (by omega) (by omega)]; omega
  unfold l_ref01_Cut_k0
  by_cases hm : i < most
  ·simp -implicitDefEqProofs only [go_sem, dnW_ite, go_sem_proc, show ((i : Int) < (l.length : Int)) by omega, hx.at h, show ((i : Int) < (most : Int)) by omega, hw, UNK_pos, one_lt_UNK, ipureL, ipure, grp, mkE, List.headD]
   refine WP_bind (hg.app (m := 1) (ds := [IV.int .u8 l[i]]) (by omega) (by simp [iscells, icells]) rfl rfl rfl (fits1 (n := cs.length + 1) (by omega))) fun s' J' hs => ?_
   simp -implicitDefEqProofs only [go_sem, dnW_ite, go_sem_proc, hw]
   exact h1 h hm s' J' hs.1
  ·simp -implicitDefEqProofs only [go_sem, dnW_ite, go_sem_proc, show ((i : Int) < (l.length : Int)) by omega, hx.at h, show ¬ ((i : Int) < (most : Int)) by omega, hw]
   exact h2 h hm
 ·unfold l_ref01_Cut_k0
  simp -implicitDefEqProofs only [go_sem, dnW_ite, go_sem_proc, show ¬ ((i : Int) < (l.length : Int)) by omega]
  exact h0 (by omega)
theorem bCut_ok {x : IV} {l : List Int} (hx : Bs x l) (most : Nat) (hb : l.length ≤ 9223372036854775807) (hm : most < 1000000) : ∃ y, pc BI F_ref01_Cut [x, .int .i64 (most : Int)] = some y ∧ Bs y (l.take most) := by
 refine pcW fn_ref01_Cut rfl fun K hK => ?_
 unfold l_ref01_Cut
 simp -implicitDefEqProofs only [go_sem, dnW_ite, go_sem_proc, hx.lenF, dn_loop]
 refine WP_loop (by decide) (fun m vs J => ∃ i : Nat, i + m = l.length ∧ ∃ out, Grow J out 1 ((l.take (min i most)).map (IV.int .u8)) ∧ vs = [.int .i64 (most : Int), out, x, .int .i64 ((l.length : Nat) : Int), .int .i64 (i : Int)]) ?_ l.length _ _ ⟨0, by omega, _, by simp; exact .nil, rfl⟩
 rintro m vs J ⟨i, hi, out, hg, rfl⟩ K1 g1 g2 g3
 refine cut_step x out l hx most i (by omega) hb J _ hg (by simp; omega) _ (fun he => ?_) (fun h hlt out' J' hg' => ?_) (fun h hlt => ?_)
 ·refine g2 _ _ ?_
  unfold l_ref01_Cut_k1
  simp -implicitDefEqProofs only [go_sem, dnW_ite, go_sem_proc]
  subst he
  obtain ⟨u, hu, hl⟩ := hg.frz1 ints_pure ints_ione
  refine hK _ _ u hu ?_
  have : l.take (min l.length most) = l.take most := by
   rcases Nat.le_total l.length most with h | h
   ·rw [Nat.min_eq_left h, List.take_of_length_le (Nat.le_refl _), List.take_of_length_le h]
   ·rw [Nat.min_eq_right h]
  rw [this] at hl
  exact hl
 ·refine g1 _ (m - 1) _ (by omega) ⟨i + 1, by omega, out', ?_, rfl⟩
  rw [Nat.min_eq_left (by omega), ints_grow h] at hg'
  rw [Nat.min_eq_left (by omega)]
  exact hg'
 ·refine g1 _ (m - 1) _ (by omega) ⟨i + 1, by omega, out, ?_, rfl⟩
  rw [Nat.min_eq_right (by omega)] at hg ⊢
  exact hg
theorem bitsL_get : ∀ (l : List Byt) (p : Nat), (bitsL l).getD p false = (l.getD (p / 8) 0#8).getLsbD (p % 8)
 | [], p => by simp [bitsL]
 | b :: r, p => by
  rw [bitsL_at]
  by_cases h : p < 8
  ·rw [if_pos h, Nat.div_eq_of_lt h, Nat.mod_eq_of_lt h]; rfl
  ·rw [if_neg h, bitsL_get r, show p / 8 = (p - 8) / 8 + 1 by omega, show (p - 8) % 8 = p % 8 by omega]; rfl
abbrev iB (l : List Byt) : List Int := l.map fun b => (b.toNat : Int)
theorem pmap_by8x (l : List Byt) : l.map by8 = (iB l).map (IV.int .u8) := by simp
theorem x8_b (x y : Byt) : x8 (x.toNat : Int) (y.toNat : Int) = ((x ^^^ y).toNat : Int) := by
 unfold x8
 rw [ofInt_nat, ofInt_nat, wrapB8]
def turnB (q : Nat) (m : BitVec 32) (l : List Byt) (k : Nat) : List Byt := if q + k < 8 * l.length then l.set ((q + k) / 8) (l.getD ((q + k) / 8) 0#8 ^^^ (if m.getLsbD k = true then BitVec.twoPow 8 ((q + k) % 8) else 0#8)) else l
def turnBN (q : Nat) (m : BitVec 32) (l : List Byt) : Nat → List Byt
 | 0 => l
 | k + 1 => turnB q m (turnBN q m l k) k
theorem turnB_len (q m l k) : (turnB q m l k).length = l.length := by unfold turnB; split <;> simp
theorem turnBN_len (q m l) : ∀ k, (turnBN q m l k).length = l.length
 | 0 => rfl
 | k + 1 => by rw [turnBN, turnB_len, turnBN_len q m l k]
theorem bitv_m (m : BitVec 32) (k : Nat) : bitv (m.toNat : Int) k = if m.getLsbD k = true then 1 else 0 := by
 unfold bitv
 rw [← BitVec.testBit_toNat, Nat.testBit_eq_decide_div_mod_eq]
 have e : ((m.toNat : Int) / 2 ^ k) % 2 = ((m.toNat / 2 ^ k % 2 : Nat) : Int) := by push_cast; rfl
 rw [e]
 by_cases h : m.toNat / 2 ^ k % 2 = 1
 ·simp [h]
 ·have : m.toNat / 2 ^ k % 2 = 0 := by omega
  simp [this]
theorem turn_iB (q : Nat) (m : BitVec 32) (l : List Byt) (k : Nat) : lturn1 q (m.toNat : Int) (iB l) k = iB (turnB q m l k) := by
 unfold lturn1 turnB
 rw [List.length_map]
 by_cases h : q + k < 8 * l.length
 ·rw [if_pos h, if_pos h]
  simp only [iB, List.map_set]
  have hj : (q + k) / 8 < l.length := by omega
  have h8 : (q + k) % 8 < 8 := Nat.mod_lt _ (by omega)
  congr 1
  rw [getD_lt (by rw [List.length_map]; exact hj), List.getElem_map, getD_lt hj, ← x8_b, bitv_m]
  congr 1
  by_cases hm : m.getLsbD k = true
  ·rw [if_pos hm, if_pos hm, Int.one_mul, BitVec.toNat_twoPow, Nat.mod_eq_of_lt (Nat.pow_lt_pow_right (by omega) h8)]
   push_cast; rfl
  ·rw [if_neg hm, if_neg hm]; simp
 ·rw [if_neg h, if_neg h]
theorem turnN_iB (q : Nat) (m : BitVec 32) (l : List Byt) : ∀ k, turnN q (m.toNat : Int) (iB l) k = iB (turnBN q m l k)
 | 0 => rfl
 | k + 1 => by rw [turnN, turnN_iB q m l k, turn_iB]; rfl
def spoilB (l : List Byt) (at' : Nat) (m : BitVec 32) : List Byt := turnBN (at' % (8 * l.length)) m l 32
theorem turnB_bit (q : Nat) (m : BitVec 32) (l : List Byt) (k p : Nat) (hp : p < 8 * l.length) : (bitsL (turnB q m l k)).getD p false = ((bitsL l).getD p false ^^ (decide (p = q + k) && m.getLsbD k)) := by
 rw [bitsL_get, bitsL_get]
 unfold turnB
 by_cases h : q + k < 8 * l.length
 ·rw [if_pos h]
  have hj : (q + k) / 8 < l.length := by omega
  have h8 : p % 8 < 8 := Nat.mod_lt _ (by omega)
  by_cases hpj : p / 8 = (q + k) / 8
  ·rw [hpj, List.getD_eq_getElem?_getD, List.getElem?_set_self hj, Option.getD_some, BitVec.getLsbD_xor]
   congr 1
   by_cases hm : m.getLsbD k = true
   ·rw [if_pos hm, hm, Bool.and_true, BitVec.getLsbD_twoPow]
    by_cases e : p = q + k
    ·subst e; simp [h8]
    ·have : ¬ (q + k) % 8 = p % 8 := by omega
     simp [e, this]
   ·rw [if_neg hm]; simp at hm; simp [hm]
  ·rw [List.getD_eq_getElem?_getD, List.getElem?_set_ne (fun e => hpj e.symm), ← List.getD_eq_getElem?_getD]
   have : ¬ p = q + k := fun e => hpj (by rw [e])
   simp [this]
 ·rw [if_neg h]
  have : ¬ p = q + k := by omega
  simp [this]
theorem turnBN_bit (q : Nat) (m : BitVec 32) (l : List Byt) (p : Nat) (hp : p < 8 * l.length) : ∀ k, (bitsL (turnBN q m l k)).getD p false = ((bitsL l).getD p false ^^ (decide (q ≤ p ∧ p < q + k) && m.getLsbD (p - q)))
 | 0 => by
  have : ¬ (q ≤ p ∧ p < q + 0) := by omega
  rw [turnBN, decide_eq_false this]; simp
 | k + 1 => by
  rw [turnBN, turnB_bit q m _ k p (by rw [turnBN_len]; exact hp), turnBN_bit q m l p hp k]
  by_cases e : p = q + k
  ·subst e
   have h1 : ¬ (q ≤ q + k ∧ q + k < q + k) := by omega
   have h2 : q ≤ q + k ∧ q + k < q + (k + 1) := by omega
   simp [h1, h2]
  ·have h1 : (q ≤ p ∧ p < q + k) ↔ (q ≤ p ∧ p < q + (k + 1)) := by omega
   simp [e, h1]
theorem bits_ext {a b : List Byt} (hl : a.length = b.length) (h : ∀ p, p < 8 * a.length → (bitsL a).getD p false = (bitsL b).getD p false) : a = b := by
 apply List.ext_getElem hl
 intro i h1 h2
 apply BitVec.eq_of_getLsbD_eq
 intro j hj
 have := h (8 * i + j) (by omega)
 rw [bitsL_get, bitsL_get, show (8 * i + j) / 8 = i by omega, show (8 * i + j) % 8 = j by omega, getD_lt h1, getD_lt h2] at this
 exact this
theorem spoilB_len (l at' m) : (spoilB l at' m).length = l.length := turnBN_len _ _ _ _
theorem spoil_reg (l : List Byt) (hl : 0 < l.length) (at' : Nat) (m : BitVec 32) (hne : l ≠ spoilB l at' m) (s : BitVec 32) : reg s (bitsL l) ≠ reg s (bitsL (spoilB l at' m)) := by
 have hq : at' % (8 * l.length) < 8 * l.length := Nat.mod_lt _ (by omega)
 generalize hqq : at' % (8 * l.length) = q at *
 have hbit : ∀ p, p < 8 * l.length → (bitsL (spoilB l at' m)).getD p false = ((bitsL l).getD p false ^^ (decide (q ≤ p ∧ p < q + 32) && m.getLsbD (p - q))) := fun p hp => by
  rw [spoilB, hqq]; exact turnBN_bit q m l p hp 32
 have hlen : (bitsL (spoilB l at' m)).length = 8 * l.length := by rw [bitsL_len, spoilB_len]
 have hlen2 := bitsL_len l
 let k := min 32 (8 * l.length - q)
 have hez : List.zipWith xor (bitsL l) (bitsL (spoilB l at' m)) = List.replicate q false ++ (List.range k).map (fun j => m.getLsbD j) ++ List.replicate (8 * l.length - q - k) false := by
  apply List.ext_getElem
  ·simp only [List.length_zipWith, List.length_append, List.length_replicate, List.length_map, List.length_range, hlen, hlen2]; omega
  ·intro p h1 h2
   have hp : p < 8 * l.length := by simp only [List.length_zipWith, hlen, hlen2] at h1; omega
   have hb := hbit p hp
   rw [getD_lt (by omega), getD_lt (by omega)] at hb
   rw [List.getElem_zipWith, hb, ← Bool.xor_assoc, Bool.xor_self, Bool.false_xor]
   by_cases c1 : p < q
   ·rw [List.getElem_append_left (by simp; omega), List.getElem_append_left (by simpa using c1), List.getElem_replicate]
    have : ¬ (q ≤ p ∧ p < q + 32) := by omega
    simp [this]
   ·by_cases c2 : p < q + k
    ·rw [List.getElem_append_left (by simp; omega), List.getElem_append_right (by simp; omega)]
     have : q ≤ p ∧ p < q + 32 := by omega
     simp [this]
    ·rw [List.getElem_append_right (by simp; omega), List.getElem_replicate]
     have : ¬ (q ≤ p ∧ p < q + 32) := by omega
     simp [this]
 refine reg_burst s (by rw [hlen, hlen2]) q (8 * l.length - q - k) _ (by simp; omega) ?_ hez
 refine Classical.byContradiction fun hno => hne ?_
 refine bits_ext (by rw [spoilB_len]) fun p hp => ?_
 rw [hbit p hp]
 by_cases c : q ≤ p ∧ p < q + 32
 ·have : m.getLsbD (p - q) = false := by
   cases hm : m.getLsbD (p - q) with
   | false => rfl
   | true => exact absurd (List.mem_map.2 ⟨p - q, List.mem_range.2 (by omega), hm⟩) hno
  simp [this]
 ·simp [c]
theorem and_one32 (s : BitVec 32) : s &&& 1#32 = if s.getLsbD 0 = true then 1#32 else 0#32 := by
 apply BitVec.eq_of_getLsbD_eq
 intro i hi
 rw [BitVec.getLsbD_and, BitVec.getLsbD_one]
 by_cases h0 : i = 0
 ·subst h0
  cases s.getLsbD 0 <;> simp
 ·cases s.getLsbD 0 <;> simp [h0]
theorem turn1_Z (s : BitVec 32) : turn1 s = Z s := by
 unfold turn1 Z stB
 rw [Bool.xor_false, and_one32]
 cases s.getLsbD 0 <;> simp [poly, polyC]
theorem Zn_Z : ∀ (n : Nat) (s : BitVec 32), Zn n (Z s) = Z (Zn n s)
 | 0, s => rfl
 | n + 1, s => Zn_Z n (Z s)
theorem turns_Zn : ∀ (n : Nat) (s : BitVec 32), turns n s = Zn n s
 | 0, s => rfl
 | n + 1, s => by
  rw [turns, turns_Zn n s, turn1_Z, ← Zn_Z]; rfl
theorem Zn_shl : ∀ (n : Nat) (t : BitVec 32), n ≤ 32 → (∀ i, 32 - n ≤ i → t.getLsbD i = false) → Zn n (t <<< n) = t
 | 0, t, _, _ => by simp [Zn]
 | n + 1, t, hn, h => by
  have e : t <<< (n + 1) = (t <<< n) <<< 1 := BitVec.shiftLeft_add t n 1
  have h31 : (t <<< n).getLsbD 31 = false := by
   rw [BitVec.getLsbD_shiftLeft, h (31 - n) (by omega)]; simp
  rw [e, show Zn (n + 1) ((t <<< n) <<< 1) = Zn n (Z ((t <<< n) <<< 1)) from rfl, Z_shl h31]
  exact Zn_shl n t (by omega) fun i hi => h i (by omega)
theorem wordB_bits (b : Byt) : wordB (bitsB b) = b.setWidth 32 := by
 apply BitVec.eq_of_getLsbD_eq
 intro i hi
 rw [wordB_at _ _ hi, BitVec.getLsbD_setWidth]
 by_cases h : i < 8
 ·simp [bitsB, h, hi]
 ·rw [BitVec.getLsbD_of_ge b i (by omega)]
  simp [bitsB, h]
theorem stepW_reg (s : BitVec 32) (b : Byt) : stepW s b = reg s (bitsB b) := by
 rw [stepW, turns_Zn, reg_word _ _ (by rw [bitsB_len]; omega), bitsB_len, wordB_bits]
theorem sumStep_reg (s : BitVec 32) (b : Byt) : sumStep crcT s b = reg s (bitsB b) := by
 have h1 : crcT (s.setWidth 8 ^^^ b).toNat = Zn 8 ((s.setWidth 8 ^^^ b).setWidth 32) := by
  have hl := (s.setWidth 8 ^^^ b).isLt
  rw [crcT, tabF, if_pos (by omega), BitVec.ofNat_toNat, BitVec.setWidth_eq, stepW, turns_Zn, BitVec.zero_xor]
 have h2 : s ^^^ b.setWidth 32 = (s.setWidth 8 ^^^ b).setWidth 32 ^^^ ((s >>> 8) <<< 8) := by
  apply BitVec.eq_of_getLsbD_eq
  intro i hi
  simp only [BitVec.getLsbD_xor, BitVec.getLsbD_setWidth, BitVec.getLsbD_shiftLeft, BitVec.getLsbD_ushiftRight]
  by_cases h : i < 8
  ·simp [h, hi]
  ·rw [BitVec.getLsbD_of_ge b i (by omega), show 8 + (i - 8) = i by omega]
   simp [h, hi]
 have h3 : Zn 8 ((s >>> 8) <<< 8) = s >>> 8 := Zn_shl 8 _ (by omega) fun i hi => by
  rw [BitVec.getLsbD_ushiftRight, BitVec.getLsbD_of_ge s (8 + i) (by omega)]
 rw [← stepW_reg, stepW, turns_Zn, h2, Zn_lin, h3, sumStep, h1, BitVec.xor_comm]
theorem fold_reg : ∀ (l : List Byt) (s : BitVec 32), l.foldl (sumStep crcT) s = reg s (bitsL l)
 | [], s => rfl
 | b :: r, s => by rw [List.foldl_cons, fold_reg r, sumStep_reg, bitsL_cons, reg_app]
theorem crcB_reg (l : List Byt) : crcB l = ~~~ (reg (BitVec.allOnes 32) (bitsL l)) := by
 rw [crcB, sumF, List.foldl_cons, List.foldl_nil, fold_reg]
theorem wordB_leW (c : BitVec 32) : wordB (bitsL (leW c)) = c := by
 apply BitVec.eq_of_getLsbD_eq
 intro i hi
 rw [wordB_at _ _ hi, bitsL_get, leW4]
 have h8 : i % 8 < 8 := Nat.mod_lt _ (by omega)
 rcases (show i / 8 = 0 ∨ i / 8 = 1 ∨ i / 8 = 2 ∨ i / 8 = 3 by omega) with h | h | h | h <;> rw [h]
 ·simp only [List.getD_cons_zero, BitVec.getLsbD_setWidth, h8, decide_true, Bool.true_and]; congr 1; omega
 ·simp only [List.getD_cons_succ, List.getD_cons_zero, BitVec.getLsbD_setWidth, BitVec.getLsbD_ushiftRight, h8, decide_true, Bool.true_and]; congr 1; omega
 ·simp only [List.getD_cons_succ, List.getD_cons_zero, BitVec.getLsbD_setWidth, BitVec.getLsbD_ushiftRight, h8, decide_true, Bool.true_and]; congr 1; omega
 ·simp only [List.getD_cons_succ, List.getD_cons_zero, BitVec.getLsbD_setWidth, BitVec.getLsbD_ushiftRight, h8, decide_true, Bool.true_and]; congr 1; omega
theorem sealed_reg {l : List Byt} (h4 : 4 ≤ l.length) (h : l.drop (l.length - 4) = tail4 (l.take (l.length - 4))) : reg (BitVec.allOnes 32) (bitsL l) = Zn 32 (BitVec.allOnes 32) := by
 have e : l = l.take (l.length - 4) ++ tail4 (l.take (l.length - 4)) := by rw [← h, List.take_append_drop]
 generalize l.take (l.length - 4) = m at e
 rw [e, bitsL_app, reg_app, reg_word _ _ (by rw [bitsL_len, tail4_len]; omega), bitsL_len, tail4_len, tail4, wordB_leW, crcB_reg]
 congr 1
 generalize reg (BitVec.allOnes 32) (bitsL m) = s
 apply BitVec.eq_of_getLsbD_eq
 intro i hi
 rw [BitVec.getLsbD_xor, BitVec.getLsbD_not, BitVec.getLsbD_allOnes, decide_eq_true hi]
 cases s.getLsbD i <;> rfl
theorem bent_open {l : List Byt} (h4 : 4 ≤ l.length) (h : l.drop (l.length - 4) = tail4 (l.take (l.length - 4))) (at' : Nat) (m : BitVec 32) (hb : (spoilB l at' m).drop ((spoilB l at' m).length - 4) = tail4 ((spoilB l at' m).take ((spoilB l at' m).length - 4))) : l = spoilB l at' m := by
 refine Classical.byContradiction fun hne => spoil_reg l (by omega) at' m hne (BitVec.allOnes 32) ?_
 rw [sealed_reg h4 h, sealed_reg (by rw [spoilB_len]; exact h4) hb]
theorem x_view_view (b : Bd) (o : Int) : (b.view o).view o = b.view o := by
 apply Bd.ext
 simp only [Bd.view, Bd.map, List.map_map]
 apply List.map_congr_left
 intro c _
 simp only [Function.comp, viewC]
 by_cases h : hasM c.s o = true
 ·simp [h]
 ·simp [h]
theorem x_view_ok {b : Bd} (h : b.ok) (o : Int) : (b.view o).ok := by
 intro c hc
 simp only [Bd.view, Bd.map, List.mem_map] at hc
 obtain ⟨d, hd, rfl⟩ := hc
 simp only [viewC]
 split
 ·exact h d hd
 ·exact I32_0
theorem at_ok {b : Bd} (h : b.ok) (i : Int) : I32 (b.at i).v := by
 unfold Bd.at
 rw [List.getD_eq_getElem?_getD]
 cases hc : b.l[i.toNat]? with
 | none => exact I32_0
 | some c => exact h c (List.mem_of_getElem? hc)
theorem of_I32 {b : Bd} (h : b.ok) (q : BitVec 64) (o : Int) (t : BitVec 32) (n : Nat) : ∀ c ∈ (ofF b q o t n).cs, I32 c.v := by
 intro c hc
 simp only [ofF, List.mem_map] at hc
 obtain ⟨i, _, rfl⟩ := hc
 exact at_ok (x_view_ok h o) _
theorem ofP_all (n : Nat) (h : n ≤ 64) : ofP (BitVec.allOnes 64) n = List.range n := by
 rw [ofP, List.filter_eq_self]
 intro i hi
 have := List.mem_range.1 hi
 rw [BitVec.getLsbD_allOnes, decide_eq_true_eq]; omega
theorem board_full (b : Bd) (o : Int) (t : BitVec 32) : boardF (ofF b (BitVec.allOnes 64) o t b.l.length) = (b.view o, 0) := by
 have hb := b.h
 have hvl : (b.view o).l.length = b.l.length := by simp [Bd.view, Bd.map]
 have hP := ofP_all b.l.length (by omega)
 have hps : (ofF b (BitVec.allOnes 64) o t b.l.length).ps = (List.range b.l.length).map (BitVec.ofNat 8) := by rw [ofF, hP]
 have hcs : (ofF b (BitVec.allOnes 64) o t b.l.length).cs = (b.view o).l := by
  rw [ofF, hP]
  apply List.ext_getElem
  ·simp [hvl]
  ·intro i h1 h2
   simp only [List.getElem_map, List.getElem_range, Bd.at, Int.toNat_natCast]
   simp [List.getD_eq_getElem?_getD, h2]
 have hf : fullP (ofF b (BitVec.allOnes 64) o t b.l.length).ps = true := by
  rw [hps, fullP, List.all_eq_true]
  intro i hi
  have hi := List.mem_range.1 hi
  simp only [List.length_map, List.length_range] at hi
  have : ((List.range b.l.length).map (BitVec.ofNat 8)).getD i 0#8 = BitVec.ofNat 8 i := by simp [hi]
  rw [this, BitVec.toNat_ofNat, Nat.mod_eq_of_lt (by omega)]
  simp
 have hn : Bd.new (b.view o).l = b.view o := by
  have h48 : (b.view o).l.length ≤ 48 := by omega
  simp [Bd.new, h48]
 unfold boardF
 rw [if_pos hf, hcs, if_pos (by omega), hn, if_pos (show sumB true (b.view o) = (ofF b (BitVec.allOnes 64) o t b.l.length).h from rfl)]
theorem Chain.snoc {g : Gm} {o : Int} : ∀ {ds : List Dl} {ws vs : List (Bd × BitVec 32)} {d : Dl} {b : Bd}, Chain g o ws ds vs → d.ok = true → d.ps.length ≤ 48 → (∀ c ∈ d.cs, I32 c.v) → NextV vs d b → b.l.length = g.cells.length → b.view o = b → Chain g o ws (ds ++ [d]) (vs ++ [(b, d.t)])
 | [], ws, vs, d, b, h, h1, h2, h3, h4, h5, h6 => by
  have h' : vs = ws := h
  subst h'
  exact ⟨h1, h2, h3, b, h4, h5, h6, rfl⟩
 | e :: ds, ws, vs, d, b, h, h1, h2, h3, h4, h5, h6 => by
  obtain ⟨k1, k2, k3, c, k4, k5, k6, k7⟩ := h
  exact ⟨k1, k2, k3, c, k4, k5, k6, Chain.snoc k7 h1 h2 h3 h4 h5 h6⟩
theorem chain_new {g : Gm} {o : Int} (b : Bd) (hb : b.ok) (hl : b.l.length = g.cells.length) (t : BitVec 32) : Chain g o [] [ofF b (BitVec.allOnes 64) o t b.l.length] [(b.view o, t)] := by
 have hk := of_ok b (BitVec.allOnes 64) o t b.l.length b.h
 exact ⟨hk.1, hk.2, of_I32 hb _ _ _ _, b.view o, .inl ⟨rfl, board_full b o t⟩, by simp [Bd.view, Bd.map, hl], x_view_view b o, rfl⟩
theorem tLen_ok {J : JH} {c : Nat} {g : Gm} {x y : IV} {o : Int} {v : Bd} {t : BitVec 32} {s : IV} {ds : List (Dl × IV × IV)} (h : TapeAt J c g x y o v t s ds) : RP (ic BI F_replay_Tape_Len [.ptr c 0 0] J) fun r J' => r = nI ds.length ∧ J' = J := by
 refine RP_run fn_replay_Tape_Len rfl fun K hK => ?_
 unfold l_replay_Tape_Len
 have h0 := h.cells
 have hlen := TL.lenF h.told (dl4 ds)
 rw [List.length_map] at hlen
 simp -implicitDefEqProofs only [go_sem, dnW_ite, go_sem_proc, iisNil, h0, inb h0, hlen]
 exact hK _ _ ⟨rfl, rfl⟩
theorem rLen_ok {J : JH} {r : Nat} {g : Gm} {x y : IV} {o : Int} {s : IV} {ws : List (Bd × BitVec 32)} (h : ReelAt J r g x y o s ws) : RP (ic BI F_replay_Reel_Len [.ptr r 0 0] J) fun v J' => v = nI ws.length ∧ J' = J := by
 refine RP_run fn_replay_Reel_Len rfl fun K hK => ?_
 unfold l_replay_Reel_Len
 have h0 := h.cells
 have hln := fun J' => h.vws.lenF (J' := J') (n := ws.length) (by rw [flat_len (vwc99 ws), List.length_map]) (by omega)
 simp -implicitDefEqProofs only [go_sem, dnW_ite, go_sem_proc, iisNil, h0, inb h0, hln]
 exact hK _ _ ⟨rfl, rfl⟩
theorem deltaP_inv {bs : List Byt} {d : Dl} (h : deltaP bs = some d) : d.ok = true ∧ d.ps.length ≤ 255 := by
 unfold deltaP at h
 split at h
 ·rename_i hc
  simp only [Option.some.injEq] at h
  subst h
  refine ⟨hc.2, ?_⟩
  simp only [dlOf, List.length_map, eCps_len]
  have := (eByte (eWord (eWord (some bs)).2).2).1.isLt
  omega
 ·cases h
def NextA (g : Gm) (o : Int) (ws : List (Bd × BitVec 32)) (e : Bd × BitVec 32) : Prop := e.1.l.length = g.cells.length ∧ e.1.view o = e.1 ∧ ∀ us v, ws = us ++ [v] → e.2.toNat = v.2.toNat + 1
theorem follow_any {J : JH} {r : Nat} {g : Gm} {x y : IV} {o : Int} {s : IV} {ws : List (Bd × BitVec 32)} (h : ReelAt J r g x y o s ws) {w : IV} {bs : List Byt} (hw : Ls 1 w (bs.map by8)) (hb : bs.length ≤ 1000000) (hws : ws.length ≤ 100000) :
  RP (ic BI F_replay_Reel_follow [.ptr r 0 0, w] J) fun v J' => (v = .bool false ∧ Fr J J' []) ∨ (v = .bool true ∧ ∃ s' e, NextA g o ws e ∧ ReelAt J' r g x y o s' (ws ++ [e]) ∧ Fr J J' (r :: blk s) ∧ ∀ q ∈ blk s', q ∈ blk s ∨ J.size ≤ q) := by
 refine RP_run fn_replay_Reel_follow rfl fun K hK => ?_
 unfold l_replay_Reel_follow
 have no : ∀ J', Fr J J' [] → K (.ret [.bool false]) J' := fun J' hf => hK _ _ (.inl ⟨rfl, hf⟩)
 obtain ⟨u, hu, hu2⟩ := DParse_ok hw hb
 have hf := Fr.refl J []
 cases hd : deltaP bs with
 | none =>
  rw [hd] at hu2
  simp only at hu2
  subst hu2
  simp -implicitDefEqProofs only [go_sem, dnW_ite, go_sem_proc, ↓dcp hu (by simp [ipureL, hw.pure]), dl_len, dl_take, dl_all]
  rw [if_pos (by decide)]
  exact no _ (by (have hsz_ := hf.1; repeat (first | with_reducible exact hf | with_reducible apply Fr.psh | ((with_reducible apply Fr.stn); rotate_left; first | omega | (simp only [Array.size_push, Array.size_setIfInBounds] <;> omega)) | ((with_reducible apply Fr.sts); rotate_left; focus (simp only [List.mem_cons, eq_self, true_or, or_true]; done)))))
 | some d =>
 rw [hd] at hu2
 obtain ⟨x2, y2, rfl, hDR⟩ := hu2
 obtain ⟨hk, h255⟩ := deltaP_inv hd
 have hB := dBoard_ok d x2 y2 hDR hk (by omega)
 have do1 := hDR.one
 have dp := hDR.pure
 have h0 := h.cells
 have hl0 := lt_get h0
 have hlo := h.vws.low
 have H : ∀ J1 (b : Bd) (e : Int), (∀ us v, ws = us ++ [v] → d.t.toNat = v.2.toNat + 1) → Fr J J1 [] → J1[J.size]? = some (.cells 0 (dlc d x2 y2) false) → J1[J.size + 1]? = some (.cells 0 (bdc b) false) → WP (dn BI l_replay_Reel_follow_k1 [.ptr r 0 0, .ptr J.size 0 0, .int .i64 e, .ptr (J.size + 1) 0 0] J1) K := by
  intro J1 b e htk f1 hd1 hb1
  have h1 := h.fr f1 (by simp) (by simp)
  have hc1 := h1.cells
  have z1 := f1.1
  have hlx := fun J => h1.gr.x.lenF (J := J)
  unfold l_replay_Reel_follow_k1
  by_cases he : e = 0
  rotate_left
  ·have hne : (e != 0) = true := by simpa using he
   simp -implicitDefEqProofs only [go_sem, dnW_ite, go_sem_proc, hne]
   exact no _ f1
  subst he
  by_cases hl : b.l.length = g.cells.length
  rotate_left
  ·have hne : ((b.l.length : Int) != (g.cells.length : Int)) = true := by simp; omega
   simp -implicitDefEqProofs only [go_sem, dnW_ite, go_sem_proc, hd1, hb1, hc1, inb hd1, inb hb1, inb hc1, bdc_len, bdc_take, hlx, List.length_map, dcp (Len_ok b) (by simp [ipureL, ipure, bdc_pure]), hne, bne_self_eq_false]
   exact no _ f1
  by_cases hv : b.view o = b
  rotate_left
  ·have hv' : ¬ b = b.view o := fun e => hv e.symm
   simp -implicitDefEqProofs only [go_sem, dnW_ite, go_sem_proc, hd1, hb1, hc1, inb hd1, inb hb1, inb hc1, bdc_len, bdc_take, hlx, List.length_map, dcp (Len_ok b) (by simp [ipureL, ipure, bdc_pure]), hl, bne_self_eq_false, dcp (View_ok b o) (by simp [ipureL, ipure, bdc_pure]), bdc_eq, hv', decide_false]
   exact no _ f1
  simp -implicitDefEqProofs only [go_sem, dnW_ite, go_sem_proc, hd1, hb1, hc1, inb hd1, inb hb1, inb hc1, bdc_len, bdc_take, hlx, List.length_map, dcp (Len_ok b) (by simp [ipureL, ipure, bdc_pure]), hl, bne_self_eq_false, dcp (View_ok b o) (by simp [ipureL, ipure, bdc_pure]), hv, bdc_eq, decide_true]
  unfold l_replay_Reel_follow_k0
  have hs98 : ∀ e : BitVec 32, isplice (stc b 0 0) 98 [m32 e] = stc b 0 (e.toNat : Int) := fun e => sta_s98 b 0 0 _
  have hsp : ∀ e : Int, ipureL (stc b 0 e) = true := fun e => sta_pure b 0 e
  simp -implicitDefEqProofs only [go_sem, dnW_ite, go_sem_proc, hd1, hb1, hc1, inb hd1, inb hb1, inb hc1, bdc_len, bdc_take, st_z99, sta_z, sta_sbd, hs98, sta_len, sta_take, hsp, ipureL, ipure, grp, mkE, show (97 : Nat) ≤ 99 by omega, show (99 : Nat) ≤ 99 by omega]
  refine WP_bind (h1.vws.app (m := 1) (ds := vwc (b, d.t)) (by omega) (by simp [iscells, Go.Proofs.YticfcmaigffhmaaGreat.G.icells]) rfl (sta_len _ _ _) (sta_one _ _ _) (fits408 (by rw [flat_len (vwc99 ws), List.length_map]; omega))) fun s' J2 hs => ?_
  obtain ⟨q1, q2, q3⟩ := hs
  have hc2 : J2[r]? = some (.cells 0 (rlc g x y o s) false) := by rw [q2.2 r (lt_get hc1) h1.off]; exact hc1
  have hl2 := lt_get hc2
  have z2 := q2.1
  simp -implicitDefEqProofs only [go_sem, dnW_ite, go_sem_proc, hc2, inb hc2, set_get _ hl2, ↓q1.icells, ↓q1.one]
  have hcs' : r ∉ blk s' := fun hm => by
   rcases q3 r hm with h' | h'
   ·exact h.off h'
   ·omega
  have ff : Fr J (J2.setIfInBounds r (.cells 0 (rlc g x y o s') false)) (r :: blk s) :=
   (((f1.weak (T := blk s) (by simp)).trans q2 (fun _ _ h => h)).weak (T := r :: blk s) (fun d hd => by simp [hd])).trans (Fr.set _ _ (S := r :: blk s) (by simp)) (fun _ _ h => h)
  refine hK _ _ (.inr ⟨rfl, s', (b, d.t), ⟨hl, hv, htk⟩, ⟨set_get _ hl2, ?_, h.gr, hcs'⟩, ff, fun q hq => ?_⟩)
  ·rw [List.map_append, List.flatten_append]
   simp only [List.map_cons, List.map_nil, List.flatten_cons, List.flatten_nil, List.append_nil]
   exact q1.fr (Fr.set _ _ (S := [r]) (by simp)) (fun q hq hm => by simp at hm; subst hm; exact hcs' hq)
  ·rcases q3 q hq with h' | h'
   ·exact .inl h'
   ·exact .inr (by omega)
 have hln := fun J' => h.vws.lenF (J' := J') (n := ws.length) (by rw [flat_len (vwc99 ws), List.length_map]) (by omega)
 generalize hBF : boardF d = bf at *
 rcases List.eq_nil_or_concat ws with rfl | ⟨us, ⟨v, t⟩, rfl⟩
 ·simp -implicitDefEqProofs only [go_sem, dnW_ite, go_sem_proc, ↓dcp hu (by simp [ipureL, hw.pure]), do1, dl_len, dl_take, dl_all, bne_self_eq_false, dcp hB (by simp [ipureL, ipure, dp]), bdc_len, bdc_one, bdc_take, bdc_all, zc_bd, h0, inb h0, hln, List.length_nil]
  refine H _ bf.1 bf.2 (fun us v e => by simp at e) ?_ ?_ ?_
  ·(have hsz_ := hf.1; repeat (first | with_reducible exact hf | with_reducible apply Fr.psh | ((with_reducible apply Fr.stn); rotate_left; first | omega | (simp only [Array.size_push, Array.size_setIfInBounds] <;> omega)) | ((with_reducible apply Fr.sts); rotate_left; focus (simp only [List.mem_cons, eq_self, true_or, or_true]; done))))
  ·(repeat (first | with_reducible assumption | ((with_reducible refine gsE ?_ ?_); (focus omega); focus (first | omega | (simp only [Array.size_push, Array.size_setIfInBounds] <;> omega))) | ((with_reducible refine gsN ?_ ?_); focus omega) | ((with_reducible refine gpN ?_ ?_); focus (first | omega | (simp only [Array.size_push, Array.size_setIfInBounds] <;> omega))) | ((with_reducible refine gpE ?_); focus (first | omega | (simp only [Array.size_push, Array.size_setIfInBounds] <;> omega)))))
  ·(repeat (first | with_reducible assumption | ((with_reducible refine gsE ?_ ?_); (focus omega); focus (first | omega | (simp only [Array.size_push, Array.size_setIfInBounds] <;> omega))) | ((with_reducible refine gsN ?_ ?_); focus omega) | ((with_reducible refine gpN ?_ ?_); focus (first | omega | (simp only [Array.size_push, Array.size_setIfInBounds] <;> omega))) | ((with_reducible refine gpE ?_); focus (first | omega | (simp only [Array.size_push, Array.size_setIfInBounds] <;> omega)))))
 ·rw [List.concat_eq_append] at *
  obtain ⟨h99, hx⟩ := h.vws.slx (vwc99 _) (by omega)
  rcases hx with ⟨_, hx⟩ | ⟨cb, cv, rest, rfl, hcb, _⟩
  ·simp at hx
  have eD : (((us ++ [(v, t)]).map vwc).flatten ++ rest).drop (us.length * 99) = stc v 0 (t.toNat : Int) ++ rest := by
   rw [flat_drop h99 (by simp)]
   simp
  have eD0 : ((((us ++ [(v, t)]).map vwc).flatten ++ rest).drop (us.length * 99)).take 97 = bdc v := by
   rw [eD, List.take_append_of_le_length (by rw [sta_len]; omega), sta_bd]
  have eD98 : ((((us ++ [(v, t)]).map vwc).flatten ++ rest).drop (us.length * 99 + 98)).take 1 = [.int .u32 (t.toNat : Int)] := by
   rw [← List.drop_drop, eD, List.drop_append_of_le_length (by rw [sta_len]; omega), stc, show 98 = 97 + 1 from rfl, ← List.drop_drop, List.drop_left' (bdc_len v)]
   rfl
  have eL : us.length * 99 + 99 ≤ (((us ++ [(v, t)]).map vwc).flatten ++ rest).length := by
   rw [List.length_append, flat_len h99]; simp; omega
  have hlX : ((us ++ [(v, t)]).map vwc).length = us.length + 1 := by simp
  generalize ((us ++ [(v, t)]).map vwc).flatten ++ rest = F at *
  have hw1 : IntKind.i64.wrap (((us.length + 1 : Nat) : Int) - 1) = (us.length : Int) := by
   have : us.length ≤ 100000 := by simp at hws; omega
   rw [wrap_i64 (by omega) (by omega)]; omega
  have w1 : IntKind.u64.wrap (d.t.toNat : Int) = (d.t.toNat : Int) := by have := d.t.isLt; exact wrap_u64 (by omega) (by omega)
  have w2 : IntKind.u64.wrap (t.toNat : Int) = (t.toNat : Int) := by have := t.isLt; exact wrap_u64 (by omega) (by omega)
  have w3 : IntKind.u64.wrap ((t.toNat : Int) + 1) = (t.toNat : Int) + 1 := by have := t.isLt; exact wrap_u64 (by omega) (by omega)
  have hA := dApply_ok d x2 y2 hDR (by omega) v
  generalize applyF d v = af at *
  have lcb := lt_get hcb
  by_cases htk : d.t.toNat = t.toNat + 1
  ·have n1 : ((d.t.toNat : Int) != (t.toNat : Int) + 1) = false := by simp; omega
   simp -implicitDefEqProofs only [go_sem, dnW_ite, go_sem_proc, ↓dcp hu (by simp [ipureL, hw.pure]), do1, dl_len, dl_take, dl_all, bne_self_eq_false, dcp hB (by simp [ipureL, ipure, dp]), bdc_len, bdc_one, bdc_take, bdc_all, zc_bd, h0, inb h0, hlX, hw1, hcb, inb hcb, eD0, eD98, show us.length * 99 + 97 ≤ F.length by omega, show us.length * 99 + 98 + 1 ≤ F.length by omega, show us.length < us.length + 1 by omega, show ((us.length + 1 : Nat) : Int) > 0 by omega, dcp hA (by simp [ipureL, ipure, bdc_pure, dp]), ↓w1, ↓w2, ↓w3, n1]
   rw [if_neg (by decide)]
   refine H _ af.1 af.2 (fun us' v' e => by
    have := List.append_inj' e rfl
    simp at this
    rw [← this.2]; exact htk) ?_ ?_ ?_
   ·(have hsz_ := hf.1; repeat (first | with_reducible exact hf | with_reducible apply Fr.psh | ((with_reducible apply Fr.stn); rotate_left; first | omega | (simp only [Array.size_push, Array.size_setIfInBounds] <;> omega)) | ((with_reducible apply Fr.sts); rotate_left; focus (simp only [List.mem_cons, eq_self, true_or, or_true]; done))))
   ·(repeat (first | with_reducible assumption | ((with_reducible refine gsE ?_ ?_); (focus omega); focus (first | omega | (simp only [Array.size_push, Array.size_setIfInBounds] <;> omega))) | ((with_reducible refine gsN ?_ ?_); focus omega) | ((with_reducible refine gpN ?_ ?_); focus (first | omega | (simp only [Array.size_push, Array.size_setIfInBounds] <;> omega))) | ((with_reducible refine gpE ?_); focus (first | omega | (simp only [Array.size_push, Array.size_setIfInBounds] <;> omega)))))
   ·(repeat (first | with_reducible assumption | ((with_reducible refine gsE ?_ ?_); (focus omega); focus (first | omega | (simp only [Array.size_push, Array.size_setIfInBounds] <;> omega))) | ((with_reducible refine gsN ?_ ?_); focus omega) | ((with_reducible refine gpN ?_ ?_); focus (first | omega | (simp only [Array.size_push, Array.size_setIfInBounds] <;> omega))) | ((with_reducible refine gpE ?_); focus (first | omega | (simp only [Array.size_push, Array.size_setIfInBounds] <;> omega)))))
  ·have n1 : ((d.t.toNat : Int) != (t.toNat : Int) + 1) = true := by simp; omega
   simp -implicitDefEqProofs only [go_sem, dnW_ite, go_sem_proc, ↓dcp hu (by simp [ipureL, hw.pure]), do1, dl_len, dl_take, dl_all, bne_self_eq_false, dcp hB (by simp [ipureL, ipure, dp]), bdc_len, bdc_one, bdc_take, bdc_all, zc_bd, h0, inb h0, hlX, hw1, hcb, inb hcb, eD0, eD98, show us.length * 99 + 97 ≤ F.length by omega, show us.length * 99 + 98 + 1 ≤ F.length by omega, show us.length < us.length + 1 by omega, show ((us.length + 1 : Nat) : Int) > 0 by omega, dcp hA (by simp [ipureL, ipure, bdc_pure, dp]), ↓w1, ↓w2, ↓w3, n1]
   rw [if_neg (by decide)]
   exact no _ (by (have hsz_ := hf.1; repeat (first | with_reducible exact hf | with_reducible apply Fr.psh | ((with_reducible apply Fr.stn); rotate_left; first | omega | (simp only [Array.size_push, Array.size_setIfInBounds] <;> omega)) | ((with_reducible apply Fr.sts); rotate_left; focus (simp only [List.mem_cons, eq_self, true_or, or_true]; done)))))
theorem unB0 : ([] : List IV).mapM iunB = some [] := rfl
theorem bEqual_any {x y : IV} {l p : List Byt} (hx : Ls 1 x (l.map by8)) (hy : Ls 1 y (p.map by8)) : ∃ u, pc BI F_bytes_Equal [x, y] = some u ∧ ∃ e, u = .bool e := by
 refine pcW fn_bytes_Equal rfl fun K hK => ?_
 unfold l_bytes_Equal
 rcases hx with ⟨rfl, h⟩ | ⟨f, rfl⟩
 ·rcases hy with ⟨rfl, h⟩ | ⟨f, rfl⟩
  ·simp -implicitDefEqProofs only [go_sem, dnW_ite, go_sem_proc, strOf, unB0]
   exact hK [_] _ _ (frzP rfl) ⟨_, rfl⟩
  ·simp -implicitDefEqProofs only [go_sem, dnW_ite, go_sem_proc, by8_ic, unB8, strOf, unB0, List.flatMap_nil]
   exact hK [_] _ _ (frzP rfl) ⟨_, rfl⟩
 ·rcases hy with ⟨rfl, h⟩ | ⟨f, rfl⟩
  ·simp -implicitDefEqProofs only [go_sem, dnW_ite, go_sem_proc, by8_ic, unB8, strOf, unB0, List.flatMap_nil]
   exact hK [_] _ _ (frzP rfl) ⟨_, rfl⟩
  ·simp -implicitDefEqProofs only [go_sem, dnW_ite, go_sem_proc, by8_ic, unB8, strOf]
   exact hK [_] _ _ (frzP rfl) ⟨_, rfl⟩
theorem bPrefix_any {x y : IV} {l p : List Byt} (hx : Ls 1 x (l.map by8)) (hy : Ls 1 y (p.map by8)) (hb : l.length ≤ 1000000) : ∃ u, pc BI F_bytes_HasPrefix [x, y] = some u ∧ ∃ e, u = .bool e ∧ (e = true → p.length ≤ l.length) := by
 refine pcW fn_bytes_HasPrefix rfl fun K hK => ?_
 unfold l_bytes_HasPrefix
 by_cases hl : p.length ≤ l.length
 ·obtain ⟨z, hz, hzl⟩ := hx.slice (h := p.length) (by simpa using hl)
  rw [← List.map_take] at hzl
  obtain ⟨_, hE, e, rfl⟩ := bEqual_any hzl hy
  simp -implicitDefEqProofs only [go_sem, dnW_ite, go_sem_proc, hx.lenF, hy.lenF, List.length_map, show ((l.length : Int)) ≥ (p.length : Int) by omega, hz, dcp hE (by simp [ipureL, hy.pure, hzl.pure])]
  exact hK _ _ _ (frzE rfl rfl) ⟨_, rfl, fun _ => hl⟩
 ·simp -implicitDefEqProofs only [go_sem, dnW_ite, go_sem_proc, hx.lenF, hy.lenF, List.length_map, show ¬ (((l.length : Int)) ≥ (p.length : Int)) by omega]
  exact hK _ _ _ (frzE rfl rfl) ⟨_, rfl, fun e => by cases e⟩
theorem bCut_any {x y : IV} {l p : List Byt} (hx : Ls 1 x (l.map by8)) (hy : Ls 1 y (p.map by8)) (hb : l.length ≤ 1000000) : ∃ u, pc BI F_bytes_CutPrefix [x, y] = some u ∧ ∃ (z : IV) (e : Bool) (rr : List Byt), u = .tup [z, .bool e] ∧ Ls 1 z (rr.map by8) ∧ rr.length ≤ l.length := by
 refine pcW fn_bytes_CutPrefix rfl fun K hK => ?_
 unfold l_bytes_CutPrefix
 obtain ⟨_, hP, e, rfl, he⟩ := bPrefix_any hx hy hb
 cases e with
 | false =>
  simp -implicitDefEqProofs only [go_sem, dnW_ite, go_sem_proc, dcp hP (by simp [ipureL, hx.pure, hy.pure])]
  exact hK _ _ _ (frzE (by simp [itup, ipure, ipureL, hx.pure]) rfl) ⟨x, false, l, rfl, hx, Nat.le_refl _⟩
 | true =>
  obtain ⟨z, hz, hzl⟩ := hx.sliceLo (l := p.length) (by simpa using he rfl)
  rw [← List.map_drop] at hzl
  simp -implicitDefEqProofs only [go_sem, dnW_ite, go_sem_proc, dcp hP (by simp [ipureL, hx.pure, hy.pure]), hy.lenF, List.length_map, hz]
  exact hK _ _ _ (frzE (by simp [itup, ipure, ipureL, hzl.pure]) rfl) ⟨z, true, _, rfl, hzl, by simp⟩
def AllN (g : Gm) (o : Int) (ws : List (Bd × BitVec 32)) : Prop := ∀ k (hk : k < ws.length), (ws[k].1.l.length = g.cells.length ∧ ws[k].1.view o = ws[k].1) ∧ (0 < k → ws[k].2.toNat = (ws[k - 1]'(by omega)).2.toNat + 1)
theorem AllN.snoc {g : Gm} {o : Int} {ws : List (Bd × BitVec 32)} {e : Bd × BitVec 32} (h : AllN g o ws) (he : NextA g o ws e) : AllN g o (ws ++ [e]) := by
 intro k hk
 rw [List.length_append] at hk
 simp only [List.length_cons, List.length_nil] at hk
 by_cases h1 : k < ws.length
 ·obtain ⟨a, b⟩ := h k h1
  rw [List.getElem_append_left h1]
  refine ⟨a, fun h0 => ?_⟩
  rw [List.getElem_append_left (by omega)]
  exact b h0
 ·obtain rfl : k = ws.length := by omega
  obtain ⟨a, b, c⟩ := he
  rw [List.getElem_append_right (Nat.le_refl _)]
  simp only [Nat.sub_self, List.getElem_cons_zero]
  refine ⟨⟨a, b⟩, fun h0 => ?_⟩
  rw [List.getElem_append_left (by omega)]
  rcases List.eq_nil_or_concat ws with rfl | ⟨us, v, rfl⟩
  ·simp at h0
  ·rw [List.concat_eq_append] at *
   have := c us v rfl
   simpa using this
theorem Read_any {x : IV} {l : List Byt} (hx : Ls 1 x (l.map by8)) (hb : l.length ≤ 900000) (J : JH) :
  RP (ic BI F_replay_Read [x] J) fun v J' => (∃ e : Int, v = .tup [.sc (.pointer none), .int .i64 e] ∧ (e = 2 ∨ e = 5) ∧ Fr J J' []) ∨
   ((4 ≤ l.length ∧ l.drop (l.length - 4) = tail4 (l.take (l.length - 4))) ∧ ∃ (r : Nat) (x2 y2 s : IV) (g : Gm) (o : Int) (ws : List (Bd × BitVec 32)), v = .tup [.ptr r 0 0, .int .i64 0] ∧ (g.right = true ∧ (∀ c ∈ g.code, c.wf) ∧ 0 ≤ o ∧ o < g.obs) ∧ (ws ≠ [] ∧ ws.length ≤ 65536 ∧ AllN g o ws) ∧ J.size ≤ r ∧ Fr J J' [] ∧ ReelAt J' r g x2 y2 o s ws ∧ ∀ q ∈ blk s, J.size ≤ q) := by
 refine RP_run fn_replay_Read rfl fun K hK => ?_
 unfold l_replay_Read
 have no : ∀ J' (e : Int), (e = 2 ∨ e = 5) → Fr J J' [] → K (.ret [.sc (.pointer none), .int .i64 e]) J' := fun J' e he hf => hK _ _ (.inl ⟨e, rfl, he, hf⟩)
 obtain ⟨u, hu, hu2⟩ := Open_ok hx hb
 by_cases h4 : l.length < 4
 ·rw [if_pos h4] at hu2
  subst hu2
  simp -implicitDefEqProofs only [go_sem, dnW_ite, go_sem_proc, dcp Make_ok rfl, dcp hu (by simp [ipureL, ipure, tabL_pure, hx.pure])]
  rw [if_pos (by decide)]
  exact no _ 2 (.inl rfl) (.refl _ _)
 rw [if_neg h4] at hu2
 by_cases htl : l.drop (l.length - 4) = tail4 (l.take (l.length - 4))
 rotate_left
 ·rw [if_neg htl] at hu2
  subst hu2
  simp -implicitDefEqProofs only [go_sem, dnW_ite, go_sem_proc, dcp Make_ok rfl, dcp hu (by simp [ipureL, ipure, tabL_pure, hx.pure])]
  rw [if_pos (by decide)]
  exact no _ 5 (.inr rfl) (.refl _ _)
 rw [if_pos htl] at hu2
 obtain ⟨y, rfl, hy⟩ := hu2
 have hyl : (l.take (l.length - 4)).length ≤ 900000 := by rw [List.length_take]; omega
 generalize l.take (l.length - 4) = m at *
 have hmc : [IV.int .u8 104, .int .u8 111, .int .u8 111, .int .u8 100, .int .u8 119, .int .u8 105, .int .u8 110, .int .u8 107] = magicB.map by8 := rfl
 simp -implicitDefEqProofs only [go_sem, dnW_ite, go_sem_proc, dcp Make_ok rfl, dcp hu (by simp [ipureL, ipure, tabL_pure, hx.pure]), imark, lt_UNK]
 rw [hmc, if_neg (by decide)]
 obtain ⟨⟨f, hm1⟩, hm2⟩ := fr_magic J
 obtain ⟨u, hu, z, e, R0, rfl, hz, hR0⟩ := bCut_any hy (.lst (f := f) (xs := magicB.map by8)) (by omega)
 refine WP_callG (S := [J.size]) (.pure hy.pure (.raw hm1 hm2 .nil)) hu fun J1 f1 z1 => ?_
 have zp : (J.push (IB.cells 0 (magicB.map by8) false)).size = J.size + 1 := by simp
 have hJJ1 : J.size < J1.size := by omega
 have f01 : Fr J J1 [] := (Fr.push J (.cells 0 (magicB.map by8) false) []).trN f1 (by simp)
 cases e with
 | false =>
  simp -implicitDefEqProofs only [go_sem, dnW_ite, go_sem_proc]
  exact no _ 2 (.inl rfl) f01
 | true =>
 simp -implicitDefEqProofs only [go_sem, dnW_ite, go_sem_proc]
 refine WP_call (Read_ok hz (by omega)) fun v J2 hv => ?_
 obtain ⟨rfl, h2, f2, s2⟩ := hv
 simp -implicitDefEqProofs only [go_sem, dnW_ite, go_sem_proc, hx.lenF, List.length_map]
 refine WP_call (EBlob_ok h2 l.length (by omega)) fun v J3 hv => ?_
 obtain ⟨hb3, h3, f3⟩ := hv
 have hbl := eBlob_len (some R0) l.length
 generalize eBlob (some R0) l.length = B at *
 obtain ⟨u, hu, hu2⟩ := GParse_ok hb3 (by omega)
 have f02 := f01.trans f2 (fun _ _ h => h)
 have hz3 := f3.1
 have hlt : J1.size < J3.size := by omega
 -- the game, and what is said of it
 obtain ⟨g, x2, y2, ge, rfl, hGR, hge⟩ : ∃ (g : Gm) (x2 y2 : IV) (ge : Nat), u = .tup [.agg (gmc g x2 y2), nI ge] ∧ GR g x2 y2 ∧ (ge = 2 ∨ (ge = 0 ∧ g.right = true ∧ ∀ c ∈ g.code, c.wf)) := by
  cases hg : gameP B.1 with
  | none =>
   rw [hg] at hu2
   exact ⟨Gz, nilS, nilS, 2, hu2, ⟨.nil, .nil⟩, .inl rfl⟩
  | some G =>
   rw [hg] at hu2
   obtain ⟨x2, y2, rfl, hGR, _⟩ := hu2
   obtain ⟨_, i2, i3, _⟩ := gameP_inv hg
   exact ⟨G, x2, y2, 0, rfl, hGR, .inr ⟨rfl, i2, i3⟩⟩
 have hJ4 := push_get J3 (IB.cells 0 (gmc g x2 y2) false)
 have h4' := h3.psh' (.cells 0 (gmc g x2 y2) false)
 have f34 := Fr.push J3 (IB.cells 0 (gmc g x2 y2) false) []
 have gp : ipureL (gmc g x2 y2) = true := hGR.pure
 have f04 : Fr J (J3.push (IB.cells 0 (gmc g x2 y2) false)) [] := (f02.trN f3 (by simp; omega)).trans f34 (fun _ _ h => h)
 simp -implicitDefEqProofs only [go_sem, dnW_ite, go_sem_proc, dcp hu (by simp [ipureL, hb3.pure]), hGR.one, ↓dnW_ocr]
 generalize hq : J3.size = q at *
 generalize J3.push (IB.cells 0 (gmc g x2 y2) false) = J4 at *
 rw [h4'.reach]
 refine WP_bindC (EByte_ok h4') fun v J5 hv => ?_
 obtain ⟨rfl, h5, f5⟩ := hv
 have hq5 : J5[q]? = some (.cells 0 (gmc g x2 y2) false) := by rw [f5.2 q (lt_get hJ4) (by simp; omega)]; exact hJ4
 have hct : ([J1.size] : List Nat).contains q = false := by simp; omega
 refine ⟨by simp -implicitDefEqProofs only [go_sem, dnW_ite, go_sem_proc, hJ4, hq5, hct], ?_⟩
 generalize eByte B.2 = ob at *
 obtain ⟨o, ho⟩ : ∃ o : Int, o = (ob.1.toNat : Int) := ⟨_, rfl⟩
 have hno : IntKind.i64.wrap (ob.1.toNat : Int) = o := by rw [i64B8, ho]
 have f05 := f04.trN f5 (by simp; omega)
 generalize hp : J1.size = p at *
 have h6 := h5.psh' (.cells 0 (rlc g x2 y2 o nilS) false)
 have hJ6 := push_get J5 (.cells 0 (rlc g x2 y2 o nilS) false)
 have f06 : Fr J (J5.push (.cells 0 (rlc g x2 y2 o nilS) false)) [] := f05.trans (Fr.push _ _ []) (fun _ _ h => h)
 have hq6 : (J5.push (.cells 0 (rlc g x2 y2 o nilS) false))[q]? = some (.cells 0 (gmc g x2 y2) false) := gpN (lt_get hq5) hq5
 have hpl := lt_get h5.choose_spec.1
 have hz5 := f05.1
 have hbu : gmc g x2 y2 ++ [IV.sc (Value.int IntKind.i64 0), IV.sc (Value.slice none 0 0)] = rlc g x2 y2 0 nilS := rfl
 have hb6 : isplice (rlc g x2 y2 0 nilS) 6 [IV.int .i64 o] = rlc g x2 y2 o nilS := rfl
 have hb1 : (rlc g x2 y2 o nilS).all ione = true := by rw [rlc, List.all_append, hGR.one]; rfl
 have hq5l := lt_get hq5
 simp -implicitDefEqProofs only [go_sem, dnW_ite, go_sem_proc, hno, hbu, hb6, hb1, show (7 : Nat) ≤ 8 by omega]
 rw [if_pos hGR.one]
 rcases hge with rfl | ⟨rfl, hr, hw⟩
 ·simp -implicitDefEqProofs only [go_sem, dnW_ite, go_sem_proc, hb1]
  rw [if_pos (by decide)]
  exact no _ 2 (.inl rfl) f06
 by_cases hob : o ≥ g.obs
 ·simp -implicitDefEqProofs only [go_sem, dnW_ite, go_sem_proc, hb1, hq5, show ¬ (q = J5.size) by omega, gm_len, hob]
  rw [if_neg (by decide)]
  exact no _ 2 (.inl rfl) f06
 simp -implicitDefEqProofs only [go_sem, dnW_ite, go_sem_proc, hb1, hq5, show ¬ (q = J5.size) by omega, gm_len, hob]
 rw [if_neg (by decide)]
 have hpr : p ≠ J5.size := by omega
 have hJp : J.size ≤ p := by omega
 have hrs : J.size ≤ J5.size := hz5
 clear hbu hb6 hb1 hq5l hz5 hno hq5 hq6 hct
 generalize hr0 : J5.size = r at *
 generalize J5.push (.cells 0 (rlc g x2 y2 o nilS) false) = J6 at *
 unfold l_replay_Read_k2
 simp -implicitDefEqProofs only [go_sem, dnW_ite, go_sem_proc]
 refine WP_call (ENum_ok h6 65536 (by omega)) fun v J7 hv => ?_
 obtain ⟨rfl, h7, f7⟩ := hv
 have hnl := eNum_le ob.2 65536
 generalize eNum ob.2 65536 = nn at *
 obtain ⟨n, st7⟩ := nn
 simp only at hnl h7 ⊢
 have hR7 : ReelAt J7 r g x2 y2 o nilS [] := ⟨by rw [f7.2 r (lt_get hJ6) (by simp; omega)]; exact hJ6, .nil, hGR, by simp [blk, blkOf]⟩
 have f07 := f06.trN f7 (by simp; omega)
 simp -implicitDefEqProofs only [go_sem, dnW_ite, go_sem_proc, dn_loop]
 refine WP_range (by decide) n (fun i ws J' => ∃ s us st, ws = [x, .ptr p 0 0, .ptr r 0 0, .int .u64 (n : Int), .int .u64 (n : Int), .int .u64 (i : Int)] ∧ EyeAt J' p st ∧ ReelAt J' r g x2 y2 o s us ∧ AllN g o us ∧ us.length = i ∧ Fr J J' [] ∧ (∀ q ∈ blk s, J.size ≤ q) ∧ p ∉ blk s) ?_ ⟨nilS, [], _, rfl, h7, hR7, fun k hk => by simp at hk, rfl, f07, by simp [blk, blkOf], by simp [blk, blkOf]⟩
 rintro i ws J8 ⟨s, us, st, rfl, he, hR, hch, hul, f8, hbs, hps⟩ hi K1 g1 g2 g3
 unfold l_replay_Read_k0
 by_cases hlt2 : i < n
 ·have hw1 : IntKind.u64.wrap ((i : Int) + 1) = ((i + 1 : Nat) : Int) := by rw [wrap_u64 (by omega) (by omega)]; omega
  have hp' := lt_get he.choose_spec.1
  simp -implicitDefEqProofs only [go_sem, dnW_ite, go_sem_proc, show ((i : Int) < (n : Int)) by omega, hx.lenF, List.length_map]
  refine WP_call (EBlob_ok he l.length (by omega)) fun v J9 hv => ?_
  obtain ⟨hb9, h9, f9⟩ := hv
  have hbl9 := eBlob_len st l.length
  have hR9 := hR.fr f9 (by simp; omega) (fun q hq hm => by simp at hm; subst hm; exact hps hq)
  have f09 := f8.trN f9 (by simp; omega)
  simp -implicitDefEqProofs only [go_sem, dnW_ite, go_sem_proc]
  refine WP_call (follow_any hR9 hb9 (by omega) (by omega)) fun v J10 hv => ?_
  rcases hv with ⟨rfl, f10⟩ | ⟨rfl, s', e, hne, hR10, f10, n10⟩
  ·simp -implicitDefEqProofs only [go_sem, dnW_ite, go_sem_proc]
   exact g3 _ _ (no _ 2 (.inl rfl) (f09.trans f10 (fun _ _ h => h)))
  have z9 := f9.1
  have h10 := h9.fr f10 (fun hm => by
   rcases List.mem_cons.1 hm with h' | h'
   ·omega
   ·exact hps h')
  simp -implicitDefEqProofs only [go_sem, dnW_ite, go_sem_proc, hw1]
  refine g1 hlt2 _ _ ⟨s', us ++ [e], _, rfl, h10, hR10, hch.snoc hne, by simp [hul], f09.trN f10 (fun q hq => ?_), fun q hq => ?_, fun hm => ?_⟩
  ·rcases List.mem_cons.1 hq with rfl | h'
   ·exact hrs
   ·exact hbs q h'
  ·rcases n10 q hq with h' | h'
   ·exact hbs q h'
   ·have := f8.1; omega
  ·rcases n10 p hm with h' | h'
   ·exact hps h'
   ·omega
 ·obtain rfl : i = n := by omega
  simp -implicitDefEqProofs only [go_sem, dnW_ite, go_sem_proc, show ¬ ((i : Int) < (i : Int)) by omega]
  refine g2 _ _ ?_
  unfold l_replay_Read_k1
  by_cases hn : i = 0
  ·have hn0 : ((i : Int) == 0) = true := by simp [hn]
   simp -implicitDefEqProofs only [go_sem, dnW_ite, go_sem_proc, hn0]
   exact no _ 2 (.inl rfl) f8
  ·have hn0 : ((i : Int) == 0) = false := by simp; omega
   simp -implicitDefEqProofs only [go_sem, dnW_ite, go_sem_proc, hn0]
   refine WP_call (EDone_ok he) fun v J9 hv => ?_
   obtain ⟨rfl, rfl⟩ := hv
   by_cases hd : eDone st = true
   ·simp -implicitDefEqProofs only [go_sem, dnW_ite, go_sem_proc, hd]
    refine hK _ _ (.inr ⟨⟨by omega, htl⟩, r, x2, y2, s, g, o, us, rfl, ⟨hr, hw, by omega, by omega⟩, ⟨by intro e; subst e; simp at hul; omega, by omega, hch⟩, hrs, f8, hR, hbs⟩)
   ·have hd' : eDone st = false := by simpa using hd
    simp -implicitDefEqProofs only [go_sem, dnW_ite, go_sem_proc, hd']
    exact no _ 2 (.inl rfl) f8
def gA : Gm := ⟨1, 1, 2#32, 0#32, [⟨4, 0#32⟩], []⟩
abbrev xA : IV := .lst 2 true [.agg [.int .i32 4, .int .u32 0]]
theorem gA_r : gA.right = true := by rfl
theorem gA_g : GR gA xA nilS := ⟨.lst, .nil⟩
theorem WP_dcp {f : FuncId} {args : List IV} {u : IV} {J : JH} {k : L} {ρ : List IV} {P} (hp : pc BI f args = some u) (h : ipureL args = true) (hk : WP (dn BI k (ρ ++ [u]) J) P) : WP (thenD (doCall (ic BI) .pure f args J) k ρ) P := by
 rw [dcp hp h]; exact hk
theorem awake20 : pc BI F_law20_awake [] = some (.bool true) := by
 refine pcE fn_law20_awake rfl fun K hK => ?_
 unfold l_law20_awake
 have hw : ∀ c ∈ gA.code, c.wf := fun c hc => by cases hc
 have hS := Start_ok gA xA nilS gA_g gA_r hw nilS [] .nil (by simp) 1
 have hbo := bd0_ok gA (right_48 gA_r).1 [] (fun c hc => by simp [gA] at hc; subst hc; exact ⟨by decide, by decide⟩) (by simp)
 have hbl := bd0_len gA (right_48 gA_r).1 []
 generalize gA.bd0 (right_48 gA_r).1 [] = b at *
 have hgz : grp 2 1 [IV.int IntKind.i32 4, IV.sc (Value.int IntKind.u32 0)] = [.agg [.int .i32 4, .int .u32 0]] := rfl
 simp -implicitDefEqProofs only [go_sem, dnW_ite, go_sem_proc, ipureL, ipure, hgz]
 refine WP_dcp hS rfl ?_
 simp -implicitDefEqProofs only [go_sem, dnW_ite, go_sem_proc, sta_z]
 refine WP_call (tNew_ok gA xA nilS gA_g gA_r hw 0 ⟨by decide, by decide⟩ b hbl 1 0#32 _) fun v J1 hv => ?_
 obtain ⟨cx, x1, y1, x4, y4, rfl, s1, f1, T1⟩ := hv
 simp -implicitDefEqProofs only [go_sem, dnW_ite, go_sem_proc]
 refine WP_call (tBytes_ok T1 gA_r hw ⟨by decide, by decide⟩ (by simp)) fun u J2 hv => ?_
 obtain ⟨l2, f2⟩ := hv
 simp -implicitDefEqProofs only [go_sem, dnW_ite, go_sem_proc]
 refine WP_call (Read_on (vs := [(b.view 0, 0#32)]) gA_r hw (fun c hc => by simp [gA] at hc; subst hc; exact ⟨by decide, by decide⟩) ⟨by decide, by decide⟩ (chain_new b hbo hbl 0#32) (by simp) (by simp) l2 J2) fun v J3 hv => ?_
 obtain ⟨r, x5, y5, s5, rfl, h5, f3, hR, _⟩ := hv
 have T3 := (T1.frL f2 (by simp)).frL f3 (by simp)
 simp -implicitDefEqProofs only [go_sem, dnW_ite, go_sem_proc]
 rw [if_pos (by decide)]
 refine WP_call (tLen_ok T3) fun v J4 hv => ?_
 obtain ⟨rfl, rfl⟩ := hv
 simp -implicitDefEqProofs only [go_sem, dnW_ite, go_sem_proc]
 rw [if_pos (by decide)]
 refine WP_call (rLen_ok hR) fun v J5 hv => ?_
 obtain ⟨rfl, rfl⟩ := hv
 simp -implicitDefEqProofs only [go_sem, dnW_ite, go_sem_proc]
 exact hK _ _ (frzE rfl rfl)
theorem WP_callA {f : FuncId} {args : List IV} {E : JH} {k : L} {ρ : List IV} {P} (Q : JH → Prop) (h : Q E) (H : ∀ J', Q J' → WP (thenD (doCall (ic BI) .raw f args J') k ρ) P) : WP (thenD (doCall (ic BI) .raw f args E) k ρ) P := H E h
theorem vwc_pure (ws : List (Bd × BitVec 32)) : ipureL (ws.map vwc).flatten = true := by
 rw [ipureL_iff]
 intro v hv
 obtain ⟨l, hl, hv⟩ := List.mem_flatten.1 hv
 obtain ⟨e, _, rfl⟩ := List.mem_map.1 hl
 exact ipureL_iff.1 (sta_pure _ _ _) v hv
theorem ReelAt.reach {J : JH} {r : Nat} {g : Gm} {x y : IV} {o : Int} {s : IV} {ws : List (Bd × BitVec 32)} (h : ReelAt J r g x y o s ws) : rchF J [.ptr r 0 0] = some (r :: blk s) := by
 obtain ⟨hb, hg, hGR, hbs⟩ := h
 have hgm : irefsL (gmc g x y) = [] := irefsL_pure _ hGR.pure
 have hrl : irefsL (rlc g x y o s) = irefs s := by
  rw [rlc, irefsL_append, hgm]; simp [irefsL, irefs]
 rcases hg with ⟨rfl, h0⟩ | ⟨c, v, n, full, rfl, h1, h2, h3, h4⟩
 ·have hr : refsB J r = [] := by simp only [refsB, hb, hrl]; simp [irefs]
  have key : ∀ k, reachN J (k + 1) [r] = [r] := fun k => by simp [reachN, hr]
  have h40 := key 39
  simp only [rchF, Go.Proofs.YticfcmaigffhmaaGreat.G.reach, irefsL, irefs, List.append_nil, h40]
  simp [hr, blk, blkOf]
 ·have hbc : r ≠ c := fun h => hbs (by simp [blk, blkOf, h])
  have hr : refsB J r = [c] := by simp only [refsB, hb, hrl]; simp [irefs]
  have hf : irefsL full = [] := by
   rw [← List.take_append_drop (n * 99) full, irefsL_append, h3, h4, irefsL_pure _ (vwc_pure ws)]; rfl
  have hc : refsB J c = [] := by simp [refsB, h1, hf]
  have hcb : c ≠ r := fun h => hbc h.symm
  have key : ∀ k, reachN J (k + 1 + 1) [r] = [r, c] := fun k => by
   have hd : List.eraseDupsBy (fun x1 x2 : Nat => x1 == x2) [c] = [c] := by simp [List.eraseDupsBy, List.eraseDupsBy.loop]
   have hd0 : List.eraseDupsBy (fun x1 x2 : Nat => x1 == x2) [] = [] := by simp [List.eraseDupsBy, List.eraseDupsBy.loop]
   simp [reachN, hr, hc, hcb, hbc, List.eraseDups, hd, hd0]
  have h40 := key 38
  simp only [rchF, Go.Proofs.YticfcmaigffhmaaGreat.G.reach, irefsL, irefs, List.append_nil, h40]
  simp [hr, hc, blk, blkOf]
theorem ReelAt.lo {J : JH} {r g x y o s ws} (h : ReelAt J r g x y o s ws) : ∀ q ∈ r :: blk s, q < J.size := fun q hq => by
 rcases List.mem_cons.1 hq with rfl | hq
 ·exact lt_get h.cells
 ·exact h.vws.low q hq
theorem rView_ok {J : JH} {r : Nat} {g : Gm} {x y : IV} {o : Int} {s : IV} {ws : List (Bd × BitVec 32)} (h : ReelAt J r g x y o s ws) (i : Nat) (hi : i < ws.length) : RP (ic BI F_replay_Reel_View [.ptr r 0 0, nI i] J) fun v J' => v = .tup [.agg (vwc ws[i]), .bool true] ∧ Fr J J' [] := by
 refine RP_run fn_replay_Reel_View rfl fun K hK => ?_
 unfold l_replay_Reel_View
 have hf := Fr.refl J []
 simp -implicitDefEqProofs only [go_sem, dnW_ite, go_sem_proc, show ¬ ((i : Int) < 0) by omega]
 refine WP_join fun K1 j1 j2 j3 => ?_
 have h1 := h.fr (.push J (.cells 0 (stc Bd.z 0 0) false) []) (by simp) (by simp)
 simp -implicitDefEqProofs only [go_sem, dnW_ite, go_sem_proc, sta_z]
 refine WP_call (rLen_ok h1) fun v J2 hv => ?_
 obtain ⟨rfl, rfl⟩ := hv
 simp -implicitDefEqProofs only [go_sem, dnW_ite, go_sem_proc, show ¬ ((i : Int) ≥ (ws.length : Int)) by omega]
 refine j1 _ _ ?_
 unfold l_replay_Reel_View_k0
 have hc := h1.cells
 have hb : (J.push (.cells 0 (stc Bd.z 0 0) false))[J.size]? = some (.cells 0 (stc Bd.z 0 0) false) := push_get _ _
 obtain ⟨h99, hx⟩ := h1.vws.slx (vwc99 _) (by omega)
 rcases hx with ⟨_, hx⟩ | ⟨cb, cv, rest, rfl, hcb, _⟩
 ·have : ws = [] := by simpa using hx
  subst this; simp at hi
 have eD : (((ws.map vwc).flatten ++ rest).drop (i * 99)).take 99 = vwc ws[i] := by
  rw [flat_at h99 (by simpa using hi)]; simp
 have eL : i * 99 + 99 ≤ ((ws.map vwc).flatten ++ rest).length := by
  rw [List.length_append, flat_len h99, List.length_map]; omega
 have hlX : (ws.map vwc).length = ws.length := by simp
 have fin : Fr J ((J.push (.cells 0 (stc Bd.z 0 0) false)).setIfInBounds J.size (.cells 0 (vwc ws[i]) false)) [] := by
  (have hsz_ := hf.1; repeat (first | with_reducible exact hf | with_reducible apply Fr.psh | ((with_reducible apply Fr.stn); rotate_left; first | omega | (simp only [Array.size_push, Array.size_setIfInBounds] <;> omega)) | ((with_reducible apply Fr.sts); rotate_left; focus (simp only [List.mem_cons, eq_self, true_or, or_true]; done))))
 have hsv : (vwc ws[i]).all ione = true := sta_one _ _ _
 have hsl : (vwc ws[i]).length = 99 := sta_len _ _ _
 have hsi : ∀ b d t, isplice (stc b d t) 0 (vwc ws[i]) = vwc ws[i] := fun b d t => sta_all _ _ _ _ _ _
 have hst : (vwc ws[i]).take 99 = vwc ws[i] := sta_take _ _ _
 generalize vwc ws[i] = V at *
 generalize (ws.map vwc).flatten ++ rest = F at *
 generalize J.push (.cells 0 (stc Bd.z 0 0) false) = J1 at *
 have l1 := lt_get hb
 simp -implicitDefEqProofs only [go_sem, dnW_ite, go_sem_proc, hc, inb hc, hlX, hi, hcb, inb hcb, eD, eL, hb, inb hb, hsv, hsl, hsi, hst, set_get _ l1]
 exact hK _ _ ⟨rfl, fin⟩
theorem rObs_ok {J : JH} {r : Nat} {g : Gm} {x y : IV} {o : Int} {s : IV} {ws : List (Bd × BitVec 32)} (h : ReelAt J r g x y o s ws) : RP (ic BI F_replay_Reel_Observer [.ptr r 0 0] J) fun v J' => v = .int .i64 o ∧ J' = J := by
 refine RP_run fn_replay_Reel_Observer rfl fun K hK => ?_
 unfold l_replay_Reel_Observer
 have hc := h.cells
 simp -implicitDefEqProofs only [go_sem, dnW_ite, go_sem_proc, iisNil, hc, inb hc]
 exact hK _ _ ⟨rfl, rfl⟩
theorem rGame_ok {J : JH} {r : Nat} {g : Gm} {x y : IV} {o : Int} {s : IV} {ws : List (Bd × BitVec 32)} (h : ReelAt J r g x y o s ws) (h48 : g.cells.length ≤ 48) (h96 : g.code.length ≤ 96) : RP (ic BI F_replay_Reel_Game [.ptr r 0 0] J) fun v J' => (∃ u1 u2, v = .agg (gmc g u1 u2) ∧ GR g u1 u2) ∧ Fr J J' [] := by
 refine RP_run fn_replay_Reel_Game rfl fun K hK => ?_
 unfold l_replay_Reel_Game
 have hf := Fr.refl J []
 have hc := h.cells
 have hGR := h.gr
 obtain ⟨u1, hu1, hl1⟩ := clone2 h.gr.x (by omega)
 obtain ⟨u2, hu2, hl2⟩ := clone6 h.gr.y (by omega)
 have hg2 : GR g u1 u2 := ⟨hl1, hl2⟩
 have gp := hg2.pure
 have g1 := hg2.one
 have e0 := hGR.one
 simp -implicitDefEqProofs only [go_sem, dnW_ite, go_sem_proc, iisNil, hc, inb hc, rl_g, e0, dcp hu1 (by simp [ipureL, h.gr.x.pure]), dcp hu2 (by simp [ipureL, h.gr.y.pure]), ↓hl1.icells, ↓hl1.one, ↓hl2.icells, ↓hl2.one, gm_s4, gm_s5, gm_all, gm_len]
 rw [if_pos g1]
 simp -implicitDefEqProofs only [go_sem, dnW_ite, go_sem_proc, gm_len]
 exact hK _ _ ⟨⟨u1, u2, rfl, hg2⟩, by (have hsz_ := hf.1; repeat (first | with_reducible exact hf | with_reducible apply Fr.psh | ((with_reducible apply Fr.stn); rotate_left; first | omega | (simp only [Array.size_push, Array.size_setIfInBounds] <;> omega)) | ((with_reducible apply Fr.sts); rotate_left; focus (simp only [List.mem_cons, eq_self, true_or, or_true]; done))))⟩
end Go.Proofs.YticfcmaigffhmaaGreat.G
