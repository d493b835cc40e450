/- Joined: I10 to I12. -/
import Derived.Test.YtmgfkifjgajclaaXF
import Derived.Carry
import Derived.RowKit
import Derived.ChangeShapes
set_option linter.unusedVariables false
set_option linter.unusedSimpArgs false
set_option maxRecDepth 20000
set_option maxHeartbeats 2000000
namespace Go.Proofs.Ytmgfkifjgajclaa.G
open Go
def WTF (p : TypeId → List IV → Prop) : List Field → List IV → Prop
 | [], xs => xs = []
 | f :: fs, xs => ∃ a b, xs = a ++ b ∧ p f.type a ∧ WTF p fs b
def WTN (p : List IV → Prop) : Nat → List IV → Prop
 | 0, xs => xs = []
 | n + 1, xs => ∃ a b, xs = a ++ b ∧ p a ∧ WTN p n b
def WT (P : Program) : Nat → TypeId → List IV → Prop
 | 0, _, _ => False
 | d + 1, t, xs =>
  match P.underlying t with
  | some .bool => ∃ b, xs = [.bool b]
  | some (.int k) => ∃ n, xs = [.int k n] ∧ (Lit.int k n).wf = true
  | some .string => ∃ s, xs = [.sc (.string s)] ∧ s.size ≤ maxLen
  | some (.slice e) => xs = [.sc (.slice none 0 0)] ∨ ∃ ys, xs = [.lst (P.cellsOf e) false ys] ∧ ys.length ≤ maxLen ∧ ∀ y ∈ ys, ∃ cs, y = mkE (P.cellsOf e) cs ∧ cs.length = P.cellsOf e ∧ WT P d e cs
  | some (.struct fs) => WTF (WT P d) fs.toList xs
  | some (.array n e) => WTN (WT P d e) n xs
  | _ => False
def okT (P : Program) : Nat → TypeId → Bool
 | 0, _ => false
 | d + 1, t =>
  match P.underlying t with
  | some .bool | some (.int _) | some .string => P.cellsOf t == 1
  | some (.slice e) => P.cellsOf t == 1 && decide (0 < P.cellsOf e) && okT P d e
  | some (.struct fs) => tiles P fs.toList 0 (P.cellsOf t) && fs.toList.all fun f => okT P d f.type
  | some (.array n e) => P.cellsOf t == n * P.cellsOf e && okT P d e
  | _ => false
def FH (H : Heap) (b : Nat) : Option (List Value) := match H[b]? with | some (.cells cs _) => some cs | _ => none
def W0 (H : Heap) : Wd := ⟨fun _ => none, FH H⟩
structure Lay (w : World) (ι : Inj) (H : Heap) : Prop where
 rel : Rel ι H w
 ro : ∀ b, b < H.size → ∃ cs, H[b]? = some (.cells cs true)
structure Ext (ι : Inj) (H : Heap) (ι' : Inj) (H' : Heap) : Prop where
 le : Le ι ι'
 F : ∀ b cs, FH H b = some cs → FH H' b = some cs
theorem Ext.refl (ι : Inj) (H : Heap) : Ext ι H ι H := ⟨.refl ι, fun _ _ h => h⟩
theorem Ext.trans {ι ι' ι'' : Inj} {H H' H'' : Heap} (h : Ext ι H ι' H') (k : Ext ι' H' ι'' H'') : Ext ι H ι'' H'' := ⟨h.le.trans k.le, fun b cs e => k.F b cs (h.F b cs e)⟩
theorem lay_empty (w : World) : Lay w (fun _ => none) #[] := by
 refine ⟨⟨?_, ?_, ?_, ?_, ?_, ?_⟩, ?_⟩
 ·intro b l h; cases h
 ·intro b l h; cases h
 ·intro b l cs ro h; cases h
 ·intro b l cs h; cases h
 ·intro b l es k h; cases h
 ·intro b c l m h; cases h
 ·intro b h; simp at h
theorem Lay.push {w : World} {ι : Inj} {H : Heap} (h : Lay w ι H) {cs : List Value} {l : Loc} (hb : l.blk < w.heap.size)
  (hc : ∀ (i : Nat) v, cs[i]? = some v → one v = true ∧ ∃ c, w.cell? ⟨l.blk, l.δ + i, none⟩ = some c ∧ VR ι v c) :
  ∃ ι', Lay w ι' (H.push (.cells cs true)) ∧ Ext ι H ι' (H.push (.cells cs true)) ∧ ι' H.size = some l := by
 refine ⟨fun b => if b = H.size then some l else ι b, ?_, ?_, by simp⟩
 ·have hle : Le ι (fun b => if b = H.size then some l else ι b) := fun b m hm => by
   have := h.rel.dom b m hm
   show (if b = H.size then some l else ι b) = some m
   rw [if_neg (Nat.ne_of_lt this)]
   exact hm
  have hold : ∀ {b m}, (if b = H.size then some l else ι b) = some m → b ≠ H.size → ι b = some m := fun {b m} hm hne => by rwa [if_neg hne] at hm
  have hnot : ∀ b, ¬ own (H.push (.cells cs true)) b := by
   intro b ho
   have : ∃ ds, (H.push (Blk.cells cs true))[b]? = some (.cells ds true) ∨ (H.push (Blk.cells cs true))[b]? = none := by
    rw [Array.getElem?_push]
    split
    ·exact ⟨cs, .inl rfl⟩
    ·rcases Nat.lt_or_ge b H.size with hlt | hge
     ·obtain ⟨ds, hd⟩ := h.ro b hlt
      exact ⟨ds, .inl hd⟩
     ·exact ⟨[], .inr (Array.getElem?_eq_none hge)⟩
   obtain ⟨ds, hd | hd⟩ := this <;> rcases ho with ⟨es, he⟩ | ⟨es, k, he⟩ <;> rw [hd] at he <;> cases he
  refine ⟨⟨?_, ?_, ?_, ?_, ?_, ?_⟩, ?_⟩
  ·intro b m hm
   by_cases hb : b = H.size
   ·subst hb; simp
   ·have := h.rel.dom b m (hold hm hb); simp; omega
  ·intro b m hm
   by_cases hbs : b = H.size
   ·subst hbs; simp at hm; subst hm; exact hb
   ·exact h.rel.bound b m (hold hm hbs)
  ·intro b m ds ro hm hH i v hv
   by_cases hbs : b = H.size
   ·subst hbs
    simp at hm
    subst hm
    rw [Array.getElem?_push, if_pos rfl] at hH
    simp only [Option.some.injEq, Blk.cells.injEq] at hH
    obtain ⟨rfl, rfl⟩ := hH
    obtain ⟨h1, c, h2, h3⟩ := hc i v hv
    exact ⟨h1, c, h2, h3.mono hle⟩
   ·have hm' := hold hm hbs
    rw [Array.getElem?_push, if_neg hbs] at hH
    obtain ⟨h1, c, h2, h3⟩ := h.rel.cells b m ds ro hm' hH i v hv
    exact ⟨h1, c, h2, h3.mono hle⟩
  ·intro b m ds hm hH
   exact (hnot b (.inl ⟨ds, hH⟩)).elim
  ·intro b m es k hm hH
   exact (hnot b (.inr ⟨es, k, hH⟩)).elim
  ·intro b c m m' _ _ _ _ ho
   exact (hnot b ho).elim
  ·intro b hb
   simp at hb
   rw [Array.getElem?_push]
   split
   ·exact ⟨cs, rfl⟩
   ·exact h.ro b (by omega)
 ·refine ⟨fun b m hm => ?_, fun b ds hF => ?_⟩
  ·have := h.rel.dom b m hm
   show (if b = H.size then some l else ι b) = some m
   rw [if_neg (Nat.ne_of_lt this)]
   exact hm
  ·unfold FH at hF ⊢
   rw [Array.getElem?_push, if_neg]
   ·exact hF
   ·rintro rfl
    simp at hF
theorem W0.le {ι ι' : Inj} {H H' : Heap} (h : Ext ι H ι' H') : ∀ β cs, (W0 H).F β = some cs → (W0 H').F β = some cs := h.F
def Laid (ι : Inj) (H : Heap) (xs : List IV) (cs : List Value) : Prop := ∃ gs, CRL (W0 H) xs gs ∧ VRL ι gs cs
theorem Laid.ext {ι ι' : Inj} {H H' : Heap} {xs : List IV} {cs : List Value} (h : Laid ι H xs cs) (hp : ipureL xs = true) (hx : Ext ι H ι' H') : Laid ι' H' xs cs := by
 obtain ⟨gs, h1, h2⟩ := h
 exact ⟨gs, h1.pure hx.F _ _ hp, VRL.mono hx.le _ _ h2⟩
theorem Laid.append {ι : Inj} {H : Heap} {xs ys : List IV} {cs ds : List Value} (h : Laid ι H xs cs) (k : Laid ι H ys ds) : Laid ι H (xs ++ ys) (cs ++ ds) := by
 obtain ⟨gs, h1, h2⟩ := h
 obtain ⟨es, k1, k2⟩ := k
 exact ⟨gs ++ es, h1.append k1, h2.append k2⟩
theorem Laid.one {ι : Inj} {H : Heap} {v : Value} (h1 : scOK v = true) (h2 : one v = true) (h3 : VR ι v v) : Laid ι H [.sc v] [v] :=
 ⟨[v], CRL.cons_iff.2 ⟨v, [], rfl, by simpa [ione] using h2, h2, by simp [CR, h1, h2], CRL.nil_iff.2 rfl⟩, by simp [VRL, h3]⟩
theorem Laid.len {ι : Inj} {H : Heap} {xs : List IV} {cs : List Value} (h : Laid ι H xs cs) : cs.length = xs.length := by
 obtain ⟨gs, h1, h2⟩ := h
 rw [← h2.length, h1.len]
theorem ipureL_app {a b : List IV} (h : ipureL a = true) (k : ipureL b = true) : ipureL (a ++ b) = true :=
 ipureL_iff.2 fun x hx => by
  rcases List.mem_append.1 hx with hx | hx
  ·exact ipureL_iff.1 h x hx
  ·exact ipureL_iff.1 k x hx
section
variable {Hd : Type} {enc : TypeId × Value → Hd} {P : Program} {w : World} {sp : Nat → Bool} {held : Bool}
def LayT (P : Program) (w : World) (d : Nat) (t : TypeId) (cs : List Value) : Prop :=
 ∀ ι H, Lay w ι H → ∃ xs ι' H', Lay w ι' H' ∧ Ext ι H ι' H' ∧ WT P d t xs ∧ ipureL xs = true ∧ Laid ι' H' xs cs ∧ xs.length = P.cellsOf t
theorem drop_take_split {α : Type} (l : List α) (a b : Nat) : l.drop a = (l.drop a).take b ++ l.drop (a + b) := by
 rw [← List.drop_drop]; exact (List.take_append_drop b (l.drop a)).symm
theorem lay_fields {d : Nat} {cs : List Value} : ∀ (fs : List Field) (off : Nat), tiles P fs off cs.length = true → (∀ f ∈ fs, LayT P w d f.type ((cs.drop f.offset).take (P.cellsOf f.type))) →
  ∀ ι H, Lay w ι H → ∃ xs ι' H', Lay w ι' H' ∧ Ext ι H ι' H' ∧ WTF (WT P d) fs xs ∧ ipureL xs = true ∧ Laid ι' H' xs (cs.drop off)
 | [], off, ht, _, ι, H, hL => by
  simp only [tiles, beq_iff_eq] at ht
  subst ht
  exact ⟨[], ι, H, hL, .refl _ _, rfl, rfl, [], by simp [CRL], by simp [VRL]⟩
 | f :: fs, off, ht, hf, ι, H, hL => by
  simp only [tiles, Bool.and_eq_true, beq_iff_eq] at ht
  obtain ⟨ho, ht⟩ := ht
  obtain ⟨xs, ι1, H1, h1, h2, h3, h4, h5, h6⟩ := hf f (by simp) ι H hL
  obtain ⟨ys, ι2, H2, k1, k2, k3, k4, k5⟩ := lay_fields fs (off + P.cellsOf f.type) ht (fun g hg => hf g (by simp [hg])) ι1 H1 h1
  refine ⟨xs ++ ys, ι2, H2, k1, h2.trans k2, ⟨xs, ys, rfl, h3, k3⟩, ipureL_app h4 k4, ?_⟩
  rw [drop_take_split cs off (P.cellsOf f.type), ← ho]
  exact (h5.ext h4 k2).append (by rw [ho]; exact k5)
theorem lay_array {d : Nat} {e : TypeId} {cs : List Value} : ∀ (n i : Nat), cs.length = (i + n) * P.cellsOf e → (∀ j, i ≤ j → j < i + n → LayT P w d e ((cs.drop (j * P.cellsOf e)).take (P.cellsOf e))) →
  ∀ ι H, Lay w ι H → ∃ xs ι' H', Lay w ι' H' ∧ Ext ι H ι' H' ∧ WTN (WT P d e) n xs ∧ ipureL xs = true ∧ Laid ι' H' xs (cs.drop (i * P.cellsOf e))
 | 0, i, hl, _, ι, H, hL => by
  refine ⟨[], ι, H, hL, .refl _ _, rfl, rfl, [], by simp [CRL], ?_⟩
  rw [List.drop_eq_nil_of_le (by rw [hl]; simp)]
  simp [VRL]
 | n + 1, i, hl, hf, ι, H, hL => by
  obtain ⟨xs, ι1, H1, h1, h2, h3, h4, h5, h6⟩ := hf i (Nat.le_refl _) (by omega) ι H hL
  obtain ⟨ys, ι2, H2, k1, k2, k3, k4, k5⟩ := lay_array n (i + 1) (by rw [hl]; congr 1; omega) (fun j hj hj2 => hf j (by omega) (by omega)) ι1 H1 h1
  refine ⟨xs ++ ys, ι2, H2, k1, h2.trans k2, ⟨xs, ys, rfl, h3, k3⟩, ipureL_app h4 k4, ?_⟩
  rw [drop_take_split cs (i * P.cellsOf e) (P.cellsOf e), ← Nat.succ_mul]
  exact (h5.ext h4 k2).append k5
theorem mapM_ex {α β : Type} {f : α → Option β} : ∀ {l : List α} {m : List β}, l.mapM f = some m → ∀ x ∈ l, ∃ y, f x = some y
 | [], m, _, x, hx => by simp at hx
 | a :: l, m, h, x, hx => by
  rcases mapM_some h with ⟨h0, _⟩ | ⟨a', r, y, s, h0, rfl, h1, h2⟩
  ·cases h0
  ·cases h0
   rcases List.mem_cons.1 hx with rfl | hx
   ·exact ⟨y, h1⟩
   ·exact mapM_ex h2 x hx
theorem mapM_idx {α β : Type} {f : α → Option β} : ∀ {l : List α} {m : List β} {i : Nat} {x : α}, l.mapM f = some m → l[i]? = some x → ∃ y, m[i]? = some y ∧ f x = some y
 | [], m, i, x, _, hx => by simp at hx
 | a :: l, m, i, x, h, hx => by
  rcases mapM_some h with ⟨h0, _⟩ | ⟨a', r, y, s, h0, rfl, h1, h2⟩
  ·cases h0
  ·cases h0
   cases i with
   | zero => simp at hx; subst hx; exact ⟨y, by simp, h1⟩
   | succ i => simpa using mapM_idx (i := i) h2 (by simpa using hx)
theorem lay_row {d : Nat} {e : TypeId} {a : Addr} {len : Nat} (hsp : a.spot = none) (hel : ∀ i, i < len → ∃ cs, w.cells? 0 (a.add (i * P.cellsOf e)) (P.cellsOf e) = some cs ∧ LayT P w d e cs) :
  ∀ (n i : Nat), i + n = len → ∀ ι H, Lay w ι H → ∃ ys gs ι' H', Lay w ι' H' ∧ Ext ι H ι' H' ∧ ys.length = n ∧ (∀ y ∈ ys, ∃ cs, y = mkE (P.cellsOf e) cs ∧ cs.length = P.cellsOf e ∧ WT P d e cs) ∧ ipureL ys = true ∧
   CRF (W0 H') (P.cellsOf e) ys gs ∧ gs.length = n * P.cellsOf e ∧ ∀ (j : Nat) v, gs[j]? = some v → one v = true ∧ ∃ c, w.cell? ⟨a.block, a.off + i * P.cellsOf e + j, none⟩ = some c ∧ VR ι' v c
 | 0, i, _, ι, H, hL => ⟨[], [], ι, H, hL, .refl _ _, rfl, by simp, rfl, by simp [CRF], by simp, by simp⟩
 | n + 1, i, hi, ι, H, hL => by
  obtain ⟨cs, hcs, hlay⟩ := hel i (by omega)
  obtain ⟨xs, ι1, H1, h1, h2, h3, h4, h5, h6⟩ := hlay ι H hL
  obtain ⟨ys, gs, ι2, H2, k1, k2, k3, k4, k5, k6, k7, k8⟩ := lay_row hsp hel n (i + 1) (by omega) ι1 H1 h1
  obtain ⟨gx, hx1, hx2⟩ := h5.ext h4 k2
  have hgl : gx.length = P.cellsOf e := by rw [hx1.len, h6]
  have hcl : cs.length = P.cellsOf e := by rw [← hx2.length, hgl]
  refine ⟨mkE (P.cellsOf e) xs :: ys, gx ++ gs, ι2, H2, k1, h2.trans k2, by simp [k3], ?_, ?_, ?_, ?_, ?_⟩
  ·intro y hy
   rcases List.mem_cons.1 hy with rfl | hy
   ·exact ⟨xs, rfl, h6, h3⟩
   ·exact k4 y hy
  ·simp only [ipureL, k5, Bool.and_true]; exact ipure_mkE (ipureL_iff.1 h4)
  ·simp only [CRF]
   refine ⟨by rw [mkE_len h6 hx1.ones.1]; exact h6, ?_, ?_⟩
   ·rw [List.take_left' hgl]; exact mkE_CR h6 hx1
   ·rw [List.drop_left' hgl]; exact k6
  ·simp [hgl, k7, Nat.succ_mul]; omega
  ·intro j v hj
   rcases Nat.lt_or_ge j (P.cellsOf e) with hlt | hge
   ·rw [List.getElem?_append_left (by omega)] at hj
    have ho : one v = true := List.all_eq_true.1 hx1.ones.2 v (List.mem_of_getElem? hj)
    refine ⟨ho, ?_⟩
    obtain ⟨c, hc1, hc2⟩ := hx2.get hj
    refine ⟨c, ?_, hc2⟩
    simp only [World.cells?, Nat.zero_le, if_true] at hcs
    obtain ⟨y, hy1, hy2⟩ := mapM_idx hcs (i := j) (x := j) (by simp [hlt])
    rw [hc1] at hy1
    cases hy1
    have : (a.add (i * P.cellsOf e)).add j = ⟨a.block, a.off + i * P.cellsOf e + j, none⟩ := by
     obtain ⟨ab, ao, as⟩ := a
     simp only at hsp
     subst hsp
     unfold Addr.add
     simp only
     split <;> split <;> simp_all
    rw [this] at hy2
    exact hy2
   ·rw [List.getElem?_append_right (by omega)] at hj
    obtain ⟨ho, c, hc1, hc2⟩ := k8 _ v hj
    refine ⟨ho, c, ?_, hc2⟩
    rw [← hc1]
    congr 2
    rw [Nat.succ_mul, hgl]
    omega
theorem cell_lt {a : Addr} {c : Value} (h : w.cell? a = some c) : a.block < w.heap.size := by
 rcases Nat.lt_or_ge a.block w.heap.size with hlt | hge
 ·exact hlt
 ·unfold World.cell? at h
  rw [Array.getElem?_eq_none hge] at h
  simp at h
theorem spot_of {a : Addr} {n : Nat} {cs : List Value} (hn : 0 < n) (h : w.cells? 0 (a.add 0) n = some cs) : a.spot = none ∧ a.block < w.heap.size := by
 simp only [World.cells?, Nat.zero_le, if_true] at h
 obtain ⟨y, hy⟩ := mapM_ex h 0 (by simp [hn])
 have ha : (a.add 0).add 0 = a := rfl
 rw [ha] at hy
 refine ⟨?_, cell_lt hy⟩
 unfold World.cell? at hy
 split at hy
 ·cases hs : a.spot with
  | none => rfl
  | some s => rw [hs] at hy; simp at hy
 ·simp at hy
def noSl (cs : List Value) : Prop := ∀ c ∈ cs, ∀ a n k, c ≠ .slice (some a) n k
theorem lay_trod : ∀ (d n : Nat) (t : TypeId) (cs : List Value) (x : DataW Hd × List MemPlace), (0 < w.heap.size ∨ noSl cs) → okT P d t = true → DataW.trod enc P w 0 (fun _ => true) held n t cs = some x → LayT P w d t cs
 | 0, n, t, cs, x, hz, hok, h => by simp [okT] at hok
 | d + 1, 0, t, cs, x, hz, hok, h => by simp [DataW.trod] at h
 | d + 1, n + 1, t, cs, x, hz, hok, h => by
  intro ι H hL
  unfold DataW.trod at h
  cases ht : P.underlying t with
  | none => simp [okT, ht] at hok
  | some u =>
  simp only [okT, ht] at hok
  simp only [ht] at h
  cases u with
  | bool =>
   simp only [beq_iff_eq] at hok
   match cs, h with
   | [.bool b], _ => exact ⟨[.bool b], ι, H, hL, .refl _ _, by simp [WT, ht], rfl, .one rfl rfl (by simp [VR]), by simp [hok]⟩
  | int k =>
   simp only [beq_iff_eq] at hok
   match cs, h with
   | [.int k' m], h =>
    simp only at h
    split at h
    ·rename_i hc
     obtain ⟨rfl, hw⟩ := hc
     exact ⟨[.int k' m], ι, H, hL, .refl _ _, by simp [WT, ht, hw], rfl, .one rfl rfl (by simp [VR]), by simp [hok]⟩
    ·simp at h
  | string =>
   simp only [beq_iff_eq] at hok
   match cs, h with
   | [.string s], h =>
    simp only at h
    split at h
    ·rename_i hc
     exact ⟨[.sc (.string s)], ι, H, hL, .refl _ _, by simp [WT, ht, hc], rfl, .one rfl rfl (by simp [VR]), by simp [hok]⟩
    ·simp at h
  | slice e =>
   simp only [Bool.and_eq_true, beq_iff_eq, decide_eq_true_eq] at hok
   obtain ⟨⟨hct, hce⟩, hoke⟩ := hok
   match cs, h, hz with
   | [.slice none 0 0], h, _ => exact ⟨[.sc (.slice none 0 0)], ι, H, hL, .refl _ _, by simp [WT, ht], rfl, .one rfl rfl (by simp [VR]), by simp [hct]⟩
   | [.slice (some a) len cap], h, hz =>
    have hpos : 0 < w.heap.size := by
     rcases hz with hz | hz
     ·exact hz
     ·exact absurd rfl (hz _ (by simp) a len cap)
    simp only at h
    split at h
    ·rename_i hc
     obtain ⟨_, hlc, hcm⟩ := hc
     cases hel : (List.range len).mapM (fun i => (w.cells? 0 (a.add (i * P.cellsOf e)) (P.cellsOf e)).bind (DataW.trod enc P w 0 (fun _ => true) held n e)) with
     | none => rw [hel] at h; simp at h
     | some els =>
     rw [hel] at h
     simp only [Option.bind_some, if_true] at h
     cases hsr : (List.range (cap - len)).mapM (fun j => (w.cells? 0 (a.add ((len + j) * P.cellsOf e)) (P.cellsOf e)).bind (DataW.trod enc P w 0 (fun _ => true) held n e)) with
     | none => rw [hsr] at h; simp at h
     | some rest =>
     have hmU : cap < UNK := by unfold maxLen at hcm; unfold UNK; omega
     have helem : ∀ i, i < len → ∃ cs, w.cells? 0 (a.add (i * P.cellsOf e)) (P.cellsOf e) = some cs ∧ LayT P w d e cs := by
      intro i hi
      obtain ⟨y, hy⟩ := mapM_ex hel i (by simp [hi])
      cases hcs : w.cells? 0 (a.add (i * P.cellsOf e)) (P.cellsOf e) with
      | none => rw [hcs] at hy; simp at hy
      | some cs =>
       rw [hcs] at hy
       exact ⟨cs, rfl, lay_trod d n e cs y (.inl hpos) hoke hy⟩
     have hspot : 0 < cap → a.spot = none ∧ a.block < w.heap.size := by
      intro hcp
      by_cases hl0 : 0 < len
      ·obtain ⟨cs, hcs, _⟩ := helem 0 hl0
       rw [Nat.zero_mul] at hcs
       exact spot_of hce hcs
      ·obtain ⟨y, hy⟩ := mapM_ex hsr 0 (by simp; omega)
       cases hcs : w.cells? 0 (a.add ((len + 0) * P.cellsOf e)) (P.cellsOf e) with
       | none => rw [hcs] at hy; simp at hy
       | some cs =>
        obtain rfl : len = 0 := by omega
        rw [Nat.add_zero, Nat.zero_mul] at hcs
        exact spot_of hce hcs
     by_cases hcp : 0 < cap
     ·obtain ⟨hsp, hblk⟩ := hspot hcp
      obtain ⟨ys, gs, ι1, H1, k1, k2, k3, k4, k5, k6, k7, k8⟩ := lay_row (P := P) hsp helem len 0 (by omega) ι H hL
      obtain ⟨ι2, h1, h2, h3⟩ := k1.push (cs := gs) (l := ⟨a.block, a.off, 0⟩) hblk (fun j v hj => by
       obtain ⟨ho, c, hc1, hc2⟩ := k8 j v hj
       refine ⟨ho, c, ?_, hc2⟩
       rw [Nat.zero_mul, Nat.add_zero] at hc1
       exact hc1)
      have hF : (W0 (H1.push (.cells gs true))).F H1.size = some gs := by simp [W0, FH]
      refine ⟨[.lst (P.cellsOf e) false ys], ι2, _, h1, k2.trans h2, ?_, rfl, ⟨[.slice (some ⟨H1.size, 0, none⟩) len cap], ?_, ?_⟩, by simp [hct]⟩
      ·simp only [WT, ht]
       exact .inr ⟨ys, rfl, by rw [k3]; omega, k4⟩
      ·refine CRL.cons_iff.2 ⟨_, [], rfl, rfl, rfl, ?_, CRL.nil_iff.2 rfl⟩
       have := IR.mk_lst (full := false) (xs := ys) (o := 0) (cap := cap) (n := len) hF k3.symm hce (by rw [k7, k3]; omega) (.inl ⟨hmU, by rw [k3]; exact hlc⟩) (fun e => by cases e) k5 (by simpa using k6.pure h2.F _ _ _ k5)
       simpa only [IR] using this
      ·obtain ⟨ab, ao, as⟩ := a
       simp only at hsp
       subst hsp
       simp only [VRL, VR, and_true]
       exact ⟨_, h3, trivial, .inl ⟨hmU, hlc, by simp⟩⟩
     ·obtain rfl : cap = 0 := by omega
      obtain rfl : len = 0 := by omega
      obtain ⟨ι2, h1, h2, h3⟩ := hL.push (cs := []) (l := ⟨0, 0, 0⟩) hpos (fun j v hj => by simp at hj)
      have hF : (W0 (H.push (.cells [] true))).F H.size = some [] := by simp [W0, FH]
      refine ⟨[.lst (P.cellsOf e) false []], ι2, _, h1, h2, ?_, rfl, ⟨[.slice (some ⟨H.size, 0, none⟩) 0 0], ?_, ?_⟩, by simp [hct]⟩
      ·simp only [WT, ht]
       exact .inr ⟨[], rfl, by simp, by simp⟩
      ·refine CRL.cons_iff.2 ⟨_, [], rfl, rfl, rfl, ?_, CRL.nil_iff.2 rfl⟩
       have := IR.mk_lst (full := false) (xs := []) (o := 0) (cap := 0) (n := 0) hF rfl hce (by simp) (.inl ⟨by simp [UNK], by simp⟩) (fun e => by cases e) rfl (by simp [CRF])
       simpa only [IR] using this
      ·simp only [VRL, VR, and_true]
       exact ⟨_, h3, trivial, .inr (.inr (.inr ⟨trivial, trivial, a, rfl⟩))⟩
    ·simp at h
  | struct fs =>
   simp only [Bool.and_eq_true, List.all_eq_true] at hok
   simp only at h
   split at h
   ·rename_i hlen
    cases hel : fs.toList.mapM (fun f => DataW.trod enc P w 0 (fun _ => true) held n f.type ((cs.drop f.offset).take (P.cellsOf f.type))) with
    | none => rw [hel] at h; simp at h
    | some els =>
    obtain ⟨xs, ι1, H1, h1, h2, h3, h4, h5⟩ := lay_fields (P := P) (w := w) (d := d) (cs := cs) fs.toList 0 (by rw [hlen]; exact hok.1) (fun f hf => by
     obtain ⟨y, hy⟩ := mapM_ex hel f hf
     refine lay_trod d n f.type _ y ?_ (hok.2 f hf) hy
     rcases hz with hz | hz
     ·exact .inl hz
     ·exact .inr fun c hc => hz c (List.mem_of_mem_drop (List.mem_of_mem_take hc))) ι H hL
    rw [List.drop_zero] at h5
    exact ⟨xs, ι1, H1, h1, h2, by simp only [WT, ht]; exact h3, h4, h5, by rw [← h5.len, hlen]⟩
   ·simp at h
  | array m e =>
   simp only [Bool.and_eq_true, beq_iff_eq] at hok
   simp only at h
   split at h
   ·rename_i hlen
    cases hel : (List.range m).mapM (fun i => DataW.trod enc P w 0 (fun _ => true) held n e ((cs.drop (i * P.cellsOf e)).take (P.cellsOf e))) with
    | none => rw [hel] at h; simp at h
    | some els =>
    obtain ⟨xs, ι1, H1, h1, h2, h3, h4, h5⟩ := lay_array (P := P) (w := w) (d := d) (e := e) (cs := cs) m 0 (by rw [hlen, hok.1]; simp) (fun j _ hj => by
     obtain ⟨y, hy⟩ := mapM_ex hel j (by simp; omega)
     refine lay_trod d n e _ y ?_ hok.2 hy
     rcases hz with hz | hz
     ·exact .inl hz
     ·exact .inr fun c hc => hz c (List.mem_of_mem_drop (List.mem_of_mem_take hc))) ι H hL
    rw [Nat.zero_mul, List.drop_zero] at h5
    exact ⟨xs, ι1, H1, h1, h2, by simp only [WT, ht]; exact h3, h4, h5, by rw [← h5.len, hlen]⟩
   ·simp at h
  | _ => simp at hok
end
end Go.Proofs.Ytmgfkifjgajclaa.G
namespace Go.Proofs.Ytmgfkifjgajclaa.G
open Go Go.RowKit Go.ChangeShapes
def argOf (P : Program) (t : TypeId) (cs : List IV) : IV := if isAggT P t then .agg cs else cs.headD (.tup [])
def WTA (P : Program) (D : Nat) : List TypeId → List IV → Prop
 | [], xs => xs = []
 | t :: ts, xs => ∃ cs r, xs = argOf P t cs :: r ∧ WT P D t cs ∧ WTA P D ts r
section
variable {Hd : Type} {enc : TypeId × Value → Hd} {P : Program} {W : World}
theorem okWide_sl {r : Reach} {base : Nat} {u : TypeId} {a : Addr} {n k : Nat} (h : Cell.okWide P W r base u (.slice (some a) n k)) : 0 < W.heap.size := by
 unfold Cell.okWide at h
 split at h
 all_goals first
  | (rename_i heq; cases heq; done)
  | (unfold Cell.ok at h
     split at h
     all_goals first
      | (rename_i heq; cases heq; done)
      | (exact h.elim)
      | skip)
 all_goals try (rename_i heq _; cases heq; done)
 rename_i heq
 cases heq
 obtain ⟨_, _, _, _, row, cells, hs, _⟩ := h
 unfold World.shape? at hs
 rcases Nat.lt_or_ge a.block W.heap.size with hlt | hge
 ·omega
 ·rw [Array.getElem?_eq_none hge] at hs
  simp at hs
theorem arg_shape {D : Nat} {t : TypeId} {r : Reach} {base : Nat} {v : Value} (hok : okT P D t = true) (h : Value.okWide P W r base t v) :
  ((isAggT P t = true ∧ ∃ a, v = .agg a) ∨ (isAggT P t = false ∧ v.cells.toList = [v])) ∧ (0 < W.heap.size ∨ noSl v.cells.toList) := by
 cases D with
 | zero => simp [okT] at hok
 | succ D =>
 cases ht : P.underlying t with
 | none => simp [okT, ht] at hok
 | some u =>
 unfold Value.okWide at h
 simp only [ht] at h
 have agg : ∀ {cs : Array Value}, Row.okWide P W r base t cs → (0 < W.heap.size ∨ noSl cs.toList) := by
  intro cs hr
  by_cases hz : 0 < W.heap.size
  ·exact .inl hz
  ·refine .inr fun c hc a n k e => ?_
   subst e
   obtain ⟨ts, _, _, hall⟩ := hr
   obtain ⟨i, hi, hi2⟩ := List.mem_iff_getElem.1 hc
   obtain ⟨u, _, hu⟩ := hall i _ (by rw [← Array.getElem?_toList]; rw [List.getElem?_eq_getElem hi, hi2])
   exact hz (okWide_sl hu)
 have one1 : ∀ {r : Reach} {base : Nat}, Cell.okWide P W r base t v → (0 < W.heap.size ∨ noSl [v]) := by
  intro r base hr
  by_cases hz : 0 < W.heap.size
  ·exact .inl hz
  ·refine .inr fun c hc a n k e => ?_
   simp at hc
   subst hc e
   exact hz (okWide_sl hr)
 cases u with
 | struct fs =>
  obtain ⟨cs, rfl, _, hr⟩ := h
  exact ⟨.inl ⟨by simp [isAggT, ht], cs, rfl⟩, agg hr⟩
 | array n e =>
  obtain ⟨cs, rfl, _, hr⟩ := h
  exact ⟨.inl ⟨by simp [isAggT, ht], cs, rfl⟩, agg hr⟩
 | bool =>
  have h' := h
  unfold Cell.okWide at h'
  simp only [ht] at h'
  unfold Cell.ok at h'
  simp only [ht] at h'
  cases v <;> simp at h'
  exact ⟨.inr ⟨by simp [isAggT, ht], rfl⟩, one1 h⟩
 | int k =>
  have h' := h
  unfold Cell.okWide at h'
  simp only [ht] at h'
  unfold Cell.ok at h'
  simp only [ht] at h'
  cases v <;> simp at h'
  exact ⟨.inr ⟨by simp [isAggT, ht], rfl⟩, one1 h⟩
 | string =>
  have h' := h
  unfold Cell.okWide at h'
  simp only [ht] at h'
  unfold Cell.ok at h'
  simp only [ht] at h'
  cases v <;> simp at h'
  exact ⟨.inr ⟨by simp [isAggT, ht], rfl⟩, one1 h⟩
 | slice e =>
  have h' := h
  unfold Cell.okWide at h'
  simp only [ht] at h'
  unfold Cell.ok at h'
  simp only [ht] at h'
  cases v <;> simp at h'
  exact ⟨.inr ⟨by simp [isAggT, ht], rfl⟩, one1 h⟩
 | _ => simp [okT, ht] at hok
theorem lay_all {D : Nat} : ∀ (ts : List TypeId) (vs : List Value) (ds : List (DataW Hd)) (p : List MemPlace) {r : Reach} {base : Nat}, DataW.TrodAll enc P W 0 (fun _ => true) true ts vs ds p → (∀ t ∈ ts, okT P D t = true) →
  (∀ (j : Nat) t v, ts[j]? = some t → vs[j]? = some v → Value.okWide P W r base t v) →
  ∀ ι H, Lay W ι H → ∃ xs gs ι' H', Lay W ι' H' ∧ Ext ι H ι' H' ∧ WTA P D ts xs ∧ ipureL xs = true ∧ IRL (W0 H') xs gs ∧ VRL ι' gs vs
 | [], [], [], p, r, base, h, _, _, ι, H, hL => ⟨[], [], ι, H, hL, .refl _ _, rfl, rfl, by simp [IRL], by simp [VRL]⟩
 | t :: ts, v :: vs, d :: ds, p, r, base, h, hok, hval, ι, H, hL => by
  obtain ⟨p1, q1, ⟨fuel, h1⟩, h2, _⟩ := h
  have hv := hval 0 t v rfl rfl
  have hot := hok t (by simp)
  obtain ⟨hsh, hz⟩ := arg_shape hot hv
  obtain ⟨cs, ι1, H1, k1, k2, k3, k4, ⟨gs1, k5, k6⟩, k7⟩ := lay_trod D fuel t _ _ hz hot h1 ι H hL
  obtain ⟨xs, gs, ι2, H2, m1, m2, m3, m4, m5, m6⟩ := lay_all ts vs ds q1 h2 (fun u hu => hok u (by simp [hu])) (fun j u w hu hw => hval (j + 1) u w (by simpa using hu) (by simpa using hw)) ι1 H1 k1
  rcases hsh with ⟨hagg, a, rfl⟩ | ⟨hagg, hc⟩
  ·refine ⟨.agg cs :: xs, .agg gs1.toArray :: gs, ι2, H2, m1, k2.trans m2, ⟨cs, xs, by simp [argOf, hagg], k3, m3⟩, by simp [ipureL, ipure, k4, m4], IRL.cons_iff.2 ⟨_, _, rfl, (IR.mk_agg k5).pure m2.F _ _ (by simp [ipure, k4]), m5⟩, ?_⟩
   simp only [VRL, VR]
   exact ⟨⟨a, rfl, VRA_iff.2 (VRL.mono m2.le _ _ k6), k5.ones.2⟩, m6⟩
  ·rw [hc] at k6
   have hl := k6.length
   have hl2 := k5.len
   match cs, gs1, hl, hl2, k5, k4, k3, k6 with
   | [x], [g], _, _, k5, k4, k3, k6 =>
    obtain ⟨g', gs', hg, hx1, hx2, hx3, _⟩ := CRL.cons_iff.1 k5
    simp only [List.cons.injEq] at hg
    obtain ⟨rfl, rfl⟩ := hg
    simp only [ipureL, Bool.and_true] at k4
    simp only [VRL, and_true] at k6
    refine ⟨x :: xs, g :: gs, ι2, H2, m1, k2.trans m2, ⟨[x], xs, by simp [argOf, hagg], k3, m3⟩, by simp [ipureL, k4, m4], IRL.cons_iff.2 ⟨_, _, rfl, (hx3.toIR hx1).pure m2.F _ _ k4, m5⟩, ?_⟩
    simp only [VRL]
    exact ⟨k6.mono m2.le, m6⟩
 | [], [], _ :: _, _, _, _, h, _, _, _, _, _ => by simp [DataW.TrodAll] at h
 | [], _ :: _, _, _, _, _, h, _, _, _, _, _ => by simp [DataW.TrodAll] at h
 | _ :: _, [], _, _, _, _, h, _, _, _, _, _ => by simp [DataW.TrodAll] at h
 | _ :: _, _ :: _, [], _, _, _, h, _, _, _, _, _ => by simp [DataW.TrodAll] at h
theorem trodAll_below (hl : laidOutB P = true) {W' : World} (hb : Below W.heap.size W W') : ∀ (ts : List TypeId) (vs : List Value) (ds : List (DataW Hd)) (p : List MemPlace), (∀ t ∈ ts, P.readableRec t = true ∧ t < P.types.size) →
  DataW.TrodAll enc P W 0 (fun _ => true) true ts vs ds p → (∀ x ∈ p, x.block < W.heap.size) → DataW.TrodAll enc P W' 0 (fun b => decide (b < W.heap.size)) true ts vs ds p
 | [], [], [], p, _, h, _ => h
 | t :: ts, v :: vs, d :: ds, p, hr, h, hlt => by
  obtain ⟨p1, q1, h1, h2, rfl⟩ := h
  refine ⟨p1, q1, Below.trod hl (hr t (by simp)).1 (hr t (by simp)).2 h1 hb (fun x hx => hlt x (by simp [hx])), trodAll_below hl hb ts vs ds q1 (fun u hu => hr u (by simp [hu])) h2 (fun x hx => hlt x (by simp [hx])), rfl⟩
 | [], [], _ :: _, _, _, h, _ => by simp [DataW.TrodAll] at h
 | [], _ :: _, _, _, _, h, _ => by simp [DataW.TrodAll] at h
 | _ :: _, [], _, _, _, h, _ => by simp [DataW.TrodAll] at h
 | _ :: _, _ :: _, [], _, _, h, _ => by simp [DataW.TrodAll] at h
theorem frz_bool {J : JH} {k : Nat} {v : IV} {b : Bool} (h : frz J k v = some (.bool b)) : v = .bool b := by
 cases k with
 | zero =>
  simp only [frz] at h
  split at h
  ·simpa using h
  ·simp at h
 | succ k =>
  simp only [frz] at h
  split at h
  ·simpa using h
  ·cases v with
   | agg cs => simp only at h; cases hm : cs.mapM (frz J k) <;> rw [hm] at h <;> simp at h
   | tup cs => simp only at h; cases hm : cs.mapM (frz J k) <;> rw [hm] at h <;> simp at h
   | fn f a c => simp only at h; split at h <;> simp at h
   | sl b0 v off n cap sz =>
    simp only at h
    split at h
    ·simp at h
    ·split at h
     ·split at h
      ·split at h <;> simp at h
      ·simp at h
     ·simp at h
   | _ => simp at h
theorem run_law {B : IBook} {Bg : Book} (hg : BookOK Bg) (hP : Bg.P = P) (hB : IBookOK B Bg) {f : FuncId} {xs : List IV} (hp : pc B f xs = some (.bool true)) {ι : Inj} {H : Heap} (hL : Lay W ι H) {gs cargs : List Value} (h1 : IRL (W0 H) xs gs) (h2 : VRL ι gs cargs) :
  Calls P f cargs.toArray W fun e w' => e = .returned (.bool true) ∧ Below W.heap.size W w' := by
 subst hP
 unfold pc at hp
 split at hp
 ·rename_i v J1 hc
  obtain rfl := frz_bool hp
  obtain ⟨n, hn⟩ := ic_lim hc
  have hHR : HR (W0 H) #[] H := ⟨fun b w β h => by simp [W0] at h, fun b w β cs ro h => by simp [W0] at h, fun b w β es k h => by simp [W0] at h, fun b c w v β h => by simp [W0] at h, fun β cs h => by
   simp only [W0, FH] at h
   split at h
   ·rename_i cs' r hr
    simp only [Option.some.injEq] at h
    subst h
    exact ⟨r, hr⟩
   ·simp at h⟩
  obtain ⟨W', c, H', k1, k2, k3⟩ := icall_ok hB n f xs #[] _ J1 hn (W0 H) H gs hHR h1
  obtain ⟨rfl, _⟩ := k3.sc
  obtain ⟨g1, g2⟩ := acall_ok hg n f gs H _ H' k1 ι W cargs hL.rel h2
  refine g2.mono fun e w' hh => ?_
  obtain ⟨ι', c, rfl, hv, hst⟩ := hh
  simp only [VR] at hv
  subst hv
  refine ⟨rfl, hst.os, hst.tape, hst.output, hst.wsize, fun k hk => hst.keep k hk fun b l hb _ ho => ?_⟩
  obtain ⟨cs, hcs⟩ := hL.ro b (hL.rel.dom b l hb)
  rcases ho with ⟨es, he⟩ | ⟨es, q, he⟩ <;> rw [hcs] at he <;> cases he
 ·simp at hp
theorem law_calls {B : IBook} {Bg : Book} (hg : BookOK Bg) (hP : Bg.P = P) (hB : IBookOK B Bg) {f : FuncId} {D : Nat} {ts : List TypeId} {vs : List Value} {ds : List (DataW Hd)} {p : List MemPlace} {r : Reach} {base : Nat}
  (hok : ∀ t ∈ ts, okT P D t = true) (hA : DataW.TrodAll enc P W 0 (fun _ => true) true ts vs ds p) (hval : ∀ (j : Nat) t v, ts[j]? = some t → vs[j]? = some v → Value.okWide P W r base t v)
  (hp : ∀ xs, WTA P D ts xs → ipureL xs = true → pc B f xs = some (.bool true)) : Calls P f vs.toArray W fun e w' => e = .returned (.bool true) ∧ Below W.heap.size W w' := by
 obtain ⟨xs, gs, ι, H, m1, _, m3, m4, m5, m6⟩ := lay_all ts vs ds p hA hok hval _ _ (lay_empty W)
 exact run_law hg hP hB (hp xs m3 m4) m1 m5 m6
end
#print axioms law_calls
end Go.Proofs.Ytmgfkifjgajclaa.G
namespace Go.Proofs.Ytmgfkifjgajclaa.G
open Go
section
variable {P : Program}
theorem wt_int {d : Nat} {t : TypeId} {k : IntKind} (ht : P.underlying t = some (.int k)) {cs : List IV} (h : WT P (d + 1) t cs) : ∃ n, cs = [.int k n] ∧ (Lit.int k n).wf = true := by
 simp only [WT, ht] at h; exact h
theorem wt_slice {d : Nat} {t e : TypeId} (ht : P.underlying t = some (.slice e)) {cs : List IV} (h : WT P (d + 1) t cs) :
  cs = [.sc (.slice none 0 0)] ∨ ∃ ys, cs = [.lst (P.cellsOf e) false ys] ∧ ys.length ≤ maxLen ∧ ∀ y ∈ ys, ∃ cs, y = mkE (P.cellsOf e) cs ∧ cs.length = P.cellsOf e ∧ WT P d e cs := by
 simp only [WT, ht] at h; exact h
theorem choose_list {α : Type} {f : α → IV} {p : α → Prop} : ∀ {ys : List IV}, (∀ y ∈ ys, ∃ a, y = f a ∧ p a) → ∃ l : List α, ys = l.map f ∧ ∀ a ∈ l, p a
 | [], _ => ⟨[], rfl, by simp⟩
 | y :: ys, h => by
  obtain ⟨a, rfl, ha⟩ := h y (by simp)
  obtain ⟨l, rfl, hl⟩ := choose_list (ys := ys) fun z hz => h z (by simp [hz])
  exact ⟨a :: l, rfl, fun b hb => by
   rcases List.mem_cons.1 hb with rfl | hb
   ·exact ha
   ·exact hl b hb⟩
theorem wt_ints {d : Nat} {t e : TypeId} {k : IntKind} (ht : P.underlying t = some (.slice e)) (he : P.underlying e = some (.int k)) (hc : P.cellsOf e = 1) {cs : List IV} (h : WT P (d + 2) t cs) :
  ∃ zs : List Int, ((cs = [.sc (.slice none 0 0)] ∧ zs = []) ∨ cs = [.lst 1 false (zs.map (IV.int k))]) ∧ zs.length ≤ maxLen ∧ ∀ z ∈ zs, (Lit.int k z).wf = true := by
 rcases wt_slice ht h with rfl | ⟨ys, rfl, h1, h2⟩
 ·exact ⟨[], .inl ⟨rfl, rfl⟩, by simp, by simp⟩
 ·obtain ⟨zs, rfl, hz⟩ := choose_list (f := IV.int k) (p := fun z => (Lit.int k z).wf = true) (ys := ys) (fun y hy => by
   obtain ⟨cs, rfl, _, hw⟩ := h2 y hy
   obtain ⟨n, rfl, hn⟩ := wt_int he hw
   exact ⟨n, by simp [mkE, hc], hn⟩)
  exact ⟨zs, .inr (by rw [hc]), by simpa using h1, hz⟩
theorem argOf_one {t : TypeId} (h : isAggT P t = false) (x : IV) : argOf P t [x] = x := by simp [argOf, h]
end
end Go.Proofs.Ytmgfkifjgajclaa.G
