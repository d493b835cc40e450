/- Joined: I10 to I12. -/
import Derived.Test.YtdclinhgekbejaaXF
import Derived.Carry
import Derived.RowKit
import Derived.ChangeShapes
set_option linter.unusedVariables false
set_option linter.unusedSimpArgs false
set_option maxRecDepth 20000
set_option maxHeartbeats 2000000
namespace Go.Proofs.Ytdclinhgekbejaa.G
open Go
def WTF (p : TypeId → List IV → Prop) : List Field → List IV → Prop
 | [], xs => xs = []
 | f :: fs, xs => ∃ a b, xs = a ++ b ∧ p f.type a ∧ WTF p fs b
def WTN (p : List IV → Prop) : Nat → List IV → Prop
 | 0, xs => xs = []
 | n + 1, xs => ∃ a b, xs = a ++ b ∧ p a ∧ WTN p n b
def WT (P : Program) : Nat → TypeId → List IV → Prop
 | 0, _, _ => False
 | d + 1, t, xs =>
  match P.underlying t with
  | some .bool => ∃ b, xs = [.bool b]
  | some (.int k) => ∃ n, xs = [.int k n] ∧ (Lit.int k n).wf = true
  | some .string => ∃ s, xs = [.sc (.string s)] ∧ s.size ≤ maxLen
  | some (.slice e) => xs = [.sc (.slice none 0 0)] ∨ ∃ ys, xs = [.lst (P.cellsOf e) false ys] ∧ ys.length ≤ maxLen ∧ ∀ y ∈ ys, ∃ cs, y = mkE (P.cellsOf e) cs ∧ cs.length = P.cellsOf e ∧ WT P d e cs
  | some (.struct fs) => WTF (WT P d) fs.toList xs
  | some (.array n e) => WTN (WT P d e) n xs
  | _ => False
def okT (P : Program) : Nat → TypeId → Bool
 | 0, _ => false
 | d + 1, t =>
  match P.underlying t with
  | some .bool | some (.int _) | some .string => P.cellsOf t == 1
  | some (.slice e) => P.cellsOf t == 1 && decide (0 < P.cellsOf e) && okT P d e
  | some (.struct fs) => tiles P fs.toList 0 (P.cellsOf t) && fs.toList.all fun f => okT P d f.type
  | some (.array n e) => P.cellsOf t == n * P.cellsOf e && okT P d e
  | _ => false
def FH (H : Heap) (b : Nat) : Option (List Value) := match H[b]? with | some (.cells cs _) => some cs | _ => none
def W0 (H : Heap) : Wd := ⟨fun _ => none, FH H⟩
structure Lay (w : World) (ι : Inj) (H : Heap) : Prop where
 rel : Rel ι H w
 ro : ∀ b, b < H.size → ∃ cs, H[b]? = some (.cells cs true)
structure Ext (ι : Inj) (H : Heap) (ι' : Inj) (H' : Heap) : Prop where
 le : Le ι ι'
 F : ∀ b cs, FH H b = some cs → FH H' b = some cs
theorem Ext.refl (ι : Inj) (H : Heap) : Ext ι H ι H := ⟨.refl ι, fun _ _ h => h⟩
theorem Ext.trans {ι ι' ι'' : Inj} {H H' H'' : Heap} (h : Ext ι H ι' H') (k : Ext ι' H' ι'' H'') : Ext ι H ι'' H'' := ⟨h.le.trans k.le, fun b cs e => k.F b cs (h.F b cs e)⟩
theorem lay_empty (w : World) : Lay w (fun _ => none) #[] := by
 refine ⟨⟨?_, ?_, ?_, ?_, ?_, ?_⟩, ?_⟩
 ·intro b l h; cases h
 ·intro b l h; cases h
 ·intro b l cs ro h; cases h
 ·intro b l cs h; cases h
 ·intro b l es k h; cases h
 ·intro b c l m h; cases h
 ·intro b h; simp at h
theorem Lay.push {w : World} {ι : Inj} {H : Heap} (h : Lay w ι H) {cs : List Value} {l : Loc} (hb : l.blk < w.heap.size)
  (hc : ∀ (i : Nat) v, cs[i]? = some v → one v = true ∧ ∃ c, w.cell? ⟨l.blk, l.δ + i, none⟩ = some c ∧ VR ι v c) :
  ∃ ι', Lay w ι' (H.push (.cells cs true)) ∧ Ext ι H ι' (H.push (.cells cs true)) ∧ ι' H.size = some l := by
 refine ⟨fun b => if b = H.size then some l else ι b, ?_, ?_, by simp⟩
 ·have hle : Le ι (fun b => if b = H.size then some l else ι b) := fun b m hm => by
   have := h.rel.dom b m hm
   show (if b = H.size then some l else ι b) = some m
   rw [if_neg (Nat.ne_of_lt this)]
   exact hm
  have hold : ∀ {b m}, (if b = H.size then some l else ι b) = some m → b ≠ H.size → ι b = some m := fun {b m} hm hne => by rwa [if_neg hne] at hm
  have hnot : ∀ b, ¬ own (H.push (.cells cs true)) b := by
   intro b ho
   have : ∃ ds, (H.push (Blk.cells cs true))[b]? = some (.cells ds true) ∨ (H.push (Blk.cells cs true))[b]? = none := by
    rw [Array.getElem?_push]
    split
    ·exact ⟨cs, .inl rfl⟩
    ·rcases Nat.lt_or_ge b H.size with hlt | hge
     ·obtain ⟨ds, hd⟩ := h.ro b hlt
      exact ⟨ds, .inl hd⟩
     ·exact ⟨[], .inr (Array.getElem?_eq_none hge)⟩
   obtain ⟨ds, hd | hd⟩ := this <;> rcases ho with ⟨es, he⟩ | ⟨es, k, he⟩ <;> rw [hd] at he <;> cases he
  refine ⟨⟨?_, ?_, ?_, ?_, ?_, ?_⟩, ?_⟩
  ·intro b m hm
   by_cases hb : b = H.size
   ·subst hb; simp
   ·have := h.rel.dom b m (hold hm hb); simp; omega
  ·intro b m hm
   by_cases hbs : b = H.size
   ·subst hbs; simp at hm; subst hm; exact hb
   ·exact h.rel.bound b m (hold hm hbs)
  ·intro b m ds ro hm hH i v hv
   by_cases hbs : b = H.size
   ·subst hbs
    simp at hm
    subst hm
    rw [Array.getElem?_push, if_pos rfl] at hH
    simp only [Option.some.injEq, Blk.cells.injEq] at hH
    obtain ⟨rfl, rfl⟩ := hH
    obtain ⟨h1, c, h2, h3⟩ := hc i v hv
    exact ⟨h1, c, h2, h3.mono hle⟩
   ·have hm' := hold hm hbs
    rw [Array.getElem?_push, if_neg hbs] at hH
    obtain ⟨h1, c, h2, h3⟩ := h.rel.cells b m ds ro hm' hH i v hv
    exact ⟨h1, c, h2, h3.mono hle⟩
  ·intro b m ds hm hH
   exact (hnot b (.inl ⟨ds, hH⟩)).elim
  ·intro b m es k hm hH
   exact (hnot b (.inr ⟨es, k, hH⟩)).elim
  ·intro b c m m' _ _ _ _ ho
   exact (hnot b ho).elim
  ·intro b hb
   simp at hb
   rw [Array.getElem?_push]
   split
   ·exact ⟨cs, rfl⟩
   ·exact h.ro b (by omega)
 ·refine ⟨fun b m hm => ?_, fun b ds hF => ?_⟩
  ·have := h.rel.dom b m hm
   show (if b = H.size then some l else ι b) = some m
   rw [if_neg (Nat.ne_of_lt this)]
   exact hm
  ·unfold FH at hF ⊢
   rw [Array.getElem?_push, if_neg]
   ·exact hF
   ·rintro rfl
    simp at hF
theorem W0.le {ι ι' : Inj} {H H' : Heap} (h : Ext ι H ι' H') : ∀ β cs, (W0 H).F β = some cs → (W0 H').F β = some cs := h.F
def Laid (ι : Inj) (H : Heap) (xs : List IV) (cs : List Value) : Prop := ∃ gs, CRL (W0 H) xs gs ∧ VRL ι gs cs
theorem Laid.ext {ι ι' : Inj} {H H' : Heap} {xs : List IV} {cs : List Value} (h : Laid ι H xs cs) (hp : ipureL xs = true) (hx : Ext ι H ι' H') : Laid ι' H' xs cs := by
 obtain ⟨gs, h1, h2⟩ := h
 exact ⟨gs, h1.pure hx.F _ _ hp, VRL.mono hx.le _ _ h2⟩
theorem Laid.append {ι : Inj} {H : Heap} {xs ys : List IV} {cs ds : List Value} (h : Laid ι H xs cs) (k : Laid ι H ys ds) : Laid ι H (xs ++ ys) (cs ++ ds) := by
 obtain ⟨gs, h1, h2⟩ := h
 obtain ⟨es, k1, k2⟩ := k
 exact ⟨gs ++ es, h1.append k1, h2.append k2⟩
theorem Laid.one {ι : Inj} {H : Heap} {v : Value} (h1 : scOK v = true) (h2 : one v = true) (h3 : VR ι v v) : Laid ι H [.sc v] [v] :=
 ⟨[v], CRL.cons_iff.2 ⟨v, [], rfl, by simpa [ione] using h2, h2, by simp [CR, h1, h2], CRL.nil_iff.2 rfl⟩, by simp [VRL, h3]⟩
theorem Laid.len {ι : Inj} {H : Heap} {xs : List IV} {cs : List Value} (h : Laid ι H xs cs) : cs.length = xs.length := by
 obtain ⟨gs, h1, h2⟩ := h
 rw [← h2.length, h1.len]
theorem ipureL_app {a b : List IV} (h : ipureL a = true) (k : ipureL b = true) : ipureL (a ++ b) = true :=
 ipureL_iff.2 fun x hx => by
  rcases List.mem_append.1 hx with hx | hx
  ·exact ipureL_iff.1 h x hx
  ·exact ipureL_iff.1 k x hx
section
variable {Hd : Type} {enc : TypeId × Value → Hd} {P : Program} {w : World} {sp : Nat → Bool} {held : Bool}
def LayT (P : Program) (w : World) (d : Nat) (t : TypeId) (cs : List Value) : Prop :=
 ∀ ι H, Lay w ι H → ∃ xs ι' H', Lay w ι' H' ∧ Ext ι H ι' H' ∧ WT P d t xs ∧ ipureL xs = true ∧ Laid ι' H' xs cs ∧ xs.length = P.cellsOf t
theorem drop_take_split {α : Type} (l : List α) (a b : Nat) : l.drop a = (l.drop a).take b ++ l.drop (a + b) := by
 rw [← List.drop_drop]; exact (List.take_append_drop b (l.drop a)).symm
theorem lay_fields {d : Nat} {cs : List Value} : ∀ (fs : List Field) (off : Nat), tiles P fs off cs.length = true → (∀ f ∈ fs, LayT P w d f.type ((cs.drop f.offset).take (P.cellsOf f.type))) →
  ∀ ι H, Lay w ι H → ∃ xs ι' H', Lay w ι' H' ∧ Ext ι H ι' H' ∧ WTF (WT P d) fs xs ∧ ipureL xs = true ∧ Laid ι' H' xs (cs.drop off)
 | [], off, ht, _, ι, H, hL => by
  simp only [tiles, beq_iff_eq] at ht
  subst ht
  exact ⟨[], ι, H, hL, .refl _ _, rfl, rfl, [], by simp [CRL], by simp [VRL]⟩
 | f :: fs, off, ht, hf, ι, H, hL => by
  simp only [tiles, Bool.and_eq_true, beq_iff_eq] at ht
  obtain ⟨ho, ht⟩ := ht
  obtain ⟨xs, ι1, H1, h1, h2, h3, h4, h5, h6⟩ := hf f (by simp) ι H hL
  obtain ⟨ys, ι2, H2, k1, k2, k3, k4, k5⟩ := lay_fields fs (off + P.cellsOf f.type) ht (fun g hg => hf g (by simp [hg])) ι1 H1 h1
  refine ⟨xs ++ ys, ι2, H2, k1, h2.trans k2, ⟨xs, ys, rfl, h3, k3⟩, ipureL_app h4 k4, ?_⟩
  rw [drop_take_split cs off (P.cellsOf f.type), ← ho]
  exact (h5.ext h4 k2).append (by rw [ho]; exact k5)
theorem lay_array {d : Nat} {e : TypeId} {cs : List Value} : ∀ (n i : Nat), cs.length = (i + n) * P.cellsOf e → (∀ j, i ≤ j → j < i + n → LayT P w d e ((cs.drop (j * P.cellsOf e)).take (P.cellsOf e))) →
  ∀ ι H, Lay w ι H → ∃ xs ι' H', Lay w ι' H' ∧ Ext ι H ι' H' ∧ WTN (WT P d e) n xs ∧ ipureL xs = true ∧ Laid ι' H' xs (cs.drop (i * P.cellsOf e))
 | 0, i, hl, _, ι, H, hL => by
  refine ⟨[], ι, H, hL, .refl _ _, rfl, rfl, [], by simp [CRL], ?_⟩
  rw [List.drop_eq_nil_of_le (by rw [hl]; simp)]
  simp [VRL]
 | n + 1, i, hl, hf, ι, H, hL => by
  obtain ⟨xs, ι1, H1, h1, h2, h3, h4, h5, h6⟩ := hf i (Nat.le_refl _) (by omega) ι H hL
  obtain ⟨ys, ι2, H2, k1, k2, k3, k4, k5⟩ := lay_array n (i + 1) (by rw [hl]; congr 1; omega) (fun j hj hj2 => hf j (by omega) (by omega)) ι1 H1 h1
  refine ⟨xs ++ ys, ι2, H2, k1, h2.trans k2, ⟨xs, ys, rfl, h3, k3⟩, ipureL_app h4 k4, ?_⟩
  rw [drop_take_split cs (i * P.cellsOf e) (P.cellsOf e), ← Nat.succ_mul]
  exact (h5.ext h4 k2).append k5
theorem mapM_ex {α β : Type} {f : α → Option β} : ∀ {l : List α} {m : List β}, l.mapM f = some m → ∀ x ∈ l, ∃ y, f x = some y
 | [], m, _, x, hx => by simp at hx
 | a :: l, m, h, x, hx => by
  rcases mapM_some h with ⟨h0, _⟩ | ⟨a', r, y, s, h0, rfl, h1, h2⟩
  ·cases h0
  ·cases h0
   rcases List.mem_cons.1 hx with rfl | hx
   ·exact ⟨y, h1⟩
   ·exact mapM_ex h2 x hx
theorem mapM_idx {α β : Type} {f : α → Option β} : ∀ {l : List α} {m : List β} {i : Nat} {x : α}, l.mapM f = some m → l[i]? = some x → ∃ y, m[i]? = some y ∧ f x = some y
 | [], m, i, x, _, hx => by simp at hx
 | a :: l, m, i, x, h, hx => by
  rcases mapM_some h with ⟨h0, _⟩ | ⟨a', r, y, s, h0, rfl, h1, h2⟩
  ·cases h0
  ·cases h0
   cases i with
   | zero => simp at hx; subst hx; exact ⟨y, by simp, h1⟩
   | succ i => simpa using mapM_idx (i := i) h2 (by simpa using hx)
theorem lay_row {d : Nat} {e : TypeId} {a : Addr} {len : Nat} (hsp : a.spot = none) (hel : ∀ i, i < len → ∃ cs, w.cells? 0 (a.add (i * P.cellsOf e)) (P.cellsOf e) = some cs ∧ LayT P w d e cs) :
  ∀ (n i : Nat), i + n = len → ∀ ι H, Lay w ι H → ∃ ys gs ι' H', Lay w ι' H' ∧ Ext ι H ι' H' ∧ ys.length = n ∧ (∀ y ∈ ys, ∃ cs, y = mkE (P.cellsOf e) cs ∧ cs.length = P.cellsOf e ∧ WT P d e cs) ∧ ipureL ys = true ∧
   CRF (W0 H') (P.cellsOf e) ys gs ∧ gs.length = n * P.cellsOf e ∧ ∀ (j : Nat) v, gs[j]? = some v → one v = true ∧ ∃ c, w.cell? ⟨a.block, a.off + i * P.cellsOf e + j, none⟩ = some c ∧ VR ι' v c
 | 0, i, _, ι, H, hL => ⟨[], [], ι, H, hL, .refl _ _, rfl, by simp, rfl, by simp [CRF], by simp, by simp⟩
 | n + 1, i, hi, ι, H, hL => by
  obtain ⟨cs, hcs, hlay⟩ := hel i (by omega)
  obtain ⟨xs, ι1, H1, h1, h2, h3, h4, h5, h6⟩ := hlay ι H hL
  obtain ⟨ys, gs, ι2, H2, k1, k2, k3, k4, k5, k6, k7, k8⟩ := lay_row hsp hel n (i + 1) (by omega) ι1 H1 h1
  obtain ⟨gx, hx1, hx2⟩ := h5.ext h4 k2
  have hgl : gx.length = P.cellsOf e := by rw [hx1.len, h6]
  have hcl : cs.length = P.cellsOf e := by rw [← hx2.length, hgl]
  refine ⟨mkE (P.cellsOf e) xs :: ys, gx ++ gs, ι2, H2, k1, h2.trans k2, by simp [k3], ?_, ?_, ?_, ?_, ?_⟩
  ·intro y hy
   rcases List.mem_cons.1 hy with rfl | hy
   ·exact ⟨xs, rfl, h6, h3⟩
   ·exact k4 y hy
  ·simp only [ipureL, k5, Bool.and_true]; exact ipure_mkE (ipureL_iff.1 h4)
  ·simp only [CRF]
   refine ⟨by rw [mkE_len h6 hx1.ones.1]; exact h6, ?_, ?_⟩
   ·rw [List.take_left' hgl]; exact mkE_CR h6 hx1
   ·rw [List.drop_left' hgl]; exact k6
  ·simp [hgl, k7, Nat.succ_mul]; omega
  ·intro j v hj
   rcases Nat.lt_or_ge j (P.cellsOf e) with hlt | hge
   ·rw [List.getElem?_append_left (by omega)] at hj
    have ho : one v = true := List.all_eq_true.1 hx1.ones.2 v (List.mem_of_getElem? hj)
    refine ⟨ho, ?_⟩
    obtain ⟨c, hc1, hc2⟩ := hx2.get hj
    refine ⟨c, ?_, hc2⟩
    simp only [World.cells?, Nat.zero_le, if_true] at hcs
    obtain ⟨y, hy1, hy2⟩ := mapM_idx hcs (i := j) (x := j) (by simp [hlt])
    rw [hc1] at hy1
    cases hy1
    have : (a.add (i * P.cellsOf e)).add j = ⟨a.block, a.off + i * P.cellsOf e + j, none⟩ := by
     obtain ⟨ab, ao, as⟩ := a
     simp only at hsp
     subst hsp
     unfold Addr.add
     simp only
     split <;> split <;> simp_all
    rw [this] at hy2
    exact hy2
   ·rw [List.getElem?_append_right (by omega)] at hj
    obtain ⟨ho, c, hc1, hc2⟩ := k8 _ v hj
    refine ⟨ho, c, ?_, hc2⟩
    rw [← hc1]
    congr 2
    rw [Nat.succ_mul, hgl]
    omega
theorem cell_lt {a : Addr} {c : Value} (h : w.cell? a = some c) : a.block < w.heap.size := by
 rcases Nat.lt_or_ge a.block w.heap.size with hlt | hge
 ·exact hlt
 ·unfold World.cell? at h
  rw [Array.getElem?_eq_none hge] at h
  simp at h
theorem spot_of {a : Addr} {n : Nat} {cs : List Value} (hn : 0 < n) (h : w.cells? 0 (a.add 0) n = some cs) : a.spot = none ∧ a.block < w.heap.size := by
 simp only [World.cells?, Nat.zero_le, if_true] at h
 obtain ⟨y, hy⟩ := mapM_ex h 0 (by simp [hn])
 have ha : (a.add 0).add 0 = a := rfl
 rw [ha] at hy
 refine ⟨?_, cell_lt hy⟩
 unfold World.cell? at hy
 split at hy
 ·cases hs : a.spot with
  | none => rfl
  | some s => rw [hs] at hy; simp at hy
 ·simp at hy
def noSl (cs : List Value) : Prop := ∀ c ∈ cs, ∀ a n k, c ≠ .slice (some a) n k
theorem lay_trod : ∀ (d n : Nat) (t : TypeId) (cs : List Value) (x : DataW Hd × List MemPlace), (0 < w.heap.size ∨ noSl cs) → okT P d t = true → DataW.trod enc P w 0 (fun _ => true) held n t cs = some x → LayT P w d t cs
 | 0, n, t, cs, x, hz, hok, h => by simp [okT] at hok
 | d + 1, 0, t, cs, x, hz, hok, h => by simp [DataW.trod] at h
 | d + 1, n + 1, t, cs, x, hz, hok, h => by
  intro ι H hL
  unfold DataW.trod at h
  cases ht : P.underlying t with
  | none => simp [okT, ht] at hok
  | some u =>
  simp only [okT, ht] at hok
  simp only [ht] at h
  cases u with
  | bool =>
   simp only [beq_iff_eq] at hok
   match cs, h with
   | [.bool b], _ => exact ⟨[.bool b], ι, H, hL, .refl _ _, by simp [WT, ht], rfl, .one rfl rfl (by simp [VR]), by simp [hok]⟩
  | int k =>
   simp only [beq_iff_eq] at hok
   match cs, h with
   | [.int k' m], h =>
    simp only at h
    split at h
    ·rename_i hc
     obtain ⟨rfl, hw⟩ := hc
     exact ⟨[.int k' m], ι, H, hL, .refl _ _, by simp [WT, ht, hw], rfl, .one rfl rfl (by simp [VR]), by simp [hok]⟩
    ·simp at h
  | string =>
   simp only [beq_iff_eq] at hok
   match cs, h with
   | [.string s], h =>
    simp only at h
    split at h
    ·rename_i hc
     exact ⟨[.sc (.string s)], ι, H, hL, .refl _ _, by simp [WT, ht, hc], rfl, .one rfl rfl (by simp [VR]), by simp [hok]⟩
    ·simp at h
  | slice e =>
   simp only [Bool.and_eq_true, beq_iff_eq, decide_eq_true_eq] at hok
   obtain ⟨⟨hct, hce⟩, hoke⟩ := hok
   match cs, h, hz with
   | [.slice none 0 0], h, _ => exact ⟨[.sc (.slice none 0 0)], ι, H, hL, .refl _ _, by simp [WT, ht], rfl, .one rfl rfl (by simp [VR]), by simp [hct]⟩
   | [.slice (some a) len cap], h, hz =>
    have hpos : 0 < w.heap.size := by
     rcases hz with hz | hz
     ·exact hz
     ·exact absurd rfl (hz _ (by simp) a len cap)
    simp only at h
    split at h
    ·rename_i hc
     obtain ⟨_, hlc, hcm⟩ := hc
     cases hel : (List.range len).mapM (fun i => (w.cells? 0 (a.add (i * P.cellsOf e)) (P.cellsOf e)).bind (DataW.trod enc P w 0 (fun _ => true) held n e)) with
     | none => rw [hel] at h; simp at h
     | some els =>
     rw [hel] at h
     simp only [Option.bind_some, if_true] at h
     cases hsr : (List.range (cap - len)).mapM (fun j => (w.cells? 0 (a.add ((len + j) * P.cellsOf e)) (P.cellsOf e)).bind (DataW.trod enc P w 0 (fun _ => true) held n e)) with
     | none => rw [hsr] at h; simp at h
     | some rest =>
     have hmU : cap < UNK := by unfold maxLen at hcm; unfold UNK; omega
     have helem : ∀ i, i < len → ∃ cs, w.cells? 0 (a.add (i * P.cellsOf e)) (P.cellsOf e) = some cs ∧ LayT P w d e cs := by
      intro i hi
      obtain ⟨y, hy⟩ := mapM_ex hel i (by simp [hi])
      cases hcs : w.cells? 0 (a.add (i * P.cellsOf e)) (P.cellsOf e) with
      | none => rw [hcs] at hy; simp at hy
      | some cs =>
       rw [hcs] at hy
       exact ⟨cs, rfl, lay_trod d n e cs y (.inl hpos) hoke hy⟩
     have hspot : 0 < cap → a.spot = none ∧ a.block < w.heap.size := by
      intro hcp
      by_cases hl0 : 0 < len
      ·obtain ⟨cs, hcs, _⟩ := helem 0 hl0
       rw [Nat.zero_mul] at hcs
       exact spot_of hce hcs
      ·obtain ⟨y, hy⟩ := mapM_ex hsr 0 (by simp; omega)
       cases hcs : w.cells? 0 (a.add ((len + 0) * P.cellsOf e)) (P.cellsOf e) with
       | none => rw [hcs] at hy; simp at hy
       | some cs =>
        obtain rfl : len = 0 := by omega
        rw [Nat.add_zero, Nat.zero_mul] at hcs
        exact spot_of hce hcs
     by_cases hcp : 0 < cap
     ·obtain ⟨hsp, hblk⟩ := hspot hcp
      obtain ⟨ys, gs, ι1, H1, k1, k2, k3, k4, k5, k6, k7, k8⟩ := lay_row (P := P) hsp helem len 0 (by omega) ι H hL
      obtain ⟨ι2, h1, h2, h3⟩ := k1.push (cs := gs) (l := ⟨a.block, a.off, 0⟩) hblk (fun j v hj => by
       obtain ⟨ho, c, hc1, hc2⟩ := k8 j v hj
       refine ⟨ho, c, ?_, hc2⟩
       rw [Nat.zero_mul, Nat.add_zero] at hc1
       exact hc1)
      have hF : (W0 (H1.push (.cells gs true))).F H1.size = some gs := by simp [W0, FH]
      refine ⟨[.lst (P.cellsOf e) false ys], ι2, _, h1, k2.trans h2, ?_, rfl, ⟨[.slice (some ⟨H1.size, 0, none⟩) len cap], ?_, ?_⟩, by simp [hct]⟩
      ·simp only [WT, ht]
       exact .inr ⟨ys, rfl, by rw [k3]; omega, k4⟩
      ·refine CRL.cons_iff.2 ⟨_, [], rfl, rfl, rfl, ?_, CRL.nil_iff.2 rfl⟩
       have := IR.mk_lst (full := false) (xs := ys) (o := 0) (cap := cap) (n := len) hF k3.symm hce (by rw [k7, k3]; omega) (.inl ⟨hmU, by rw [k3]; exact hlc⟩) (fun e => by cases e) k5 (by simpa using k6.pure h2.F _ _ _ k5)
       simpa only [IR] using this
      ·obtain ⟨ab, ao, as⟩ := a
       simp only at hsp
       subst hsp
       simp only [VRL, VR, and_true]
       exact ⟨_, h3, trivial, .inl ⟨hmU, hlc, by simp⟩⟩
     ·obtain rfl : cap = 0 := by omega
      obtain rfl : len = 0 := by omega
      obtain ⟨ι2, h1, h2, h3⟩ := hL.push (cs := []) (l := ⟨0, 0, 0⟩) hpos (fun j v hj => by simp at hj)
      have hF : (W0 (H.push (.cells [] true))).F H.size = some [] := by simp [W0, FH]
      refine ⟨[.lst (P.cellsOf e) false []], ι2, _, h1, h2, ?_, rfl, ⟨[.slice (some ⟨H.size, 0, none⟩) 0 0], ?_, ?_⟩, by simp [hct]⟩
      ·simp only [WT, ht]
       exact .inr ⟨[], rfl, by simp, by simp⟩
      ·refine CRL.cons_iff.2 ⟨_, [], rfl, rfl, rfl, ?_, CRL.nil_iff.2 rfl⟩
       have := IR.mk_lst (full := false) (xs := []) (o := 0) (cap := 0) (n := 0) hF rfl hce (by simp) (.inl ⟨by simp [UNK], by simp⟩) (fun e => by cases e) rfl (by simp [CRF])
       simpa only [IR] using this
      ·simp only [VRL, VR, and_true]
       exact ⟨_, h3, trivial, .inr (.inr (.inr ⟨trivial, trivial, a, rfl⟩))⟩
    ·simp at h
  | struct fs =>
   simp only [Bool.and_eq_true, List.all_eq_true] at hok
   simp only at h
   split at h
   ·rename_i hlen
    cases hel : fs.toList.mapM (fun f => DataW.trod enc P w 0 (fun _ => true) held n f.type ((cs.drop f.offset).take (P.cellsOf f.type))) with
    | none => rw [hel] at h; simp at h
    | some els =>
    obtain ⟨xs, ι1, H1, h1, h2, h3, h4, h5⟩ := lay_fields (P := P) (w := w) (d := d) (cs := cs) fs.toList 0 (by rw [hlen]; exact hok.1) (fun f hf => by
     obtain ⟨y, hy⟩ := mapM_ex hel f hf
     refine lay_trod d n f.type _ y ?_ (hok.2 f hf) hy
     rcases hz with hz | hz
     ·exact .inl hz
     ·exact .inr fun c hc => hz c (List.mem_of_mem_drop (List.mem_of_mem_take hc))) ι H hL
    rw [List.drop_zero] at h5
    exact ⟨xs, ι1, H1, h1, h2, by simp only [WT, ht]; exact h3, h4, h5, by rw [← h5.len, hlen]⟩
   ·simp at h
  | array m e =>
   simp only [Bool.and_eq_true, beq_iff_eq] at hok
   simp only at h
   split at h
   ·rename_i hlen
    cases hel : (List.range m).mapM (fun i => DataW.trod enc P w 0 (fun _ => true) held n e ((cs.drop (i * P.cellsOf e)).take (P.cellsOf e))) with
    | none => rw [hel] at h; simp at h
    | some els =>
    obtain ⟨xs, ι1, H1, h1, h2, h3, h4, h5⟩ := lay_array (P := P) (w := w) (d := d) (e := e) (cs := cs) m 0 (by rw [hlen, hok.1]; simp) (fun j _ hj => by
     obtain ⟨y, hy⟩ := mapM_ex hel j (by simp; omega)
     refine lay_trod d n e _ y ?_ hok.2 hy
     rcases hz with hz | hz
     ·exact .inl hz
     ·exact .inr fun c hc => hz c (List.mem_of_mem_drop (List.mem_of_mem_take hc))) ι H hL
    rw [Nat.zero_mul, List.drop_zero] at h5
    exact ⟨xs, ι1, H1, h1, h2, by simp only [WT, ht]; exact h3, h4, h5, by rw [← h5.len, hlen]⟩
   ·simp at h
  | _ => simp at hok
end
end Go.Proofs.Ytdclinhgekbejaa.G
namespace Go.Proofs.Ytdclinhgekbejaa.G
open Go Go.RowKit Go.ChangeShapes
def argOf (P : Program) (t : TypeId) (cs : List IV) : IV := if isAggT P t then .agg cs else cs.headD (.tup [])
def WTA (P : Program) (D : Nat) : List TypeId → List IV → Prop
 | [], xs => xs = []
 | t :: ts, xs => ∃ cs r, xs = argOf P t cs :: r ∧ WT P D t cs ∧ WTA P D ts r
section
variable {Hd : Type} {enc : TypeId × Value → Hd} {P : Program} {W : World}
theorem okWide_sl {r : Reach} {base : Nat} {u : TypeId} {a : Addr} {n k : Nat} (h : Cell.okWide P W r base u (.slice (some a) n k)) : 0 < W.heap.size := by
 unfold Cell.okWide at h
 split at h
 all_goals first
  | (rename_i heq; cases heq; done)
  | (unfold Cell.ok at h
     split at h
     all_goals first
      | (rename_i heq; cases heq; done)
      | (exact h.elim)
      | skip)
 all_goals try (rename_i heq _; cases heq; done)
 rename_i heq
 cases heq
 obtain ⟨_, _, _, _, row, cells, hs, _⟩ := h
 unfold World.shape? at hs
 rcases Nat.lt_or_ge a.block W.heap.size with hlt | hge
 ·omega
 ·rw [Array.getElem?_eq_none hge] at hs
  simp at hs
theorem arg_shape {D : Nat} {t : TypeId} {r : Reach} {base : Nat} {v : Value} (hok : okT P D t = true) (h : Value.okWide P W r base t v) :
  ((isAggT P t = true ∧ ∃ a, v = .agg a) ∨ (isAggT P t = false ∧ v.cells.toList = [v])) ∧ (0 < W.heap.size ∨ noSl v.cells.toList) := by
 cases D with
 | zero => simp [okT] at hok
 | succ D =>
 cases ht : P.underlying t with
 | none => simp [okT, ht] at hok
 | some u =>
 unfold Value.okWide at h
 simp only [ht] at h
 have agg : ∀ {cs : Array Value}, Row.okWide P W r base t cs → (0 < W.heap.size ∨ noSl cs.toList) := by
  intro cs hr
  by_cases hz : 0 < W.heap.size
  ·exact .inl hz
  ·refine .inr fun c hc a n k e => ?_
   subst e
   obtain ⟨ts, _, _, hall⟩ := hr
   obtain ⟨i, hi, hi2⟩ := List.mem_iff_getElem.1 hc
   obtain ⟨u, _, hu⟩ := hall i _ (by rw [← Array.getElem?_toList]; rw [List.getElem?_eq_getElem hi, hi2])
   exact hz (okWide_sl hu)
 have one1 : ∀ {r : Reach} {base : Nat}, Cell.okWide P W r base t v → (0 < W.heap.size ∨ noSl [v]) := by
  intro r base hr
  by_cases hz : 0 < W.heap.size
  ·exact .inl hz
  ·refine .inr fun c hc a n k e => ?_
   simp at hc
   subst hc e
   exact hz (okWide_sl hr)
 cases u with
 | struct fs =>
  obtain ⟨cs, rfl, _, hr⟩ := h
  exact ⟨.inl ⟨by simp [isAggT, ht], cs, rfl⟩, agg hr⟩
 | array n e =>
  obtain ⟨cs, rfl, _, hr⟩ := h
  exact ⟨.inl ⟨by simp [isAggT, ht], cs, rfl⟩, agg hr⟩
 | bool =>
  have h' := h
  unfold Cell.okWide at h'
  simp only [ht] at h'
  unfold Cell.ok at h'
  simp only [ht] at h'
  cases v <;> simp at h'
  exact ⟨.inr ⟨by simp [isAggT, ht], rfl⟩, one1 h⟩
 | int k =>
  have h' := h
  unfold Cell.okWide at h'
  simp only [ht] at h'
  unfold Cell.ok at h'
  simp only [ht] at h'
  cases v <;> simp at h'
  exact ⟨.inr ⟨by simp [isAggT, ht], rfl⟩, one1 h⟩
 | string =>
  have h' := h
  unfold Cell.okWide at h'
  simp only [ht] at h'
  unfold Cell.ok at h'
  simp only [ht] at h'
  cases v <;> simp at h'
  exact ⟨.inr ⟨by simp [isAggT, ht], rfl⟩, one1 h⟩
 | slice e =>
  have h' := h
  unfold Cell.okWide at h'
  simp only [ht] at h'
  unfold Cell.ok at h'
  simp only [ht] at h'
  cases v <;> simp at h'
  exact ⟨.inr ⟨by simp [isAggT, ht], rfl⟩, one1 h⟩
 | _ => simp [okT, ht] at hok
theorem lay_all {D : Nat} : ∀ (ts : List TypeId) (vs : List Value) (ds : List (DataW Hd)) (p : List MemPlace) {r : Reach} {base : Nat}, DataW.TrodAll enc P W 0 (fun _ => true) true ts vs ds p → (∀ t ∈ ts, okT P D t = true) →
  (∀ (j : Nat) t v, ts[j]? = some t → vs[j]? = some v → Value.okWide P W r base t v) →
  ∀ ι H, Lay W ι H → ∃ xs gs ι' H', Lay W ι' H' ∧ Ext ι H ι' H' ∧ WTA P D ts xs ∧ ipureL xs = true ∧ IRL (W0 H') xs gs ∧ VRL ι' gs vs
 | [], [], [], p, r, base, h, _, _, ι, H, hL => ⟨[], [], ι, H, hL, .refl _ _, rfl, rfl, by simp [IRL], by simp [VRL]⟩
 | t :: ts, v :: vs, d :: ds, p, r, base, h, hok, hval, ι, H, hL => by
  obtain ⟨p1, q1, ⟨fuel, h1⟩, h2, _⟩ := h
  have hv := hval 0 t v rfl rfl
  have hot := hok t (by simp)
  obtain ⟨hsh, hz⟩ := arg_shape hot hv
  obtain ⟨cs, ι1, H1, k1, k2, k3, k4, ⟨gs1, k5, k6⟩, k7⟩ := lay_trod D fuel t _ _ hz hot h1 ι H hL
  obtain ⟨xs, gs, ι2, H2, m1, m2, m3, m4, m5, m6⟩ := lay_all ts vs ds q1 h2 (fun u hu => hok u (by simp [hu])) (fun j u w hu hw => hval (j + 1) u w (by simpa using hu) (by simpa using hw)) ι1 H1 k1
  rcases hsh with ⟨hagg, a, rfl⟩ | ⟨hagg, hc⟩
  ·refine ⟨.agg cs :: xs, .agg gs1.toArray :: gs, ι2, H2, m1, k2.trans m2, ⟨cs, xs, by simp [argOf, hagg], k3, m3⟩, by simp [ipureL, ipure, k4, m4], IRL.cons_iff.2 ⟨_, _, rfl, (IR.mk_agg k5).pure m2.F _ _ (by simp [ipure, k4]), m5⟩, ?_⟩
   simp only [VRL, VR]
   exact ⟨⟨a, rfl, VRA_iff.2 (VRL.mono m2.le _ _ k6), k5.ones.2⟩, m6⟩
  ·rw [hc] at k6
   have hl := k6.length
   have hl2 := k5.len
   match cs, gs1, hl, hl2, k5, k4, k3, k6 with
   | [x], [g], _, _, k5, k4, k3, k6 =>
    obtain ⟨g', gs', hg, hx1, hx2, hx3, _⟩ := CRL.cons_iff.1 k5
    simp only [List.cons.injEq] at hg
    obtain ⟨rfl, rfl⟩ := hg
    simp only [ipureL, Bool.and_true] at k4
    simp only [VRL, and_true] at k6
    refine ⟨x :: xs, g :: gs, ι2, H2, m1, k2.trans m2, ⟨[x], xs, by simp [argOf, hagg], k3, m3⟩, by simp [ipureL, k4, m4], IRL.cons_iff.2 ⟨_, _, rfl, (hx3.toIR hx1).pure m2.F _ _ k4, m5⟩, ?_⟩
    simp only [VRL]
    exact ⟨k6.mono m2.le, m6⟩
 | [], [], _ :: _, _, _, _, h, _, _, _, _, _ => by simp [DataW.TrodAll] at h
 | [], _ :: _, _, _, _, _, h, _, _, _, _, _ => by simp [DataW.TrodAll] at h
 | _ :: _, [], _, _, _, _, h, _, _, _, _, _ => by simp [DataW.TrodAll] at h
 | _ :: _, _ :: _, [], _, _, _, h, _, _, _, _, _ => by simp [DataW.TrodAll] at h
theorem trodAll_below (hl : laidOutB P = true) {W' : World} (hb : Below W.heap.size W W') : ∀ (ts : List TypeId) (vs : List Value) (ds : List (DataW Hd)) (p : List MemPlace), (∀ t ∈ ts, P.readableRec t = true ∧ t < P.types.size) →
  DataW.TrodAll enc P W 0 (fun _ => true) true ts vs ds p → (∀ x ∈ p, x.block < W.heap.size) → DataW.TrodAll enc P W' 0 (fun b => decide (b < W.heap.size)) true ts vs ds p
 | [], [], [], p, _, h, _ => h
 | t :: ts, v :: vs, d :: ds, p, hr, h, hlt => by
  obtain ⟨p1, q1, h1, h2, rfl⟩ := h
  refine ⟨p1, q1, Below.trod hl (hr t (by simp)).1 (hr t (by simp)).2 h1 hb (fun x hx => hlt x (by simp [hx])), trodAll_below hl hb ts vs ds q1 (fun u hu => hr u (by simp [hu])) h2 (fun x hx => hlt x (by simp [hx])), rfl⟩
 | [], [], _ :: _, _, _, h, _ => by simp [DataW.TrodAll] at h
 | [], _ :: _, _, _, _, h, _ => by simp [DataW.TrodAll] at h
 | _ :: _, [], _, _, _, h, _ => by simp [DataW.TrodAll] at h
 | _ :: _, _ :: _, [], _, _, h, _ => by simp [DataW.TrodAll] at h
theorem frz_bool {J : JH} {k : Nat} {v : IV} {b : Bool} (h : frz J k v = some (.bool b)) : v = .bool b := by
 cases k with
 | zero =>
  simp only [frz] at h
  split at h
  ·simpa using h
  ·simp at h
 | succ k =>
  simp only [frz] at h
  split at h
  ·simpa using h
  ·cases v with
   | agg cs => simp only at h; cases hm : cs.mapM (frz J k) <;> rw [hm] at h <;> simp at h
   | tup cs => simp only at h; cases hm : cs.mapM (frz J k) <;> rw [hm] at h <;> simp at h
   | fn f a c => simp only at h; split at h <;> simp at h
   | sl b0 v off n cap sz =>
    simp only at h
    split at h
    ·simp at h
    ·split at h
     ·split at h
      ·split at h <;> simp at h
      ·simp at h
     ·simp at h
   | _ => simp at h
theorem run_law {B : IBook} {Bg : Book} (hg : BookOK Bg) (hP : Bg.P = P) (hB : IBookOK B Bg) {f : FuncId} {xs : List IV} (hp : pc B f xs = some (.bool true)) {ι : Inj} {H : Heap} (hL : Lay W ι H) {gs cargs : List Value} (h1 : IRL (W0 H) xs gs) (h2 : VRL ι gs cargs) :
  Calls P f cargs.toArray W fun e w' => e = .returned (.bool true) ∧ Below W.heap.size W w' := by
 subst hP
 unfold pc at hp
 split at hp
 ·rename_i v J1 hc
  obtain rfl := frz_bool hp
  obtain ⟨n, hn⟩ := ic_lim hc
  have hHR : HR (W0 H) #[] H := ⟨fun b w β h => by simp [W0] at h, fun b w β cs ro h => by simp [W0] at h, fun b w β es k h => by simp [W0] at h, fun b c w v β h => by simp [W0] at h, fun β cs h => by
   simp only [W0, FH] at h
   split at h
   ·rename_i cs' r hr
    simp only [Option.some.injEq] at h
    subst h
    exact ⟨r, hr⟩
   ·simp at h⟩
  obtain ⟨W', c, H', k1, k2, k3⟩ := icall_ok hB n f xs #[] _ J1 hn (W0 H) H gs hHR h1
  obtain ⟨rfl, _⟩ := k3.sc
  obtain ⟨g1, g2⟩ := acall_ok hg n f gs H _ H' k1 ι W cargs hL.rel h2
  refine g2.mono fun e w' hh => ?_
  obtain ⟨ι', c, rfl, hv, hst⟩ := hh
  simp only [VR] at hv
  subst hv
  refine ⟨rfl, hst.os, hst.tape, hst.output, hst.wsize, fun k hk => hst.keep k hk fun b l hb _ ho => ?_⟩
  obtain ⟨cs, hcs⟩ := hL.ro b (hL.rel.dom b l hb)
  rcases ho with ⟨es, he⟩ | ⟨es, q, he⟩ <;> rw [hcs] at he <;> cases he
 ·simp at hp
theorem law_calls {B : IBook} {Bg : Book} (hg : BookOK Bg) (hP : Bg.P = P) (hB : IBookOK B Bg) {f : FuncId} {D : Nat} {ts : List TypeId} {vs : List Value} {ds : List (DataW Hd)} {p : List MemPlace} {r : Reach} {base : Nat}
  (hok : ∀ t ∈ ts, okT P D t = true) (hA : DataW.TrodAll enc P W 0 (fun _ => true) true ts vs ds p) (hval : ∀ (j : Nat) t v, ts[j]? = some t → vs[j]? = some v → Value.okWide P W r base t v)
  (hp : ∀ xs, WTA P D ts xs → ipureL xs = true → pc B f xs = some (.bool true)) : Calls P f vs.toArray W fun e w' => e = .returned (.bool true) ∧ Below W.heap.size W w' := by
 obtain ⟨xs, gs, ι, H, m1, _, m3, m4, m5, m6⟩ := lay_all ts vs ds p hA hok hval _ _ (lay_empty W)
 exact run_law hg hP hB (hp xs m3 m4) m1 m5 m6
end
#print axioms law_calls
end Go.Proofs.Ytdclinhgekbejaa.G
namespace Go.Proofs.Ytdclinhgekbejaa.G
open Go
theorem shufL_length : ∀ (i : Nat) (s : Int) (ys : List Int), (shufL s i ys).1.length = ys.length
 | 0, _, _ => rfl
 | i + 1, s, ys => by rw [shufL, shufL_length i]; simp
theorem awake03 : pc BI F_law03_awake [] = some (.bool true) := by
 have h := Next_ok 0
 have h1 : nx 0 = 3793791033 := by decide +kernel
 have h2 : sn 0 = 11400714819323198485 := by decide +kernel
 rw [h1, h2] at h
 unfold dice at h
 refine pc_run fn_law03_awake rfl ?_
 unfold l_law03_awake
 simp -implicitDefEqProofs only [dn_o, dn_om, dn_oc, dn_ite, dn_ret, dn_join, dn_goto, iexec, evI_0, evI_succ, evI_int, evI_bool, evI_nilsl, evI_nilp, List.cons_append, List.nil_append, scal2_sc, abin, aun, ilift_some, thenI_some, onIf_bool, onJoin_goto, onJoin_ret, onJoin_ite, thenI_ite, Option.map_some, Option.map_none, decide_eq_true_eq, List.map_cons, List.map_nil, reduceIte, if_true, if_false, Bool.false_eq_true, inew, iload, istore, iwr, ird, icells, ione, one, List.getElem?_toArray, List.getElem?_cons_zero, List.getElem?_cons_succ, List.push_toArray, List.size_toArray, List.length_cons, List.length_nil, List.setIfInBounds_toArray, List.set_cons_zero, List.set_cons_succ, isplice_cons, List.drop_succ_cons, List.drop_zero, List.take_succ_cons, List.take_zero, List.drop_nil, List.take_nil, List.append_nil, List.all_cons, List.all_nil, Bool.and_true, Bool.true_and, Bool.and_self, Nat.zero_add, Nat.add_zero, Nat.reduceAdd, Nat.reduceLeDiff, Nat.reduceMul, Nat.le_refl, true_and, and_true, and_self, List.getElem?_nil, BI_zc, BI_zv, BI_co, zcT, zvT, coT, not_true_eq_false, not_false_eq_true, Bool.not_true, Bool.not_false, stepI', wantsI, ifill, rawB, allC1, ievs, Nat.reduceEqDiff, itup, Nat.le_add_left, Nat.le_add_right, iaggEq, List.foldl, iminI, iminF, imin2, min2, iisNil, isNil, ilen, Option.isNone_none, Option.isNone_some, Nat.zero_le, decide_true, decide_false, ireps, List.replicate, List.flatten_cons, List.flatten_nil, ichk, itouch, ctouch, ilooks, isame, untouched, Option.isSome_some, Bool.or_true, Bool.true_or, List.contains_nil, Int.reduceLT, Int.reduceLE, blkOf, IntKind.bits, iasNat, asNat, Int.toNat_natCast, Int.natCast_nonneg, List.length_map, endP_ret, endP_ite, Int.reduceToNat, iscells, ibnd, islice, capOf, Option.isSome_none, Bool.false_and, Bool.and_false, Bool.or_false, Bool.false_or, bne_self_eq_false, Nat.not_lt_zero, Nat.mul_one, Nat.one_mul, Nat.zero_mul, Nat.mul_zero, onJoin_out, beq_self_eq_true, Nat.sub_zero, Nat.reduceSub, List.length_set, false_implies, implies_true, forall_const, dcp h rfl, Int.reduceBEq, Int.reduceBNe, bne_iff_ne, Int.reduceNe, decide_eq_true_eq]
 exact frzP rfl
theorem shufL_len : ∀ (i : Nat) (s : Int) (ys : List Int), (shufL s i ys).1.length = ys.length := shufL_length
theorem u64_rng (z : Int) : 0 ≤ IntKind.u64.wrap z ∧ IntKind.u64.wrap z < 18446744073709551616 := by
 simp only [IntKind.wrap, IntKind.bits, IntKind.signed]; simp; omega
theorem tdiv_pow {a : Int} (h0 : 0 ≤ a) (h1 : a < 18446744073709551616) (k : Nat) (hk : k ≤ 64) (c : Int) (hc : c = 2 ^ k) : IntKind.u64.wrap (a.tdiv c) = a.fdiv (2 ^ min k 64) := by
 subst hc
 rw [Nat.min_eq_left hk, Int.tdiv_eq_ediv_of_nonneg h0, Int.fdiv_eq_ediv_of_nonneg _ (Int.pow_nonneg (by omega))]
 have h2 : (0 : Int) < 2 ^ k := Int.pow_pos (by omega)
 have h3 : 0 ≤ a / 2 ^ k := Int.ediv_nonneg h0 (Int.le_of_lt h2)
 have h4 : a / 2 ^ k ≤ a := Int.ediv_le_self _ h0
 exact wrap_u64 h3 (by omega)
theorem xor64e (a b : Int) : abin .xor (.int .u64 a) (.int .u64 b) = some (.int .u64 (x64 a b)) := rfl
def mixS (k : Nat) (z : Int) : Int := x64 z (z.fdiv (2 ^ min k 64))
theorem mixF_eq (a : Int) : mixF a = mixS 31 (IntKind.u64.wrap (mixS 27 (IntKind.u64.wrap (mixS 30 a * 13787848793156543929)) * 10723151780598845931)) := rfl
theorem mix_step (k : Nat) (hk : k ≤ 64) (c : Int) (hc : c = 2 ^ k) (hc0 : c ≠ 0) {a : Int} (h0 : 0 ≤ a) (h1 : a < 18446744073709551616) (k' : L) (rho : List IV) (i : Operand) (hi : evI rho i = .int .u64 a) (q : Operand) (hq : ∀ v, evI (rho ++ [v]) q = v) (hi2 : ∀ v, evI (rho ++ [v]) i = .int .u64 a) (J : JH) (K : Out IV → JH → Prop)
  (h : WP (dn BI k' (rho ++ [.int .u64 (a.fdiv (2 ^ min k 64))] ++ [.int .u64 (mixS k a)]) J) K) : WP (dn BI (o (.bin .quo i (.const (.int .u64 c))) <| o (.bin .xor i q) k') rho J) K := by
 have e := tdiv_pow h0 h1 k hk c hc
 simp -implicitDefEqProofs only [go_sem, go_sem_proc, hi, hc0, e, hi2, hq, ↓xor64e]
 exact h
theorem x64_rng (a b : Int) : 0 ≤ x64 a b ∧ x64 a b < 18446744073709551616 := u64_rng _
theorem rNext_ok (s : Int) : pc BI F_ref03_Next [.int .u64 s] = some (.tup [.int .u32 (nx s), .int .u64 (sn s)]) := by
 refine pcE fn_ref03_Next rfl fun K hK => ?_
 have hs := u64_rng (s + 11400714819323198485)
 have hK' : ∀ J', K (.ret [.int .u32 (IntKind.u32.wrap ((mixF (sn s)).fdiv (2 ^ min 32 64))), .int .u64 (sn s)]) J' := fun J' => hK _ _ (frzE rfl rfl)
 unfold l_ref03_Next
 have hadd : ∀ k, WP (dn BI k [.int .u64 s, .int .u64 (sn s)] #[]) K → WP (dn BI (o (.bin .add (.tmp 0) (.const (.int .u64 11400714819323198485))) k) [.int .u64 s] #[]) K := fun k h => by
  simp -implicitDefEqProofs only [go_sem, go_sem_proc]
  exact h
 refine hadd _ ?_
 have hs' : 0 ≤ sn s ∧ sn s < 18446744073709551616 := hs
 generalize sn s = a at *
 refine mix_step 30 (by omega) _ rfl (by decide) hs'.1 hs'.2 _ _ _ rfl _ (fun v => rfl) (fun v => rfl) _ _ ?_
 rw [mixF_eq] at hK'
 have hm1 : ∀ (z c : Int) k rho i, evI rho i = .int .u64 z → WP (dn BI k (rho ++ [.int .u64 (IntKind.u64.wrap (z * c))]) #[]) K → WP (dn BI (o (.bin .mul i (.const (.int .u64 c))) k) rho #[]) K := fun z c k rho i hi h => by
  simp -implicitDefEqProofs only [go_sem, go_sem_proc, hi]
  exact h
 generalize mixS 30 a = b at *
 refine hm1 b _ _ _ _ rfl ?_
 have hb := u64_rng (b * 13787848793156543929)
 generalize IntKind.u64.wrap (b * 13787848793156543929) = b2 at *
 refine mix_step 27 (by omega) _ rfl (by decide) hb.1 hb.2 _ _ _ rfl _ (fun v => rfl) (fun v => rfl) _ _ ?_
 generalize mixS 27 b2 = c at *
 refine hm1 c _ _ _ _ rfl ?_
 have hc := u64_rng (c * 10723151780598845931)
 generalize IntKind.u64.wrap (c * 10723151780598845931) = c2 at *
 refine mix_step 31 (by omega) _ rfl (by decide) hc.1 hc.2 _ _ _ rfl _ (fun v => rfl) (fun v => rfl) _ _ ?_
 have hd : 0 ≤ mixS 31 c2 ∧ mixS 31 c2 < 18446744073709551616 := x64_rng _ _
 generalize mixS 31 c2 = e at *
 have e4 := tdiv_pow hd.1 hd.2 32 (by omega) 4294967296 rfl
 simp -implicitDefEqProofs only [go_sem, go_sem_proc, e4]
 exact hK' _
theorem rBelow_ok (s n : Int) (h0 : 0 ≤ n) (h1 : n < 4294967296) : pc BI F_ref03_Below [.int .u64 s, .int .u32 n] = some (.tup [.int .u32 (below s n), .int .u64 (sn s)]) := by
 refine pcE fn_ref03_Below rfl fun K hK => ?_
 unfold l_ref03_Below
 have hdef : below s n = IntKind.u32.wrap ((IntKind.u64.wrap (IntKind.u64.wrap (nx s) * IntKind.u64.wrap n)).fdiv (2 ^ min 32 64)) := rfl
 have e3 : ∀ z, IntKind.u64.wrap ((IntKind.u64.wrap z).tdiv 4294967296) = (IntKind.u64.wrap z).fdiv (2 ^ min (Int.toNat 32) 64) := fun z => tdiv_pow (u64_rng z).1 (u64_rng z).2 32 (by omega) _ rfl
 simp -implicitDefEqProofs only [go_sem, go_sem_proc, dcp (rNext_ok s) rfl, ↓e3]
 exact hK _ _ (frzE rfl (by rw [hdef]; rfl))
def rsH (ys : List Int) : JH := #[IB.cells 0 (ys.map (IV.int .i32)) false]
theorem int_take1 {ys : List Int} {i : Nat} (h : i < ys.length) : ((ys.map (IV.int .i32)).drop i).take 1 = [IV.int .i32 (ys.getD i 0)] := by
 rw [List.drop_eq_getElem_cons (by simpa using h)]
 simp [h]
theorem rshuffle_step (n : Nat) (hb : n ≤ 1000000) (i : Nat) (s kk : Int) (ys : List Int) (hl : ys.length = n) (hi : i + 1 < n) (h0 : 0 ≤ kk) (hk : kk.toNat < n) (hB : pc BI F_ref03_Below [.int .u64 s, .int .u32 ((i : Int) + 2)] = some (.tup [.int .u32 kk, .int .u64 (sn s)])) (K : Out IV → JH → Prop)
  (hK : K (.goto 1 [.int .u64 (sn s), .sl 0 0 0 n (UNK + 1) 1, nI (i + 1)]) (rsH ((ys.set (i + 1) (ys.getD kk.toNat 0)).set kk.toNat (ys.getD (i + 1) 0)))) :
  WP (dn BI l_ref03_Shuffle_k0 [.int .u64 s, .sl 0 0 0 n (UNK + 1) 1, nI (i + 1 + 1)] (rsH ys)) K := by
 have hw1 : IntKind.u32.wrap ((i + 2 : Nat) : Int) = (i : Int) + 2 := by rw [wrap_u32 (by omega) (by omega)]; omega
 have hw2 : IntKind.i64.wrap (((i + 2 : Nat) : Int) - 1) = ((i + 1 : Nat) : Int) := by rw [wrap_i64 (by omega) (by omega)]; omega
 have t1 := int_take1 (ys := ys) (i := i + 1) (by omega)
 have t2 := int_take1 (ys := ys) (i := kk.toNat) (by omega)
 have q1 : isplice (ys.map (IV.int .i32)) (i + 1) [IV.int .i32 (ys.getD kk.toNat 0)] = (ys.set (i + 1) (ys.getD kk.toNat 0)).map (IV.int .i32) := isplice_ints (by omega)
 have q2 : isplice ((ys.set (i + 1) (ys.getD kk.toNat 0)).map (IV.int .i32)) kk.toNat [IV.int .i32 (ys.getD (i + 1) 0)] = ((ys.set (i + 1) (ys.getD kk.toNat 0)).set kk.toNat (ys.getD (i + 1) 0)).map (IV.int .i32) := isplice_ints (by simp; omega)
 unfold l_ref03_Shuffle_k0 rsH at *
 simp -implicitDefEqProofs only [go_sem, go_sem_proc, show ((i + 2 : Nat) : Int) > 1 by omega, hw1, hw2, dcp hB rfl, h0, hk, hi, hl, t1, t2, q1, q2, show i + 2 ≤ n by omega, show kk.toNat + 1 ≤ n by omega]
 exact hK
theorem rShuffle_ok (f : Bool) (s : Int) (xs : List Int) (hne : xs ≠ []) (hb : xs.length ≤ 1000000) :
  ∃ u, pc BI F_ref03_Shuffle [.int .u64 s, .lst 1 f (xs.map (IV.int .i32))] = some (.tup [u, .int .u64 (shufL s (xs.length - 1) xs).2]) ∧ Ls 1 u ((shufL s (xs.length - 1) xs).1.map (IV.int .i32)) := by
 have hpos : 0 < xs.length := List.length_pos_iff.2 hne
 have key : ∃ w, pc BI F_ref03_Shuffle [.int .u64 s, .lst 1 f (xs.map (IV.int .i32))] = some w ∧ ∃ u, w = .tup [u, .int .u64 (shufL s (xs.length - 1) xs).2] ∧ Ls 1 u ((shufL s (xs.length - 1) xs).1.map (IV.int .i32)) := by
  refine pcW fn_ref03_Shuffle rfl fun K hK => ?_
  have hone : (xs.map (IV.int .i32)).all ione = true := ints_ione
  have hcl : (xs.map (IV.int .i32)).flatMap icells = xs.map (IV.int .i32) := ints_cells _
  have ha : appF 1 4 (.lst 1 true []) (.lst 1 f (xs.map (IV.int .i32))) #[] = some (.sl 0 0 0 xs.length (UNK + 1) 1, rsH xs) := by
   have hfit : fits xs.length 4 = true := fits4 hb
   simp [appF, iappend, iscells, hcl, ilen, show ¬ xs = [] from hne, hfit, hone, rsH]
  unfold l_ref03_Shuffle
  simp -implicitDefEqProofs only [go_sem, go_sem_proc, ipureL, grp, ↓ha, dn_loop]
  have hl2 : (shufL s (xs.length - 1) xs).1.length = xs.length := shufL_len _ _ _
  refine WP_loop (by decide) (fun m vs J => ∃ t ys, vs = [.int .u64 t, .sl 0 0 0 xs.length (UNK + 1) 1, nI (m + 1)] ∧ J = rsH ys ∧ ys.length = xs.length ∧ m < xs.length ∧ shufL t m ys = shufL s (xs.length - 1) xs) ?_ (xs.length - 1) _ _ ⟨s, xs, by rw [Nat.sub_add_cancel hpos], rfl, rfl, by omega, rfl⟩
  rintro m vs J ⟨t, ys, rfl, rfl, hl, hm, he⟩ K1 g1 g2 g3
  cases m with
  | zero =>
   unfold l_ref03_Shuffle_k0
   simp -implicitDefEqProofs only [go_sem, go_sem_proc, show ¬ ((0 + 1 : Nat) : Int) > 1 by omega]
   refine g2 _ _ ?_
   unfold l_ref03_Shuffle_k1
   simp -implicitDefEqProofs only [go_sem, go_sem_proc]
   rw [shufL] at he
   rw [← he] at hK hl2
   have hr : RawX (rsH ys) (.sl 0 0 0 xs.length (UNK + 1) 1) 1 (ones .i32 ys) := ⟨0, 0, UNK + 1, by rw [ones_len, hl], by rw [ones_flat]; rfl⟩
   obtain ⟨u, hu, hul⟩ := hr.frz (by decide) (ones_1 _ _) (by rw [ones_flat]; exact ints_pure) (by rw [ones_flat]; exact ints_ione)
   rw [ones_mk] at hul
   refine hK _ _ (.tup [u, .int .u64 t]) (frz_tupL (k := 11) ?_) ⟨u, rfl, hul⟩
   rw [List.mapM_cons, List.mapM_cons, hu 10, frz_pure (v := .int .u64 t) _ _ rfl]
   rfl
  | succ i =>
   obtain ⟨hr0, hr1⟩ := below_rng t ((i : Int) + 2) (by omega) (by omega)
   rw [shufL] at he
   refine rshuffle_step xs.length hb i t (below t ((i : Int) + 2)) ys hl hm hr0 (by omega) (rBelow_ok t ((i : Int) + 2) (by omega) (by omega)) K1 ?_
   exact g1 _ i _ (by omega) ⟨_, _, rfl, rfl, by simpa using hl, by omega, he⟩
 obtain ⟨w, h1, u, rfl, h2⟩ := key
 exact ⟨u, h1, h2⟩
theorem uL_ls1 {J : JH} {b cap : Nat} {X : List Int} {f : Bool} (hJ : J[b]? = some (.cells 0 (uL X) f)) : ird J b 0 0 (X.length * 1) = some (uL X) := by
 simp only [ird, hJ, true_and, Nat.zero_add, List.drop_zero, Nat.mul_one]
 rw [if_pos (by simp [uL_len]), List.take_of_length_le (by simp [uL_len])]
theorem frz32 {J : JH} {b cap : Nat} {X : List Int} {f : Bool} (hJ : J[b]? = some (.cells 0 (uL X) f)) : ∃ q, (∀ k, frz J (k + 1) (.sl b 0 0 X.length cap 1) = some (.lst 1 q (uL X))) := by
 refine ⟨(X.length == cap && decide (cap < UNK)), fun k => ?_⟩
 rw [frz_sl (by decide) (uL_ls1 (cap := cap) hJ) ints_pure (uL_one X), grp1' (by rw [uL_len])]
theorem shows32 {J : JH} {b cap : Nat} {X : List Int} {f : Bool} (hJ : J[b]? = some (.cells 0 (uL X) f)) : ∀ d ∈ shows J DEP (.sl b 0 0 X.length cap 1), d ∈ [b] := by
 intro d hd
 rw [frz12, shows_sl (uL_ls1 (cap := cap) hJ) ints_pure] at hd
 exact hd
theorem CloneR_ok {J : JH} {b cap : Nat} {X : List Int} {f : Bool} (hJ : J[b]? = some (.cells 0 (uL X) f)) (hne : X ≠ []) (hb : X.length ≤ 1000000) :
  RP (ic BI F_slices_Clone_Lint32_int32 [.sl b 0 0 X.length cap 1] J) fun v J' => v = .sl J.size 0 0 X.length (UNK + 1) 1 ∧ J' = J.push (.cells 0 (uL X) false) := by
 refine RP_run fn_slices_Clone_Lint32_int32 rfl fun K hK => ?_
 unfold l_slices_Clone_Lint32_int32
 have hn : ¬ X.length = 0 := fun h => hne (List.eq_nil_of_length_eq_zero h)
 have ha : appF 1 4 (.lst 1 true []) (.sl b 0 0 X.length cap 1) J = some (.sl J.size 0 0 X.length (UNK + 1) 1, J.push (.cells 0 (uL X) false)) := by
  have hr := uL_ls1 (cap := cap) hJ
  have hfit : fits X.length 4 = true := fits4 hb
  have hone := List.all_eq_true.1 (uL_one X)
  rw [Nat.mul_one] at hr
  simp [appF, iappend, iscells, hr, ilen, hn, hfit]
  exact hone
 simp -implicitDefEqProofs only [go_sem, go_sem_proc, iisNil, ipureL, grp, ↓ha]
 exact hK _ _ ⟨rfl, rfl⟩
theorem Eq32_ok {x y : IV} {X : List Int} (hx : Ls 1 x (uL X)) (hy : Ls 1 y (uL X)) (hl : X.length ≤ 1000000) : pc BI F_slices_Equal_Lint32_int32 [x, y] = some (.bool true) := by
 refine pcE fn_slices_Equal_Lint32_int32 rfl fun K hK => ?_
 unfold l_slices_Equal_Lint32_int32
 have lx := fun J => hx.lenF (J := J)
 have ly := fun J => hy.lenF (J := J)
 rw [uL_len] at lx ly
 simp -implicitDefEqProofs only [go_sem, go_sem_proc, lx, ly, show ((X.length : Int) != (X.length : Int)) = false by simp, dn_loop]
 refine WP_range (by decide) X.length (fun i vs J' => vs = [x, y, nI X.length, nI i]) ?_ rfl
 rintro i vs J rfl h K1 g1 g2 g3
 unfold l_slices_Equal_Lint32_int32_k0
 by_cases hlt : i < X.length
 ·have hax := hx.at (i := i) (by rw [uL_len]; exact hlt) (J := J)
  have hay := hy.at (i := i) (by rw [uL_len]; exact hlt) (J := J)
  have hg : (uL X)[i]'(by rw [uL_len]; exact hlt) = .int .i32 X[i] := by simp [uL, uI]
  rw [hg] at hax hay
  generalize X[i] = t at *
  simp -implicitDefEqProofs only [go_sem, go_sem_proc, show ((i : Int) < (X.length : Int)) by omega, hax, hay, show (t != t) = false by simp, wrapS hlt (show X.length ≤ 9223372036854775807 by omega)]
  exact g1 hlt _ _ rfl
 ·simp -implicitDefEqProofs only [go_sem, go_sem_proc, show ¬ ((i : Int) < (X.length : Int)) by omega]
  refine g2 _ _ ?_
  unfold l_slices_Equal_Lint32_int32_k1
  simp -implicitDefEqProofs only [go_sem, go_sem_proc]
  exact hK _ _ (frzP rfl)
theorem shufL_perm : ∀ (i : Nat) (s : Int) (ys : List Int), i < ys.length → i < 1000000 → (shufL s i ys).1.Perm ys
 | 0, s, ys, _, _ => .refl _
 | i + 1, s, ys, h, hb => by
  obtain ⟨h0, h1⟩ := below_rng s ((i : Int) + 2) (by omega) (by omega)
  have hk : (below s ((i : Int) + 2)).toNat < ys.length := by omega
  rw [shufL]
  refine (shufL_perm i _ _ (by simp; omega) (by omega)).trans ?_
  have e1 : ys.getD (below s ((i : Int) + 2)).toNat 0 = ys[(below s ((i : Int) + 2)).toNat] := by simp [hk]
  have e2 : ys.getD (i + 1) 0 = ys[i + 1] := by simp [h]
  rw [e1, e2]
  exact List.set_set_perm (by omega) hk
theorem shuf_round {J : JH} {db zb ob n i : Nat} {t kk : Int} {ys : List Int} (hd : J[db]? = some (.cells 0 [.int .u64 t] false)) (ho : J[ob]? = some (.cells 0 (uL ys) false)) (hdo : db ≠ ob) (hl : ys.length = n) (hb : n ≤ 1000000) (hi : i + 1 < n) (h0 : 0 ≤ kk) (hk : kk.toNat < n)
  (hB : pc BI F_dice_Dice_Below [.agg [.int .u64 t], .int .u32 ((i : Int) + 2)] = some (.tup [.int .u32 kk, .agg [.int .u64 (sn t)]])) (K : Out IV → JH → Prop)
  (hK : K (.goto 1 [.ptr db 0 0, .ptr zb 0 0, .sl ob 0 0 n (UNK + 1) 1, nI i]) ((J.setIfInBounds db (.cells 0 [.int .u64 (sn t)] false)).setIfInBounds ob (.cells 0 (uL ((ys.set (i + 1) (ys.getD kk.toNat 0)).set kk.toNat (ys.getD (i + 1) 0))) false))) :
  WP (dn BI l_dice_Dice_Shuffle_k0 [.ptr db 0 0, .ptr zb 0 0, .sl ob 0 0 n (UNK + 1) 1, nI (i + 1)] J) K := by
 unfold l_dice_Dice_Shuffle_k0
 have hn : IntKind.u32.wrap (IntKind.i64.wrap (((i + 1 : Nat) : Int) + 1)) = (i : Int) + 2 := by
  rw [wrap_i64 (by omega) (by omega), wrap_u32 (by omega) (by omega)]; omega
 have hw2 : IntKind.i64.wrap (((i + 1 : Nat) : Int) - 1) = (i : Int) := by rw [wrap_i64 (by omega) (by omega)]; omega
 have hw3 : IntKind.i64.wrap (((i + 1 : Nat) : Int) + 1) = ((i + 2 : Nat) : Int) := by rw [wrap_i64 (by omega) (by omega)]; omega
 have hw4 : IntKind.u32.wrap ((i + 2 : Nat) : Int) = (i : Int) + 2 := by rw [wrap_u32 (by omega) (by omega)]; omega
 have hbo := lt_get ho
 have hbd := lt_get hd
 obtain ⟨k, hkk⟩ : ∃ k : Nat, kk = (k : Int) := ⟨kk.toNat, by omega⟩
 subst hkk
 rw [Int.toNat_natCast] at hk hK
 have e1 : ((uL ys).drop (i + 1)).take 1 = [uI (ys.getD (i + 1) 0)] := int_take1 (by omega)
 have e2 : ((uL ys).drop k).take 1 = [uI (ys.getD k 0)] := int_take1 (by omega)
 have l1 := uL_len ys
 generalize ys.getD k 0 = a at *
 generalize ys.getD (i + 1) 0 = c at *
 have s1 := uL_set ys (i + 1) a (by omega)
 have s2 := uL_set (ys.set (i + 1) a) k c (by rw [List.length_set]; omega)
 have l2 := uL_len (ys.set (i + 1) a)
 rw [List.length_set] at l2
 have ho2 : (J.setIfInBounds db (.cells 0 [.int .u64 (sn t)] false))[ob]? = some (.cells 0 (uL ys) false) := by rw [Array.getElem?_setIfInBounds, if_neg hdo]; exact ho
 have hbo2 := lt_get ho2
 have b0 : (ob < J.size) = True := by simp [hbo]
 have j1 : (0 + (i + 1) * 1 = i + 1) := by omega
 have j2 : (0 + k * 1 = k) := by omega
 have j3 : (i + 1 < n) = True := by simp; omega
 have j4 : (k < n) = True := by simp; omega
 have u1 : ∀ t, icells (uI t) = [uI t] := fun t => rfl
 have u2 : ∀ t, ione (uI t) = true := fun t => rfl
 have r1 : i + 1 + 1 ≤ n := by omega
 have r2 : k + 1 ≤ n := by omega
 simp -implicitDefEqProofs only [go_sem, go_sem_proc, show (((i + 1 : Nat) : Int) > 0) by omega, hd, inb hd, hw3, hw4, dcp hB rfl, hw2, j1, j2, j3, j4, ho2, l1, hl, r1, r2, e1, e2, ↓u1, ↓u2, s1, s2, l2, set_get _ hbo2, set_set, Array.size_setIfInBounds, b0]
 exact hK
theorem ShufR_ok {J : JH} {b cap : Nat} {X : List Int} {f : Bool} (hJ : J[b]? = some (.cells 0 (uL X) f)) (hne : X ≠ []) (hb : X.length ≤ 1000000) (s : Int) :
  RP (ic BI F_dice_Dice_Shuffle [.agg [.int .u64 s], .sl b 0 0 X.length cap 1] J) fun v J' => ∃ ob, v = .tup [.sl ob 0 0 X.length (UNK + 1) 1, .agg [.int .u64 (shufL s (X.length - 1) X).2]] ∧ J.size ≤ ob ∧ J'[ob]? = some (.cells 0 (uL (shufL s (X.length - 1) X).1) false) ∧ Fr J J' [] := by
 refine RP_run fn_dice_Dice_Shuffle rfl fun K hK => ?_
 unfold l_dice_Dice_Shuffle
 have hpos : 0 < X.length := List.length_pos_iff.2 hne
 have hw : IntKind.i64.wrap ((X.length : Int) - 1) = ((X.length - 1 : Nat) : Int) := by rw [wrap_i64 (by omega) (by omega)]; omega
 have hlt := lt_get hJ
 simp -implicitDefEqProofs only [go_sem, go_sem_proc]
 have f0 : Fr J ((J.push (.cells 0 [.int .u64 s] false)).push (.cells 0 [.int .u64 0] false)) [] := (Fr.push _ _ []).trans (Fr.push _ _ []) (fun _ _ h => h)
 have h0 : ((J.push (.cells 0 [.int .u64 s] false)).push (.cells 0 [.int .u64 0] false))[J.size]? = some (.cells 0 [.int .u64 s] false) := gpN (by simp) (gpE rfl)
 have h1 : ((J.push (.cells 0 [.int .u64 s] false)).push (.cells 0 [.int .u64 0] false))[J.size + 1]? = some (.cells 0 [.int .u64 0] false) := gpE (by simp)
 have hsz : ((J.push (.cells 0 [.int .u64 s] false)).push (.cells 0 [.int .u64 0] false)).size = J.size + 2 := by simp
 generalize (J.push (.cells 0 [.int .u64 s] false)).push (.cells 0 [.int .u64 0] false) = J2 at *
 have hJ2 : J2[b]? = some (.cells 0 (uL X) f) := by rw [f0.2 b hlt (by simp)]; exact hJ
 refine WP_call (CloneR_ok (cap := cap) hJ2 hne hb) fun v J3 hv => ?_
 obtain ⟨rfl, rfl⟩ := hv
 have fp : Fr J2 (J2.push (.cells 0 (uL X) false)) [] := Fr.push _ _ _
 have ho := push_get J2 (.cells 0 (uL X) false)
 have h0' : (J2.push (.cells 0 (uL X) false))[J.size]? = some (.cells 0 [.int .u64 s] false) := by rw [fp.2 _ (lt_get h0) (by simp)]; exact h0
 have h1' : (J2.push (.cells 0 (uL X) false))[J.size + 1]? = some (.cells 0 [.int .u64 0] false) := by rw [fp.2 _ (lt_get h1) (by simp)]; exact h1
 have f1 := f0.trans fp (fun _ _ h => h)
 generalize J2.push (.cells 0 (uL X) false) = J3 at *
 simp -implicitDefEqProofs only [go_sem, go_sem_proc, hw, dn_loop]
 refine WP_loop (by decide) (fun m vs J' => ∃ t ys, vs = [.ptr J.size 0 0, .ptr (J.size + 1) 0 0, .sl J2.size 0 0 X.length (UNK + 1) 1, nI m] ∧ J'[J.size]? = some (.cells 0 [.int .u64 t] false) ∧ J'[J.size + 1]? = some (.cells 0 [.int .u64 0] false) ∧ J'[J2.size]? = some (.cells 0 (uL ys) false) ∧ ys.length = X.length ∧ m < X.length ∧ shufL t m ys = shufL s (X.length - 1) X ∧ Fr J J' []) ?_ (X.length - 1) _ _ ⟨s, X, rfl, h0', h1', ho, rfl, by omega, rfl, f1⟩
 rintro m vs J4 ⟨t, ys, rfl, hd, hz, ho4, hly, hm, he, f4⟩ K1 g1 g2 g3
 cases m with
 | zero =>
  unfold l_dice_Dice_Shuffle_k0
  simp -implicitDefEqProofs only [go_sem, go_sem_proc, show ¬ (((0 : Nat) : Int) > 0) by omega]
  refine g2 _ _ ?_
  unfold l_dice_Dice_Shuffle_k1
  have hs := set_get J4 (X := (IB.cells 0 [.int .u64 t] false : IB)) (lt_get hz)
  simp -implicitDefEqProofs only [go_sem, go_sem_proc, hd, inb hd, hz, inb hz, hs, inb hs]
  rw [shufL] at he
  refine hK _ _ ⟨J2.size, by rw [← he]; rfl, by omega, ?_, ?_⟩
  ·rw [← he, Array.getElem?_setIfInBounds, if_neg (by omega)]; exact ho4
  ·exact f4.trans (Fr.set _ _ (S := [J.size + 1]) (by simp)) (fun d hd hm => by simp at hm; omega)
 | succ i =>
  obtain ⟨hr0, hr1⟩ := below_rng t ((i : Int) + 2) (by omega) (by omega)
  rw [shufL] at he
  refine shuf_round hd ho4 (by omega) hly hb hm hr0 (by omega) (Below_ok t _) K1 ?_
  refine g1 _ i _ (by omega) ⟨_, _, rfl, ?_, ?_, ?_, by simpa using hly, by omega, he, ?_⟩
  ·rw [Array.getElem?_setIfInBounds, if_neg (by omega)]; exact set_get _ (lt_get hd)
  ·rw [Array.getElem?_setIfInBounds, if_neg (by omega), Array.getElem?_setIfInBounds, if_neg (by omega)]; exact hz
  ·exact set_get _ (by simp; exact lt_get ho4)
  ·exact f4.trans ((Fr.set _ _ (S := [J.size, J2.size]) (by simp)).trans (Fr.set _ _ (S := [J.size, J2.size]) (by simp)) (fun _ _ h => h)) (fun d hd hm => by simp at hm; omega)
abbrev e32 : IV := .lst 1 true []
theorem Sort_e (J : JH) : RP (ic BI F_slices_Sort_Lint32_int32 [e32] J) fun v J' => v = .tup [] ∧ J' = J := by
 refine RP_run fn_slices_Sort_Lint32_int32 rfl fun K hK => ?_
 unfold l_slices_Sort_Lint32_int32
 have hq : pc BI F_math_bits_Len [.int .u64 0] = some (nI 0) := pcK 20 (by kernel_rfl)
 have hi : RP (ic BI F_slices_insertionSortOrdered_int32 [e32, nI 0, nI 0] J) fun v J' => v = .tup [] ∧ J' = J := by
  refine RP_run fn_slices_insertionSortOrdered_int32 rfl fun K hK => ?_
  unfold l_slices_insertionSortOrdered_int32
  simp -implicitDefEqProofs only [go_sem, go_sem_proc, show IntKind.i64.wrap (((0 : Nat) : Int) + 1) = ((1 : Nat) : Int) by decide, dn_loop]
  refine WP_rangeT 0 (fun k vs J' => vs = [e32, nI 0, nI 0, nI 1] ∧ J' = J) ?_ ⟨rfl, rfl⟩
  rintro k vs J1 ⟨rfl, rfl⟩ hk K1 g1 g2 g3
  unfold l_slices_insertionSortOrdered_int32_k3
  simp -implicitDefEqProofs only [go_sem, go_sem_proc, show ¬ (((1 : Nat) : Int) < ((0 : Nat) : Int)) by omega]
  exact g3 _ _ (hK _ _ ⟨rfl, rfl⟩)
 have hp : RP (ic BI F_slices_pdqsortOrdered_int32 [e32, nI 0, nI 0, nI 0] J) fun v J' => v = .tup [] ∧ J' = J := by
  refine RP_run fn_slices_pdqsortOrdered_int32 rfl fun K hK => ?_
  unfold l_slices_pdqsortOrdered_int32
  simp -implicitDefEqProofs only [go_sem, go_sem_proc, dn_loop]
  refine WP_rangeT 0 (fun k vs J' => vs = [e32, nI 0, nI 0, nI 0, .sc (.bool true), .sc (.bool true)] ∧ J' = J) ?_ ⟨rfl, rfl⟩
  rintro k vs J1 ⟨rfl, rfl⟩ hk K1 g1 g2 g3
  unfold l_slices_pdqsortOrdered_int32_k4
  simp -implicitDefEqProofs only [go_sem, go_sem_proc, show IntKind.i64.wrap (((0 : Nat) : Int) - ((0 : Nat) : Int)) = 0 by decide, show ((0 : Int) ≤ 12) by omega]
  refine WP_call hi fun v J' hv => ?_
  obtain ⟨rfl, rfl⟩ := hv
  simp -implicitDefEqProofs only [go_sem, go_sem_proc]
  exact g3 _ _ (hK _ _ ⟨rfl, rfl⟩)
 simp -implicitDefEqProofs only [go_sem, go_sem_proc, lenF_lst, List.length_nil, show IntKind.u64.wrap ((0 : Nat) : Int) = 0 by decide, dcp hq rfl]
 refine WP_call hp fun v J' hv => ?_
 obtain ⟨rfl, rfl⟩ := hv
 simp -implicitDefEqProofs only [go_sem, go_sem_proc]
 exact hK _ _ ⟨rfl, rfl⟩
theorem Clone_e (J : JH) : RP (ic BI F_slices_Clone_Lint32_int32 [e32] J) fun v J' => v = e32 ∧ J' = J := by
 rw [Clone32_0]; exact ⟨rfl, rfl⟩
theorem Shuf_e (s : Int) (J : JH) : RP (ic BI F_dice_Dice_Shuffle [.agg [.int .u64 s], e32] J) fun v J' => v = .tup [e32, .agg [.int .u64 s]] ∧ Fr J J' [] := by
 refine RP_run fn_dice_Dice_Shuffle rfl fun K hK => ?_
 unfold l_dice_Dice_Shuffle
 simp -implicitDefEqProofs only [go_sem, go_sem_proc]
 have f0 : Fr J ((J.push (.cells 0 [.int .u64 s] false)).push (.cells 0 [.int .u64 0] false)) [] := (Fr.push _ _ []).trans (Fr.push _ _ []) (fun _ _ h => h)
 have h0 : ((J.push (.cells 0 [.int .u64 s] false)).push (.cells 0 [.int .u64 0] false))[J.size]? = some (.cells 0 [.int .u64 s] false) := gpN (by simp) (gpE rfl)
 have h1 : ((J.push (.cells 0 [.int .u64 s] false)).push (.cells 0 [.int .u64 0] false))[J.size + 1]? = some (.cells 0 [.int .u64 0] false) := gpE (by simp)
 generalize (J.push (.cells 0 [.int .u64 s] false)).push (.cells 0 [.int .u64 0] false) = J2 at *
 refine WP_call (Clone_e J2) fun v J3 hv => ?_
 obtain ⟨rfl, rfl⟩ := hv
 simp -implicitDefEqProofs only [go_sem, go_sem_proc, show IntKind.i64.wrap (((0 : Nat) : Int) - 1) = -1 by decide, lenF_lst, List.length_nil, dn_loop]
 refine WP_loop (by decide) (fun m vs J' => vs = [.ptr J.size 0 0, .ptr (J.size + 1) 0 0, e32, .int .i64 (-1)] ∧ J' = J3) ?_ 0 _ _ ⟨rfl, rfl⟩
 rintro m vs J4 ⟨rfl, rfl⟩ K1 g1 g2 g3
 unfold l_dice_Dice_Shuffle_k0
 simp -implicitDefEqProofs only [go_sem, go_sem_proc, show ¬ ((-1 : Int) > 0) by decide]
 refine g2 _ _ ?_
 unfold l_dice_Dice_Shuffle_k1
 have hs := set_get J4 (X := (IB.cells 0 [.int .u64 s] false : IB)) (lt_get h1)
 simp -implicitDefEqProofs only [go_sem, go_sem_proc, h0, inb h0, h1, inb h1, hs, inb hs]
 exact hK _ _ ⟨rfl, f0.trans (Fr.set _ _ (S := [J.size + 1]) (by simp)) (fun d hd hm => by simp at hm; omega)⟩
theorem rShuf_e (s : Int) : pc BI F_ref03_Shuffle [.int .u64 s, e32] = some (.tup [e32, .int .u64 s]) := by
 refine pcE fn_ref03_Shuffle rfl fun K hK => ?_
 unfold l_ref03_Shuffle
 have ha : ∀ J, appF 1 4 (.lst 1 true []) e32 J = some (e32, J) := fun J => by simp [appF, iappend, iscells, ilen]
 simp -implicitDefEqProofs only [go_sem, go_sem_proc, ipureL, grp, ↓ha, dn_loop, lenF_lst, List.length_nil]
 refine WP_loop (by decide) (fun m vs J => vs = [.int .u64 s, e32, .int .i64 0]) ?_ 0 _ _ rfl
 rintro m vs J rfl K1 g1 g2 g3
 unfold l_ref03_Shuffle_k0
 simp -implicitDefEqProofs only [go_sem, go_sem_proc, show ¬ ((0 : Int) > 1) by decide]
 refine g2 _ _ ?_
 unfold l_ref03_Shuffle_k1
 simp -implicitDefEqProofs only [go_sem, go_sem_proc]
 exact hK _ _ (frzP rfl)
theorem up_loop {J : JH} {ob n : Nat} {a b c d : IV} {ys : List Int} (ho : J[ob]? = some (.cells 0 (uL ys) false)) (hl : ys.length = n) (hb : n ≤ 1000000) {k : L} (K : Out IV → JH → Prop)
  (hK : ∀ J', Fr J J' [ob] → WP (dn BI k [a, b, c, d] J') K) :
  WP (onJoinD 1 (iter (dn BI l_law03_DiceShuffles_k0) 2 [a, b, .sl ob 0 0 n (UNK + 1) 1, c, d, nI n, nI 0] J) k) K := by
 refine WP_range (by decide) n (fun i vs J' => vs = [a, b, .sl ob 0 0 n (UNK + 1) 1, c, d, nI n, nI i] ∧ ∃ zs : List Int, zs.length = n ∧ J'[ob]? = some (.cells 0 (uL zs) false) ∧ Fr J J' [ob]) ?_ ⟨rfl, ys, hl, ho, .refl _ _⟩
 rintro i vs J1 ⟨rfl, zs, hz, h1, f1⟩ hi K1 g1 g2 g3
 unfold l_law03_DiceShuffles_k0
 by_cases hlt : i < n
 ·have e1 : ((uL zs).drop i).take 1 = [uI zs[i]] := uL_at zs (by omega)
  have l1 := uL_len zs
  have hb1 := lt_get h1
  generalize zs[i] = x at *
  have s1 := uL_set zs i (IntKind.i32.wrap (x + 1)) (by omega)
  have b0 : (ob < J1.size) = True := by simp [hb1]
  have j1 : (0 + i * 1 = i) := by omega
  have j3 : (i < n) = True := by simp; omega
  have u1 : ∀ t, icells (uI t) = [uI t] := fun t => rfl
  have u2 : ∀ t, ione (uI t) = true := fun t => rfl
  have u3 : ∀ t, uI t = IV.int .i32 t := fun t => rfl
  have r1 : i + 1 ≤ n := by omega
  simp only [u3] at e1 s1
  simp -implicitDefEqProofs only [go_sem, go_sem_proc, show ((i : Int) < (n : Int)) by omega, j1, j3, h1, l1, hz, r1, e1, s1, b0, wrapS hlt (show n ≤ 9223372036854775807 by omega)]
  exact g1 hlt _ _ ⟨rfl, zs.set i (IntKind.i32.wrap (x + 1)), by simp [hz], set_get _ hb1, f1.trans (Fr.set _ _ (S := [ob]) (by simp)) (fun _ _ h => h)⟩
 ·simp -implicitDefEqProofs only [go_sem, go_sem_proc, show ¬ ((i : Int) < (n : Int)) by omega]
  exact g2 _ _ (hK _ f1)
theorem FA_two {J : JH} {b b2 c c2 : Nat} {X Y : List Int} {f f2 : Bool} (h1 : J[b]? = some (.cells 0 (uL X) f)) (h2 : J[b2]? = some (.cells 0 (uL Y) f2)) : ∃ u u2, FA J [b, b2] [.sl b 0 0 X.length c 1, .sl b2 0 0 Y.length c2 1] [u, u2] ∧ Ls 1 u (uL X) ∧ Ls 1 u2 (uL Y) := by
 obtain ⟨q1, k1⟩ := frz32 (cap := c) h1
 obtain ⟨q2, k2⟩ := frz32 (cap := c2) h2
 exact ⟨_, _, .raw (k1 11) (fun d hd => by have := shows32 h1 d hd; simp at this ⊢; exact .inl this) (.raw (k2 11) (fun d hd => by have := shows32 h2 d hd; simp at this ⊢; exact .inr this) .nil), .lst, .lst⟩
theorem WP_cmp {J : JH} {b b2 c c2 : Nat} {X Y : List Int} {f f2 : Bool} (h1 : J[b]? = some (.cells 0 (uL X) f)) (h2 : J[b2]? = some (.cells 0 (uL Y) f2)) (he : Y = X) (hl : X.length ≤ 1000000) {k : L} {ρ : List IV} {K} (hk : WP (dn BI k (ρ ++ [.bool true]) J) K) :
  WP (thenD (doCall (ic BI) .pure F_slices_Equal_Lint32_int32 [.sl b 0 0 X.length c 1, .sl b2 0 0 Y.length c2 1] J) k ρ) K := by
 subst he
 obtain ⟨u, u2, hF, hu, hu2⟩ := FA_two (c := c) (c2 := c2) h1 h2
 rw [dcf hF.mapM (Eq32_ok hu hu2 hl), if_pos (show iscal (IV.bool true) = true from rfl)]
 exact hk
theorem shuf_tail {J : JH} {lb wb ob : Nat} {L X : List Int} {f : Bool} (hl : J[lb]? = some (.cells 0 (uL L) false)) (hw : J[wb]? = some (.cells 0 (uL L) f)) (ho : J[ob]? = some (.cells 0 (uL X) false)) (hp : X.Perm L) (hne : L ≠ []) (hb : L.length ≤ 100) (hlo : lb ≠ ob) (hwo : wb ≠ ob) (K : Out IV → JH → Prop)
  (hK : ∀ vs J', frz J' DEP (itup vs) = some (.bool true) → K (.ret vs) J') :
  WP (dn BI l_law03_DiceShuffles_k2 [.sl lb 0 0 L.length (UNK + 1) 1, .sl wb 0 0 L.length (UNK + 1) 1, .sl ob 0 0 L.length (UNK + 1) 1] J) K := by
 unfold l_law03_DiceShuffles_k2
 have hXl := hp.length_eq
 have hXne : X ≠ [] := fun e => by rw [e] at hXl; exact hne (List.eq_nil_of_length_eq_zero hXl.symm)
 simp -implicitDefEqProofs only [go_sem, go_sem_proc]
 have hc1 := CloneR_ok (cap := UNK + 1) ho hXne (by omega)
 rw [hXl] at hc1
 refine WP_call hc1 fun v J2 hv => ?_
 obtain ⟨rfl, rfl⟩ := hv
 have f1 : Fr J (J.push (.cells 0 (uL X) false)) [] := Fr.push _ _ _
 have ha1 := push_get J (.cells 0 (uL X) false)
 have hw1 : (J.push (.cells 0 (uL X) false))[wb]? = some (.cells 0 (uL L) f) := by rw [f1.2 _ (lt_get hw) (by simp)]; exact hw
 have hl1 : (J.push (.cells 0 (uL X) false))[lb]? = some (.cells 0 (uL L) false) := by rw [f1.2 _ (lt_get hl) (by simp)]; exact hl
 have ho1 : (J.push (.cells 0 (uL X) false))[ob]? = some (.cells 0 (uL X) false) := by rw [f1.2 _ (lt_get ho) (by simp)]; exact ho
 have hs1 : (J.push (.cells 0 (uL X) false)).size = J.size + 1 := by simp
 generalize J.push (.cells 0 (uL X) false) = J1 at *
 simp -implicitDefEqProofs only [go_sem, go_sem_proc]
 refine WP_call (CloneR_ok (cap := UNK + 1) hw1 hne (by omega)) fun v J3 hv => ?_
 obtain ⟨rfl, rfl⟩ := hv
 have f2 : Fr J1 (J1.push (.cells 0 (uL L) false)) [] := Fr.push _ _ _
 have hb2 := push_get J1 (.cells 0 (uL L) false)
 have hlj := lt_get hl
 have hwj := lt_get hw
 have hoj := lt_get ho
 have get : ∀ {d : Nat} {x : IB}, J1[d]? = some x → (J1.push (.cells 0 (uL L) false))[d]? = some x := fun h => by rw [f2.2 _ (lt_get h) (by simp)]; exact h
 have ha2 := get ha1
 have hw2 := get hw1
 have hl2 := get hl1
 have ho2 := get ho1
 generalize J1.push (.cells 0 (uL L) false) = J2 at *
 simp -implicitDefEqProofs only [go_sem, go_sem_proc, lenF_sl, dn_loop]
 refine up_loop ho2 hXl (by omega) K fun J4 f4 => ?_
 have get4 : ∀ {d : Nat} {x : IB}, J2[d]? = some x → d ≠ ob → J4[d]? = some x := fun h hn => by rw [f4.2 _ (lt_get h) (by simpa using hn)]; exact h
 have ha4 := get4 ha2 (by omega)
 have hb4 := get4 hb2 (by omega)
 have hw4 := get4 hw2 hwo
 have hl4 := get4 hl2 hlo
 unfold l_law03_DiceShuffles_k1
 simp -implicitDefEqProofs only [go_sem, go_sem_proc]
 have hsa := SortL_ok X J.size (UNK + 1) (by omega) J4 ha4
 rw [hXl] at hsa
 refine WP_call hsa fun v J5 hv => ?_
 obtain ⟨rfl, Y, y1, y2, y3, f5⟩ := hv
 have get5 : ∀ {d : Nat} {x : IB}, J4[d]? = some x → d ≠ J.size → J5[d]? = some x := fun h hn => by rw [f5.2 _ (lt_get h) (by simpa using hn)]; exact h
 have hb5 := get5 hb4 (by omega)
 have hw5 := get5 hw4 (by omega)
 have hl5 := get5 hl4 (by omega)
 simp -implicitDefEqProofs only [go_sem, go_sem_proc]
 refine WP_call (SortL_ok L J1.size (UNK + 1) hb J5 hb5) fun v J6 hv => ?_
 obtain ⟨rfl, Z, z1, z2, z3, f6⟩ := hv
 have get6 : ∀ {d : Nat} {x : IB}, J5[d]? = some x → d ≠ J1.size → J6[d]? = some x := fun h hn => by rw [f6.2 _ (lt_get h) (by simpa using hn)]; exact h
 have ha6 := get6 y3 (by omega)
 have hw6 := get6 hw5 (by omega)
 have hl6 := get6 hl5 (by omega)
 have hYZ : Z = Y := by rw [sortI_eq z1 z2, sortI_eq (y1.trans hp) y2]
 have hYl : Y.length = L.length := (y1.trans hp).length_eq
 have hZl : Z.length = L.length := z1.length_eq
 simp -implicitDefEqProofs only [go_sem, go_sem_proc]
 have k1 := @WP_cmp J6 J.size J1.size (UNK + 1) (UNK + 1) Y Z false false ha6 z3 hYZ (by omega)
 rw [hYl, hZl] at k1
 refine k1 ?_
 simp -implicitDefEqProofs only [go_sem, go_sem_proc]
 refine WP_cmp hl6 hw6 rfl (by omega) ?_
 simp -implicitDefEqProofs only [go_sem, go_sem_proc]
 exact hK _ _ (frzP rfl)
theorem DiceShuffles_main (s : Int) (x : IV) (zs : List Int) (hx : Ls 1 x (zs.map (IV.int .i32))) (hzl : zs.length ≤ 9223372036854775807) :
  pc BI F_law03_DiceShuffles [.int .u64 s, x] = some (.bool true) := by
 refine pcE fn_law03_DiceShuffles rfl fun K hK => ?_
 unfold l_law03_DiceShuffles
 obtain ⟨n, hn⟩ : ∃ n, n = min zs.length 100 := ⟨_, rfl⟩
 have hxl := hx.lenF (J := #[])
 rw [List.length_map] at hxl
 have hmin : min (zs.length : Int) 100 = (n : Int) := by omega
 obtain ⟨y, hy1, hy2⟩ := hx.slice (h := n) (by rw [List.length_map]; omega)
 rw [← List.map_take] at hy2
 have hLl : (zs.take n).length = n := by simp; omega
 generalize zs.take n = L at *
 have hy3 : Ls 1 y ((ones .i32 L).map (mkE 1)) := by rw [ones_mk]; exact hy2
 simp -implicitDefEqProofs only [go_sem, go_sem_proc, dcp awake03 rfl, hxl, hmin, hy1, ipureL, grp]
 refine WP_bind (app_clip hy3 (by decide) (ones_1 _ _) (by rw [ones_flat]; exact ints_ione) (fits4 (by rw [ones_len]; omega))) fun v J1 hv => ?_
 rcases hv with ⟨h0, rfl, rfl⟩ | ⟨hne, rfl, rfl⟩
 ·have hL0 : L = [] := by simpa [ones] using h0
  subst hL0
  simp -implicitDefEqProofs only [go_sem, go_sem_proc]
  refine WP_call (Clone_e _) fun v J2 hv => ?_
  obtain ⟨rfl, rfl⟩ := hv
  simp -implicitDefEqProofs only [go_sem, go_sem_proc]
  refine WP_call (Shuf_e s _) fun v J3 hv => ?_
  obtain ⟨rfl, f3⟩ := hv
  have heq : pc BI F_slices_Equal_Lint32_int32 [e32, e32] = some (.bool true) := Eq32_ok (X := []) .lst .lst (by simp)
  have hp := push_get J3 (.cells 0 [.int .u64 s] false)
  simp -implicitDefEqProofs only [go_sem, go_sem_proc, dcp (rShuf_e s) rfl, dcp heq rfl, hp, inb hp, show (s != s) = false by simp]
  unfold l_law03_DiceShuffles_k2
  simp -implicitDefEqProofs only [go_sem, go_sem_proc]
  refine WP_call (Clone_e _) fun v J4 hv => ?_
  obtain ⟨rfl, rfl⟩ := hv
  simp -implicitDefEqProofs only [go_sem, go_sem_proc]
  refine WP_call (Clone_e _) fun v J5 hv => ?_
  obtain ⟨rfl, rfl⟩ := hv
  simp -implicitDefEqProofs only [go_sem, go_sem_proc, lenF_lst, List.length_nil, dn_loop]
  refine WP_range (by decide) 0 (fun i vs J' => vs = [e32, e32, e32, e32, e32, nI 0, nI i]) ?_ rfl
  rintro i vs J6 rfl hi K1 g1 g2 g3
  unfold l_law03_DiceShuffles_k0
  simp -implicitDefEqProofs only [go_sem, go_sem_proc, show ¬ ((i : Int) < ((0 : Nat) : Int)) by omega]
  refine g2 _ _ ?_
  unfold l_law03_DiceShuffles_k1
  simp -implicitDefEqProofs only [go_sem, go_sem_proc]
  refine WP_call (Sort_e _) fun v J7 hv => ?_
  obtain ⟨rfl, rfl⟩ := hv
  simp -implicitDefEqProofs only [go_sem, go_sem_proc]
  refine WP_call (Sort_e _) fun v J8 hv => ?_
  obtain ⟨rfl, rfl⟩ := hv
  simp -implicitDefEqProofs only [go_sem, go_sem_proc, dcp heq rfl]
  exact hK _ _ (frzP rfl)
 ·have hLne : L ≠ [] := fun e => hne (by rw [e]; rfl)
  have hcl : (ones IntKind.i32 L).flatten = uL L := ones_flat _ _
  rw [hcl, ones_len]
  have h0 : (#[].push (IB.cells 0 (uL L) false) : JH)[0]? = some (.cells 0 (uL L) false) := rfl
  have hsz : (#[].push (IB.cells 0 (uL L) false) : JH).size = 1 := rfl
  have hsz0 : (#[] : JH).size = 0 := rfl
  rw [hsz0]
  generalize (#[].push (IB.cells 0 (uL L) false) : JH) = J1 at *
  simp -implicitDefEqProofs only [go_sem, go_sem_proc]
  refine WP_call (CloneR_ok (cap := UNK + 1) h0 hLne (by omega)) fun v J2 hv => ?_
  obtain ⟨rfl, rfl⟩ := hv
  have f2 : Fr J1 (J1.push (.cells 0 (uL L) false)) [] := Fr.push _ _ _
  have hw2 := push_get J1 (.cells 0 (uL L) false)
  have hl2 : (J1.push (.cells 0 (uL L) false))[0]? = some (.cells 0 (uL L) false) := by rw [f2.2 _ (lt_get h0) (by simp)]; exact h0
  rw [hsz] at hw2 ⊢
  generalize J1.push (.cells 0 (uL L) false) = J2 at *
  simp -implicitDefEqProofs only [go_sem, go_sem_proc]
  refine WP_call (ShufR_ok (cap := UNK + 1) hl2 hLne (by omega) s) fun v J3 hv => ?_
  obtain ⟨ob, rfl, hob, ho, f3⟩ := hv
  have hw3 : J3[1]? = some (.cells 0 (uL L) false) := by rw [f3.2 _ (lt_get hw2) (by simp)]; exact hw2
  have hl3 : J3[0]? = some (.cells 0 (uL L) false) := by rw [f3.2 _ (lt_get hl2) (by simp)]; exact hl2
  have hw2l := lt_get hw2
  have hXl : (shufL s (L.length - 1) L).1.length = L.length := shufL_len _ _ _
  have hpm := shufL_perm (L.length - 1) s L (by have := List.length_pos_iff.2 hLne; omega) (by omega)
  obtain ⟨q, hq⟩ := frz32 (cap := UNK + 1) (show (J3.push (IB.cells 0 [.int .u64 (shufL s (L.length - 1) L).2] false))[1]? = some (.cells 0 (uL L) false) from gpN (by have := lt_get hw3; omega) hw3)
  have hsh := shows32 (cap := UNK + 1) (show (J3.push (IB.cells 0 [.int .u64 (shufL s (L.length - 1) L).2] false))[1]? = some (.cells 0 (uL L) false) from gpN (by have := lt_get hw3; omega) hw3)
  obtain ⟨u, hu, hul⟩ := rShuffle_ok q s L hLne (by omega)
  generalize shufL s (L.length - 1) L = R at *
  simp -implicitDefEqProofs only [go_sem, go_sem_proc]
  refine WP_callK (S := [1]) (.pure rfl (.raw (hq 11) hsh .nil)) hu fun J4 f4 z4 k4 => ?_
  have hp3 := push_get J3 (IB.cells 0 [.int .u64 R.2] false)
  have get4 : ∀ {d : Nat} {x : IB}, J3[d]? = some x → d ≠ 1 → J4[d]? = some x := fun {d x} h hn => by
   rw [f4.2 _ (by have := lt_get h; simp; omega) (by simpa using hn)]; exact gpN (by have := lt_get h; omega) h
  have hl4 := get4 hl3 (by decide)
  have ho4 := get4 ho (by omega)
  have hj3 := lt_get ho
  have hp4 : J4[J3.size]? = some (IB.cells 0 [.int .u64 R.2] false) := by rw [f4.2 _ (by simp) (by simp; omega)]; exact hp3
  obtain ⟨f', hw4⟩ := k4 1 0 (uL L) false (gpN (by have := lt_get hw3; omega) hw3)
  obtain ⟨q2, hq2⟩ := frz32 (cap := UNK + 1) ho4
  rw [hXl] at hq2
  have hfa : FA J4 (shows J4 DEP (.sl ob 0 0 L.length (UNK + 1) 1)) [.sl ob 0 0 L.length (UNK + 1) 1, u] [.lst 1 q2 (uL R.1), u] := .raw (hq2 11) (fun d hd => hd) (.pure hul.pure .nil)
  simp -implicitDefEqProofs only [go_sem, go_sem_proc]
  rw [dcf hfa.mapM (Eq32_ok .lst hul (by omega)), if_pos (show iscal (IV.bool true) = true from rfl)]
  simp -implicitDefEqProofs only [go_sem, go_sem_proc, hp4, inb hp4, show (R.2 != R.2) = false by simp]
  refine WP_join fun K1 g1 g2 g3 => ?_
  refine WP_cmp hl4 hw4 rfl (by omega) ?_
  simp -implicitDefEqProofs only [go_sem, go_sem_proc]
  refine g1 _ _ ?_
  have := shuf_tail hl4 hw4 ho4 hpm hLne (by omega) (by omega) (by omega) K hK
  exact this
section
variable {P : Program}
theorem wt_int {d : Nat} {t : TypeId} {k : IntKind} (ht : P.underlying t = some (.int k)) {cs : List IV} (h : WT P (d + 1) t cs) : ∃ n, cs = [.int k n] ∧ (Lit.int k n).wf = true := by
 simp only [WT, ht] at h; exact h
theorem wt_slice {d : Nat} {t e : TypeId} (ht : P.underlying t = some (.slice e)) {cs : List IV} (h : WT P (d + 1) t cs) :
  cs = [.sc (.slice none 0 0)] ∨ ∃ ys, cs = [.lst (P.cellsOf e) false ys] ∧ ys.length ≤ maxLen ∧ ∀ y ∈ ys, ∃ cs, y = mkE (P.cellsOf e) cs ∧ cs.length = P.cellsOf e ∧ WT P d e cs := by
 simp only [WT, ht] at h; exact h
theorem choose_list {α : Type} {f : α → IV} {p : α → Prop} : ∀ {ys : List IV}, (∀ y ∈ ys, ∃ a, y = f a ∧ p a) → ∃ l : List α, ys = l.map f ∧ ∀ a ∈ l, p a
 | [], _ => ⟨[], rfl, by simp⟩
 | y :: ys, h => by
  obtain ⟨a, rfl, ha⟩ := h y (by simp)
  obtain ⟨l, rfl, hl⟩ := choose_list (ys := ys) fun z hz => h z (by simp [hz])
  exact ⟨a :: l, rfl, fun b hb => by
   rcases List.mem_cons.1 hb with rfl | hb
   ·exact ha
   ·exact hl b hb⟩
theorem wt_ints {d : Nat} {t e : TypeId} {k : IntKind} (ht : P.underlying t = some (.slice e)) (he : P.underlying e = some (.int k)) (hc : P.cellsOf e = 1) {cs : List IV} (h : WT P (d + 2) t cs) :
  ∃ zs : List Int, ((cs = [.sc (.slice none 0 0)] ∧ zs = []) ∨ cs = [.lst 1 false (zs.map (IV.int k))]) ∧ zs.length ≤ maxLen ∧ ∀ z ∈ zs, (Lit.int k z).wf = true := by
 rcases wt_slice ht h with rfl | ⟨ys, rfl, h1, h2⟩
 ·exact ⟨[], .inl ⟨rfl, rfl⟩, by simp, by simp⟩
 ·obtain ⟨zs, rfl, hz⟩ := choose_list (f := IV.int k) (p := fun z => (Lit.int k z).wf = true) (ys := ys) (fun y hy => by
   obtain ⟨cs, rfl, _, hw⟩ := h2 y hy
   obtain ⟨n, rfl, hn⟩ := wt_int he hw
   exact ⟨n, by simp [mkE, hc], hn⟩)
  exact ⟨zs, .inr (by rw [hc]), by simpa using h1, hz⟩
theorem argOf_one {t : TypeId} (h : isAggT P t = false) (x : IV) : argOf P t [x] = x := by simp [argOf, h]
end
end Go.Proofs.Ytdclinhgekbejaa.G
