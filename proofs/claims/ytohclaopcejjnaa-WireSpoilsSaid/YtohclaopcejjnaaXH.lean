/- Joined: I10 to SP6. -/
import Derived.Test.YtohclaopcejjnaaXG
import Derived.Carry
import Derived.RowKit
import Derived.ChangeShapes
set_option linter.unusedVariables false
set_option linter.unusedSimpArgs false
namespace Go.Proofs.Ytohclaopcejjnaa.G
open Go
set_option linter.unusedSimpArgs false
set_option linter.unusedVariables false
def WTF (p : TypeId → List IV → Prop) : List Field → List IV → Prop
  | [], xs => xs = []
  | f :: fs, xs => ∃ a b, xs = a ++ b ∧ p f.type a ∧ WTF p fs b
def WTN (p : List IV → Prop) : Nat → List IV → Prop
  | 0, xs => xs = []
  | n + 1, xs => ∃ a b, xs = a ++ b ∧ p a ∧ WTN p n b
def WT (P : Program) : Nat → TypeId → List IV → Prop
  | 0, _, _ => False
  | d + 1, t, xs =>
    match P.underlying t with
    | some .bool => ∃ b, xs = [.bool b]
    | some (.int k) => ∃ n, xs = [.int k n] ∧ (Lit.int k n).wf = true
    | some .string => ∃ s, xs = [.sc (.string s)] ∧ s.size ≤ maxLen
    | some (.slice e) => xs = [.sc (.slice none 0 0)] ∨ ∃ ys, xs = [.lst (P.cellsOf e) false ys] ∧ ys.length ≤ maxLen ∧ ∀ y ∈ ys, ∃ cs, y = mkE (P.cellsOf e) cs ∧ cs.length = P.cellsOf e ∧ WT P d e cs
    | some (.struct fs) => WTF (WT P d) fs.toList xs
    | some (.array n e) => WTN (WT P d e) n xs
    | _ => False
def okT (P : Program) : Nat → TypeId → Bool
  | 0, _ => false
  | d + 1, t =>
    match P.underlying t with
    | some .bool | some (.int _) | some .string => P.cellsOf t == 1
    | some (.slice e) => P.cellsOf t == 1 && decide (0 < P.cellsOf e) && okT P d e
    | some (.struct fs) => tiles P fs.toList 0 (P.cellsOf t) && fs.toList.all fun f => okT P d f.type
    | some (.array n e) => P.cellsOf t == n * P.cellsOf e && okT P d e
    | _ => false
def FH (H : Heap) (b : Nat) : Option (List Value) := match H[b]? with | some (.cells cs _) => some cs | _ => none
def W0 (H : Heap) : Wd := ⟨fun _ => none, FH H⟩
structure Lay (w : World) (ι : Inj) (H : Heap) : Prop where
  rel : Rel ι H w
  ro : ∀ b, b < H.size → ∃ cs, H[b]? = some (.cells cs true)
structure Ext (ι : Inj) (H : Heap) (ι' : Inj) (H' : Heap) : Prop where
  le : Le ι ι'
  F : ∀ b cs, FH H b = some cs → FH H' b = some cs
theorem Ext.refl (ι : Inj) (H : Heap) : Ext ι H ι H := ⟨.refl ι, fun _ _ h => h⟩
theorem Ext.trans {ι ι' ι'' : Inj} {H H' H'' : Heap} (h : Ext ι H ι' H') (k : Ext ι' H' ι'' H'') : Ext ι H ι'' H'' := ⟨h.le.trans k.le, fun b cs e => k.F b cs (h.F b cs e)⟩
theorem lay_empty (w : World) : Lay w (fun _ => none) #[] := by
  refine ⟨⟨?_, ?_, ?_, ?_, ?_, ?_⟩, ?_⟩
  · intro b l h; cases h
  · intro b l h; cases h
  · intro b l cs ro h; cases h
  · intro b l cs h; cases h
  · intro b l es k h; cases h
  · intro b c l m h; cases h
  · intro b h; simp at h
theorem Lay.push {w : World} {ι : Inj} {H : Heap} (h : Lay w ι H) {cs : List Value} {l : Loc} (hb : l.blk < w.heap.size)
    (hc : ∀ (i : Nat) v, cs[i]? = some v → one v = true ∧ ∃ c, w.cell? ⟨l.blk, l.δ + i, none⟩ = some c ∧ VR ι v c) :
    ∃ ι', Lay w ι' (H.push (.cells cs true)) ∧ Ext ι H ι' (H.push (.cells cs true)) ∧ ι' H.size = some l := by
  refine ⟨fun b => if b = H.size then some l else ι b, ?_, ?_, by simp⟩
  · have hle : Le ι (fun b => if b = H.size then some l else ι b) := fun b m hm => by
      have := h.rel.dom b m hm
      show (if b = H.size then some l else ι b) = some m
      rw [if_neg (Nat.ne_of_lt this)]
      exact hm
    have hold : ∀ {b m}, (if b = H.size then some l else ι b) = some m → b ≠ H.size → ι b = some m := fun {b m} hm hne => by rwa [if_neg hne] at hm
    have hnot : ∀ b, ¬ own (H.push (.cells cs true)) b := by
      intro b ho
      have : ∃ ds, (H.push (Blk.cells cs true))[b]? = some (.cells ds true) ∨ (H.push (Blk.cells cs true))[b]? = none := by
        rw [Array.getElem?_push]
        split
        · exact ⟨cs, .inl rfl⟩
        · rcases Nat.lt_or_ge b H.size with hlt | hge
          · obtain ⟨ds, hd⟩ := h.ro b hlt
            exact ⟨ds, .inl hd⟩
          · exact ⟨[], .inr (Array.getElem?_eq_none hge)⟩
      obtain ⟨ds, hd | hd⟩ := this <;> rcases ho with ⟨es, he⟩ | ⟨es, k, he⟩ <;> rw [hd] at he <;> cases he
    refine ⟨⟨?_, ?_, ?_, ?_, ?_, ?_⟩, ?_⟩
    · intro b m hm
      by_cases hb : b = H.size
      · subst hb; simp
      · have := h.rel.dom b m (hold hm hb); simp; omega
    · intro b m hm
      by_cases hbs : b = H.size
      · subst hbs; simp at hm; subst hm; exact hb
      · exact h.rel.bound b m (hold hm hbs)
    · intro b m ds ro hm hH i v hv
      by_cases hbs : b = H.size
      · subst hbs
        simp at hm
        subst hm
        rw [Array.getElem?_push, if_pos rfl] at hH
        simp only [Option.some.injEq, Blk.cells.injEq] at hH
        obtain ⟨rfl, rfl⟩ := hH
        obtain ⟨h1, c, h2, h3⟩ := hc i v hv
        exact ⟨h1, c, h2, h3.mono hle⟩
      · have hm' := hold hm hbs
        rw [Array.getElem?_push, if_neg hbs] at hH
        obtain ⟨h1, c, h2, h3⟩ := h.rel.cells b m ds ro hm' hH i v hv
        exact ⟨h1, c, h2, h3.mono hle⟩
    · intro b m ds hm hH
      exact (hnot b (.inl ⟨ds, hH⟩)).elim
    · intro b m es k hm hH
      exact (hnot b (.inr ⟨es, k, hH⟩)).elim
    · intro b c m m' _ _ _ _ ho
      exact (hnot b ho).elim
    · intro b hb
      simp at hb
      rw [Array.getElem?_push]
      split
      · exact ⟨cs, rfl⟩
      · exact h.ro b (by omega)
  · refine ⟨fun b m hm => ?_, fun b ds hF => ?_⟩
    · have := h.rel.dom b m hm
      show (if b = H.size then some l else ι b) = some m
      rw [if_neg (Nat.ne_of_lt this)]
      exact hm
    · unfold FH at hF ⊢
      rw [Array.getElem?_push, if_neg]
      · exact hF
      · rintro rfl
        simp at hF
theorem W0.le {ι ι' : Inj} {H H' : Heap} (h : Ext ι H ι' H') : ∀ β cs, (W0 H).F β = some cs → (W0 H').F β = some cs := h.F
def Laid (ι : Inj) (H : Heap) (xs : List IV) (cs : List Value) : Prop := ∃ gs, CRL (W0 H) xs gs ∧ VRL ι gs cs
theorem Laid.ext {ι ι' : Inj} {H H' : Heap} {xs : List IV} {cs : List Value} (h : Laid ι H xs cs) (hp : ipureL xs = true) (hx : Ext ι H ι' H') : Laid ι' H' xs cs := by
  obtain ⟨gs, h1, h2⟩ := h
  exact ⟨gs, h1.pure hx.F _ _ hp, VRL.mono hx.le _ _ h2⟩
theorem Laid.append {ι : Inj} {H : Heap} {xs ys : List IV} {cs ds : List Value} (h : Laid ι H xs cs) (k : Laid ι H ys ds) : Laid ι H (xs ++ ys) (cs ++ ds) := by
  obtain ⟨gs, h1, h2⟩ := h
  obtain ⟨es, k1, k2⟩ := k
  exact ⟨gs ++ es, h1.append k1, h2.append k2⟩
theorem Laid.one {ι : Inj} {H : Heap} {v : Value} (h1 : scOK v = true) (h2 : one v = true) (h3 : VR ι v v) : Laid ι H [.sc v] [v] :=
  ⟨[v], CRL.cons_iff.2 ⟨v, [], rfl, by simpa [ione] using h2, h2, by simp [CR, h1, h2], CRL.nil_iff.2 rfl⟩, by simp [VRL, h3]⟩
theorem Laid.len {ι : Inj} {H : Heap} {xs : List IV} {cs : List Value} (h : Laid ι H xs cs) : cs.length = xs.length := by
  obtain ⟨gs, h1, h2⟩ := h
  rw [← h2.length, h1.len]
theorem ipureL_app {a b : List IV} (h : ipureL a = true) (k : ipureL b = true) : ipureL (a ++ b) = true :=
  ipureL_iff.2 fun x hx => by
    rcases List.mem_append.1 hx with hx | hx
    · exact ipureL_iff.1 h x hx
    · exact ipureL_iff.1 k x hx
section
variable {Hd : Type} {enc : TypeId × Value → Hd} {P : Program} {w : World} {sp : Nat → Bool} {held : Bool}
def LayT (P : Program) (w : World) (d : Nat) (t : TypeId) (cs : List Value) : Prop :=
  ∀ ι H, Lay w ι H → ∃ xs ι' H', Lay w ι' H' ∧ Ext ι H ι' H' ∧ WT P d t xs ∧ ipureL xs = true ∧ Laid ι' H' xs cs ∧ xs.length = P.cellsOf t
theorem drop_take_split {α : Type} (l : List α) (a b : Nat) : l.drop a = (l.drop a).take b ++ l.drop (a + b) := by
  rw [← List.drop_drop]; exact (List.take_append_drop b (l.drop a)).symm
theorem lay_fields {d : Nat} {cs : List Value} : ∀ (fs : List Field) (off : Nat), tiles P fs off cs.length = true → (∀ f ∈ fs, LayT P w d f.type ((cs.drop f.offset).take (P.cellsOf f.type))) →
    ∀ ι H, Lay w ι H → ∃ xs ι' H', Lay w ι' H' ∧ Ext ι H ι' H' ∧ WTF (WT P d) fs xs ∧ ipureL xs = true ∧ Laid ι' H' xs (cs.drop off)
  | [], off, ht, _, ι, H, hL => by
    simp only [tiles, beq_iff_eq] at ht
    subst ht
    exact ⟨[], ι, H, hL, .refl _ _, rfl, rfl, [], by simp [CRL], by simp [VRL]⟩
  | f :: fs, off, ht, hf, ι, H, hL => by
    simp only [tiles, Bool.and_eq_true, beq_iff_eq] at ht
    obtain ⟨ho, ht⟩ := ht
    obtain ⟨xs, ι1, H1, h1, h2, h3, h4, h5, h6⟩ := hf f (by simp) ι H hL
    obtain ⟨ys, ι2, H2, k1, k2, k3, k4, k5⟩ := lay_fields fs (off + P.cellsOf f.type) ht (fun g hg => hf g (by simp [hg])) ι1 H1 h1
    refine ⟨xs ++ ys, ι2, H2, k1, h2.trans k2, ⟨xs, ys, rfl, h3, k3⟩, ipureL_app h4 k4, ?_⟩
    rw [drop_take_split cs off (P.cellsOf f.type), ← ho]
    exact (h5.ext h4 k2).append (by rw [ho]; exact k5)
theorem lay_array {d : Nat} {e : TypeId} {cs : List Value} : ∀ (n i : Nat), cs.length = (i + n) * P.cellsOf e → (∀ j, i ≤ j → j < i + n → LayT P w d e ((cs.drop (j * P.cellsOf e)).take (P.cellsOf e))) →
    ∀ ι H, Lay w ι H → ∃ xs ι' H', Lay w ι' H' ∧ Ext ι H ι' H' ∧ WTN (WT P d e) n xs ∧ ipureL xs = true ∧ Laid ι' H' xs (cs.drop (i * P.cellsOf e))
  | 0, i, hl, _, ι, H, hL => by
    refine ⟨[], ι, H, hL, .refl _ _, rfl, rfl, [], by simp [CRL], ?_⟩
    rw [List.drop_eq_nil_of_le (by rw [hl]; simp)]
    simp [VRL]
  | n + 1, i, hl, hf, ι, H, hL => by
    obtain ⟨xs, ι1, H1, h1, h2, h3, h4, h5, h6⟩ := hf i (Nat.le_refl _) (by omega) ι H hL
    obtain ⟨ys, ι2, H2, k1, k2, k3, k4, k5⟩ := lay_array n (i + 1) (by rw [hl]; congr 1; omega) (fun j hj hj2 => hf j (by omega) (by omega)) ι1 H1 h1
    refine ⟨xs ++ ys, ι2, H2, k1, h2.trans k2, ⟨xs, ys, rfl, h3, k3⟩, ipureL_app h4 k4, ?_⟩
    rw [drop_take_split cs (i * P.cellsOf e) (P.cellsOf e), ← Nat.succ_mul]
    exact (h5.ext h4 k2).append k5
theorem mapM_ex {α β : Type} {f : α → Option β} : ∀ {l : List α} {m : List β}, l.mapM f = some m → ∀ x ∈ l, ∃ y, f x = some y
  | [], m, _, x, hx => by simp at hx
  | a :: l, m, h, x, hx => by
    rcases mapM_some h with ⟨h0, _⟩ | ⟨a', r, y, s, h0, rfl, h1, h2⟩
    · cases h0
    · cases h0
      rcases List.mem_cons.1 hx with rfl | hx
      · exact ⟨y, h1⟩
      · exact mapM_ex h2 x hx
theorem mapM_idx {α β : Type} {f : α → Option β} : ∀ {l : List α} {m : List β} {i : Nat} {x : α}, l.mapM f = some m → l[i]? = some x → ∃ y, m[i]? = some y ∧ f x = some y
  | [], m, i, x, _, hx => by simp at hx
  | a :: l, m, i, x, h, hx => by
    rcases mapM_some h with ⟨h0, _⟩ | ⟨a', r, y, s, h0, rfl, h1, h2⟩
    · cases h0
    · cases h0
      cases i with
      | zero => simp at hx; subst hx; exact ⟨y, by simp, h1⟩
      | succ i => simpa using mapM_idx (i := i) h2 (by simpa using hx)
theorem lay_row {d : Nat} {e : TypeId} {a : Addr} {len : Nat} (hsp : a.spot = none) (hel : ∀ i, i < len → ∃ cs, w.cells? 0 (a.add (i * P.cellsOf e)) (P.cellsOf e) = some cs ∧ LayT P w d e cs) :
    ∀ (n i : Nat), i + n = len → ∀ ι H, Lay w ι H → ∃ ys gs ι' H', Lay w ι' H' ∧ Ext ι H ι' H' ∧ ys.length = n ∧ (∀ y ∈ ys, ∃ cs, y = mkE (P.cellsOf e) cs ∧ cs.length = P.cellsOf e ∧ WT P d e cs) ∧ ipureL ys = true ∧
      CRF (W0 H') (P.cellsOf e) ys gs ∧ gs.length = n * P.cellsOf e ∧ ∀ (j : Nat) v, gs[j]? = some v → one v = true ∧ ∃ c, w.cell? ⟨a.block, a.off + i * P.cellsOf e + j, none⟩ = some c ∧ VR ι' v c
  | 0, i, _, ι, H, hL => ⟨[], [], ι, H, hL, .refl _ _, rfl, by simp, rfl, by simp [CRF], by simp, by simp⟩
  | n + 1, i, hi, ι, H, hL => by
    obtain ⟨cs, hcs, hlay⟩ := hel i (by omega)
    obtain ⟨xs, ι1, H1, h1, h2, h3, h4, h5, h6⟩ := hlay ι H hL
    obtain ⟨ys, gs, ι2, H2, k1, k2, k3, k4, k5, k6, k7, k8⟩ := lay_row hsp hel n (i + 1) (by omega) ι1 H1 h1
    obtain ⟨gx, hx1, hx2⟩ := h5.ext h4 k2
    have hgl : gx.length = P.cellsOf e := by rw [hx1.len, h6]
    have hcl : cs.length = P.cellsOf e := by rw [← hx2.length, hgl]
    refine ⟨mkE (P.cellsOf e) xs :: ys, gx ++ gs, ι2, H2, k1, h2.trans k2, by simp [k3], ?_, ?_, ?_, ?_, ?_⟩
    · intro y hy
      rcases List.mem_cons.1 hy with rfl | hy
      · exact ⟨xs, rfl, h6, h3⟩
      · exact k4 y hy
    · simp only [ipureL, k5, Bool.and_true]; exact ipure_mkE (ipureL_iff.1 h4)
    · simp only [CRF]
      refine ⟨by rw [mkE_len h6 hx1.ones.1]; exact h6, ?_, ?_⟩
      · rw [List.take_left' hgl]; exact mkE_CR h6 hx1
      · rw [List.drop_left' hgl]; exact k6
    · simp [hgl, k7, Nat.succ_mul]; omega
    · intro j v hj
      rcases Nat.lt_or_ge j (P.cellsOf e) with hlt | hge
      · rw [List.getElem?_append_left (by omega)] at hj
        have ho : one v = true := List.all_eq_true.1 hx1.ones.2 v (List.mem_of_getElem? hj)
        refine ⟨ho, ?_⟩
        obtain ⟨c, hc1, hc2⟩ := hx2.get hj
        refine ⟨c, ?_, hc2⟩
        simp only [World.cells?, Nat.zero_le, if_true] at hcs
        obtain ⟨y, hy1, hy2⟩ := mapM_idx hcs (i := j) (x := j) (by simp [hlt])
        rw [hc1] at hy1
        cases hy1
        have : (a.add (i * P.cellsOf e)).add j = ⟨a.block, a.off + i * P.cellsOf e + j, none⟩ := by
          obtain ⟨ab, ao, as⟩ := a
          simp only at hsp
          subst hsp
          unfold Addr.add
          simp only
          split <;> split <;> simp_all
        rw [this] at hy2
        exact hy2
      · rw [List.getElem?_append_right (by omega)] at hj
        obtain ⟨ho, c, hc1, hc2⟩ := k8 _ v hj
        refine ⟨ho, c, ?_, hc2⟩
        rw [← hc1]
        congr 2
        rw [Nat.succ_mul, hgl]
        omega
theorem cell_lt {a : Addr} {c : Value} (h : w.cell? a = some c) : a.block < w.heap.size := by
  rcases Nat.lt_or_ge a.block w.heap.size with hlt | hge
  · exact hlt
  · unfold World.cell? at h
    rw [Array.getElem?_eq_none hge] at h
    simp at h
theorem spot_of {a : Addr} {n : Nat} {cs : List Value} (hn : 0 < n) (h : w.cells? 0 (a.add 0) n = some cs) : a.spot = none ∧ a.block < w.heap.size := by
  simp only [World.cells?, Nat.zero_le, if_true] at h
  obtain ⟨y, hy⟩ := mapM_ex h 0 (by simp [hn])
  have ha : (a.add 0).add 0 = a := rfl
  rw [ha] at hy
  refine ⟨?_, cell_lt hy⟩
  unfold World.cell? at hy
  split at hy
  · cases hs : a.spot with
    | none => rfl
    | some s => rw [hs] at hy; simp at hy
  · simp at hy
def noSl (cs : List Value) : Prop := ∀ c ∈ cs, ∀ a n k, c ≠ .slice (some a) n k
theorem lay_trod : ∀ (d n : Nat) (t : TypeId) (cs : List Value) (x : DataW Hd × List MemPlace), (0 < w.heap.size ∨ noSl cs) → okT P d t = true → DataW.trod enc P w 0 (fun _ => true) held n t cs = some x → LayT P w d t cs
  | 0, n, t, cs, x, hz, hok, h => by simp [okT] at hok
  | d + 1, 0, t, cs, x, hz, hok, h => by simp [DataW.trod] at h
  | d + 1, n + 1, t, cs, x, hz, hok, h => by
    intro ι H hL
    unfold DataW.trod at h
    cases ht : P.underlying t with
    | none => simp [okT, ht] at hok
    | some u =>
    simp only [okT, ht] at hok
    simp only [ht] at h
    cases u with
    | bool =>
      simp only [beq_iff_eq] at hok
      match cs, h with
      | [.bool b], _ => exact ⟨[.bool b], ι, H, hL, .refl _ _, by simp [WT, ht], rfl, .one rfl rfl (by simp [VR]), by simp [hok]⟩
    | int k =>
      simp only [beq_iff_eq] at hok
      match cs, h with
      | [.int k' m], h =>
        simp only at h
        split at h
        · rename_i hc
          obtain ⟨rfl, hw⟩ := hc
          exact ⟨[.int k' m], ι, H, hL, .refl _ _, by simp [WT, ht, hw], rfl, .one rfl rfl (by simp [VR]), by simp [hok]⟩
        · simp at h
    | string =>
      simp only [beq_iff_eq] at hok
      match cs, h with
      | [.string s], h =>
        simp only at h
        split at h
        · rename_i hc
          exact ⟨[.sc (.string s)], ι, H, hL, .refl _ _, by simp [WT, ht, hc], rfl, .one rfl rfl (by simp [VR]), by simp [hok]⟩
        · simp at h
    | slice e =>
      simp only [Bool.and_eq_true, beq_iff_eq, decide_eq_true_eq] at hok
      obtain ⟨⟨hct, hce⟩, hoke⟩ := hok
      match cs, h, hz with
      | [.slice none 0 0], h, _ => exact ⟨[.sc (.slice none 0 0)], ι, H, hL, .refl _ _, by simp [WT, ht], rfl, .one rfl rfl (by simp [VR]), by simp [hct]⟩
      | [.slice (some a) len cap], h, hz =>
        have hpos : 0 < w.heap.size := by
          rcases hz with hz | hz
          · exact hz
          · exact absurd rfl (hz _ (by simp) a len cap)
        simp only at h
        split at h
        · rename_i hc
          obtain ⟨_, hlc, hcm⟩ := hc
          cases hel : (List.range len).mapM (fun i => (w.cells? 0 (a.add (i * P.cellsOf e)) (P.cellsOf e)).bind (DataW.trod enc P w 0 (fun _ => true) held n e)) with
          | none => rw [hel] at h; simp at h
          | some els =>
          rw [hel] at h
          simp only [Option.bind_some, if_true] at h
          cases hsr : (List.range (cap - len)).mapM (fun j => (w.cells? 0 (a.add ((len + j) * P.cellsOf e)) (P.cellsOf e)).bind (DataW.trod enc P w 0 (fun _ => true) held n e)) with
          | none => rw [hsr] at h; simp at h
          | some rest =>
          have hmU : cap < UNK := by unfold maxLen at hcm; unfold UNK; omega
          have helem : ∀ i, i < len → ∃ cs, w.cells? 0 (a.add (i * P.cellsOf e)) (P.cellsOf e) = some cs ∧ LayT P w d e cs := by
            intro i hi
            obtain ⟨y, hy⟩ := mapM_ex hel i (by simp [hi])
            cases hcs : w.cells? 0 (a.add (i * P.cellsOf e)) (P.cellsOf e) with
            | none => rw [hcs] at hy; simp at hy
            | some cs =>
              rw [hcs] at hy
              exact ⟨cs, rfl, lay_trod d n e cs y (.inl hpos) hoke hy⟩
          have hspot : 0 < cap → a.spot = none ∧ a.block < w.heap.size := by
            intro hcp
            by_cases hl0 : 0 < len
            · obtain ⟨cs, hcs, _⟩ := helem 0 hl0
              rw [Nat.zero_mul] at hcs
              exact spot_of hce hcs
            · obtain ⟨y, hy⟩ := mapM_ex hsr 0 (by simp; omega)
              cases hcs : w.cells? 0 (a.add ((len + 0) * P.cellsOf e)) (P.cellsOf e) with
              | none => rw [hcs] at hy; simp at hy
              | some cs =>
                obtain rfl : len = 0 := by omega
                rw [Nat.add_zero, Nat.zero_mul] at hcs
                exact spot_of hce hcs
          by_cases hcp : 0 < cap
          · obtain ⟨hsp, hblk⟩ := hspot hcp
            obtain ⟨ys, gs, ι1, H1, k1, k2, k3, k4, k5, k6, k7, k8⟩ := lay_row (P := P) hsp helem len 0 (by omega) ι H hL
            obtain ⟨ι2, h1, h2, h3⟩ := k1.push (cs := gs) (l := ⟨a.block, a.off, 0⟩) hblk (fun j v hj => by
              obtain ⟨ho, c, hc1, hc2⟩ := k8 j v hj
              refine ⟨ho, c, ?_, hc2⟩
              rw [Nat.zero_mul, Nat.add_zero] at hc1
              exact hc1)
            have hF : (W0 (H1.push (.cells gs true))).F H1.size = some gs := by simp [W0, FH]
            refine ⟨[.lst (P.cellsOf e) false ys], ι2, _, h1, k2.trans h2, ?_, rfl, ⟨[.slice (some ⟨H1.size, 0, none⟩) len cap], ?_, ?_⟩, by simp [hct]⟩
            · simp only [WT, ht]
              exact .inr ⟨ys, rfl, by rw [k3]; omega, k4⟩
            · refine CRL.cons_iff.2 ⟨_, [], rfl, rfl, rfl, ?_, CRL.nil_iff.2 rfl⟩
              have := IR.mk_lst (full := false) (xs := ys) (o := 0) (cap := cap) (n := len) hF k3.symm hce (by rw [k7, k3]; omega) (.inl ⟨hmU, by rw [k3]; exact hlc⟩) (fun e => by cases e) k5 (by simpa using k6.pure h2.F _ _ _ k5)
              simpa only [IR] using this
            · obtain ⟨ab, ao, as⟩ := a
              simp only at hsp
              subst hsp
              simp only [VRL, VR, and_true]
              exact ⟨_, h3, trivial, .inl ⟨hmU, hlc, by simp⟩⟩
          · obtain rfl : cap = 0 := by omega
            obtain rfl : len = 0 := by omega
            obtain ⟨ι2, h1, h2, h3⟩ := hL.push (cs := []) (l := ⟨0, 0, 0⟩) hpos (fun j v hj => by simp at hj)
            have hF : (W0 (H.push (.cells [] true))).F H.size = some [] := by simp [W0, FH]
            refine ⟨[.lst (P.cellsOf e) false []], ι2, _, h1, h2, ?_, rfl, ⟨[.slice (some ⟨H.size, 0, none⟩) 0 0], ?_, ?_⟩, by simp [hct]⟩
            · simp only [WT, ht]
              exact .inr ⟨[], rfl, by simp, by simp⟩
            · refine CRL.cons_iff.2 ⟨_, [], rfl, rfl, rfl, ?_, CRL.nil_iff.2 rfl⟩
              have := IR.mk_lst (full := false) (xs := []) (o := 0) (cap := 0) (n := 0) hF rfl hce (by simp) (.inl ⟨by simp [UNK], by simp⟩) (fun e => by cases e) rfl (by simp [CRF])
              simpa only [IR] using this
            · simp only [VRL, VR, and_true]
              exact ⟨_, h3, trivial, .inr (.inr (.inr ⟨trivial, trivial, a, rfl⟩))⟩
        · simp at h
    | struct fs =>
      simp only [Bool.and_eq_true, List.all_eq_true] at hok
      simp only at h
      split at h
      · rename_i hlen
        cases hel : fs.toList.mapM (fun f => DataW.trod enc P w 0 (fun _ => true) held n f.type ((cs.drop f.offset).take (P.cellsOf f.type))) with
        | none => rw [hel] at h; simp at h
        | some els =>
        obtain ⟨xs, ι1, H1, h1, h2, h3, h4, h5⟩ := lay_fields (P := P) (w := w) (d := d) (cs := cs) fs.toList 0 (by rw [hlen]; exact hok.1) (fun f hf => by
          obtain ⟨y, hy⟩ := mapM_ex hel f hf
          refine lay_trod d n f.type _ y ?_ (hok.2 f hf) hy
          rcases hz with hz | hz
          · exact .inl hz
          · exact .inr fun c hc => hz c (List.mem_of_mem_drop (List.mem_of_mem_take hc))) ι H hL
        rw [List.drop_zero] at h5
        exact ⟨xs, ι1, H1, h1, h2, by simp only [WT, ht]; exact h3, h4, h5, by rw [← h5.len, hlen]⟩
      · simp at h
    | array m e =>
      simp only [Bool.and_eq_true, beq_iff_eq] at hok
      simp only at h
      split at h
      · rename_i hlen
        cases hel : (List.range m).mapM (fun i => DataW.trod enc P w 0 (fun _ => true) held n e ((cs.drop (i * P.cellsOf e)).take (P.cellsOf e))) with
        | none => rw [hel] at h; simp at h
        | some els =>
        obtain ⟨xs, ι1, H1, h1, h2, h3, h4, h5⟩ := lay_array (P := P) (w := w) (d := d) (e := e) (cs := cs) m 0 (by rw [hlen, hok.1]; simp) (fun j _ hj => by
          obtain ⟨y, hy⟩ := mapM_ex hel j (by simp; omega)
          refine lay_trod d n e _ y ?_ hok.2 hy
          rcases hz with hz | hz
          · exact .inl hz
          · exact .inr fun c hc => hz c (List.mem_of_mem_drop (List.mem_of_mem_take hc))) ι H hL
        rw [Nat.zero_mul, List.drop_zero] at h5
        exact ⟨xs, ι1, H1, h1, h2, by simp only [WT, ht]; exact h3, h4, h5, by rw [← h5.len, hlen]⟩
      · simp at h
    | _ => simp at hok
end
end Go.Proofs.Ytohclaopcejjnaa.G
namespace Go.Proofs.Ytohclaopcejjnaa.G
open Go Go.RowKit Go.ChangeShapes
set_option linter.unusedSimpArgs false
set_option linter.unusedVariables false
def argOf (P : Program) (t : TypeId) (cs : List IV) : IV := if isAggT P t then .agg cs else cs.headD (.tup [])
def WTA (P : Program) (D : Nat) : List TypeId → List IV → Prop
  | [], xs => xs = []
  | t :: ts, xs => ∃ cs r, xs = argOf P t cs :: r ∧ WT P D t cs ∧ WTA P D ts r
section
variable {Hd : Type} {enc : TypeId × Value → Hd} {P : Program} {W : World}
theorem okWide_sl {r : Reach} {base : Nat} {u : TypeId} {a : Addr} {n k : Nat} (h : Cell.okWide P W r base u (.slice (some a) n k)) : 0 < W.heap.size := by
  unfold Cell.okWide at h
  split at h
  all_goals first
    | (rename_i heq; cases heq; done)
    | (unfold Cell.ok at h
       split at h
       all_goals first
         | (rename_i heq; cases heq; done)
         | (exact h.elim)
         | skip)
  all_goals try (rename_i heq _; cases heq; done)
  rename_i heq
  cases heq
  obtain ⟨_, _, _, _, row, cells, hs, _⟩ := h
  unfold World.shape? at hs
  rcases Nat.lt_or_ge a.block W.heap.size with hlt | hge
  · omega
  · rw [Array.getElem?_eq_none hge] at hs
    simp at hs
theorem arg_shape {D : Nat} {t : TypeId} {r : Reach} {base : Nat} {v : Value} (hok : okT P D t = true) (h : Value.okWide P W r base t v) :
    ((isAggT P t = true ∧ ∃ a, v = .agg a) ∨ (isAggT P t = false ∧ v.cells.toList = [v])) ∧ (0 < W.heap.size ∨ noSl v.cells.toList) := by
  cases D with
  | zero => simp [okT] at hok
  | succ D =>
  cases ht : P.underlying t with
  | none => simp [okT, ht] at hok
  | some u =>
  unfold Value.okWide at h
  simp only [ht] at h
  have agg : ∀ {cs : Array Value}, Row.okWide P W r base t cs → (0 < W.heap.size ∨ noSl cs.toList) := by
    intro cs hr
    by_cases hz : 0 < W.heap.size
    · exact .inl hz
    · refine .inr fun c hc a n k e => ?_
      subst e
      obtain ⟨ts, _, _, hall⟩ := hr
      obtain ⟨i, hi, hi2⟩ := List.mem_iff_getElem.1 hc
      obtain ⟨u, _, hu⟩ := hall i _ (by rw [← Array.getElem?_toList]; rw [List.getElem?_eq_getElem hi, hi2])
      exact hz (okWide_sl hu)
  have one1 : ∀ {r : Reach} {base : Nat}, Cell.okWide P W r base t v → (0 < W.heap.size ∨ noSl [v]) := by
    intro r base hr
    by_cases hz : 0 < W.heap.size
    · exact .inl hz
    · refine .inr fun c hc a n k e => ?_
      simp at hc
      subst hc e
      exact hz (okWide_sl hr)
  cases u with
  | struct fs =>
    obtain ⟨cs, rfl, _, hr⟩ := h
    exact ⟨.inl ⟨by simp [isAggT, ht], cs, rfl⟩, agg hr⟩
  | array n e =>
    obtain ⟨cs, rfl, _, hr⟩ := h
    exact ⟨.inl ⟨by simp [isAggT, ht], cs, rfl⟩, agg hr⟩
  | bool =>
    have h' := h
    unfold Cell.okWide at h'
    simp only [ht] at h'
    unfold Cell.ok at h'
    simp only [ht] at h'
    cases v <;> simp at h'
    exact ⟨.inr ⟨by simp [isAggT, ht], rfl⟩, one1 h⟩
  | int k =>
    have h' := h
    unfold Cell.okWide at h'
    simp only [ht] at h'
    unfold Cell.ok at h'
    simp only [ht] at h'
    cases v <;> simp at h'
    exact ⟨.inr ⟨by simp [isAggT, ht], rfl⟩, one1 h⟩
  | string =>
    have h' := h
    unfold Cell.okWide at h'
    simp only [ht] at h'
    unfold Cell.ok at h'
    simp only [ht] at h'
    cases v <;> simp at h'
    exact ⟨.inr ⟨by simp [isAggT, ht], rfl⟩, one1 h⟩
  | slice e =>
    have h' := h
    unfold Cell.okWide at h'
    simp only [ht] at h'
    unfold Cell.ok at h'
    simp only [ht] at h'
    cases v <;> simp at h'
    exact ⟨.inr ⟨by simp [isAggT, ht], rfl⟩, one1 h⟩
  | _ => simp [okT, ht] at hok
theorem lay_all {D : Nat} : ∀ (ts : List TypeId) (vs : List Value) (ds : List (DataW Hd)) (p : List MemPlace) {r : Reach} {base : Nat}, DataW.TrodAll enc P W 0 (fun _ => true) true ts vs ds p → (∀ t ∈ ts, okT P D t = true) →
    (∀ (j : Nat) t v, ts[j]? = some t → vs[j]? = some v → Value.okWide P W r base t v) →
    ∀ ι H, Lay W ι H → ∃ xs gs ι' H', Lay W ι' H' ∧ Ext ι H ι' H' ∧ WTA P D ts xs ∧ ipureL xs = true ∧ IRL (W0 H') xs gs ∧ VRL ι' gs vs
  | [], [], [], p, r, base, h, _, _, ι, H, hL => ⟨[], [], ι, H, hL, .refl _ _, rfl, rfl, by simp [IRL], by simp [VRL]⟩
  | t :: ts, v :: vs, d :: ds, p, r, base, h, hok, hval, ι, H, hL => by
    obtain ⟨p1, q1, ⟨fuel, h1⟩, h2, _⟩ := h
    have hv := hval 0 t v rfl rfl
    have hot := hok t (by simp)
    obtain ⟨hsh, hz⟩ := arg_shape hot hv
    obtain ⟨cs, ι1, H1, k1, k2, k3, k4, ⟨gs1, k5, k6⟩, k7⟩ := lay_trod D fuel t _ _ hz hot h1 ι H hL
    obtain ⟨xs, gs, ι2, H2, m1, m2, m3, m4, m5, m6⟩ := lay_all ts vs ds q1 h2 (fun u hu => hok u (by simp [hu])) (fun j u w hu hw => hval (j + 1) u w (by simpa using hu) (by simpa using hw)) ι1 H1 k1
    rcases hsh with ⟨hagg, a, rfl⟩ | ⟨hagg, hc⟩
    · refine ⟨.agg cs :: xs, .agg gs1.toArray :: gs, ι2, H2, m1, k2.trans m2, ⟨cs, xs, by simp [argOf, hagg], k3, m3⟩, by simp [ipureL, ipure, k4, m4], IRL.cons_iff.2 ⟨_, _, rfl, (IR.mk_agg k5).pure m2.F _ _ (by simp [ipure, k4]), m5⟩, ?_⟩
      simp only [VRL, VR]
      exact ⟨⟨a, rfl, VRA_iff.2 (VRL.mono m2.le _ _ k6), k5.ones.2⟩, m6⟩
    · rw [hc] at k6
      have hl := k6.length
      have hl2 := k5.len
      match cs, gs1, hl, hl2, k5, k4, k3, k6 with
      | [x], [g], _, _, k5, k4, k3, k6 =>
        obtain ⟨g', gs', hg, hx1, hx2, hx3, _⟩ := CRL.cons_iff.1 k5
        simp only [List.cons.injEq] at hg
        obtain ⟨rfl, rfl⟩ := hg
        simp only [ipureL, Bool.and_true] at k4
        simp only [VRL, and_true] at k6
        refine ⟨x :: xs, g :: gs, ι2, H2, m1, k2.trans m2, ⟨[x], xs, by simp [argOf, hagg], k3, m3⟩, by simp [ipureL, k4, m4], IRL.cons_iff.2 ⟨_, _, rfl, (hx3.toIR hx1).pure m2.F _ _ k4, m5⟩, ?_⟩
        simp only [VRL]
        exact ⟨k6.mono m2.le, m6⟩
  | [], [], _ :: _, _, _, _, h, _, _, _, _, _ => by simp [DataW.TrodAll] at h
  | [], _ :: _, _, _, _, _, h, _, _, _, _, _ => by simp [DataW.TrodAll] at h
  | _ :: _, [], _, _, _, _, h, _, _, _, _, _ => by simp [DataW.TrodAll] at h
  | _ :: _, _ :: _, [], _, _, _, h, _, _, _, _, _ => by simp [DataW.TrodAll] at h
theorem trodAll_below (hl : laidOutB P = true) {W' : World} (hb : Below W.heap.size W W') : ∀ (ts : List TypeId) (vs : List Value) (ds : List (DataW Hd)) (p : List MemPlace), (∀ t ∈ ts, P.readableRec t = true ∧ t < P.types.size) →
    DataW.TrodAll enc P W 0 (fun _ => true) true ts vs ds p → (∀ x ∈ p, x.block < W.heap.size) → DataW.TrodAll enc P W' 0 (fun b => decide (b < W.heap.size)) true ts vs ds p
  | [], [], [], p, _, h, _ => h
  | t :: ts, v :: vs, d :: ds, p, hr, h, hlt => by
    obtain ⟨p1, q1, h1, h2, rfl⟩ := h
    refine ⟨p1, q1, Below.trod hl (hr t (by simp)).1 (hr t (by simp)).2 h1 hb (fun x hx => hlt x (by simp [hx])), trodAll_below hl hb ts vs ds q1 (fun u hu => hr u (by simp [hu])) h2 (fun x hx => hlt x (by simp [hx])), rfl⟩
  | [], [], _ :: _, _, _, h, _ => by simp [DataW.TrodAll] at h
  | [], _ :: _, _, _, _, h, _ => by simp [DataW.TrodAll] at h
  | _ :: _, [], _, _, _, h, _ => by simp [DataW.TrodAll] at h
  | _ :: _, _ :: _, [], _, _, h, _ => by simp [DataW.TrodAll] at h
theorem frz_bool {J : JH} {k : Nat} {v : IV} {b : Bool} (h : frz J k v = some (.bool b)) : v = .bool b := by
  cases k with
  | zero =>
    simp only [frz] at h
    split at h
    · simpa using h
    · simp at h
  | succ k =>
    simp only [frz] at h
    split at h
    · simpa using h
    · cases v with
      | agg cs => simp only at h; cases hm : cs.mapM (frz J k) <;> rw [hm] at h <;> simp at h
      | tup cs => simp only at h; cases hm : cs.mapM (frz J k) <;> rw [hm] at h <;> simp at h
      | fn f a c => simp only at h; split at h <;> simp at h
      | sl b0 v off n cap sz =>
        simp only at h
        split at h
        · simp at h
        · split at h
          · split at h
            · split at h <;> simp at h
            · simp at h
          · simp at h
      | _ => simp at h
theorem run_law {B : IBook} (hB : IBookOK B (plainBook P)) {f : FuncId} {xs : List IV} (hp : pc B f xs = some (.bool true)) {ι : Inj} {H : Heap} (hL : Lay W ι H) {gs cargs : List Value} (h1 : IRL (W0 H) xs gs) (h2 : VRL ι gs cargs) :
    Calls P f cargs.toArray W fun e w' => e = .returned (.bool true) ∧ Below W.heap.size W w' := by
  unfold pc at hp
  split at hp
  · rename_i v J1 hc
    obtain rfl := frz_bool hp
    obtain ⟨n, hn⟩ := ic_lim hc
    have hHR : HR (W0 H) #[] H := ⟨fun b w β h => by simp [W0] at h, fun b w β cs ro h => by simp [W0] at h, fun b w β es k h => by simp [W0] at h, fun b c w v β h => by simp [W0] at h, fun β cs h => by
      simp only [W0, FH] at h
      split at h
      · rename_i cs' r hr
        simp only [Option.some.injEq] at h
        subst h
        exact ⟨r, hr⟩
      · simp at h⟩
    obtain ⟨W', c, H', k1, k2, k3⟩ := icall_ok hB n f xs #[] _ J1 hn (W0 H) H gs hHR h1
    obtain ⟨rfl, _⟩ := k3.sc
    obtain ⟨g1, g2⟩ := acall_ok (plainBook_ok P) n f gs H _ H' k1 ι W cargs hL.rel h2
    refine g2.mono fun e w' hh => ?_
    obtain ⟨ι', c, rfl, hv, hst⟩ := hh
    simp only [VR] at hv
    subst hv
    refine ⟨rfl, hst.os, hst.tape, hst.output, hst.wsize, fun k hk => hst.keep k hk fun b l hb _ ho => ?_⟩
    obtain ⟨cs, hcs⟩ := hL.ro b (hL.rel.dom b l hb)
    rcases ho with ⟨es, he⟩ | ⟨es, q, he⟩ <;> rw [hcs] at he <;> cases he
  · simp at hp
theorem law_calls {B : IBook} (hB : IBookOK B (plainBook P)) {f : FuncId} {D : Nat} {ts : List TypeId} {vs : List Value} {ds : List (DataW Hd)} {p : List MemPlace} {r : Reach} {base : Nat}
    (hok : ∀ t ∈ ts, okT P D t = true) (hA : DataW.TrodAll enc P W 0 (fun _ => true) true ts vs ds p) (hval : ∀ (j : Nat) t v, ts[j]? = some t → vs[j]? = some v → Value.okWide P W r base t v)
    (hp : ∀ xs, WTA P D ts xs → ipureL xs = true → pc B f xs = some (.bool true)) : Calls P f vs.toArray W fun e w' => e = .returned (.bool true) ∧ Below W.heap.size W w' := by
  obtain ⟨xs, gs, ι, H, m1, _, m3, m4, m5, m6⟩ := lay_all ts vs ds p hA hok hval _ _ (lay_empty W)
  exact run_law hB (hp xs m3 m4) m1 m5 m6
end
#print axioms law_calls
end Go.Proofs.Ytohclaopcejjnaa.G
namespace Go.Proofs.Ytohclaopcejjnaa.G
open Go
set_option linter.unusedVariables false
set_option linter.unusedSimpArgs false
section
variable {P : Program}
theorem wt_int {d : Nat} {t : TypeId} {k : IntKind} (ht : P.underlying t = some (.int k)) {cs : List IV} (h : WT P (d + 1) t cs) : ∃ n, cs = [.int k n] ∧ (Lit.int k n).wf = true := by
  simp only [WT, ht] at h; exact h
theorem wt_slice {d : Nat} {t e : TypeId} (ht : P.underlying t = some (.slice e)) {cs : List IV} (h : WT P (d + 1) t cs) :
    cs = [.sc (.slice none 0 0)] ∨ ∃ ys, cs = [.lst (P.cellsOf e) false ys] ∧ ys.length ≤ maxLen ∧ ∀ y ∈ ys, ∃ cs, y = mkE (P.cellsOf e) cs ∧ cs.length = P.cellsOf e ∧ WT P d e cs := by
  simp only [WT, ht] at h; exact h
theorem wt_struct {d : Nat} {t : TypeId} {fs : Array Field} (ht : P.underlying t = some (.struct fs)) {cs : List IV} (h : WT P (d + 1) t cs) : WTF (WT P d) fs.toList cs := by
  simp only [WT, ht] at h; exact h
theorem choose_list {α : Type} {f : α → IV} {p : α → Prop} : ∀ {ys : List IV}, (∀ y ∈ ys, ∃ a, y = f a ∧ p a) → ∃ l : List α, ys = l.map f ∧ ∀ a ∈ l, p a
  | [], _ => ⟨[], rfl, by simp⟩
  | y :: ys, h => by
    obtain ⟨a, rfl, ha⟩ := h y (by simp)
    obtain ⟨l, rfl, hl⟩ := choose_list (ys := ys) fun z hz => h z (by simp [hz])
    exact ⟨a :: l, rfl, fun b hb => by
      rcases List.mem_cons.1 hb with rfl | hb
      · exact ha
      · exact hl b hb⟩
theorem wt_ints {d : Nat} {t e : TypeId} {k : IntKind} (ht : P.underlying t = some (.slice e)) (he : P.underlying e = some (.int k)) (hc : P.cellsOf e = 1) {cs : List IV} (h : WT P (d + 2) t cs) :
    ∃ zs : List Int, ((cs = [.sc (.slice none 0 0)] ∧ zs = []) ∨ cs = [.lst 1 false (zs.map (IV.int k))]) ∧ zs.length ≤ maxLen ∧ ∀ z ∈ zs, (Lit.int k z).wf = true := by
  rcases wt_slice ht h with rfl | ⟨ys, rfl, h1, h2⟩
  · exact ⟨[], .inl ⟨rfl, rfl⟩, by simp, by simp⟩
  · obtain ⟨zs, rfl, hz⟩ := choose_list (f := IV.int k) (p := fun z => (Lit.int k z).wf = true) (ys := ys) (fun y hy => by
      obtain ⟨cs, rfl, _, hw⟩ := h2 y hy
      obtain ⟨n, rfl, hn⟩ := wt_int he hw
      exact ⟨n, by simp [mkE, hc], hn⟩)
    exact ⟨zs, .inr (by rw [hc]), by simpa using h1, hz⟩
theorem wf_u32 {n : Int} (h : (Lit.int .u32 n).wf = true) : 0 ≤ n ∧ n < 4294967296 := by
  simp [Lit.wf, IntKind.min, IntKind.max, IntKind.signed, IntKind.bits] at h
  omega
theorem wf_u16 {n : Int} (h : (Lit.int .u16 n).wf = true) : 0 ≤ n ∧ n < 65536 := by
  simp [Lit.wf, IntKind.min, IntKind.max, IntKind.signed, IntKind.bits] at h
  omega
theorem wf_u8 {n : Int} (h : (Lit.int .u8 n).wf = true) : 0 ≤ n ∧ n < 256 := by
  simp [Lit.wf, IntKind.min, IntKind.max, IntKind.signed, IntKind.bits] at h
  omega
theorem argOf_one {t : TypeId} (h : isAggT P t = false) (x : IV) : argOf P t [x] = x := by simp [argOf, h]
theorem argOf_agg {t : TypeId} (h : isAggT P t = true) (cs : List IV) : argOf P t cs = .agg cs := by simp [argOf, h]
end
end Go.Proofs.Ytohclaopcejjnaa.G
namespace Go.Proofs.Ytohclaopcejjnaa.G
open Go
set_option linter.unusedSimpArgs false
set_option linter.unusedVariables false
def BsM (x : IV) (l : List Int) : Prop := Bs x l ∧ l.length ≤ maxLen ∧ ∀ z ∈ l, (Lit.int .u8 z).wf = true
theorem dec_bytes {P : Program} {d : Nat} {t u : TypeId} (ht : P.underlying t = some (.slice u)) (hu : P.underlying u = some (.int .u8)) (hc : P.cellsOf u = 1) {cs : List IV} (h : WT P (d + 2) t cs) : ∃ x l, cs = [x] ∧ BsM x l := by
  obtain ⟨zs, h1 | h1, h2, h3⟩ := wt_ints ht hu hc h
  · exact ⟨_, zs, h1.1, .inl ⟨rfl, by rw [h1.2]; rfl⟩, h2, h3⟩
  · exact ⟨_, zs, h1, .lst, h2, h3⟩
theorem LsR.all {α : Type} {sz : Nat} {R : IV → α → Prop} {x : IV} {as : List α} (h : LsR sz R x as) : ∀ a ∈ as, ∃ e, R e a := fun a ha => by
  obtain ⟨i, hi, rfl⟩ := List.mem_iff_getElem.1 ha
  obtain ⟨e, he, _⟩ := h.at hi
  exact ⟨e, he⟩
theorem wf_fault {h a m : Int} (h1 : (Lit.int .u8 h).wf = true) (h2 : (Lit.int .u16 a).wf = true) (h3 : (Lit.int .u32 m).wf = true) : ∃ f : FaultT, f.cells = [.int .u8 h, .int .u16 a, .int .u32 m] ∧ f.ok := by
  have := wf_u8 h1
  have := wf_u16 h2
  have := wf_u32 h3
  obtain ⟨n, rfl⟩ := Int.eq_ofNat_of_zero_le (show 0 ≤ h by omega)
  obtain ⟨k, rfl⟩ := Int.eq_ofNat_of_zero_le (show 0 ≤ a by omega)
  exact ⟨⟨n, k, m⟩, rfl, by show n < 256; omega, by show k < 65536; omega, by show 0 ≤ m; omega, by show m < 4294967296; omega⟩
theorem dec_fault {P : Program} {d : Nat} {e a b c : TypeId} {fs : Array Field} (he : P.underlying e = some (.struct fs)) (hf : fs.toList.map (·.type) = [a, b, c]) (ha : P.underlying a = some (.int .u8)) (hb : P.underlying b = some (.int .u16)) (hc : P.underlying c = some (.int .u32)) {cs : List IV} (h : WT P (d + 2) e cs) : ∃ f : FaultT, cs = f.cells ∧ f.ok := by
  have hs := wt_struct he h
  generalize fs.toList = l at *
  match l, hf with
  | [x, y, z], hf =>
    simp only [List.map_cons, List.map_nil, List.cons.injEq, and_true] at hf
    obtain ⟨rfl, rfl, rfl⟩ := hf
    obtain ⟨_, _, rfl, h1, _, _, rfl, h2, _, _, rfl, h3, rfl⟩ := hs
    obtain ⟨n, rfl, w1⟩ := wt_int ha h1
    obtain ⟨k, rfl, w2⟩ := wt_int hb h2
    obtain ⟨m, rfl, w3⟩ := wt_int hc h3
    obtain ⟨f, hf, hok⟩ := wf_fault w1 w2 w3
    exact ⟨f, by rw [hf]; rfl, hok⟩
end Go.Proofs.Ytohclaopcejjnaa.G
namespace Go.Proofs.Ytohclaopcejjnaa.G
open Go
set_option linter.unusedSimpArgs false
set_option linter.unusedVariables false
def reachF (J : JH) (l : List IV) : Option (List Nat) := reach J l
theorem WireAt.reach {J : JH} {b : Nat} {s : IV} {E} (h : WireAt J b s E) : reachF J [.ptr b 0 0] = some (b :: blk s) := by
  obtain ⟨hb, hbs, cs, hg, he⟩ := h
  rcases hg with ⟨rfl, rfl⟩ | ⟨c, v, n, full, rfl, h1, h2, h3, h4⟩
  · have hr : refsB J b = [] := by simp [refsB, hb, irefsL, irefs]
    have key : ∀ k, reachN J (k + 1) [b] = [b] := fun k => by simp [reachN, hr]
    have h40 := key 39
    simp only [reachF, Go.Proofs.Ytohclaopcejjnaa.G.reach, irefsL, irefs, List.append_nil, h40]
    simp [hr, blk, blkOf]
  · have hbc : b ≠ c := fun h => hbs (by simp [blk, blkOf, h])
    have hr : refsB J b = [c] := by simp [refsB, hb, irefsL, irefs]
    have hf : irefsL full = [] := by
      rw [← List.take_append_drop (n * 2) full, irefsL_append, h3, h4, irefsL_pure _ he.pure]; rfl
    have hc : refsB J c = [] := by simp [refsB, h1, hf]
    have hcb : c ≠ b := fun h => hbc h.symm
    have key : ∀ k, reachN J (k + 1 + 1) [b] = [b, c] := fun k => by
      have hd : List.eraseDupsBy (fun x1 x2 : Nat => x1 == x2) [c] = [c] := by simp [List.eraseDupsBy, List.eraseDupsBy.loop]
      have hd0 : List.eraseDupsBy (fun x1 x2 : Nat => x1 == x2) [] = [] := by simp [List.eraseDupsBy, List.eraseDupsBy.loop]
      simp [reachN, hr, hc, hcb, hbc, List.eraseDups, hd, hd0]
    have h40 := key 38
    simp only [reachF, Go.Proofs.Ytohclaopcejjnaa.G.reach, irefsL, irefs, List.append_nil, h40]
    simp [hr, hc, blk, blkOf]
end Go.Proofs.Ytohclaopcejjnaa.G
namespace Go.Proofs.Ytohclaopcejjnaa.G
open Go
set_option linter.unusedSimpArgs false
set_option linter.unusedVariables false
theorem BsA.of : ∀ {X P}, X.length = P.length → (∀ i (h : i < X.length) (h' : i < P.length), Bs X[i] P[i]) → BsA X P
  | [], [], _, _ => trivial
  | x :: X, p :: P, hl, h => ⟨h 0 (by simp) (by simp), BsA.of (by simpa using hl) fun i h1 h2 => h (i + 1) (by simpa using h1) (by simpa using h2)⟩
  | [], _ :: _, hl, _ => by simp at hl
  | _ :: _, [], hl, _ => by simp at hl
theorem BsA.app : ∀ {X P Y Q}, BsA X P → BsA Y Q → BsA (X ++ Y) (P ++ Q)
  | [], [], _, _, _, k => k
  | x :: X, p :: P, _, _, h, k => ⟨h.1, BsA.app h.2 k⟩
  | [], _ :: _, _, _, h, _ => h.elim
  | _ :: _, [], _, _, h, _ => h.elim
theorem BsA.ones : ∀ {X P}, BsA X P → X.flatMap icells = X
  | [], [], _ => rfl
  | x :: X, p :: P, h => by rw [List.flatMap_cons, h.1.icells, BsA.ones h.2]; rfl
  | [], _ :: _, h => h.elim
  | _ :: _, [], h => h.elim
def G0 (J : JH) (x : IV) (cs : List IV) : Prop := Grow J x 1 cs ∨ (x = .lst 1 true [] ∧ cs = [])
theorem G0.app {J : JH} {s y : IV} {cs ds : List IV} (h : G0 J s cs) (hy : Ls 1 y ds) (hi : ds.flatMap icells = ds) (ho : ds.all ione = true) (hf : cs.length + ds.length ≤ 1000000) :
    RP (appF 1 24 s y J) fun s' J' => G0 J' s' (cs ++ ds) ∧ Fr J J' (blk s) ∧ (∀ b ∈ blk s', b ∈ blk s ∨ J.size ≤ b) := by
  rcases h with h | ⟨rfl, rfl⟩
  · exact RP_mono (h.app (by omega) (by rw [hy.cells, hi]) hy.ilen (by omega) ho (fits24 hf)) fun s' J' q => ⟨.inl q.1, q.2⟩
  · unfold appF iappend
    rw [if_pos (by omega), hy.cells, hi, hy.ilen]
    simp only
    by_cases h0 : ds.length = 0
    · have : ds = [] := List.eq_nil_of_length_eq_zero h0
      subst this
      simp only [List.length_nil, if_true, RP_some]
      exact ⟨.inr ⟨rfl, rfl⟩, .refl _ _, fun b hb => .inl hb⟩
    · have hfit : fits (([] : List IV).length + ds.length) 24 = true := fits24 (by simpa using hf)
      simp only [if_neg h0, hfit, ho, Bool.true_and, Bool.and_true, beq_self_eq_true, Bool.and_self, if_true, RP_some]
      refine ⟨.inl (.inr ⟨J.size, 0, ds.length, ds, by simp, by simp, by omega, by rw [Nat.mul_one, List.take_length]; rfl, by rw [Nat.mul_one, List.drop_length]; rfl⟩), .push _ _ _, by simp [blk, blkOf]⟩
theorem G0.frz {J : JH} {s : IV} {cs : List IV} (h : G0 J s cs) (hp : ipureL cs = true) (ho : cs.all ione = true) : ∃ u, (∀ k, frz J (k + 1) s = some u) ∧ Ls 1 u cs := by
  rcases h with h | ⟨rfl, rfl⟩
  · exact h.frzE1 hp ho
  · exact ⟨_, fun k => frz_pure J _ rfl, .lst⟩
theorem G0.blkF {J : JH} {s : IV} {cs : List IV} (h : G0 J s cs) : blkF s = some (blk s) := by
  rcases h with h | ⟨rfl, rfl⟩
  · exact h.blkF
  · rfl
theorem G0.low {J : JH} {s : IV} {cs : List IV} (h : G0 J s cs) : ∀ b ∈ blk s, b < J.size := by
  rcases h with h | ⟨rfl, rfl⟩
  · exact h.low
  · simp [blk, blkOf]
end Go.Proofs.Ytohclaopcejjnaa.G
namespace Go.Proofs.Ytohclaopcejjnaa.G
open Go
set_option linter.unusedSimpArgs false
set_option linter.unusedVariables false
def Wb (l : List Int) : Prop := ∀ z ∈ l, 0 ≤ z ∧ z < 256
theorem x8_0 (a : Int) (h0 : 0 ≤ a) (h1 : a < 256) : x8 a 0 = a := by
  obtain ⟨n, rfl⟩ := Int.eq_ofNat_of_zero_le h0
  unfold x8
  have h2 : (BitVec.ofInt 8 (n : Int)) = BitVec.ofNat 8 n := by simp
  have h3 : (BitVec.ofInt 8 0) = 0#8 := rfl
  rw [h2, h3, BitVec.xor_zero, BitVec.toNat_ofNat, Nat.mod_eq_of_lt (by omega)]
  simp only [IntKind.wrap, IntKind.bits, IntKind.signed]
  simp
  omega
theorem x8_rng (a b : Int) : 0 ≤ x8 a b ∧ x8 a b < 256 := by
  unfold x8
  simp only [IntKind.wrap, IntKind.bits, IntKind.signed]
  simp
  omega
theorem turn1_0 (q : Nat) (m : Int) (l : List Int) (k : Nat) (hl : Wb l) (hb : bitv m k = 0) : turn1 q m l k = l := by
  unfold turn1
  split
  · rename_i h
    have hi : (q + k) / 8 < l.length := by omega
    rw [hb, Int.zero_mul]
    have hg : l.getD ((q + k) / 8) 0 = l[(q + k) / 8] := by simp [hi]
    have hm := hl _ (List.getElem_mem hi)
    rw [hg, x8_0 _ hm.1 hm.2, List.set_getElem_self]
  · rfl
theorem turn1_wb (q : Nat) (m : Int) (l : List Int) (k : Nat) (hl : Wb l) : Wb (turn1 q m l k) := by
  unfold turn1
  split
  · intro z hz
    rcases List.mem_or_eq_of_mem_set hz with h | rfl
    · exact hl z h
    · exact x8_rng _ _
  · exact hl
end Go.Proofs.Ytohclaopcejjnaa.G
namespace Go.Proofs.Ytohclaopcejjnaa.G
open Go
set_option linter.unusedSimpArgs false
set_option linter.unusedVariables false
theorem Bs.ones {x : IV} {l : List Int} (h : Bs x l) (J : JH) : iscells J 1 x = some (l.map (IV.int .u8)) := by rw [Ls.cells h, ints_cells]
theorem Join1_ok {x : IV} {l : List Int} (hx : Bs x l) (hb : l.length ≤ 1000000) (J : JH) : RP (ic BI F_ref01_Join [.lst 1 true [x]] J) fun v J' => Grow J' v 1 (l.map (IV.int .u8)) ∧ Fr J J' [] ∧ ∀ b ∈ blk v, J.size ≤ b := by
  refine RP_run fn_ref01_Join rfl fun K hK => ?_
  have hg0 : Grow J (.sc (.slice none 0 0)) 1 [] := .nil
  have e0 : ((0 : Int) < ((1 : Nat) : Int)) := by omega
  have hw : IntKind.i64.wrap ((0 : Int) + 1) = 1 := rfl
  obtain ⟨v, J1, ha, hq⟩ := RP_of (hg0.app (by' := 1) (by omega) (hx.ones J) hx.len (by simp) ints_ione (fits1 (by simpa using hb)))
  obtain ⟨k1, k2, k3⟩ := hq
  have s2 : iter (dn BI l_ref01_Join_k0) 1 [v, .lst 1 true [x], .int .i64 ((1 : Nat) : Int), .int .i64 1] J1 = some (.goto 0 [v], J1) := by
    refine iter_out ?_ (by decide)
    unfold l_ref01_Join_k0
    simp -implicitDefEqProofs only [dn_o, dn_om, dn_oc, dn_ite, dn_ret, dn_join, dn_goto, iexec, evI_0, evI_succ, evI_int, evI_bool, evI_nilsl, evI_nilp, List.cons_append, List.nil_append, scal2_sc, abin, aun, ilift_some, thenI_some, onIf_bool, onJoin_goto, onJoin_ret, onJoin_ite, thenI_ite, Option.map_some, Option.map_none, decide_eq_true_eq, List.map_cons, List.map_nil, reduceIte, if_true, if_false, Bool.false_eq_true, inew, iload, istore, iwr, ird, icells, ione, one, List.getElem?_toArray, List.getElem?_cons_zero, List.getElem?_cons_succ, List.push_toArray, List.size_toArray, List.length_cons, List.length_nil, List.setIfInBounds_toArray, List.set_cons_zero, List.set_cons_succ, isplice_cons, List.drop_succ_cons, List.drop_zero, List.take_succ_cons, List.take_zero, List.drop_nil, List.take_nil, List.append_nil, List.all_cons, List.all_nil, Bool.and_true, Bool.true_and, Bool.and_self, Nat.zero_add, Nat.add_zero, Nat.reduceAdd, Nat.reduceLeDiff, Nat.reduceMul, Nat.le_refl, true_and, and_true, and_self, List.getElem?_nil, BI_zc, BI_zv, BI_co, zcT, zvT, coT, not_true_eq_false, not_false_eq_true, Bool.not_true, Bool.not_false, stepI', wantsI, ifill, ievs, Nat.reduceEqDiff, itup, Nat.le_add_left, Nat.le_add_right, iaggEq, List.foldl, iminI, iminF, imin2, min2, iisNil, isNil, ilen, Option.isNone_none, Option.isNone_some, Nat.zero_le, decide_true, decide_false, ireps, List.replicate, List.flatten_cons, List.flatten_nil, ichk, itouch, ctouch, ilooks, isame, untouched, Option.isSome_some, Bool.or_true, Bool.true_or, List.contains_nil, Int.reduceLT, Int.reduceLE, blkOf, IntKind.bits, iasNat, asNat, Int.toNat_natCast, Int.natCast_nonneg, List.length_map, endP_ret, endP_ite, Int.reduceToNat, iscells, ibnd, islice, capOf, Option.isSome_none, Bool.false_and, Bool.and_false, Bool.or_false, Bool.false_or, bne_self_eq_false, Nat.not_lt_zero, Nat.mul_one, Nat.one_mul, Nat.zero_mul, Nat.mul_zero, onJoin_out, beq_self_eq_true, Nat.sub_zero, Nat.reduceSub, List.length_set, false_implies, implies_true, forall_const, show ¬ ((1 : Int) < ((1 : Nat) : Int)) by omega]
  have s1 : dn BI l_ref01_Join_k0 [.sc (.slice none 0 0), .lst 1 true [x], .int .i64 ((1 : Nat) : Int), .int .i64 0] J = some (.goto 1 [v, .lst 1 true [x], .int .i64 ((1 : Nat) : Int), .int .i64 1], J1) := by
    have hi := Ls.icells hx
    have hh : WP (dn BI l_ref01_Join_k0 [.sc (.slice none 0 0), .lst 1 true [x], .int .i64 ((1 : Nat) : Int), .int .i64 0] J) fun o J' => o = .goto 1 [v, .lst 1 true [x], .int .i64 ((1 : Nat) : Int), .int .i64 1] ∧ J' = J1 := by
      unfold l_ref01_Join_k0
      simp -implicitDefEqProofs only [dn_ret, dn_goto, iexec, evI_0, evI_succ, evI_int, evI_bool, evI_nilsl, evI_nilp, List.cons_append, List.nil_append, scal2_sc, abin, aun, ilift_some, Option.map_some, Option.map_none, decide_eq_true_eq, List.map_cons, List.map_nil, reduceIte, if_true, if_false, Bool.false_eq_true, inew, iload, istore, iwr, ird, icells, ione, one, List.getElem?_toArray, List.getElem?_cons_zero, List.getElem?_cons_succ, List.push_toArray, List.size_toArray, List.length_cons, List.length_nil, List.setIfInBounds_toArray, List.set_cons_zero, List.set_cons_succ, isplice_cons, List.drop_succ_cons, List.drop_zero, List.take_succ_cons, List.take_zero, List.drop_nil, List.take_nil, List.append_nil, List.all_cons, List.all_nil, Bool.and_true, Bool.true_and, Bool.and_self, Nat.zero_add, Nat.add_zero, Nat.reduceAdd, Nat.reduceLeDiff, Nat.reduceMul, Nat.le_refl, true_and, and_true, and_self, List.getElem?_nil, BI_zc, BI_zv, BI_co, zcT, zvT, coT, not_true_eq_false, not_false_eq_true, Bool.not_true, Bool.not_false, stepI', wantsI, ifill, ievs, Nat.reduceEqDiff, itup, Nat.le_add_left, Nat.le_add_right, iaggEq, List.foldl, iminI, iminF, imin2, min2, iisNil, isNil, ilen, Option.isNone_none, Option.isNone_some, Nat.zero_le, decide_true, decide_false, ireps, List.replicate, List.flatten_cons, List.flatten_nil, ichk, itouch, ctouch, ilooks, isame, untouched, Option.isSome_some, Bool.or_true, Bool.true_or, List.contains_nil, Int.reduceLT, Int.reduceLE, blkOf, IntKind.bits, iasNat, asNat, Int.toNat_natCast, Int.natCast_nonneg, List.length_map, Int.reduceToNat, iscells, ibnd, islice, capOf, Option.isSome_none, Bool.false_and, Bool.and_false, Bool.or_false, Bool.false_or, bne_self_eq_false, Nat.not_lt_zero, Nat.mul_one, Nat.one_mul, Nat.zero_mul, Nat.mul_zero, beq_self_eq_true, Nat.sub_zero, Nat.reduceSub, List.length_set, false_implies, implies_true, forall_const, ↓dnW_oca, Nat.reduceLT, evI_fn, Nat.zero_lt_one, dnW_o, dnW_om, dnW_oc, dnW_ite, dnW_join, thenD_some, thenD_ite, onIfD_bool, onJoinD_out, onJoinD_ret, onJoinD_ite, Int.reduceEq, WP_some, WP_ite, byOut_goto, byOut_ret, ↓iexec_len, ↓iexec_iaddr, ↓iexec_append, ↓iexec_store, storeF_ptr, lenF_nil, lenF_lst, lenF_sl, lenF_str, iaddrF_sl, iaddrF_lst, e0, ↓hi, ha, hw]
    obtain ⟨o, J', h1, rfl, rfl⟩ := WP_of hh
    exact h1
  have s3 := iter_step s1 s2
  unfold l_ref01_Join
  simp -implicitDefEqProofs only [dn_ret, dn_goto, iexec, evI_0, evI_succ, evI_int, evI_bool, evI_nilsl, evI_nilp, List.cons_append, List.nil_append, scal2_sc, abin, aun, ilift_some, Option.map_some, Option.map_none, decide_eq_true_eq, List.map_cons, List.map_nil, reduceIte, if_true, if_false, Bool.false_eq_true, inew, iload, istore, iwr, ird, icells, ione, one, List.getElem?_toArray, List.getElem?_cons_zero, List.getElem?_cons_succ, List.push_toArray, List.size_toArray, List.length_cons, List.length_nil, List.setIfInBounds_toArray, List.set_cons_zero, List.set_cons_succ, isplice_cons, List.drop_succ_cons, List.drop_zero, List.take_succ_cons, List.take_zero, List.drop_nil, List.take_nil, List.append_nil, List.all_cons, List.all_nil, Bool.and_true, Bool.true_and, Bool.and_self, Nat.zero_add, Nat.add_zero, Nat.reduceAdd, Nat.reduceLeDiff, Nat.reduceMul, Nat.le_refl, true_and, and_true, and_self, List.getElem?_nil, BI_zc, BI_zv, BI_co, zcT, zvT, coT, not_true_eq_false, not_false_eq_true, Bool.not_true, Bool.not_false, stepI', wantsI, ifill, ievs, Nat.reduceEqDiff, itup, Nat.le_add_left, Nat.le_add_right, iaggEq, List.foldl, iminI, iminF, imin2, min2, iisNil, isNil, ilen, Option.isNone_none, Option.isNone_some, Nat.zero_le, decide_true, decide_false, ireps, List.replicate, List.flatten_cons, List.flatten_nil, ichk, itouch, ctouch, ilooks, isame, untouched, Option.isSome_some, Bool.or_true, Bool.true_or, List.contains_nil, Int.reduceLT, Int.reduceLE, blkOf, IntKind.bits, iasNat, asNat, Int.toNat_natCast, Int.natCast_nonneg, List.length_map, Int.reduceToNat, iscells, ibnd, islice, capOf, Option.isSome_none, Bool.false_and, Bool.and_false, Bool.or_false, Bool.false_or, bne_self_eq_false, Nat.not_lt_zero, Nat.mul_one, Nat.one_mul, Nat.zero_mul, Nat.mul_zero, beq_self_eq_true, Nat.sub_zero, Nat.reduceSub, List.length_set, false_implies, implies_true, forall_const, ↓dnW_oca, Nat.reduceLT, evI_fn, Nat.zero_lt_one, dnW_o, dnW_om, dnW_oc, dnW_ite, dnW_join, thenD_some, thenD_ite, onIfD_bool, onJoinD_out, onJoinD_ret, onJoinD_ite, Int.reduceEq, WP_some, WP_ite, byOut_goto, byOut_ret, ↓iexec_len, ↓iexec_iaddr, ↓iexec_append, ↓iexec_store, storeF_ptr, lenF_nil, lenF_lst, lenF_sl, lenF_str, iaddrF_sl, iaddrF_lst, dn_loop, s3, l_ref01_Join_k1]
  exact hK _ _ ⟨k1, ⟨k2.1, fun d hd _ => k2.2 d hd (by simp [blk, blkOf])⟩, fun b hb => by
    rcases k3 b hb with h | h
    · simp [blk, blkOf] at h
    · exact h⟩
end Go.Proofs.Ytohclaopcejjnaa.G
namespace Go.Proofs.Ytohclaopcejjnaa.G
open Go
set_option linter.unusedSimpArgs false
set_option linter.unusedVariables false
theorem turnN_wb (q : Nat) (m : Int) (l : List Int) (hl : Wb l) : ∀ k, Wb (turnN q m l k)
  | 0 => hl
  | k + 1 => turn1_wb q m _ k (turnN_wb q m l hl k)
end Go.Proofs.Ytohclaopcejjnaa.G
namespace Go.Proofs.Ytohclaopcejjnaa.G
open Go
set_option linter.unusedSimpArgs false
set_option linter.unusedVariables false
theorem turned_stepG (c v n q k : Nat) (full : List IV) (m : Int) (l : List Int) (hl : l.length = n) (hwb : Wb l) (hb : n ≤ 1000000) (hq : q ≤ 100000000) (hm0 : 0 ≤ m) (hm1 : m < 4294967296) (hk : k ≤ 32) (J : JH) (hJ : J[c]? = some (.cells v full false)) (hf : full.take n = l.map (IV.int .u8)) (hfl : n ≤ full.length) (P : Out IV → JH → Prop)
    (h0 : k = 32 → P (.goto 0 [.sl c v 0 n (UNK + 1) 1]) J)
    (h1 : k < 32 → ∀ J' full', J'[c]? = some (.cells v full' false) → full'.take n = (turn1 q m l k).map (IV.int .u8) → n ≤ full'.length → Fr J J' [c] → P (.goto 1 [.int .i64 (q : Int), .int .u32 m, .sl c v 0 n (UNK + 1) 1, .int .i64 ((k + 1 : Nat) : Int)]) J') :
    WP (dn BI l_ref02_Turned_k0 [.int .i64 (q : Int), .int .u32 m, .sl c v 0 n (UNK + 1) 1, .int .i64 (k : Int)] J) P := by
  by_cases hk2 : k = 32
  · subst hk2
    unfold l_ref02_Turned_k0
    simp -implicitDefEqProofs only [dn_ret, dn_goto, iexec, evI_0, evI_succ, evI_int, evI_bool, evI_nilsl, evI_nilp, List.cons_append, List.nil_append, scal2_sc, abin, aun, ilift_some, Option.map_some, Option.map_none, decide_eq_true_eq, List.map_cons, List.map_nil, reduceIte, if_true, if_false, Bool.false_eq_true, inew, iload, istore, iwr, ird, icells, ione, one, List.getElem?_toArray, List.getElem?_cons_zero, List.getElem?_cons_succ, List.push_toArray, List.size_toArray, List.length_cons, List.length_nil, List.setIfInBounds_toArray, List.set_cons_zero, List.set_cons_succ, isplice_cons, List.drop_succ_cons, List.drop_zero, List.take_succ_cons, List.take_zero, List.drop_nil, List.take_nil, List.append_nil, List.all_cons, List.all_nil, Bool.and_true, Bool.true_and, Bool.and_self, Nat.zero_add, Nat.add_zero, Nat.reduceAdd, Nat.reduceLeDiff, Nat.reduceMul, Nat.le_refl, true_and, and_true, and_self, List.getElem?_nil, BI_zc, BI_zv, BI_co, zcT, zvT, coT, not_true_eq_false, not_false_eq_true, Bool.not_true, Bool.not_false, stepI', wantsI, ifill, ievs, Nat.reduceEqDiff, itup, Nat.le_add_left, Nat.le_add_right, iaggEq, List.foldl, iminI, iminF, imin2, min2, iisNil, isNil, ilen, Option.isNone_none, Option.isNone_some, Nat.zero_le, decide_true, decide_false, ireps, List.replicate, List.flatten_cons, List.flatten_nil, ichk, itouch, ctouch, ilooks, isame, untouched, Option.isSome_some, Bool.or_true, Bool.true_or, List.contains_nil, Int.reduceLT, Int.reduceLE, blkOf, IntKind.bits, iasNat, asNat, Int.toNat_natCast, Int.natCast_nonneg, List.length_map, Int.reduceToNat, iscells, ibnd, islice, capOf, Option.isSome_none, Bool.false_and, Bool.and_false, Bool.or_false, Bool.false_or, bne_self_eq_false, Nat.not_lt_zero, Nat.mul_one, Nat.one_mul, Nat.zero_mul, Nat.mul_zero, beq_self_eq_true, Nat.sub_zero, Nat.reduceSub, List.length_set, false_implies, implies_true, forall_const, ↓dnW_oca, Nat.reduceLT, evI_fn, Nat.zero_lt_one, dnW_o, dnW_om, dnW_oc, dnW_ite, dnW_join, thenD_some, thenD_ite, onIfD_bool, onJoinD_out, onJoinD_ret, onJoinD_ite, Int.reduceEq, WP_some, WP_ite, byOut_goto, byOut_ret, ↓iexec_len, ↓iexec_iaddr, ↓iexec_append, ↓iexec_store, storeF_ptr, lenF_nil, lenF_lst, lenF_sl, lenF_str, iaddrF_sl, iaddrF_lst, show ¬ (((32 : Nat) : Int) < 32) by omega]
    exact h0 rfl
  · have e1 : ((k : Int) < 32) := by omega
    have e5 : IntKind.i64.wrap ((q : Int) + (k : Int)) = ((q + k : Nat) : Int) := by rw [wrap_i64 (by omega) (by omega)]; omega
    have e7 : IntKind.i64.wrap (((q + k : Nat) : Int).tdiv 8) = (((q + k) / 8 : Nat) : Int) := by
      rw [Int.tdiv_eq_ediv_of_nonneg (by omega), wrap_i64 (by omega) (by omega)]; omega
    have e10 : ((k : Int) < 0) = False := by simp
    have e11 : min k 32 = k := by omega
    have e12 : m.fdiv (2 ^ k) = m / 2 ^ k := Int.fdiv_eq_ediv_of_nonneg _ (by exact Int.le_of_lt (Int.pow_pos (by omega)))
    have e13 : (m / 2 ^ k).tmod 2 = bitv m k := by
      rw [Int.tmod_eq_emod_of_nonneg (Int.ediv_nonneg hm0 (Int.le_of_lt (Int.pow_pos (by omega))))]; rfl
    have e18 : IntKind.i64.wrap ((k : Int) + 1) = ((k + 1 : Nat) : Int) := by rw [wrap_i64 (by omega) (by omega)]; omega
    by_cases hlt : q + k < 8 * n
    · have e6 : (((q + k) / 8 : Nat) : Int) < (n : Int) := by omega
      have e9 : (q + k) / 8 < n := by omega
      rcases bitv_01 m k with hbv | hbv
      · have h1' := h1 (by omega) J full hJ (by rw [turn1_0 q m l k hwb hbv]; exact hf) hfl (.refl _ _)
        unfold l_ref02_Turned_k0
        simp -implicitDefEqProofs only [dn_ret, dn_goto, iexec, evI_0, evI_succ, evI_int, evI_bool, evI_nilsl, evI_nilp, List.cons_append, List.nil_append, scal2_sc, abin, aun, ilift_some, Option.map_some, Option.map_none, decide_eq_true_eq, List.map_cons, List.map_nil, reduceIte, if_true, if_false, Bool.false_eq_true, inew, iload, istore, iwr, ird, icells, ione, one, List.getElem?_toArray, List.getElem?_cons_zero, List.getElem?_cons_succ, List.push_toArray, List.size_toArray, List.length_cons, List.length_nil, List.setIfInBounds_toArray, List.set_cons_zero, List.set_cons_succ, isplice_cons, List.drop_succ_cons, List.drop_zero, List.take_succ_cons, List.take_zero, List.drop_nil, List.take_nil, List.append_nil, List.all_cons, List.all_nil, Bool.and_true, Bool.true_and, Bool.and_self, Nat.zero_add, Nat.add_zero, Nat.reduceAdd, Nat.reduceLeDiff, Nat.reduceMul, Nat.le_refl, true_and, and_true, and_self, List.getElem?_nil, BI_zc, BI_zv, BI_co, zcT, zvT, coT, not_true_eq_false, not_false_eq_true, Bool.not_true, Bool.not_false, stepI', wantsI, ifill, ievs, Nat.reduceEqDiff, itup, Nat.le_add_left, Nat.le_add_right, iaggEq, List.foldl, iminI, iminF, imin2, min2, iisNil, isNil, ilen, Option.isNone_none, Option.isNone_some, Nat.zero_le, decide_true, decide_false, ireps, List.replicate, List.flatten_cons, List.flatten_nil, ichk, itouch, ctouch, ilooks, isame, untouched, Option.isSome_some, Bool.or_true, Bool.true_or, List.contains_nil, Int.reduceLT, Int.reduceLE, blkOf, IntKind.bits, iasNat, asNat, Int.toNat_natCast, Int.natCast_nonneg, List.length_map, Int.reduceToNat, iscells, ibnd, islice, capOf, Option.isSome_none, Bool.false_and, Bool.and_false, Bool.or_false, Bool.false_or, bne_self_eq_false, Nat.not_lt_zero, Nat.mul_one, Nat.one_mul, Nat.zero_mul, Nat.mul_zero, beq_self_eq_true, Nat.sub_zero, Nat.reduceSub, List.length_set, false_implies, implies_true, forall_const, ↓dnW_oca, Nat.reduceLT, evI_fn, Nat.zero_lt_one, dnW_o, dnW_om, dnW_oc, dnW_ite, dnW_join, thenD_some, thenD_ite, onIfD_bool, onJoinD_out, onJoinD_ret, onJoinD_ite, Int.reduceEq, WP_some, WP_ite, byOut_goto, byOut_ret, ↓iexec_len, ↓iexec_iaddr, ↓iexec_append, ↓iexec_store, storeF_ptr, lenF_nil, lenF_lst, lenF_sl, lenF_str, iaddrF_sl, iaddrF_lst, e1, e5, e7, e6, e10, e11, e12, e13, hbv, e18, show ((0 : Int) == 1) = false by decide]
        exact h1'
      · have e8 : (((q + k : Nat) : Int).tmod 8) = (((q + k) % 8 : Nat) : Int) := by
          rw [Int.tmod_eq_emod_of_nonneg (by omega)]; omega
        have hkf : (q + k) / 8 < full.length := by omega
        have hat2 : full[(q + k) / 8] = IV.int .u8 l[(q + k) / 8] := by
          have : (full.take n)[(q + k) / 8]'(by rw [List.length_take]; omega) = (l.map (IV.int .u8))[(q + k) / 8]'(by rw [List.length_map]; omega) := by simp only [hf]
          rw [List.getElem_take, List.getElem_map] at this
          exact this
        have e19 : (full.drop ((q + k) / 8)).take 1 = [IV.int .u8 l[(q + k) / 8]] := by
          rw [List.drop_eq_getElem_cons hkf, hat2]; rfl
        have e21 : (q + k) / 8 + 1 ≤ full.length := by omega
        have hlt2 := lt_get hJ
        have h8 : (q + k) % 8 < 8 := Nat.mod_lt _ (by omega)
        have fin : ∀ y : Int, y = x8 l[(q + k) / 8] (2 ^ ((q + k) % 8)) → P (.goto 1 [.int .i64 (q : Int), .int .u32 m, .sl c v 0 n (UNK + 1) 1, .int .i64 ((k + 1 : Nat) : Int)]) (J.setIfInBounds c (.cells v (isplice full ((q + k) / 8) [IV.int .u8 y]) false)) := fun y hy => by
          refine h1 (by omega) _ (isplice full ((q + k) / 8) [IV.int .u8 y]) (set_get _ hlt2) ?_ ?_ (Fr.set _ _ (by simp))
          · rw [isplice_set hkf, List.take_set, hf, ← List.map_set]
            unfold turn1
            rw [hl, if_pos hlt, hbv, Int.one_mul, getD_lt (by omega), ← hy]
          · rw [isplice_set hkf, List.length_set]; exact hfl
        generalize hr0 : (q + k) % 8 = r at *
        unfold l_ref02_Turned_k0
        have hr : r = 0 ∨ r = 1 ∨ r = 2 ∨ r = 3 ∨ r = 4 ∨ r = 5 ∨ r = 6 ∨ r = 7 := by omega
        rcases hr with rfl | rfl | rfl | rfl | rfl | rfl | rfl | rfl <;>
        · simp -implicitDefEqProofs only [dn_ret, dn_goto, iexec, evI_0, evI_succ, evI_int, evI_bool, evI_nilsl, evI_nilp, List.cons_append, List.nil_append, scal2_sc, abin, aun, ilift_some, Option.map_some, Option.map_none, decide_eq_true_eq, List.map_cons, List.map_nil, reduceIte, if_true, if_false, Bool.false_eq_true, inew, iload, istore, iwr, ird, icells, ione, one, List.getElem?_toArray, List.getElem?_cons_zero, List.getElem?_cons_succ, List.push_toArray, List.size_toArray, List.length_cons, List.length_nil, List.setIfInBounds_toArray, List.set_cons_zero, List.set_cons_succ, isplice_cons, List.drop_succ_cons, List.drop_zero, List.take_succ_cons, List.take_zero, List.drop_nil, List.take_nil, List.append_nil, List.all_cons, List.all_nil, Bool.and_true, Bool.true_and, Bool.and_self, Nat.zero_add, Nat.add_zero, Nat.reduceAdd, Nat.reduceLeDiff, Nat.reduceMul, Nat.le_refl, true_and, and_true, and_self, List.getElem?_nil, BI_zc, BI_zv, BI_co, zcT, zvT, coT, not_true_eq_false, not_false_eq_true, Bool.not_true, Bool.not_false, stepI', wantsI, ifill, ievs, Nat.reduceEqDiff, itup, Nat.le_add_left, Nat.le_add_right, iaggEq, List.foldl, iminI, iminF, imin2, min2, iisNil, isNil, ilen, Option.isNone_none, Option.isNone_some, Nat.zero_le, decide_true, decide_false, ireps, List.replicate, List.flatten_cons, List.flatten_nil, ichk, itouch, ctouch, ilooks, isame, untouched, Option.isSome_some, Bool.or_true, Bool.true_or, List.contains_nil, Int.reduceLT, Int.reduceLE, blkOf, IntKind.bits, iasNat, asNat, Int.toNat_natCast, Int.natCast_nonneg, List.length_map, Int.reduceToNat, iscells, ibnd, islice, capOf, Option.isSome_none, Bool.false_and, Bool.and_false, Bool.or_false, Bool.false_or, bne_self_eq_false, Nat.not_lt_zero, Nat.mul_one, Nat.one_mul, Nat.zero_mul, Nat.mul_zero, beq_self_eq_true, Nat.sub_zero, Nat.reduceSub, List.length_set, false_implies, implies_true, forall_const, ↓dnW_oca, Nat.reduceLT, evI_fn, Nat.zero_lt_one, dnW_o, dnW_om, dnW_oc, dnW_ite, dnW_join, thenD_some, thenD_ite, onIfD_bool, onJoinD_out, onJoinD_ret, onJoinD_ite, Int.reduceEq, WP_some, WP_ite, byOut_goto, byOut_ret, ↓iexec_len, ↓iexec_iaddr, ↓iexec_append, ↓iexec_store, storeF_ptr, lenF_nil, lenF_lst, lenF_sl, lenF_str, iaddrF_sl, iaddrF_lst, e1, e5, e7, e6, e8, e9, e10, e11, e12, e13, hbv, e18, show ((1 : Int) == 1) = true by decide, hJ, e19, e21, ipureL, ipure, grp, mkE, List.headD, lt_UNK (show 8 ≤ 1000000 by omega)]
          exact fin _ rfl
    · have e6 : ¬ ((((q + k) / 8 : Nat) : Int) < (n : Int)) := by omega
      have h1' := h1 (by omega) J full hJ (by unfold turn1; rw [hl, if_neg hlt]; exact hf) hfl (.refl _ _)
      unfold l_ref02_Turned_k0
      simp -implicitDefEqProofs only [dn_ret, dn_goto, iexec, evI_0, evI_succ, evI_int, evI_bool, evI_nilsl, evI_nilp, List.cons_append, List.nil_append, scal2_sc, abin, aun, ilift_some, Option.map_some, Option.map_none, decide_eq_true_eq, List.map_cons, List.map_nil, reduceIte, if_true, if_false, Bool.false_eq_true, inew, iload, istore, iwr, ird, icells, ione, one, List.getElem?_toArray, List.getElem?_cons_zero, List.getElem?_cons_succ, List.push_toArray, List.size_toArray, List.length_cons, List.length_nil, List.setIfInBounds_toArray, List.set_cons_zero, List.set_cons_succ, isplice_cons, List.drop_succ_cons, List.drop_zero, List.take_succ_cons, List.take_zero, List.drop_nil, List.take_nil, List.append_nil, List.all_cons, List.all_nil, Bool.and_true, Bool.true_and, Bool.and_self, Nat.zero_add, Nat.add_zero, Nat.reduceAdd, Nat.reduceLeDiff, Nat.reduceMul, Nat.le_refl, true_and, and_true, and_self, List.getElem?_nil, BI_zc, BI_zv, BI_co, zcT, zvT, coT, not_true_eq_false, not_false_eq_true, Bool.not_true, Bool.not_false, stepI', wantsI, ifill, ievs, Nat.reduceEqDiff, itup, Nat.le_add_left, Nat.le_add_right, iaggEq, List.foldl, iminI, iminF, imin2, min2, iisNil, isNil, ilen, Option.isNone_none, Option.isNone_some, Nat.zero_le, decide_true, decide_false, ireps, List.replicate, List.flatten_cons, List.flatten_nil, ichk, itouch, ctouch, ilooks, isame, untouched, Option.isSome_some, Bool.or_true, Bool.true_or, List.contains_nil, Int.reduceLT, Int.reduceLE, blkOf, IntKind.bits, iasNat, asNat, Int.toNat_natCast, Int.natCast_nonneg, List.length_map, Int.reduceToNat, iscells, ibnd, islice, capOf, Option.isSome_none, Bool.false_and, Bool.and_false, Bool.or_false, Bool.false_or, bne_self_eq_false, Nat.not_lt_zero, Nat.mul_one, Nat.one_mul, Nat.zero_mul, Nat.mul_zero, beq_self_eq_true, Nat.sub_zero, Nat.reduceSub, List.length_set, false_implies, implies_true, forall_const, ↓dnW_oca, Nat.reduceLT, evI_fn, Nat.zero_lt_one, dnW_o, dnW_om, dnW_oc, dnW_ite, dnW_join, thenD_some, thenD_ite, onIfD_bool, onJoinD_out, onJoinD_ret, onJoinD_ite, Int.reduceEq, WP_some, WP_ite, byOut_goto, byOut_ret, ↓iexec_len, ↓iexec_iaddr, ↓iexec_append, ↓iexec_store, storeF_ptr, lenF_nil, lenF_lst, lenF_sl, lenF_str, iaddrF_sl, iaddrF_lst, e1, e5, e7, e6, e18]
      exact h1'
end Go.Proofs.Ytohclaopcejjnaa.G
namespace Go.Proofs.Ytohclaopcejjnaa.G
open Go
set_option linter.unusedSimpArgs false
set_option linter.unusedVariables false
set_option maxHeartbeats 1000000
theorem Turned_ok {x : IV} {l : List Int} (hx : Bs x l) (hwb : Wb l) (hb : l.length ≤ 1000000) (hl0 : l ≠ []) (q : Nat) (hq : q ≤ 100000000) (m : Int) (hm0 : 0 ≤ m) (hm1 : m < 4294967296) : ∃ y, pc BI F_ref02_Turned [x, nI q, .int .u32 m] = some y ∧ Bs y (turnN q m l 32) := by
  refine pcW fn_ref02_Turned rfl fun K hK => ?_
  unfold l_ref02_Turned
  simp -implicitDefEqProofs only [go_sem, dnW_ite, reduceIte, Nat.reduceAdd, Nat.reduceLeDiff, Nat.reduceMul, Nat.reduceEqDiff, Int.reduceLT, Int.reduceLE, Int.reduceToNat, Nat.reduceSub, Nat.reduceLT, Int.reduceEq, BitVec.reduceOfInt, BitVec.reduceOfNat, Int.reduceGT, Int.reduceGE, Int.reduceBEq, Int.reduceBNe, Nat.reduceGT, Nat.reduceBEq, Nat.reduceBNe, Int.reduceAdd, Int.reduceSub, Int.reduceNeg, ipureL, ipure, grp, mkE, List.headD, ↓hx.icells, ↓hx.one, ↓hx.pure]
  refine WP_call (Join1_ok hx hb _) fun v J hv => ?_
  obtain ⟨hg, hf, hn⟩ := hv
  have hpos : 0 < l.length := List.length_pos_iff.2 hl0
  rcases hg with ⟨rfl, h0⟩ | ⟨b, ver, n, full, rfl, h1, h2, h3, h4⟩
  · rw [List.map_eq_nil_iff] at h0; exact absurd h0 hl0
  have hnl : n = l.length := by
    have := congrArg List.length h3
    rw [List.length_take, List.length_map] at this
    omega
  subst hnl
  rw [Nat.mul_one] at h2 h3
  simp -implicitDefEqProofs only [go_sem, dnW_ite, reduceIte, Nat.reduceAdd, Nat.reduceLeDiff, Nat.reduceMul, Nat.reduceEqDiff, Int.reduceLT, Int.reduceLE, Int.reduceToNat, Nat.reduceSub, Nat.reduceLT, Int.reduceEq, BitVec.reduceOfInt, BitVec.reduceOfNat, Int.reduceGT, Int.reduceGE, Int.reduceBEq, Int.reduceBNe, Nat.reduceGT, Nat.reduceBEq, Nat.reduceBNe, Int.reduceAdd, Int.reduceSub, Int.reduceNeg, dn_loop]
  refine WP_range (by decide) 32 (fun k vs J => vs = [nI q, .int .u32 m, .sl b ver 0 l.length (UNK + 1) 1, nI k] ∧ ∃ full, J[b]? = some (.cells ver full false) ∧ full.take l.length = (turnN q m l k).map (IV.int .u8) ∧ l.length ≤ full.length) ?_ ⟨rfl, full, h1, h3, h2⟩
  rintro k vs J2 ⟨rfl, full2, k1, k2, k3⟩ hk K1 g1 g2 g3
  refine turned_stepG b ver l.length q k full2 m (turnN q m l k) (turnN_len _ _ _ _) (turnN_wb q m l hwb k) hb hq hm0 hm1 hk J2 k1 k2 k3 K1 (fun e => ?_) (fun hlt J' full' i1 i2 i3 _ => ?_)
  · refine g2 _ _ ?_
    subst e
    unfold l_ref02_Turned_k1
    simp -implicitDefEqProofs only [go_sem, dnW_ite, reduceIte, Nat.reduceAdd, Nat.reduceLeDiff, Nat.reduceMul, Nat.reduceEqDiff, Int.reduceLT, Int.reduceLE, Int.reduceToNat, Nat.reduceSub, Nat.reduceLT, Int.reduceEq, BitVec.reduceOfInt, BitVec.reduceOfNat, Int.reduceGT, Int.reduceGE, Int.reduceBEq, Int.reduceBNe, Nat.reduceGT, Nat.reduceBEq, Nat.reduceBNe, Int.reduceAdd, Int.reduceSub, Int.reduceNeg]
    have hln := turnN_len q m l 32
    obtain ⟨f, hf⟩ := frz_bytes (J := J2) (b := b) (n := l.length) (k := ver) (κ := .u8) (cap := UNK + 1) (xs := turnN q m l 32) (by
      simp only [ird, k1, true_and, Nat.zero_add, List.drop_zero, Nat.mul_one]
      rw [if_pos k3, k2]) hln.symm
    exact hK _ _ _ hf (.inr ⟨f, rfl⟩)
  · exact g1 hlt _ _ ⟨rfl, full', i1, i2, i3⟩
theorem RSpoil_ok {x : IV} {l : List Int} (hx : Bs x l) (hwb : Wb l) (hb : l.length ≤ 1000000) (f : FaultT) (hf : f.ok) : ∃ y, pc BI F_ref18_Spoil [x, f.iv] = some y ∧ Bs y (spoilF l f.at' f.mask) := by
  obtain ⟨o1, o2, o3, o4⟩ := hf
  by_cases hl0 : l = []
  · subst hl0
    refine ⟨.sc (.slice none 0 0), pcE fn_ref18_Spoil rfl fun K hK => ?_, ?_⟩
    · unfold l_ref18_Spoil FaultT.iv
      simp -implicitDefEqProofs only [go_sem, dnW_ite, reduceIte, Nat.reduceAdd, Nat.reduceLeDiff, Nat.reduceMul, Nat.reduceEqDiff, Int.reduceLT, Int.reduceLE, Int.reduceToNat, Nat.reduceSub, Nat.reduceLT, Int.reduceEq, BitVec.reduceOfInt, BitVec.reduceOfNat, Int.reduceGT, Int.reduceGE, Int.reduceBEq, Int.reduceBNe, Nat.reduceGT, Nat.reduceBEq, Nat.reduceBNe, Int.reduceAdd, Int.reduceSub, Int.reduceNeg, Bs.lenF hx, List.length_nil]
      exact hK [_] _ (frzE rfl rfl)
    · have : spoilF [] f.at' f.mask = [] := List.length_eq_zero_iff.1 (by rw [spoilF, turnN_len]; rfl)
      rw [this]; exact .nil
  · have hpos : 0 < l.length := List.length_pos_iff.2 hl0
    have hq : f.at' % (8 * l.length) < 8 * l.length := Nat.mod_lt _ (by omega)
    obtain ⟨y, hy, hyl⟩ := Turned_ok hx hwb hb hl0 (f.at' % (8 * l.length)) (by omega) f.mask o3 o4
    refine ⟨y, pcE fn_ref18_Spoil rfl fun K hK => ?_, hyl⟩
    have e0 : ((l.length : Int) == 0) = false := by rw [beq_eq_false_iff_ne]; omega
    have e1 : IntKind.i64.wrap (f.at' : Int) = (f.at' : Int) := wrap_i64 (by omega) (by omega)
    have e2 : IntKind.i64.wrap (8 * (l.length : Int)) = ((8 * l.length : Nat) : Int) := by rw [wrap_i64 (by omega) (by omega)]; omega
    have e3 : (f.at' : Int).tmod ((8 * l.length : Nat) : Int) = ((f.at' % (8 * l.length) : Nat) : Int) := by rw [Int.tmod_eq_emod_of_nonneg (by omega)]; simp
    have e4 : ¬ (((8 * l.length : Nat) : Int) = 0) := by omega
    unfold l_ref18_Spoil FaultT.iv
    simp -implicitDefEqProofs only [go_sem, dnW_ite, reduceIte, Nat.reduceAdd, Nat.reduceLeDiff, Nat.reduceMul, Nat.reduceEqDiff, Int.reduceLT, Int.reduceLE, Int.reduceToNat, Nat.reduceSub, Nat.reduceLT, Int.reduceEq, BitVec.reduceOfInt, BitVec.reduceOfNat, Int.reduceGT, Int.reduceGE, Int.reduceBEq, Int.reduceBNe, Nat.reduceGT, Nat.reduceBEq, Nat.reduceBNe, Int.reduceAdd, Int.reduceSub, Int.reduceNeg, Bs.lenF hx, e0, e1, e2, e3, e4, dcp hy (by simp [ipureL, ipure, hx.pure])]
    exact hK [_] _ (frzE (by simpa [itup] using hyl.pure) rfl)
end Go.Proofs.Ytohclaopcejjnaa.G
namespace Go.Proofs.Ytohclaopcejjnaa.G
open Go
set_option linter.unusedSimpArgs false
set_option linter.unusedVariables false
def polyC : BitVec 32 := 2197175160#32
def stB (s : BitVec 32) (b : Bool) : BitVec 32 := if (s.getLsbD 0 ^^ b) = true then (s >>> 1) ^^^ polyC else s >>> 1
def reg (s : BitVec 32) (bs : List Bool) : BitVec 32 := bs.foldl stB s
theorem stB_lin (s t : BitVec 32) (b c : Bool) : stB (s ^^^ t) (b ^^ c) = stB s b ^^^ stB t c := by
  unfold stB
  rw [BitVec.getLsbD_xor, BitVec.ushiftRight_xor_distrib]
  have hp : polyC ^^^ polyC = 0#32 := BitVec.xor_self
  cases h1 : s.getLsbD 0 <;> cases h2 : t.getLsbD 0 <;> cases b <;> cases c <;> simp [BitVec.xor_assoc] <;> (try ac_rfl)
  all_goals (rw [BitVec.xor_comm polyC, BitVec.xor_assoc, hp, BitVec.xor_zero])
theorem reg_lin : ∀ (bs cs : List Bool) (s t : BitVec 32), bs.length = cs.length → reg (s ^^^ t) (List.zipWith xor bs cs) = reg s bs ^^^ reg t cs
  | [], [], s, t, _ => rfl
  | b :: bs, c :: cs, s, t, h => by
    show reg (stB (s ^^^ t) (b ^^ c)) (List.zipWith xor bs cs) = reg (stB s b) bs ^^^ reg (stB t c) cs
    rw [stB_lin]
    exact reg_lin bs cs _ _ (by simpa using h)
  | [], _ :: _, _, _, h => by simp at h
  | _ :: _, [], _, _, h => by simp at h
def Z (s : BitVec 32) : BitVec 32 := stB s false
theorem Z_lin (s t : BitVec 32) : Z (s ^^^ t) = Z s ^^^ Z t := by
  have := stB_lin s t false false
  simpa [Z] using this
theorem Z_zero : Z 0#32 = 0#32 := by decide
theorem Z_ker {s : BitVec 32} (h : Z s = 0#32) : s = 0#32 := by
  unfold Z stB at h
  cases h0 : s.getLsbD 0 with
  | true =>
    rw [h0] at h
    simp only [Bool.xor_false, if_true] at h
    have h1 := congrArg (fun x => x.getLsbD 31) h
    simp only [BitVec.getLsbD_xor, BitVec.getLsbD_ushiftRight] at h1
    have h2 : s.getLsbD (1 + 31) = false := BitVec.getLsbD_of_ge _ _ (by omega)
    rw [h2] at h1
    exact absurd h1 (by decide)
  | false =>
    rw [h0] at h
    simp only [Bool.xor_false, Bool.false_eq_true, if_false] at h
    apply BitVec.eq_of_getLsbD_eq
    intro i hi
    cases i with
    | zero => rw [h0]; rfl
    | succ i =>
      have h1 := congrArg (fun x => x.getLsbD i) h
      simp only [BitVec.getLsbD_ushiftRight] at h1
      rw [show i + 1 = 1 + i by omega, h1]
      simp
def Zn : Nat → BitVec 32 → BitVec 32
  | 0, s => s
  | n + 1, s => Zn n (Z s)
theorem Zn_lin : ∀ (n : Nat) (s t : BitVec 32), Zn n (s ^^^ t) = Zn n s ^^^ Zn n t
  | 0, s, t => rfl
  | n + 1, s, t => by rw [Zn, Z_lin, Zn_lin n]; rfl
theorem Zn_ker : ∀ (n : Nat) {s : BitVec 32}, Zn n s = 0#32 → s = 0#32
  | 0, s, h => h
  | n + 1, s, h => Z_ker (Zn_ker n h)
theorem Zn_inj {n : Nat} {s t : BitVec 32} (h : Zn n s = Zn n t) : s = t := by
  have h1 : Zn n (s ^^^ t) = 0#32 := by rw [Zn_lin, h, BitVec.xor_self]
  have h2 := Zn_ker n h1
  have h3 : s ^^^ t ^^^ t = 0#32 ^^^ t := by rw [h2]
  rw [BitVec.xor_assoc, BitVec.xor_self, BitVec.xor_zero, BitVec.zero_xor] at h3
  exact h3
theorem reg_zeros : ∀ (n : Nat) (s : BitVec 32), reg s (List.replicate n false) = Zn n s
  | 0, s => rfl
  | n + 1, s => by
    rw [List.replicate_succ]
    show reg (stB s false) (List.replicate n false) = _
    rw [reg_zeros n]; rfl
theorem Zn_zero : ∀ n, Zn n 0#32 = 0#32
  | 0 => rfl
  | n + 1 => by rw [Zn, Z_zero, Zn_zero n]
def wordB : List Bool → BitVec 32
  | [] => 0#32
  | b :: r => (if b = true then 1#32 else 0#32) ^^^ (wordB r <<< 1)
theorem wordB_at : ∀ (w : List Bool) (i : Nat), i < 32 → (wordB w).getLsbD i = w.getD i false
  | [], i, h => by simp [wordB]
  | b :: r, 0, h => by
    rw [wordB, BitVec.getLsbD_xor]
    cases b <;> simp
  | b :: r, i + 1, h => by
    rw [wordB, BitVec.getLsbD_xor, BitVec.getLsbD_shiftLeft]
    have ih := wordB_at r i (by omega)
    cases b <;> simp [ih, h]
theorem Z_shl {y : BitVec 32} (h : y.getLsbD 31 = false) : Z (y <<< 1) = y := by
  unfold Z stB
  have h0 : (y <<< 1).getLsbD 0 = false := by simp
  rw [h0]
  simp only [Bool.xor_false, Bool.false_eq_true, if_false]
  apply BitVec.eq_of_getLsbD_eq
  intro i hi
  rw [BitVec.getLsbD_ushiftRight, BitVec.getLsbD_shiftLeft]
  by_cases h31 : i = 31
  · subst h31; simp; rw [← BitVec.getLsbD_eq_getElem]; exact h
  · have : 1 + i < 32 := by omega
    have h2 : 1 + i - 1 = i := by omega
    simp [this, h2]
theorem stB_Z (s : BitVec 32) (b : Bool) : stB s b = Z (s ^^^ (if b = true then 1#32 else 0#32)) := by
  have h := stB_lin s 0#32 false b
  have h2 := Z_lin s (if b = true then 1#32 else 0#32)
  rw [h2]
  rw [BitVec.xor_zero, Bool.false_xor] at h
  rw [h]
  congr 1
  cases b <;> decide
theorem reg_word : ∀ (w : List Bool) (s : BitVec 32), w.length ≤ 32 → reg s w = Zn w.length (s ^^^ wordB w)
  | [], s, _ => by simp [reg, Zn, wordB]
  | b :: r, s, h => by
    have hr : r.length ≤ 31 := by simpa using h
    show reg (stB s b) r = Zn r.length (Z (s ^^^ wordB (b :: r)))
    rw [reg_word r _ (by omega), stB_Z, wordB, ← BitVec.xor_assoc, Z_lin (s ^^^ _) (wordB r <<< 1), Z_shl]
    rw [wordB_at r 31 (by omega)]
    rw [List.getD_eq_getElem?_getD, List.getElem?_eq_none (by omega)]; rfl
theorem wordB_ne {w : List Bool} (hl : w.length ≤ 32) (h : true ∈ w) : wordB w ≠ 0#32 := by
  intro e
  obtain ⟨i, hi, hw⟩ := List.mem_iff_getElem.1 h
  have h1 := wordB_at w i (by omega)
  rw [e] at h1
  simp [List.getD_eq_getElem?_getD, hi, hw] at h1
theorem reg_burst {bs cs : List Bool} (s : BitVec 32) (hl : bs.length = cs.length) (a c : Nat) (w : List Bool) (hw : w.length ≤ 32) (ht : true ∈ w) (he : List.zipWith xor bs cs = List.replicate a false ++ w ++ List.replicate c false) : reg s bs ≠ reg s cs := by
  intro e
  have h1 := reg_lin bs cs s s hl
  rw [BitVec.xor_self, e, BitVec.xor_self, he] at h1
  unfold reg at h1
  rw [List.foldl_append, List.foldl_append] at h1
  have h2 := reg_zeros a 0#32
  rw [Zn_zero] at h2
  unfold reg at h2
  rw [h2] at h1
  have h3 := reg_word w 0#32 hw
  unfold reg at h3
  rw [h3, BitVec.zero_xor] at h1
  have h4 := reg_zeros c (Zn w.length (wordB w))
  unfold reg at h4
  rw [h4] at h1
  exact wordB_ne hw ht (Zn_ker _ (Zn_ker _ h1))
end Go.Proofs.Ytohclaopcejjnaa.G
namespace Go.Proofs.Ytohclaopcejjnaa.G
open Go
set_option linter.unusedSimpArgs false
set_option linter.unusedVariables false
set_option maxRecDepth 20000
set_option maxHeartbeats 2000000
abbrev Byt := BitVec 8
theorem by8_one {l : List (BitVec 8)} : (l.map by8).all ione = true := by simp [ione, one]
theorem by8_pure {l : List (BitVec 8)} : ipureL (l.map by8) = true := ipureL_iff.2 fun x hx => by
  obtain ⟨y, _, rfl⟩ := List.mem_map.1 hx; rfl
theorem by8_cells (l : List (BitVec 8)) : (l.map by8).flatMap icells = l.map by8 := by
  induction l with
  | nil => rfl
  | cons a l ih => rw [List.map_cons, List.flatMap_cons, ih]; rfl
def nB (n : Nat) : Byt := BitVec.ofNat 8 n
theorem ofNat8 {n : Nat} (h : n < 256) : (BitVec.ofNat 8 n).toNat = n := by rw [BitVec.toNat_ofNat]; exact Nat.mod_eq_of_lt h
def leW (w : BitVec 32) : List Byt := [w.setWidth 8, (w >>> 8).setWidth 8, (w >>> 16).setWidth 8, (w >>> 24).setWidth 8]
theorem leW4 (w : BitVec 32) : leW w = [w.setWidth 8, (w >>> 8).setWidth 8, (w >>> 16).setWidth 8, (w >>> 24).setWidth 8] := rfl
abbrev BR (e : IV) (p : List Byt) : Prop := Ls 1 e (p.map by8)
theorem wrap_nB (n : Nat) : IntKind.u8.wrap (n : Int) = ((nB n).toNat : Int) := by
  simp only [IntKind.wrap, IntKind.bits, IntKind.signed, nB, BitVec.toNat_ofNat]; simp
theorem by8_grow (a b : List Byt) : a.map by8 ++ b.map by8 = (a ++ b).map by8 := by simp
theorem flat_le {ps : List (List Byt)} (i : Nat) : (ps.take i).flatten.length ≤ ps.flatten.length := by
  conv => rhs; rw [← List.take_append_drop i ps, List.flatten_append, List.length_append]
  omega
theorem RJoin_ok {x : IV} {ps : List (List Byt)} (hx : LsR 1 BR x ps) (hn : ps.length ≤ 1000) (hb : ps.flatten.length ≤ 1000000) : ∃ u, pc BI F_ref01_Join [x] = some u ∧ Ls 1 u (ps.flatten.map by8) := by
  refine pcW fn_ref01_Join rfl fun K hK => ?_
  unfold l_ref01_Join
  simp -implicitDefEqProofs only [go_sem, dnW_ite, reduceIte, Nat.reduceAdd, Nat.reduceLeDiff, Nat.reduceMul, Nat.reduceEqDiff, Int.reduceLT, Int.reduceLE, Int.reduceToNat, Nat.reduceSub, Nat.reduceLT, Int.reduceEq, BitVec.reduceOfInt, BitVec.reduceOfNat, Int.reduceGT, Int.reduceGE, Int.reduceBEq, Int.reduceBNe, Nat.reduceGT, Nat.reduceBEq, Nat.reduceBNe, Int.reduceAdd, Int.reduceSub, Int.reduceNeg, hx.lenF, dn_loop]
  refine WP_range (by decide) ps.length (fun i vs J => ∃ out, vs = [out, x, nI ps.length, nI i] ∧ Grow J out 1 ((ps.take i).flatten.map by8)) ?_ ⟨(.sc (.slice none 0 0)), rfl, .nil⟩
  rintro i vs J ⟨out, rfl, hg⟩ hi K1 g1 g2 g3
  unfold l_ref01_Join_k0
  by_cases h : i < ps.length
  · obtain ⟨e, he, hat⟩ := hx.at h
    have hw1 := wrapS h (show ps.length ≤ 9223372036854775807 by omega)
    have hfl := flat_le (ps := ps) (i + 1)
    rw [List.take_succ_eq_append_getElem h, List.flatten_append] at hfl
    simp only [List.flatten_cons, List.flatten_nil, List.append_nil, List.length_append] at hfl
    simp -implicitDefEqProofs only [go_sem, dnW_ite, reduceIte, Nat.reduceAdd, Nat.reduceLeDiff, Nat.reduceMul, Nat.reduceEqDiff, Int.reduceLT, Int.reduceLE, Int.reduceToNat, Nat.reduceSub, Nat.reduceLT, Int.reduceEq, BitVec.reduceOfInt, BitVec.reduceOfNat, Int.reduceGT, Int.reduceGE, Int.reduceBEq, Int.reduceBNe, Nat.reduceGT, Nat.reduceBEq, Nat.reduceBNe, Int.reduceAdd, Int.reduceSub, Int.reduceNeg, show ((i : Int) < (ps.length : Int)) by omega, hat, ↓he.icells]
    refine WP_bind (hg.app (m := ps[i].length) (ds := ps[i].map by8) (by omega) (by rw [he.cells, by8_cells]) (by rw [he.ilen, List.length_map]) (by simp) by8_one (fits1 ?_)) fun out' J' hs => ?_
    · simp only [List.length_map]; omega
    simp -implicitDefEqProofs only [go_sem, dnW_ite, reduceIte, Nat.reduceAdd, Nat.reduceLeDiff, Nat.reduceMul, Nat.reduceEqDiff, Int.reduceLT, Int.reduceLE, Int.reduceToNat, Nat.reduceSub, Nat.reduceLT, Int.reduceEq, BitVec.reduceOfInt, BitVec.reduceOfNat, Int.reduceGT, Int.reduceGE, Int.reduceBEq, Int.reduceBNe, Nat.reduceGT, Nat.reduceBEq, Nat.reduceBNe, Int.reduceAdd, Int.reduceSub, Int.reduceNeg, hw1]
    refine g1 h _ _ ⟨out', rfl, ?_⟩
    rw [List.take_succ_eq_append_getElem h, List.flatten_append]
    simp only [List.flatten_cons, List.flatten_nil, List.append_nil]
    rw [← by8_grow]
    exact hs.1
  · simp -implicitDefEqProofs only [go_sem, dnW_ite, reduceIte, Nat.reduceAdd, Nat.reduceLeDiff, Nat.reduceMul, Nat.reduceEqDiff, Int.reduceLT, Int.reduceLE, Int.reduceToNat, Nat.reduceSub, Nat.reduceLT, Int.reduceEq, BitVec.reduceOfInt, BitVec.reduceOfNat, Int.reduceGT, Int.reduceGE, Int.reduceBEq, Int.reduceBNe, Nat.reduceGT, Nat.reduceBEq, Nat.reduceBNe, Int.reduceAdd, Int.reduceSub, Int.reduceNeg, show ¬ ((i : Int) < (ps.length : Int)) by omega]
    refine g2 _ _ ?_
    unfold l_ref01_Join_k1
    simp -implicitDefEqProofs only [go_sem, dnW_ite, reduceIte, Nat.reduceAdd, Nat.reduceLeDiff, Nat.reduceMul, Nat.reduceEqDiff, Int.reduceLT, Int.reduceLE, Int.reduceToNat, Nat.reduceSub, Nat.reduceLT, Int.reduceEq, BitVec.reduceOfInt, BitVec.reduceOfNat, Int.reduceGT, Int.reduceGE, Int.reduceBEq, Int.reduceBNe, Nat.reduceGT, Nat.reduceBEq, Nat.reduceBNe, Int.reduceAdd, Int.reduceSub, Int.reduceNeg]
    rw [List.take_of_length_le (by omega)] at hg
    obtain ⟨u, hu, hl⟩ := hg.frz1 by8_pure by8_one
    exact hK _ _ u hu hl
theorem LsR.cons {α : Type} {sz : Nat} {R : IV → α → Prop} {f : Bool} {xs : List IV} {as : List α} (hl : xs.length = as.length) (h : ∀ i (h : i < xs.length) (h' : i < as.length), R xs[i] as[i]) : LsR sz R (.lst sz f xs) as := ⟨xs, .lst, hl, h⟩
theorem LsR2 {sz : Nat} {f : Bool} {a b : IV} {p q : List Byt} (ha : BR a p) (hb : BR b q) : LsR sz BR (.lst sz f [a, b]) [p, q] := .cons rfl fun i h h' => by
  match i, h with
  | 0, _ => exact ha
  | 1, _ => exact hb
theorem RLow_ok (w : BitVec 32) : ∃ u, pc BI F_ref01_Low [.int .u64 (w.toNat : Int), nI 4] = some u ∧ BR u (leW w) := by
  refine pcW fn_ref01_Low rfl fun K hK => ?_
  have hw := w.isLt
  unfold l_ref01_Low
  simp -implicitDefEqProofs only [go_sem, dnW_ite, reduceIte, Nat.reduceAdd, Nat.reduceLeDiff, Nat.reduceMul, Nat.reduceEqDiff, Int.reduceLT, Int.reduceLE, Int.reduceToNat, Nat.reduceSub, Nat.reduceLT, Int.reduceEq, BitVec.reduceOfInt, BitVec.reduceOfNat, Int.reduceGT, Int.reduceGE, Int.reduceBEq, Int.reduceBNe, Nat.reduceGT, Nat.reduceBEq, Nat.reduceBNe, Int.reduceAdd, Int.reduceSub, Int.reduceNeg, dn_loop]
  refine WP_range (by decide) 4 (fun i vs J => ∃ out, vs = [.int .u64 ((w.toNat / 256 ^ i : Nat) : Int), nI 4, out, nI i] ∧ Grow J out 1 (((List.range i).map fun j => nB (w.toNat / 256 ^ j)).map by8)) ?_ ⟨(.sc (.slice none 0 0)), by simp, .nil⟩
  rintro i vs J ⟨out, rfl, hg⟩ hi K1 g1 g2 g3
  unfold l_ref01_Low_k0
  by_cases h : i < 4
  · have hw1 : IntKind.i64.wrap ((i : Int) + 1) = ((i + 1 : Nat) : Int) := by rw [wrap_i64 (by omega) (by omega)]; omega
    have hle := Nat.div_le_self w.toNat (256 ^ i)
    have hd : w.toNat / 256 ^ (i + 1) = w.toNat / 256 ^ i / 256 := by rw [Nat.pow_succ, Nat.div_div_eq_div_mul]
    have hnb : nB (w.toNat / 256 ^ i) = nB (w.toNat / 256 ^ i % 256) := by
      apply BitVec.eq_of_toNat_eq
      simp only [nB, BitVec.toNat_ofNat]; omega
    have hgr : ((List.range (i + 1)).map fun j => nB (w.toNat / 256 ^ j)).map by8 = ((List.range i).map fun j => nB (w.toNat / 256 ^ j)).map by8 ++ [by8 (nB (w.toNat / 256 ^ i % 256))] := by
      rw [List.range_succ, ← hnb]; simp
    have hln : (((List.range i).map fun j => nB (w.toNat / 256 ^ j)).map by8).length = i := by simp
    generalize ((List.range i).map fun j => nB (w.toNat / 256 ^ j)).map by8 = cs at *
    have hnx : ∀ out' J', Grow J' out' 1 (cs ++ [by8 (nB (w.toNat / 256 ^ i % 256))]) → K1 (.goto 1 [.int .u64 ((w.toNat / 256 ^ i / 256 : Nat) : Int), nI 4, out', nI (i + 1)]) J' := fun out' J' hg' => g1 h _ _ ⟨out', by rw [hd], by rw [hgr]; exact hg'⟩
    generalize w.toNat / 256 ^ i = n at *
    have hm : ((n : Int).tmod 256) = ((n % 256 : Nat) : Int) := by rw [Int.tmod_eq_emod_of_nonneg (by omega)]; omega
    have hq : ((n : Int).tdiv 256) = ((n / 256 : Nat) : Int) := by rw [Int.tdiv_eq_ediv_of_nonneg (by omega)]; omega
    simp -implicitDefEqProofs only [go_sem, dnW_ite, reduceIte, Nat.reduceAdd, Nat.reduceLeDiff, Nat.reduceMul, Nat.reduceEqDiff, Int.reduceLT, Int.reduceLE, Int.reduceToNat, Nat.reduceSub, Nat.reduceLT, Int.reduceEq, BitVec.reduceOfInt, BitVec.reduceOfNat, Int.reduceGT, Int.reduceGE, Int.reduceBEq, Int.reduceBNe, Nat.reduceGT, Nat.reduceBEq, Nat.reduceBNe, Int.reduceAdd, Int.reduceSub, Int.reduceNeg, show ((i : Int) < ((4 : Nat) : Int)) by omega, hm, hq, wrap_nB, ipureL, ipure, grp, mkE, List.headD]
    refine WP_bind (hg.app (m := 1) (ds := [by8 (nB (n % 256))]) (by omega) rfl rfl rfl rfl (fits1 (by simp; omega))) fun out' J' hs => ?_
    have hqw : IntKind.u64.wrap ((n / 256 : Nat) : Int) = ((n / 256 : Nat) : Int) := wrap_u64 (by omega) (by omega)
    simp -implicitDefEqProofs only [go_sem, dnW_ite, reduceIte, Nat.reduceAdd, Nat.reduceLeDiff, Nat.reduceMul, Nat.reduceEqDiff, Int.reduceLT, Int.reduceLE, Int.reduceToNat, Nat.reduceSub, Nat.reduceLT, Int.reduceEq, BitVec.reduceOfInt, BitVec.reduceOfNat, Int.reduceGT, Int.reduceGE, Int.reduceBEq, Int.reduceBNe, Nat.reduceGT, Nat.reduceBEq, Nat.reduceBNe, Int.reduceAdd, Int.reduceSub, Int.reduceNeg, hq, hqw, hw1]
    exact hnx _ _ hs.1
  · simp -implicitDefEqProofs only [go_sem, dnW_ite, reduceIte, Nat.reduceAdd, Nat.reduceLeDiff, Nat.reduceMul, Nat.reduceEqDiff, Int.reduceLT, Int.reduceLE, Int.reduceToNat, Nat.reduceSub, Nat.reduceLT, Int.reduceEq, BitVec.reduceOfInt, BitVec.reduceOfNat, Int.reduceGT, Int.reduceGE, Int.reduceBEq, Int.reduceBNe, Nat.reduceGT, Nat.reduceBEq, Nat.reduceBNe, Int.reduceAdd, Int.reduceSub, Int.reduceNeg, show ¬ ((i : Int) < ((4 : Nat) : Int)) by omega]
    refine g2 _ _ ?_
    unfold l_ref01_Low_k1
    simp -implicitDefEqProofs only [go_sem, dnW_ite, reduceIte, Nat.reduceAdd, Nat.reduceLeDiff, Nat.reduceMul, Nat.reduceEqDiff, Int.reduceLT, Int.reduceLE, Int.reduceToNat, Nat.reduceSub, Nat.reduceLT, Int.reduceEq, BitVec.reduceOfInt, BitVec.reduceOfNat, Int.reduceGT, Int.reduceGE, Int.reduceBEq, Int.reduceBNe, Nat.reduceGT, Nat.reduceBEq, Nat.reduceBNe, Int.reduceAdd, Int.reduceSub, Int.reduceNeg]
    obtain rfl : i = 4 := by omega
    obtain ⟨u, hu, hl⟩ := hg.frz1 by8_pure by8_one
    have e : (List.range 4).map (fun j => nB (w.toNat / 256 ^ j)) = leW w := by
      rw [leW4]
      have hb : ∀ k, nB (w.toNat / 2 ^ k) = (w >>> k).setWidth 8 := fun k => by
        apply BitVec.eq_of_toNat_eq
        simp only [nB, BitVec.toNat_ofNat, BitVec.toNat_setWidth, BitVec.toNat_ushiftRight, Nat.shiftRight_eq_div_pow]
      have h0 := hb 0
      have h1 := hb 8
      have h2 := hb 16
      have h3 := hb 24
      simp only [Nat.pow_zero, BitVec.ushiftRight_zero] at h0
      rw [← h0, ← h1, ← h2, ← h3]
      rfl
    rw [e] at hl
    exact hK _ _ u hu hl
end Go.Proofs.Ytohclaopcejjnaa.G
namespace Go.Proofs.Ytohclaopcejjnaa.G
open Go
set_option linter.unusedSimpArgs false
set_option linter.unusedVariables false
set_option maxRecDepth 20000
set_option maxHeartbeats 2000000
def bitsB (b : Byt) : List Bool := (List.range 8).map fun j => b.getLsbD j
def bitsL (l : List Byt) : List Bool := l.flatMap bitsB
theorem bit_at (b : Byt) (j : Nat) : b.getLsbD j = decide (b.toNat / 2 ^ j % 2 = 1) := by
  rw [← BitVec.testBit_toNat, Nat.testBit_eq_decide_div_mod_eq]
theorem bit0 (s : BitVec 32) : s.getLsbD 0 = decide (s.toNat % 2 = 1) := by
  rw [← BitVec.testBit_toNat, Nat.testBit_eq_decide_div_mod_eq]; simp
theorem sum_step (s : BitVec 32) (b : Byt) (x : IV) (n i j : Nat) (hj : j < 8) (J : JH) (K : Out IV → JH → Prop)
    (hK : K (.goto 3 [.int .u64 ((stB s (b.getLsbD j)).toNat : Int), by8 b, nI (j + 1), x, nI n, nI i]) J) :
    WP (dn BI l_ref02_Sum_k0 [.int .u64 (s.toNat : Int), by8 b, nI j, x, nI n, nI i] J) K := by
  have hs := s.isLt
  have hb := b.isLt
  have e1 : (s.toNat : Int).tmod 2 = ((s.toNat % 2 : Nat) : Int) := by rw [Int.tmod_eq_emod_of_nonneg (by omega)]; omega
  have e2 : IntKind.u64.wrap (b.toNat : Int) = (b.toNat : Int) := wrap_u64 (by omega) (by omega)
  have e3 : (b.toNat : Int).fdiv (2 ^ j) = ((b.toNat / 2 ^ j : Nat) : Int) := by
    rw [Int.fdiv_eq_ediv_of_nonneg _ (Int.pow_nonneg (by omega))]; push_cast; rfl
  have hx : (s.getLsbD 0 ^^ b.getLsbD j) = decide ((s.toNat % 2 + b.toNat / 2 ^ j) % 2 = 1) := by
    rw [bit0, bit_at]
    by_cases h1 : s.toNat % 2 = 1 <;> by_cases h2 : b.toNat / 2 ^ j % 2 = 1 <;> simp only [h1, h2, decide_true, decide_false, Bool.xor_true, Bool.xor_false, Bool.true_xor, Bool.false_xor, Bool.not_true, Bool.not_false] <;> (first | (symm; rw [decide_eq_true_eq]; omega) | (symm; rw [decide_eq_false_iff_not]; omega))
  have hle := Nat.div_le_self b.toNat (2 ^ j)
  generalize b.toNat / 2 ^ j = t at *
  have e4 : IntKind.u64.wrap (((s.toNat % 2 : Nat) : Int) + ((t : Nat) : Int)) = ((s.toNat % 2 + t : Nat) : Int) := by rw [wrap_u64 (by omega) (by omega)]; omega
  have e5 : ((s.toNat % 2 + t : Nat) : Int).tmod 2 = (((s.toNat % 2 + t) % 2 : Nat) : Int) := by rw [Int.tmod_eq_emod_of_nonneg (by omega)]; omega
  have e6 : (s.toNat : Int).tdiv 2 = ((s.toNat / 2 : Nat) : Int) := by rw [Int.tdiv_eq_ediv_of_nonneg (by omega)]; omega
  have e7 : IntKind.u64.wrap ((s.toNat / 2 : Nat) : Int) = ((s.toNat / 2 : Nat) : Int) := wrap_u64 (by omega) (by omega)
  have e8 : IntKind.i64.wrap ((j : Int) + 1) = ((j + 1 : Nat) : Int) := by rw [wrap_i64 (by omega) (by omega)]; omega
  have e9 : (BitVec.ofInt 64 ((s.toNat / 2 : Nat) : Int) ^^^ 2197175160#64).toNat = s.toNat / 2 ^^^ 2197175160 := by
    rw [BitVec.toNat_xor, BitVec.ofInt_natCast, BitVec.toNat_ofNat, Nat.mod_eq_of_lt (by omega)]; rfl
  have hm : min j 64 = j := by omega
  unfold l_ref02_Sum_k0
  unfold stB at hK
  rw [hx] at hK
  by_cases h : (s.toNat % 2 + t) % 2 = 1
  · have hc : ((((s.toNat % 2 + t) % 2 : Nat) : Int) == 1) = true := by rw [h]; rfl
    rw [if_pos (by simpa using h)] at hK
    have e10 : (((s >>> 1) ^^^ polyC).toNat : Int) = ((s.toNat / 2 ^^^ 2197175160 : Nat) : Int) := by
      rw [BitVec.toNat_xor, BitVec.toNat_ushiftRight, Nat.shiftRight_eq_div_pow]; rfl
    rw [e10] at hK
    simp -implicitDefEqProofs only [go_sem, dnW_ite, reduceIte, Nat.reduceAdd, Nat.reduceLeDiff, Nat.reduceMul, Nat.reduceEqDiff, Int.reduceLT, Int.reduceLE, Int.reduceToNat, Nat.reduceSub, Nat.reduceLT, Int.reduceEq, BitVec.reduceOfInt, BitVec.reduceOfNat, Int.reduceGT, Int.reduceGE, Int.reduceBEq, Int.reduceBNe, Nat.reduceGT, Nat.reduceBEq, Nat.reduceBNe, Int.reduceAdd, Int.reduceSub, Int.reduceNeg, show ((j : Int) < 8) by omega, e1, e2, show ¬ ((j : Int) < 0) by omega, hm, e3, e4, e5, e6, e7, hc, e8]
    rw [← e9] at hK
    exact hK
  · have hc : ((((s.toNat % 2 + t) % 2 : Nat) : Int) == 1) = false := by rw [beq_eq_false_iff_ne]; omega
    rw [if_neg (by simpa using h)] at hK
    have e10 : ((s >>> 1).toNat : Int) = ((s.toNat / 2 : Nat) : Int) := by
      rw [BitVec.toNat_ushiftRight, Nat.shiftRight_eq_div_pow]
    rw [e10] at hK
    simp -implicitDefEqProofs only [go_sem, dnW_ite, reduceIte, Nat.reduceAdd, Nat.reduceLeDiff, Nat.reduceMul, Nat.reduceEqDiff, Int.reduceLT, Int.reduceLE, Int.reduceToNat, Nat.reduceSub, Nat.reduceLT, Int.reduceEq, BitVec.reduceOfInt, BitVec.reduceOfNat, Int.reduceGT, Int.reduceGE, Int.reduceBEq, Int.reduceBNe, Nat.reduceGT, Nat.reduceBEq, Nat.reduceBNe, Int.reduceAdd, Int.reduceSub, Int.reduceNeg, show ((j : Int) < 8) by omega, e1, e2, show ¬ ((j : Int) < 0) by omega, hm, e3, e4, e5, e6, e7, hc, e8]
    exact hK
end Go.Proofs.Ytohclaopcejjnaa.G
namespace Go.Proofs.Ytohclaopcejjnaa.G
open Go
set_option linter.unusedSimpArgs false
set_option linter.unusedVariables false
set_option maxRecDepth 20000
set_option maxHeartbeats 2000000
theorem bitsB_len (b : Byt) : (bitsB b).length = 8 := by simp [bitsB]
theorem bitsL_cons (b : Byt) (r : List Byt) : bitsL (b :: r) = bitsB b ++ bitsL r := by simp [bitsL]
theorem bitsL_app (a b : List Byt) : bitsL (a ++ b) = bitsL a ++ bitsL b := by simp [bitsL]
theorem bitsL_len : ∀ l : List Byt, (bitsL l).length = 8 * l.length
  | [] => rfl
  | b :: r => by rw [bitsL_cons, List.length_append, bitsB_len, bitsL_len r, List.length_cons]; omega
theorem bitsL_at (b : Byt) (r : List Byt) (i : Nat) : (bitsL (b :: r)).getD i false = if i < 8 then b.getLsbD i else (bitsL r).getD (i - 8) false := by
  rw [bitsL_cons, List.getD_eq_getElem?_getD, List.getElem?_append, bitsB_len]
  split
  · next h => simp [bitsB, h]
  · rw [List.getD_eq_getElem?_getD]
def valL : List Byt → Nat
  | [] => 0
  | b :: r => b.toNat + 256 * valL r
theorem val_word : ∀ (t : List Byt), t.length = 4 → valL t = (wordB (bitsL t)).toNat
  | [a, b, c, d], _ => by
    have h := fun x : Byt => x.isLt
    have h1 := h a; have h2 := h b; have h3 := h c; have h4 := h d
    have e : wordB (bitsL [a, b, c, d]) = d ++ c ++ b ++ a := by
      apply BitVec.eq_of_getLsbD_eq
      intro i hi
      rw [wordB_at _ _ hi, bitsL_at, bitsL_at, bitsL_at, bitsL_at]
      simp only [BitVec.getLsbD_append]
      by_cases k1 : i < 8
      · simp [k1]
      · by_cases k2 : i - 8 < 8
        · simp [k1, k2]
        · by_cases k3 : i - 8 - 8 < 8
          · simp [k1, k2, k3]
          · have k4 : i - 8 - 8 - 8 < 8 := by omega
            simp [k1, k2, k3, k4]
    rw [e]
    simp only [BitVec.toNat_append, valL]
    rw [← Nat.shiftLeft_add_eq_or_of_lt h3, ← Nat.shiftLeft_add_eq_or_of_lt h2, ← Nat.shiftLeft_add_eq_or_of_lt h1]
    simp only [Nat.shiftLeft_eq]
    omega
  | [], h => by simp at h
  | [_], h => by simp at h
  | [_, _], h => by simp at h
  | [_, _, _], h => by simp at h
  | _ :: _ :: _ :: _ :: _ :: _, h => by simp at h
theorem reg_app (s : BitVec 32) (a b : List Bool) : reg s (a ++ b) = reg (reg s a) b := by simp [reg, List.foldl_append]
theorem RSum_ok {x : IV} {l : List Byt} (hx : BR x l) (hb : l.length ≤ 1000000) : pc BI F_ref02_Sum [x] = some (m32 (~~~ (reg (BitVec.allOnes 32) (bitsL l)))) := by
  refine pcE fn_ref02_Sum rfl fun K hK => ?_
  unfold l_ref02_Sum
  simp -implicitDefEqProofs only [go_sem, dnW_ite, reduceIte, Nat.reduceAdd, Nat.reduceLeDiff, Nat.reduceMul, Nat.reduceEqDiff, Int.reduceLT, Int.reduceLE, Int.reduceToNat, Nat.reduceSub, Nat.reduceLT, Int.reduceEq, BitVec.reduceOfInt, BitVec.reduceOfNat, Int.reduceGT, Int.reduceGE, Int.reduceBEq, Int.reduceBNe, Nat.reduceGT, Nat.reduceBEq, Nat.reduceBNe, Int.reduceAdd, Int.reduceSub, Int.reduceNeg, hx.lenF, List.length_map, dn_loop]
  refine WP_range (by decide) l.length (fun i vs J => vs = [.int .u64 ((reg (BitVec.allOnes 32) (bitsL (l.take i))).toNat : Int), x, nI l.length, nI i]) ?_ rfl
  rintro i vs J rfl hi K1 g1 g2 g3
  unfold l_ref02_Sum_k2
  generalize hs : reg (BitVec.allOnes 32) (bitsL (l.take i)) = s
  by_cases h : i < l.length
  · have hat := fun J => hx.at (i := i) (by simpa using h) (J := J)
    simp only [List.getElem_map] at hat
    have hw1 := wrapS h (show l.length ≤ 9223372036854775807 by omega)
    have hnx : reg (BitVec.allOnes 32) (bitsL (l.take (i + 1))) = reg s (bitsB l[i]) := by
      rw [List.take_succ_eq_append_getElem h, bitsL_app, reg_app, hs]
      congr 1
    simp -implicitDefEqProofs only [go_sem, dnW_ite, reduceIte, Nat.reduceAdd, Nat.reduceLeDiff, Nat.reduceMul, Nat.reduceEqDiff, Int.reduceLT, Int.reduceLE, Int.reduceToNat, Nat.reduceSub, Nat.reduceLT, Int.reduceEq, BitVec.reduceOfInt, BitVec.reduceOfNat, Int.reduceGT, Int.reduceGE, Int.reduceBEq, Int.reduceBNe, Nat.reduceGT, Nat.reduceBEq, Nat.reduceBNe, Int.reduceAdd, Int.reduceSub, Int.reduceNeg, show ((i : Int) < (l.length : Int)) by omega, hat, dn_loop]
    refine WP_range (by decide) 8 (fun j vs J => vs = [.int .u64 ((reg s ((List.range j).map fun k => l[i].getLsbD k)).toNat : Int), by8 l[i], nI j, x, nI l.length, nI i]) ?_ rfl
    rintro j vs J rfl hj K2 k1 k2 k3
    by_cases h8 : j < 8
    · refine sum_step _ l[i] x l.length i j h8 J K2 (k1 h8 _ _ ?_)
      rw [List.range_succ, List.map_append, reg_app]; rfl
    · obtain rfl : j = 8 := by omega
      unfold l_ref02_Sum_k0
      simp -implicitDefEqProofs only [go_sem, dnW_ite, reduceIte, Nat.reduceAdd, Nat.reduceLeDiff, Nat.reduceMul, Nat.reduceEqDiff, Int.reduceLT, Int.reduceLE, Int.reduceToNat, Nat.reduceSub, Nat.reduceLT, Int.reduceEq, BitVec.reduceOfInt, BitVec.reduceOfNat, Int.reduceGT, Int.reduceGE, Int.reduceBEq, Int.reduceBNe, Nat.reduceGT, Nat.reduceBEq, Nat.reduceBNe, Int.reduceAdd, Int.reduceSub, Int.reduceNeg, show ¬ (((8 : Nat) : Int) < 8) by omega]
      refine k2 _ _ ?_
      unfold l_ref02_Sum_k1
      simp -implicitDefEqProofs only [go_sem, dnW_ite, reduceIte, Nat.reduceAdd, Nat.reduceLeDiff, Nat.reduceMul, Nat.reduceEqDiff, Int.reduceLT, Int.reduceLE, Int.reduceToNat, Nat.reduceSub, Nat.reduceLT, Int.reduceEq, BitVec.reduceOfInt, BitVec.reduceOfNat, Int.reduceGT, Int.reduceGE, Int.reduceBEq, Int.reduceBNe, Nat.reduceGT, Nat.reduceBEq, Nat.reduceBNe, Int.reduceAdd, Int.reduceSub, Int.reduceNeg, hw1]
      refine g1 h _ _ ?_
      rw [hnx]; rfl
  · simp -implicitDefEqProofs only [go_sem, dnW_ite, reduceIte, Nat.reduceAdd, Nat.reduceLeDiff, Nat.reduceMul, Nat.reduceEqDiff, Int.reduceLT, Int.reduceLE, Int.reduceToNat, Nat.reduceSub, Nat.reduceLT, Int.reduceEq, BitVec.reduceOfInt, BitVec.reduceOfNat, Int.reduceGT, Int.reduceGE, Int.reduceBEq, Int.reduceBNe, Nat.reduceGT, Nat.reduceBEq, Nat.reduceBNe, Int.reduceAdd, Int.reduceSub, Int.reduceNeg, show ¬ ((i : Int) < (l.length : Int)) by omega]
    refine g2 _ _ ?_
    rw [List.take_of_length_le (by omega)] at hs
    rw [hs] at hK
    have hsl := s.isLt
    have e1 : IntKind.u64.wrap (4294967295 - (s.toNat : Int)) = (((~~~ s).toNat : Nat) : Int) := by
      rw [BitVec.toNat_not, wrap_u64 (by omega) (by omega)]; omega
    have e2 : IntKind.u32.wrap (((~~~ s).toNat : Nat) : Int) = (((~~~ s).toNat : Nat) : Int) := by
      have := (~~~ s).isLt
      exact wrap_u32 (by omega) (by omega)
    unfold l_ref02_Sum_k3
    simp -implicitDefEqProofs only [go_sem, dnW_ite, reduceIte, Nat.reduceAdd, Nat.reduceLeDiff, Nat.reduceMul, Nat.reduceEqDiff, Int.reduceLT, Int.reduceLE, Int.reduceToNat, Nat.reduceSub, Nat.reduceLT, Int.reduceEq, BitVec.reduceOfInt, BitVec.reduceOfNat, Int.reduceGT, Int.reduceGE, Int.reduceBEq, Int.reduceBNe, Nat.reduceGT, Nat.reduceBEq, Nat.reduceBNe, Int.reduceAdd, Int.reduceSub, Int.reduceNeg, e1, e2]
    exact hK _ _ (frzE rfl rfl)
theorem RSeal_ok {x : IV} {l : List Byt} (hx : BR x l) (hb : l.length ≤ 100000) : ∃ u, pc BI F_ref02_Seal [x] = some u ∧ BR u (l ++ leW (~~~ (reg (BitVec.allOnes 32) (bitsL l)))) := by
  have hS := RSum_ok hx (by omega)
  generalize ~~~ (reg (BitVec.allOnes 32) (bitsL l)) = v at *
  obtain ⟨a, ha, hal⟩ := RLow_ok v
  obtain ⟨u, hu, hul⟩ := RJoin_ok (LsR2 (sz := 1) (f := true) hx hal) (by simp) (by simp [leW]; omega)
  have ha' : pc BI F_ref01_Low [.int .u64 (v.toNat : Int), .int .i64 4] = some a := ha
  have hw : IntKind.u64.wrap (v.toNat : Int) = (v.toNat : Int) := by have := v.isLt; exact wrap_u64 (by omega) (by omega)
  refine ⟨u, pcE fn_ref02_Seal rfl fun K hK => ?_, by rw [show l ++ leW v = [l, leW v].flatten by simp]; exact hul⟩
  unfold l_ref02_Seal
  simp -implicitDefEqProofs only [go_sem, dnW_ite, reduceIte, Nat.reduceAdd, Nat.reduceLeDiff, Nat.reduceMul, Nat.reduceEqDiff, Int.reduceLT, Int.reduceLE, Int.reduceToNat, Nat.reduceSub, Nat.reduceLT, Int.reduceEq, BitVec.reduceOfInt, BitVec.reduceOfNat, Int.reduceGT, Int.reduceGE, Int.reduceBEq, Int.reduceBNe, Nat.reduceGT, Nat.reduceBEq, Nat.reduceBNe, Int.reduceAdd, Int.reduceSub, Int.reduceNeg, dcp hS (by simp [ipureL, hx.pure]), hw, dcp ha' rfl, ipureL, ipure, grp, mkE, List.headD, List.drop_one, List.drop_succ_cons, ↓hx.icells, ↓hx.one, ↓hx.pure, ↓hal.icells, ↓hal.one, ↓hal.pure, dcp hu (by simp [ipureL, ipure, hx.pure, hal.pure])]
  exact hK [_] _ (frzE (by simpa [itup] using hul.pure) rfl)
theorem RValue_ok {x : IV} {l : List Byt} (hx : BR x l) (hl : l.length = 4) : pc BI F_ref01_Value [x] = some (.int .u64 ((valL l : Nat) : Int)) := by
  refine pcE fn_ref01_Value rfl fun K hK => ?_
  have hv : ∀ j ≤ 4, valL (l.drop (4 - j)) < 256 ^ j := by
    match l, hl with
    | [a, b, c, d], _ =>
      have h := fun x : Byt => x.isLt
      have h1 := h a; have h2 := h b; have h3 := h c; have h4 := h d
      intro j hj
      have : j = 0 ∨ j = 1 ∨ j = 2 ∨ j = 3 ∨ j = 4 := by omega
      rcases this with rfl | rfl | rfl | rfl | rfl <;> simp [valL] <;> omega
  unfold l_ref01_Value
  simp -implicitDefEqProofs only [go_sem, dnW_ite, reduceIte, Nat.reduceAdd, Nat.reduceLeDiff, Nat.reduceMul, Nat.reduceEqDiff, Int.reduceLT, Int.reduceLE, Int.reduceToNat, Nat.reduceSub, Nat.reduceLT, Int.reduceEq, BitVec.reduceOfInt, BitVec.reduceOfNat, Int.reduceGT, Int.reduceGE, Int.reduceBEq, Int.reduceBNe, Nat.reduceGT, Nat.reduceBEq, Nat.reduceBNe, Int.reduceAdd, Int.reduceSub, Int.reduceNeg, hx.lenF, List.length_map, hl, show IntKind.i64.wrap (((4 : Nat) : Int) - 1) = 3 from rfl, dn_loop]
  refine WP_range (by decide) 4 (fun j vs J => vs = [x, .int .u64 ((valL (l.drop (4 - j)) : Nat) : Int), .int .i64 (3 - (j : Int))]) ?_ (by rw [show 4 - 0 = l.length by omega, List.drop_length]; rfl)
  rintro j vs J rfl hj K1 g1 g2 g3
  have hvj := hv j hj
  unfold l_ref01_Value_k0
  by_cases h : j < 4
  · have hp : 256 ^ j ≤ 256 ^ 3 := Nat.pow_le_pow_right (by omega) (by omega)
    have hidx : (3 : Int) - j = ((3 - j : Nat) : Int) := by omega
    have hat := fun J => hx.at (i := 3 - j) (by simp; omega) (J := J)
    simp only [List.getElem_map] at hat
    have hbl := (l[3 - j]'(by omega)).isLt
    have e1 : IntKind.u64.wrap (256 * ((valL (l.drop (4 - j)) : Nat) : Int)) = ((256 * valL (l.drop (4 - j)) : Nat) : Int) := by rw [wrap_u64 (by omega) (by omega)]; omega
    have e2 : IntKind.u64.wrap ((l[3 - j]'(by omega)).toNat : Int) = ((l[3 - j]'(by omega)).toNat : Int) := wrap_u64 (by omega) (by omega)
    have hd : valL (l.drop (4 - (j + 1))) = (l[3 - j]'(by omega)).toNat + 256 * valL (l.drop (4 - j)) := by
      rw [show 4 - (j + 1) = 3 - j by omega, List.drop_eq_getElem_cons (by omega), valL, show 3 - j + 1 = 4 - j by omega]
    have e3 : IntKind.u64.wrap (((256 * valL (l.drop (4 - j)) : Nat) : Int) + ((l[3 - j]'(by omega)).toNat : Int)) = ((valL (l.drop (4 - (j + 1))) : Nat) : Int) := by rw [hd, wrap_u64 (by omega) (by omega)]; omega
    have e4 : IntKind.i64.wrap (((3 - j : Nat) : Int) - 1) = 3 - ((j + 1 : Nat) : Int) := by rw [wrap_i64 (by omega) (by omega)]; omega
    rw [hidx]
    simp -implicitDefEqProofs only [go_sem, dnW_ite, reduceIte, Nat.reduceAdd, Nat.reduceLeDiff, Nat.reduceMul, Nat.reduceEqDiff, Int.reduceLT, Int.reduceLE, Int.reduceToNat, Nat.reduceSub, Nat.reduceLT, Int.reduceEq, BitVec.reduceOfInt, BitVec.reduceOfNat, Int.reduceGT, Int.reduceGE, Int.reduceBEq, Int.reduceBNe, Nat.reduceGT, Nat.reduceBEq, Nat.reduceBNe, Int.reduceAdd, Int.reduceSub, Int.reduceNeg, show (((3 - j : Nat) : Int) ≥ 0) by omega, e1, hat, e2, e3, e4]
    exact g1 h _ _ rfl
  · obtain rfl : j = 4 := by omega
    simp -implicitDefEqProofs only [go_sem, dnW_ite, reduceIte, Nat.reduceAdd, Nat.reduceLeDiff, Nat.reduceMul, Nat.reduceEqDiff, Int.reduceLT, Int.reduceLE, Int.reduceToNat, Nat.reduceSub, Nat.reduceLT, Int.reduceEq, BitVec.reduceOfInt, BitVec.reduceOfNat, Int.reduceGT, Int.reduceGE, Int.reduceBEq, Int.reduceBNe, Nat.reduceGT, Nat.reduceBEq, Nat.reduceBNe, Int.reduceAdd, Int.reduceSub, Int.reduceNeg, show ¬ ((3 : Int) - ((4 : Nat) : Int) ≥ 0) by omega]
    refine g2 _ _ ?_
    unfold l_ref01_Value_k1
    simp -implicitDefEqProofs only [go_sem, dnW_ite, reduceIte, Nat.reduceAdd, Nat.reduceLeDiff, Nat.reduceMul, Nat.reduceEqDiff, Int.reduceLT, Int.reduceLE, Int.reduceToNat, Nat.reduceSub, Nat.reduceLT, Int.reduceEq, BitVec.reduceOfInt, BitVec.reduceOfNat, Int.reduceGT, Int.reduceGE, Int.reduceBEq, Int.reduceBNe, Nat.reduceGT, Nat.reduceBEq, Nat.reduceBNe, Int.reduceAdd, Int.reduceSub, Int.reduceNeg]
    exact hK _ _ (frzE rfl rfl)
theorem ROpen_ok {x : IV} {l : List Byt} (hx : BR x l) (hl : 4 ≤ l.length) (hb : l.length ≤ 100000) : pc BI F_ref02_Open [x] = some (.bool (decide (reg (BitVec.allOnes 32) (bitsL l) = Zn 32 (BitVec.allOnes 32)))) := by
  refine pcE fn_ref02_Open rfl fun K hK => ?_
  obtain ⟨y, hy, hyl⟩ := hx.sliceLo (l := l.length - 4) (by simp)
  obtain ⟨z, hz, hzl⟩ := hx.slice (h := l.length - 4) (by simp)
  rw [← List.map_drop] at hyl
  rw [← List.map_take] at hzl
  have hlen : (l.drop (l.length - 4)).length = 4 := by rw [List.length_drop]; omega
  have hV := RValue_ok hyl hlen
  have hS := RSum_ok hzl (by rw [List.length_take]; omega)
  rw [val_word _ hlen] at hV
  have hreg : reg (BitVec.allOnes 32) (bitsL l) = Zn 32 (reg (BitVec.allOnes 32) (bitsL (l.take (l.length - 4))) ^^^ wordB (bitsL (l.drop (l.length - 4)))) := by
    conv => lhs; rw [← List.take_append_drop (l.length - 4) l, bitsL_app, reg_app]
    rw [reg_word _ _ (by rw [bitsL_len, hlen]; omega), bitsL_len, hlen]
  have hbl : (bitsL (l.drop (l.length - 4))).length = 32 := by rw [bitsL_len, hlen]
  generalize reg (BitVec.allOnes 32) (bitsL (l.take (l.length - 4))) = R at *
  generalize wordB (bitsL (l.drop (l.length - 4))) = W at *
  have hiff : (((W.toNat : Nat) : Int) == (((~~~ R).toNat : Nat) : Int)) = decide (reg (BitVec.allOnes 32) (bitsL l) = Zn 32 (BitVec.allOnes 32)) := by
    rw [hreg, Bool.eq_iff_iff, beq_iff_eq, decide_eq_true_eq]
    constructor
    · intro e
      have e2 : W = ~~~ R := BitVec.eq_of_toNat_eq (by omega)
      rw [e2]
      rw [← BitVec.xor_allOnes, ← BitVec.xor_assoc, BitVec.xor_self, BitVec.zero_xor]
    · intro e
      have e2 := Zn_inj e
      have e3 : W = ~~~ R := by
        rw [← BitVec.xor_allOnes, ← e2, ← BitVec.xor_assoc, BitVec.xor_self, BitVec.zero_xor]
      rw [e3]
  have e1 : IntKind.i64.wrap ((l.length : Int) - 4) = ((l.length - 4 : Nat) : Int) := by rw [wrap_i64 (by omega) (by omega)]; omega
  have e2 : IntKind.u64.wrap (((~~~ R).toNat : Nat) : Int) = (((~~~ R).toNat : Nat) : Int) := by
    have := (~~~ R).isLt
    exact wrap_u64 (by omega) (by omega)
  unfold l_ref02_Open
  simp -implicitDefEqProofs only [go_sem, dnW_ite, reduceIte, Nat.reduceAdd, Nat.reduceLeDiff, Nat.reduceMul, Nat.reduceEqDiff, Int.reduceLT, Int.reduceLE, Int.reduceToNat, Nat.reduceSub, Nat.reduceLT, Int.reduceEq, BitVec.reduceOfInt, BitVec.reduceOfNat, Int.reduceGT, Int.reduceGE, Int.reduceBEq, Int.reduceBNe, Nat.reduceGT, Nat.reduceBEq, Nat.reduceBNe, Int.reduceAdd, Int.reduceSub, Int.reduceNeg, hx.lenF, List.length_map, e1, show (((l.length - 4 : Nat) : Int) ≥ 0) by omega, hy, hz, dcp hV (by simp [ipureL, hyl.pure]), dcp hS (by simp [ipureL, hzl.pure]), e2, hiff]
  exact hK [_] _ (frzE rfl rfl)
end Go.Proofs.Ytohclaopcejjnaa.G
namespace Go.Proofs.Ytohclaopcejjnaa.G
open Go
set_option linter.unusedSimpArgs false
set_option linter.unusedVariables false
set_option maxRecDepth 20000
set_option maxHeartbeats 2000000
theorem bitsL_get : ∀ (l : List Byt) (p : Nat), (bitsL l).getD p false = (l.getD (p / 8) 0#8).getLsbD (p % 8)
  | [], p => by simp [bitsL]
  | b :: r, p => by
    rw [bitsL_at]
    by_cases h : p < 8
    · rw [if_pos h, Nat.div_eq_of_lt h, Nat.mod_eq_of_lt h]; rfl
    · rw [if_neg h, bitsL_get r, show p / 8 = (p - 8) / 8 + 1 by omega, show (p - 8) % 8 = p % 8 by omega]; rfl
abbrev iB (l : List Byt) : List Int := l.map fun b => (b.toNat : Int)
theorem map_by8 (l : List Byt) : l.map by8 = (iB l).map (IV.int .u8) := by simp
theorem iB_inj {a b : List Byt} (h : iB a = iB b) : a = b := by
  refine List.map_inj_right (f := fun b : Byt => (b.toNat : Int)) ?_ |>.1 h
  intro a b hab
  exact BitVec.eq_of_toNat_eq (Int.ofNat.inj hab)
theorem iB_of {l : List Int} (h : Wb l) : ∃ L : List Byt, l = iB L := by
  induction l with
  | nil => exact ⟨[], rfl⟩
  | cons a l ih =>
    obtain ⟨L, hL⟩ := ih (fun z hz => h z (by simp [hz]))
    have ha := h a (by simp)
    refine ⟨BitVec.ofNat 8 a.toNat :: L, ?_⟩
    rw [hL]
    simp only [List.map_cons, List.cons.injEq, and_true]
    rw [ofNat8 (by omega)]; omega
theorem x8_b (x y : Byt) : x8 (x.toNat : Int) (y.toNat : Int) = ((x ^^^ y).toNat : Int) := by
  unfold x8
  rw [ofInt_nat, ofInt_nat, wrapB8]
def turnB (q : Nat) (m : BitVec 32) (l : List Byt) (k : Nat) : List Byt := if q + k < 8 * l.length then l.set ((q + k) / 8) (l.getD ((q + k) / 8) 0#8 ^^^ (if m.getLsbD k = true then BitVec.twoPow 8 ((q + k) % 8) else 0#8)) else l
def turnBN (q : Nat) (m : BitVec 32) (l : List Byt) : Nat → List Byt
  | 0 => l
  | k + 1 => turnB q m (turnBN q m l k) k
theorem turnB_len (q m l k) : (turnB q m l k).length = l.length := by unfold turnB; split <;> simp
theorem turnBN_len (q m l) : ∀ k, (turnBN q m l k).length = l.length
  | 0 => rfl
  | k + 1 => by rw [turnBN, turnB_len, turnBN_len q m l k]
theorem bitv_m (m : BitVec 32) (k : Nat) : bitv (m.toNat : Int) k = if m.getLsbD k = true then 1 else 0 := by
  unfold bitv
  rw [← BitVec.testBit_toNat, Nat.testBit_eq_decide_div_mod_eq]
  have e : ((m.toNat : Int) / 2 ^ k) % 2 = ((m.toNat / 2 ^ k % 2 : Nat) : Int) := by push_cast; rfl
  rw [e]
  by_cases h : m.toNat / 2 ^ k % 2 = 1
  · simp [h]
  · have : m.toNat / 2 ^ k % 2 = 0 := by omega
    simp [this]
theorem turn_iB (q : Nat) (m : BitVec 32) (l : List Byt) (k : Nat) : turn1 q (m.toNat : Int) (iB l) k = iB (turnB q m l k) := by
  unfold turn1 turnB
  rw [List.length_map]
  by_cases h : q + k < 8 * l.length
  · rw [if_pos h, if_pos h]
    simp only [iB, List.map_set]
    have hj : (q + k) / 8 < l.length := by omega
    have h8 : (q + k) % 8 < 8 := Nat.mod_lt _ (by omega)
    congr 1
    rw [getD_lt (by rw [List.length_map]; exact hj), List.getElem_map, getD_lt hj, ← x8_b, bitv_m]
    congr 1
    by_cases hm : m.getLsbD k = true
    · rw [if_pos hm, if_pos hm, Int.one_mul, BitVec.toNat_twoPow, Nat.mod_eq_of_lt (Nat.pow_lt_pow_right (by omega) h8)]
      push_cast; rfl
    · rw [if_neg hm, if_neg hm]; simp
  · rw [if_neg h, if_neg h]
theorem turnN_iB (q : Nat) (m : BitVec 32) (l : List Byt) : ∀ k, turnN q (m.toNat : Int) (iB l) k = iB (turnBN q m l k)
  | 0 => rfl
  | k + 1 => by rw [turnN, turnN_iB q m l k, turn_iB]; rfl
def spoilB (l : List Byt) (at' : Nat) (m : BitVec 32) : List Byt := turnBN (at' % (8 * l.length)) m l 32
theorem spoil_iB (l : List Byt) (at' : Nat) (m : BitVec 32) : spoilF (iB l) at' (m.toNat : Int) = iB (spoilB l at' m) := by
  rw [spoilF, List.length_map, turnN_iB]; rfl
theorem turnB_bit (q : Nat) (m : BitVec 32) (l : List Byt) (k p : Nat) (hp : p < 8 * l.length) : (bitsL (turnB q m l k)).getD p false = ((bitsL l).getD p false ^^ (decide (p = q + k) && m.getLsbD k)) := by
  rw [bitsL_get, bitsL_get]
  unfold turnB
  by_cases h : q + k < 8 * l.length
  · rw [if_pos h]
    have hj : (q + k) / 8 < l.length := by omega
    have h8 : p % 8 < 8 := Nat.mod_lt _ (by omega)
    by_cases hpj : p / 8 = (q + k) / 8
    · rw [hpj, List.getD_eq_getElem?_getD, List.getElem?_set_self hj, Option.getD_some, BitVec.getLsbD_xor]
      congr 1
      by_cases hm : m.getLsbD k = true
      · rw [if_pos hm, hm, Bool.and_true, BitVec.getLsbD_twoPow]
        by_cases e : p = q + k
        · subst e; simp [h8]
        · have : ¬ (q + k) % 8 = p % 8 := by omega
          simp [e, this]
      · rw [if_neg hm]; simp at hm; simp [hm]
    · rw [List.getD_eq_getElem?_getD, List.getElem?_set_ne (fun e => hpj e.symm), ← List.getD_eq_getElem?_getD]
      have : ¬ p = q + k := fun e => hpj (by rw [e])
      simp [this]
  · rw [if_neg h]
    have : ¬ p = q + k := by omega
    simp [this]
theorem turnBN_bit (q : Nat) (m : BitVec 32) (l : List Byt) (p : Nat) (hp : p < 8 * l.length) : ∀ k, (bitsL (turnBN q m l k)).getD p false = ((bitsL l).getD p false ^^ (decide (q ≤ p ∧ p < q + k) && m.getLsbD (p - q)))
  | 0 => by
    have : ¬ (q ≤ p ∧ p < q + 0) := by omega
    rw [turnBN, decide_eq_false this]; simp
  | k + 1 => by
    rw [turnBN, turnB_bit q m _ k p (by rw [turnBN_len]; exact hp), turnBN_bit q m l p hp k]
    by_cases e : p = q + k
    · subst e
      have h1 : ¬ (q ≤ q + k ∧ q + k < q + k) := by omega
      have h2 : q ≤ q + k ∧ q + k < q + (k + 1) := by omega
      simp [h1, h2]
    · have h1 : (q ≤ p ∧ p < q + k) ↔ (q ≤ p ∧ p < q + (k + 1)) := by omega
      simp [e, h1]
theorem bits_ext {a b : List Byt} (hl : a.length = b.length) (h : ∀ p, p < 8 * a.length → (bitsL a).getD p false = (bitsL b).getD p false) : a = b := by
  apply List.ext_getElem hl
  intro i h1 h2
  apply BitVec.eq_of_getLsbD_eq
  intro j hj
  have := h (8 * i + j) (by omega)
  rw [bitsL_get, bitsL_get, show (8 * i + j) / 8 = i by omega, show (8 * i + j) % 8 = j by omega, getD_lt h1, getD_lt h2] at this
  exact this
theorem spoilB_len (l at' m) : (spoilB l at' m).length = l.length := turnBN_len _ _ _ _
theorem spoil_twice (l : List Byt) (at' : Nat) (m : BitVec 32) : spoilB (spoilB l at' m) at' m = l := by
  refine bits_ext (by rw [spoilB_len, spoilB_len]) fun p hp => ?_
  rw [spoilB_len, spoilB_len] at hp
  rw [spoilB, spoilB_len, turnBN_bit _ _ _ p (by rw [spoilB_len]; exact hp), spoilB, turnBN_bit _ _ _ p hp, Bool.xor_assoc, Bool.xor_self, Bool.xor_false]
theorem spoil_reg (l : List Byt) (hl : 0 < l.length) (at' : Nat) (m : BitVec 32) (hne : l ≠ spoilB l at' m) (s : BitVec 32) : reg s (bitsL l) ≠ reg s (bitsL (spoilB l at' m)) := by
  have hq : at' % (8 * l.length) < 8 * l.length := Nat.mod_lt _ (by omega)
  generalize hqq : at' % (8 * l.length) = q at *
  have hbit : ∀ p, p < 8 * l.length → (bitsL (spoilB l at' m)).getD p false = ((bitsL l).getD p false ^^ (decide (q ≤ p ∧ p < q + 32) && m.getLsbD (p - q))) := fun p hp => by
    rw [spoilB, hqq]; exact turnBN_bit q m l p hp 32
  have hlen : (bitsL (spoilB l at' m)).length = 8 * l.length := by rw [bitsL_len, spoilB_len]
  have hlen2 := bitsL_len l
  let k := min 32 (8 * l.length - q)
  have hez : List.zipWith xor (bitsL l) (bitsL (spoilB l at' m)) = List.replicate q false ++ (List.range k).map (fun j => m.getLsbD j) ++ List.replicate (8 * l.length - q - k) false := by
    apply List.ext_getElem
    · simp only [List.length_zipWith, List.length_append, List.length_replicate, List.length_map, List.length_range, hlen, hlen2]; omega
    · intro p h1 h2
      have hp : p < 8 * l.length := by simp only [List.length_zipWith, hlen, hlen2] at h1; omega
      have hb := hbit p hp
      rw [getD_lt (by omega), getD_lt (by omega)] at hb
      rw [List.getElem_zipWith, hb, ← Bool.xor_assoc, Bool.xor_self, Bool.false_xor]
      by_cases c1 : p < q
      · rw [List.getElem_append_left (by simp; omega), List.getElem_append_left (by simpa using c1), List.getElem_replicate]
        have : ¬ (q ≤ p ∧ p < q + 32) := by omega
        simp [this]
      · by_cases c2 : p < q + k
        · rw [List.getElem_append_left (by simp; omega), List.getElem_append_right (by simp; omega)]
          have : q ≤ p ∧ p < q + 32 := by omega
          simp [this]
        · rw [List.getElem_append_right (by simp; omega), List.getElem_replicate]
          have : ¬ (q ≤ p ∧ p < q + 32) := by omega
          simp [this]
  refine reg_burst s (by rw [hlen, hlen2]) q (8 * l.length - q - k) _ (by simp; omega) ?_ hez
  refine Classical.byContradiction fun hno => hne ?_
  refine bits_ext (by rw [spoilB_len]) fun p hp => ?_
  rw [hbit p hp]
  by_cases c : q ≤ p ∧ p < q + 32
  · have : m.getLsbD (p - q) = false := by
      cases hm : m.getLsbD (p - q) with
      | false => rfl
      | true => exact absurd (List.mem_map.2 ⟨p - q, List.mem_range.2 (by omega), hm⟩) hno
    simp [this]
  · simp [c]
end Go.Proofs.Ytohclaopcejjnaa.G
namespace Go.Proofs.Ytohclaopcejjnaa.G
open Go
set_option linter.unusedSimpArgs false
set_option linter.unusedVariables false
set_option maxRecDepth 20000
set_option maxHeartbeats 2000000
theorem cut8 {x : IV} {l : List Byt} (hx : BR x l) (most : Nat) (hb : l.length ≤ 9223372036854775807) (hm : most < 1000000) : ∃ y, pc BI F_ref01_Cut [x, .int .i64 (most : Int)] = some y ∧ BR y (l.take most) := by
  obtain ⟨y, hy, hy2⟩ := bCut_ok (x := x) (l := iB l) (by rw [Bs, ← map_by8]; exact hx) most (by simpa using hb) hm
  refine ⟨y, hy, ?_⟩
  rw [BR, map_by8, show iB (l.take most) = (iB l).take most from List.map_take]
  exact hy2
theorem same8 {x y : IV} {p q : List Byt} (hx : BR x p) (hy : BR y q) (hb : p.length ≤ 1000000) : pc BI F_ref01_Same [x, y] = some (.bool (decide (p = q))) := by
  have h := bSame_ok (x := x) (y := y) (as := iB p) (bs := iB q) (by rw [Bs, ← map_by8]; exact hx) (by rw [Bs, ← map_by8]; exact hy) (by simpa using hb)
  rw [h]
  congr 2
  rw [Bool.eq_iff_iff]
  simp only [decide_eq_true_eq]
  exact ⟨iB_inj, fun e => by rw [e]⟩
theorem spoil8 {x : IV} {l : List Byt} (hx : BR x l) (hb : l.length ≤ 1000000) (f : FaultT) (hf : f.ok) (m : BitVec 32) (hm : f.mask = (m.toNat : Int)) : ∃ y, pc BI F_wire_Spoil [x, f.iv] = some y ∧ BR y (spoilB l f.at' m) := by
  obtain ⟨o1, o2, o3, o4⟩ := hf
  obtain ⟨y, hy, hyl⟩ := Spoil_ok (x := x) (l := iB l) (by rw [Bs, ← map_by8]; exact hx) f.how f.at' f.mask (by simpa using hb) o2 o3 o4
  refine ⟨y, hy, ?_⟩
  rw [hm, spoil_iB] at hyl
  rw [BR, map_by8]; exact hyl
theorem rspoil8 {x : IV} {l : List Byt} (hx : BR x l) (hb : l.length ≤ 1000000) (f : FaultT) (hf : f.ok) (m : BitVec 32) (hm : f.mask = (m.toNat : Int)) : ∃ y, pc BI F_ref18_Spoil [x, f.iv] = some y ∧ BR y (spoilB l f.at' m) := by
  obtain ⟨y, hy, hyl⟩ := RSpoil_ok (x := x) (l := iB l) (by rw [Bs, ← map_by8]; exact hx) (fun z hz => by
    obtain ⟨b, _, rfl⟩ := List.mem_map.1 hz
    have := b.isLt
    exact ⟨by omega, by omega⟩) (by simpa using hb) f hf
  refine ⟨y, hy, ?_⟩
  rw [hm, spoil_iB] at hyl
  rw [BR, map_by8]; exact hyl
theorem FRight_ok (f : FaultT) : pc BI F_wire_Fault_Right [f.iv] = some (.bool (decide ((f.how : Int) ≤ 5))) := by
  refine pcE fn_wire_Fault_Right rfl fun K hK => ?_
  unfold l_wire_Fault_Right FaultT.iv
  simp -implicitDefEqProofs only [go_sem, dnW_ite, reduceIte, Nat.reduceAdd, Nat.reduceLeDiff, Nat.reduceMul, Nat.reduceEqDiff, Int.reduceLT, Int.reduceLE, Int.reduceToNat, Nat.reduceSub, Nat.reduceLT, Int.reduceEq, BitVec.reduceOfInt, BitVec.reduceOfNat, Int.reduceGT, Int.reduceGE, Int.reduceBEq, Int.reduceBNe, Nat.reduceGT, Nat.reduceBEq, Nat.reduceBNe, Int.reduceAdd, Int.reduceSub, Int.reduceNeg]
  exact hK [_] _ (frzE rfl rfl)
theorem seal_reg (l : List Byt) : reg (BitVec.allOnes 32) (bitsL (l ++ leW (~~~ (reg (BitVec.allOnes 32) (bitsL l))))) = Zn 32 (BitVec.allOnes 32) := by
  rw [bitsL_app, reg_app]
  generalize reg (BitVec.allOnes 32) (bitsL l) = R
  rw [reg_word _ _ (by rw [bitsL_len]; exact Nat.le_refl _), bitsL_len]
  have e : wordB (bitsL (leW (~~~ R))) = ~~~ R := by
    generalize ~~~ R = v
    apply BitVec.eq_of_getLsbD_eq
    intro i hi
    rw [wordB_at _ _ hi, bitsL_get]
    have h4 : i / 8 = 0 ∨ i / 8 = 1 ∨ i / 8 = 2 ∨ i / 8 = 3 := by omega
    have h8 : i % 8 < 8 := Nat.mod_lt _ (by omega)
    have hi2 := Nat.div_add_mod i 8
    unfold leW
    rcases h4 with h | h | h | h <;> rw [h] <;> simp [h8] <;> congr 1 <;> omega
  rw [e, ← BitVec.xor_allOnes, ← BitVec.xor_assoc, BitVec.xor_self, BitVec.zero_xor]
  rfl
theorem Spoils_ok {x : IV} {l : List Byt} (hx : BR x l) (hl : l.length ≤ 9223372036854775807) (f : FaultT) (hf : f.ok) : pc BI F_law18_WireSpoils [x, f.iv] = some (.bool true) := by
  obtain ⟨p, hp, hpl⟩ := cut8 hx 60 hl (by omega)
  have hp' : pc BI F_ref01_Cut [x, .int .i64 60] = some p := hp
  have hL : (l.take 60).length ≤ 60 := by rw [List.length_take]; omega
  generalize l.take 60 = L at *
  have hmk : f.mask = ((BitVec.ofNat 32 f.mask.toNat).toNat : Int) := by
    obtain ⟨_, _, o3, o4⟩ := hf
    rw [BitVec.toNat_ofNat, Nat.mod_eq_of_lt (by omega)]; omega
  generalize BitVec.ofNat 32 f.mask.toNat = m at *
  obtain ⟨q, hq, hql⟩ := spoil8 hpl (by omega) f hf m hmk
  obtain ⟨r, hr, hrl⟩ := rspoil8 hpl (by omega) f hf m hmk
  have hQl := spoilB_len L f.at' m
  obtain ⟨b, hb, hbl⟩ := spoil8 hql (by omega) f hf m hmk
  rw [spoil_twice] at hbl
  have s1 := same8 hql hrl (by omega)
  have s2 := same8 hbl hpl (by omega)
  have hR := FRight_ok f
  obtain ⟨u, hu, hul⟩ := RSeal_ok hpl (by omega)
  have hsr := seal_reg L
  have hSl : (L ++ leW (~~~ (reg (BitVec.allOnes 32) (bitsL L)))).length = L.length + 4 := by rw [List.length_append]; rfl
  generalize L ++ leW (~~~ (reg (BitVec.allOnes 32) (bitsL L))) = S at *
  obtain ⟨w, hw, hwl⟩ := spoil8 hul (by omega) f hf m hmk
  have hWl := spoilB_len S f.at' m
  have s3 := same8 hul hwl (by omega)
  have hO := ROpen_ok hwl (by omega) (by omega)
  have hne := spoil_reg S (by omega) f.at' m
  simp only [decide_true] at s1 s2
  refine pcE fn_law18_WireSpoils rfl fun K hK => ?_
  have fin : ∀ J, K (.ret [.bool true]) J := fun J => hK _ _ (frzE rfl rfl)
  have hlq : (decide ((f.how : Int) ≤ 5) == decide ((f.how : Int) < 6)) = true := by
    by_cases h : f.how < 6
    · rw [decide_eq_true (show (f.how : Int) < 6 by omega), decide_eq_true (show (f.how : Int) ≤ 5 by omega)]; rfl
    · rw [decide_eq_false (show ¬ (f.how : Int) < 6 by omega), decide_eq_false (show ¬ (f.how : Int) ≤ 5 by omega)]; rfl
  unfold FaultT.iv at *
  unfold l_law18_WireSpoils
  simp -implicitDefEqProofs only [go_sem, dnW_ite, reduceIte, Nat.reduceAdd, Nat.reduceLeDiff, Nat.reduceMul, Nat.reduceEqDiff, Int.reduceLT, Int.reduceLE, Int.reduceToNat, Nat.reduceSub, Nat.reduceLT, Int.reduceEq, BitVec.reduceOfInt, BitVec.reduceOfNat, Int.reduceGT, Int.reduceGE, Int.reduceBEq, Int.reduceBNe, Nat.reduceGT, Nat.reduceBEq, Nat.reduceBNe, Int.reduceAdd, Int.reduceSub, Int.reduceNeg, dcp awake18 rfl, dcp hp' (by simp [ipureL, ipure, hx.pure]), dcp hq (by simp [ipureL, ipure, hpl.pure]), dcp hr (by simp [ipureL, ipure, hpl.pure]), dcp s1 (by simp [ipureL, ipure, hql.pure, hrl.pure]), dcp hb (by simp [ipureL, ipure, hql.pure]), dcp s2 (by simp [ipureL, ipure, hbl.pure, hpl.pure]), dcp hR rfl, hlq]
  unfold l_law18_WireSpoils_k0
  by_cases h0 : L.length = 0
  · have e0 : ((L.length : Int) == 0) = true := by simp [h0]
    have e1 : (((spoilB L f.at' m).length : Int) == 0) = true := by rw [hQl]; exact e0
    simp -implicitDefEqProofs only [go_sem, dnW_ite, reduceIte, Nat.reduceAdd, Nat.reduceLeDiff, Nat.reduceMul, Nat.reduceEqDiff, Int.reduceLT, Int.reduceLE, Int.reduceToNat, Nat.reduceSub, Nat.reduceLT, Int.reduceEq, BitVec.reduceOfInt, BitVec.reduceOfNat, Int.reduceGT, Int.reduceGE, Int.reduceBEq, Int.reduceBNe, Nat.reduceGT, Nat.reduceBEq, Nat.reduceBNe, Int.reduceAdd, Int.reduceSub, Int.reduceNeg, hpl.lenF, hql.lenF, List.length_map, e0, e1]
    exact fin _
  · have e0 : ((L.length : Int) == 0) = false := by rw [beq_eq_false_iff_ne]; omega
    by_cases hs : S = spoilB S f.at' m
    · rw [decide_eq_true hs] at s3
      simp -implicitDefEqProofs only [go_sem, dnW_ite, reduceIte, Nat.reduceAdd, Nat.reduceLeDiff, Nat.reduceMul, Nat.reduceEqDiff, Int.reduceLT, Int.reduceLE, Int.reduceToNat, Nat.reduceSub, Nat.reduceLT, Int.reduceEq, BitVec.reduceOfInt, BitVec.reduceOfNat, Int.reduceGT, Int.reduceGE, Int.reduceBEq, Int.reduceBNe, Nat.reduceGT, Nat.reduceBEq, Nat.reduceBNe, Int.reduceAdd, Int.reduceSub, Int.reduceNeg, hpl.lenF, List.length_map, e0, dcp hu (by simp [ipureL, ipure, hpl.pure]), dcp hw (by simp [ipureL, ipure, hul.pure]), dcp s3 (by simp [ipureL, ipure, hul.pure, hwl.pure])]
      exact fin _
    · have hno := hne hs (BitVec.allOnes 32)
      rw [hsr] at hno
      rw [decide_eq_false hs] at s3
      rw [decide_eq_false (fun e => hno e.symm)] at hO
      simp -implicitDefEqProofs only [go_sem, dnW_ite, reduceIte, Nat.reduceAdd, Nat.reduceLeDiff, Nat.reduceMul, Nat.reduceEqDiff, Int.reduceLT, Int.reduceLE, Int.reduceToNat, Nat.reduceSub, Nat.reduceLT, Int.reduceEq, BitVec.reduceOfInt, BitVec.reduceOfNat, Int.reduceGT, Int.reduceGE, Int.reduceBEq, Int.reduceBNe, Nat.reduceGT, Nat.reduceBEq, Nat.reduceBNe, Int.reduceAdd, Int.reduceSub, Int.reduceNeg, hpl.lenF, List.length_map, e0, dcp hu (by simp [ipureL, ipure, hpl.pure]), dcp hw (by simp [ipureL, ipure, hul.pure]), dcp s3 (by simp [ipureL, ipure, hul.pure, hwl.pure]), dcp hO (by simp [ipureL, ipure, hwl.pure])]
      exact fin _
theorem dec_u8s {P : Program} {d : Nat} {t u : TypeId} (ht : P.underlying t = some (.slice u)) (hu : P.underlying u = some (.int .u8)) (hc : P.cellsOf u = 1) {cs : List IV} (h : WT P (d + 2) t cs) : ∃ x l, cs = [x] ∧ BR x l ∧ l.length ≤ 9223372036854775807 := by
  obtain ⟨x, l, rfl, h1, h2, h3⟩ := dec_bytes ht hu hc h
  obtain ⟨L, rfl⟩ := iB_of (l := l) (fun z hz => wf_u8 (h3 z hz))
  refine ⟨x, L, rfl, by rw [BR, map_by8]; exact h1, ?_⟩
  rw [List.length_map] at h2
  exact Nat.le_trans h2 (by decide)
end Go.Proofs.Ytohclaopcejjnaa.G
