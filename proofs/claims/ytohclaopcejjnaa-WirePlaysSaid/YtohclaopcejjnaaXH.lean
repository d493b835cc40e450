/- Joined: I10 to E29. -/
import Derived.Test.YtohclaopcejjnaaXG
import Derived.Carry
import Derived.RowKit
import Derived.ChangeShapes
set_option linter.unusedVariables false
set_option linter.unusedSimpArgs false
namespace Go.Proofs.Ytohclaopcejjnaa.G
open Go
set_option linter.unusedSimpArgs false
set_option linter.unusedVariables false
def WTF (p : TypeId → List IV → Prop) : List Field → List IV → Prop
  | [], xs => xs = []
  | f :: fs, xs => ∃ a b, xs = a ++ b ∧ p f.type a ∧ WTF p fs b
def WTN (p : List IV → Prop) : Nat → List IV → Prop
  | 0, xs => xs = []
  | n + 1, xs => ∃ a b, xs = a ++ b ∧ p a ∧ WTN p n b
def WT (P : Program) : Nat → TypeId → List IV → Prop
  | 0, _, _ => False
  | d + 1, t, xs =>
    match P.underlying t with
    | some .bool => ∃ b, xs = [.bool b]
    | some (.int k) => ∃ n, xs = [.int k n] ∧ (Lit.int k n).wf = true
    | some .string => ∃ s, xs = [.sc (.string s)] ∧ s.size ≤ maxLen
    | some (.slice e) => xs = [.sc (.slice none 0 0)] ∨ ∃ ys, xs = [.lst (P.cellsOf e) false ys] ∧ ys.length ≤ maxLen ∧ ∀ y ∈ ys, ∃ cs, y = mkE (P.cellsOf e) cs ∧ cs.length = P.cellsOf e ∧ WT P d e cs
    | some (.struct fs) => WTF (WT P d) fs.toList xs
    | some (.array n e) => WTN (WT P d e) n xs
    | _ => False
def okT (P : Program) : Nat → TypeId → Bool
  | 0, _ => false
  | d + 1, t =>
    match P.underlying t with
    | some .bool | some (.int _) | some .string => P.cellsOf t == 1
    | some (.slice e) => P.cellsOf t == 1 && decide (0 < P.cellsOf e) && okT P d e
    | some (.struct fs) => tiles P fs.toList 0 (P.cellsOf t) && fs.toList.all fun f => okT P d f.type
    | some (.array n e) => P.cellsOf t == n * P.cellsOf e && okT P d e
    | _ => false
def FH (H : Heap) (b : Nat) : Option (List Value) := match H[b]? with | some (.cells cs _) => some cs | _ => none
def W0 (H : Heap) : Wd := ⟨fun _ => none, FH H⟩
structure Lay (w : World) (ι : Inj) (H : Heap) : Prop where
  rel : Rel ι H w
  ro : ∀ b, b < H.size → ∃ cs, H[b]? = some (.cells cs true)
structure Ext (ι : Inj) (H : Heap) (ι' : Inj) (H' : Heap) : Prop where
  le : Le ι ι'
  F : ∀ b cs, FH H b = some cs → FH H' b = some cs
theorem Ext.refl (ι : Inj) (H : Heap) : Ext ι H ι H := ⟨.refl ι, fun _ _ h => h⟩
theorem Ext.trans {ι ι' ι'' : Inj} {H H' H'' : Heap} (h : Ext ι H ι' H') (k : Ext ι' H' ι'' H'') : Ext ι H ι'' H'' := ⟨h.le.trans k.le, fun b cs e => k.F b cs (h.F b cs e)⟩
theorem lay_empty (w : World) : Lay w (fun _ => none) #[] := by
  refine ⟨⟨?_, ?_, ?_, ?_, ?_, ?_⟩, ?_⟩
  · intro b l h; cases h
  · intro b l h; cases h
  · intro b l cs ro h; cases h
  · intro b l cs h; cases h
  · intro b l es k h; cases h
  · intro b c l m h; cases h
  · intro b h; simp at h
theorem Lay.push {w : World} {ι : Inj} {H : Heap} (h : Lay w ι H) {cs : List Value} {l : Loc} (hb : l.blk < w.heap.size)
    (hc : ∀ (i : Nat) v, cs[i]? = some v → one v = true ∧ ∃ c, w.cell? ⟨l.blk, l.δ + i, none⟩ = some c ∧ VR ι v c) :
    ∃ ι', Lay w ι' (H.push (.cells cs true)) ∧ Ext ι H ι' (H.push (.cells cs true)) ∧ ι' H.size = some l := by
  refine ⟨fun b => if b = H.size then some l else ι b, ?_, ?_, by simp⟩
  · have hle : Le ι (fun b => if b = H.size then some l else ι b) := fun b m hm => by
      have := h.rel.dom b m hm
      show (if b = H.size then some l else ι b) = some m
      rw [if_neg (Nat.ne_of_lt this)]
      exact hm
    have hold : ∀ {b m}, (if b = H.size then some l else ι b) = some m → b ≠ H.size → ι b = some m := fun {b m} hm hne => by rwa [if_neg hne] at hm
    have hnot : ∀ b, ¬ own (H.push (.cells cs true)) b := by
      intro b ho
      have : ∃ ds, (H.push (Blk.cells cs true))[b]? = some (.cells ds true) ∨ (H.push (Blk.cells cs true))[b]? = none := by
        rw [Array.getElem?_push]
        split
        · exact ⟨cs, .inl rfl⟩
        · rcases Nat.lt_or_ge b H.size with hlt | hge
          · obtain ⟨ds, hd⟩ := h.ro b hlt
            exact ⟨ds, .inl hd⟩
          · exact ⟨[], .inr (Array.getElem?_eq_none hge)⟩
      obtain ⟨ds, hd | hd⟩ := this <;> rcases ho with ⟨es, he⟩ | ⟨es, k, he⟩ <;> rw [hd] at he <;> cases he
    refine ⟨⟨?_, ?_, ?_, ?_, ?_, ?_⟩, ?_⟩
    · intro b m hm
      by_cases hb : b = H.size
      · subst hb; simp
      · have := h.rel.dom b m (hold hm hb); simp; omega
    · intro b m hm
      by_cases hbs : b = H.size
      · subst hbs; simp at hm; subst hm; exact hb
      · exact h.rel.bound b m (hold hm hbs)
    · intro b m ds ro hm hH i v hv
      by_cases hbs : b = H.size
      · subst hbs
        simp at hm
        subst hm
        rw [Array.getElem?_push, if_pos rfl] at hH
        simp only [Option.some.injEq, Blk.cells.injEq] at hH
        obtain ⟨rfl, rfl⟩ := hH
        obtain ⟨h1, c, h2, h3⟩ := hc i v hv
        exact ⟨h1, c, h2, h3.mono hle⟩
      · have hm' := hold hm hbs
        rw [Array.getElem?_push, if_neg hbs] at hH
        obtain ⟨h1, c, h2, h3⟩ := h.rel.cells b m ds ro hm' hH i v hv
        exact ⟨h1, c, h2, h3.mono hle⟩
    · intro b m ds hm hH
      exact (hnot b (.inl ⟨ds, hH⟩)).elim
    · intro b m es k hm hH
      exact (hnot b (.inr ⟨es, k, hH⟩)).elim
    · intro b c m m' _ _ _ _ ho
      exact (hnot b ho).elim
    · intro b hb
      simp at hb
      rw [Array.getElem?_push]
      split
      · exact ⟨cs, rfl⟩
      · exact h.ro b (by omega)
  · refine ⟨fun b m hm => ?_, fun b ds hF => ?_⟩
    · have := h.rel.dom b m hm
      show (if b = H.size then some l else ι b) = some m
      rw [if_neg (Nat.ne_of_lt this)]
      exact hm
    · unfold FH at hF ⊢
      rw [Array.getElem?_push, if_neg]
      · exact hF
      · rintro rfl
        simp at hF
theorem W0.le {ι ι' : Inj} {H H' : Heap} (h : Ext ι H ι' H') : ∀ β cs, (W0 H).F β = some cs → (W0 H').F β = some cs := h.F
def Laid (ι : Inj) (H : Heap) (xs : List IV) (cs : List Value) : Prop := ∃ gs, CRL (W0 H) xs gs ∧ VRL ι gs cs
theorem Laid.ext {ι ι' : Inj} {H H' : Heap} {xs : List IV} {cs : List Value} (h : Laid ι H xs cs) (hp : ipureL xs = true) (hx : Ext ι H ι' H') : Laid ι' H' xs cs := by
  obtain ⟨gs, h1, h2⟩ := h
  exact ⟨gs, h1.pure hx.F _ _ hp, VRL.mono hx.le _ _ h2⟩
theorem Laid.append {ι : Inj} {H : Heap} {xs ys : List IV} {cs ds : List Value} (h : Laid ι H xs cs) (k : Laid ι H ys ds) : Laid ι H (xs ++ ys) (cs ++ ds) := by
  obtain ⟨gs, h1, h2⟩ := h
  obtain ⟨es, k1, k2⟩ := k
  exact ⟨gs ++ es, h1.append k1, h2.append k2⟩
theorem Laid.one {ι : Inj} {H : Heap} {v : Value} (h1 : scOK v = true) (h2 : one v = true) (h3 : VR ι v v) : Laid ι H [.sc v] [v] :=
  ⟨[v], CRL.cons_iff.2 ⟨v, [], rfl, by simpa [ione] using h2, h2, by simp [CR, h1, h2], CRL.nil_iff.2 rfl⟩, by simp [VRL, h3]⟩
theorem Laid.len {ι : Inj} {H : Heap} {xs : List IV} {cs : List Value} (h : Laid ι H xs cs) : cs.length = xs.length := by
  obtain ⟨gs, h1, h2⟩ := h
  rw [← h2.length, h1.len]
theorem ipureL_app {a b : List IV} (h : ipureL a = true) (k : ipureL b = true) : ipureL (a ++ b) = true :=
  ipureL_iff.2 fun x hx => by
    rcases List.mem_append.1 hx with hx | hx
    · exact ipureL_iff.1 h x hx
    · exact ipureL_iff.1 k x hx
section
variable {Hd : Type} {enc : TypeId × Value → Hd} {P : Program} {w : World} {sp : Nat → Bool} {held : Bool}
def LayT (P : Program) (w : World) (d : Nat) (t : TypeId) (cs : List Value) : Prop :=
  ∀ ι H, Lay w ι H → ∃ xs ι' H', Lay w ι' H' ∧ Ext ι H ι' H' ∧ WT P d t xs ∧ ipureL xs = true ∧ Laid ι' H' xs cs ∧ xs.length = P.cellsOf t
theorem drop_take_split {α : Type} (l : List α) (a b : Nat) : l.drop a = (l.drop a).take b ++ l.drop (a + b) := by
  rw [← List.drop_drop]; exact (List.take_append_drop b (l.drop a)).symm
theorem lay_fields {d : Nat} {cs : List Value} : ∀ (fs : List Field) (off : Nat), tiles P fs off cs.length = true → (∀ f ∈ fs, LayT P w d f.type ((cs.drop f.offset).take (P.cellsOf f.type))) →
    ∀ ι H, Lay w ι H → ∃ xs ι' H', Lay w ι' H' ∧ Ext ι H ι' H' ∧ WTF (WT P d) fs xs ∧ ipureL xs = true ∧ Laid ι' H' xs (cs.drop off)
  | [], off, ht, _, ι, H, hL => by
    simp only [tiles, beq_iff_eq] at ht
    subst ht
    exact ⟨[], ι, H, hL, .refl _ _, rfl, rfl, [], by simp [CRL], by simp [VRL]⟩
  | f :: fs, off, ht, hf, ι, H, hL => by
    simp only [tiles, Bool.and_eq_true, beq_iff_eq] at ht
    obtain ⟨ho, ht⟩ := ht
    obtain ⟨xs, ι1, H1, h1, h2, h3, h4, h5, h6⟩ := hf f (by simp) ι H hL
    obtain ⟨ys, ι2, H2, k1, k2, k3, k4, k5⟩ := lay_fields fs (off + P.cellsOf f.type) ht (fun g hg => hf g (by simp [hg])) ι1 H1 h1
    refine ⟨xs ++ ys, ι2, H2, k1, h2.trans k2, ⟨xs, ys, rfl, h3, k3⟩, ipureL_app h4 k4, ?_⟩
    rw [drop_take_split cs off (P.cellsOf f.type), ← ho]
    exact (h5.ext h4 k2).append (by rw [ho]; exact k5)
theorem lay_array {d : Nat} {e : TypeId} {cs : List Value} : ∀ (n i : Nat), cs.length = (i + n) * P.cellsOf e → (∀ j, i ≤ j → j < i + n → LayT P w d e ((cs.drop (j * P.cellsOf e)).take (P.cellsOf e))) →
    ∀ ι H, Lay w ι H → ∃ xs ι' H', Lay w ι' H' ∧ Ext ι H ι' H' ∧ WTN (WT P d e) n xs ∧ ipureL xs = true ∧ Laid ι' H' xs (cs.drop (i * P.cellsOf e))
  | 0, i, hl, _, ι, H, hL => by
    refine ⟨[], ι, H, hL, .refl _ _, rfl, rfl, [], by simp [CRL], ?_⟩
    rw [List.drop_eq_nil_of_le (by rw [hl]; simp)]
    simp [VRL]
  | n + 1, i, hl, hf, ι, H, hL => by
    obtain ⟨xs, ι1, H1, h1, h2, h3, h4, h5, h6⟩ := hf i (Nat.le_refl _) (by omega) ι H hL
    obtain ⟨ys, ι2, H2, k1, k2, k3, k4, k5⟩ := lay_array n (i + 1) (by rw [hl]; congr 1; omega) (fun j hj hj2 => hf j (by omega) (by omega)) ι1 H1 h1
    refine ⟨xs ++ ys, ι2, H2, k1, h2.trans k2, ⟨xs, ys, rfl, h3, k3⟩, ipureL_app h4 k4, ?_⟩
    rw [drop_take_split cs (i * P.cellsOf e) (P.cellsOf e), ← Nat.succ_mul]
    exact (h5.ext h4 k2).append k5
theorem mapM_ex {α β : Type} {f : α → Option β} : ∀ {l : List α} {m : List β}, l.mapM f = some m → ∀ x ∈ l, ∃ y, f x = some y
  | [], m, _, x, hx => by simp at hx
  | a :: l, m, h, x, hx => by
    rcases mapM_some h with ⟨h0, _⟩ | ⟨a', r, y, s, h0, rfl, h1, h2⟩
    · cases h0
    · cases h0
      rcases List.mem_cons.1 hx with rfl | hx
      · exact ⟨y, h1⟩
      · exact mapM_ex h2 x hx
theorem mapM_idx {α β : Type} {f : α → Option β} : ∀ {l : List α} {m : List β} {i : Nat} {x : α}, l.mapM f = some m → l[i]? = some x → ∃ y, m[i]? = some y ∧ f x = some y
  | [], m, i, x, _, hx => by simp at hx
  | a :: l, m, i, x, h, hx => by
    rcases mapM_some h with ⟨h0, _⟩ | ⟨a', r, y, s, h0, rfl, h1, h2⟩
    · cases h0
    · cases h0
      cases i with
      | zero => simp at hx; subst hx; exact ⟨y, by simp, h1⟩
      | succ i => simpa using mapM_idx (i := i) h2 (by simpa using hx)
theorem lay_row {d : Nat} {e : TypeId} {a : Addr} {len : Nat} (hsp : a.spot = none) (hel : ∀ i, i < len → ∃ cs, w.cells? 0 (a.add (i * P.cellsOf e)) (P.cellsOf e) = some cs ∧ LayT P w d e cs) :
    ∀ (n i : Nat), i + n = len → ∀ ι H, Lay w ι H → ∃ ys gs ι' H', Lay w ι' H' ∧ Ext ι H ι' H' ∧ ys.length = n ∧ (∀ y ∈ ys, ∃ cs, y = mkE (P.cellsOf e) cs ∧ cs.length = P.cellsOf e ∧ WT P d e cs) ∧ ipureL ys = true ∧
      CRF (W0 H') (P.cellsOf e) ys gs ∧ gs.length = n * P.cellsOf e ∧ ∀ (j : Nat) v, gs[j]? = some v → one v = true ∧ ∃ c, w.cell? ⟨a.block, a.off + i * P.cellsOf e + j, none⟩ = some c ∧ VR ι' v c
  | 0, i, _, ι, H, hL => ⟨[], [], ι, H, hL, .refl _ _, rfl, by simp, rfl, by simp [CRF], by simp, by simp⟩
  | n + 1, i, hi, ι, H, hL => by
    obtain ⟨cs, hcs, hlay⟩ := hel i (by omega)
    obtain ⟨xs, ι1, H1, h1, h2, h3, h4, h5, h6⟩ := hlay ι H hL
    obtain ⟨ys, gs, ι2, H2, k1, k2, k3, k4, k5, k6, k7, k8⟩ := lay_row hsp hel n (i + 1) (by omega) ι1 H1 h1
    obtain ⟨gx, hx1, hx2⟩ := h5.ext h4 k2
    have hgl : gx.length = P.cellsOf e := by rw [hx1.len, h6]
    have hcl : cs.length = P.cellsOf e := by rw [← hx2.length, hgl]
    refine ⟨mkE (P.cellsOf e) xs :: ys, gx ++ gs, ι2, H2, k1, h2.trans k2, by simp [k3], ?_, ?_, ?_, ?_, ?_⟩
    · intro y hy
      rcases List.mem_cons.1 hy with rfl | hy
      · exact ⟨xs, rfl, h6, h3⟩
      · exact k4 y hy
    · simp only [ipureL, k5, Bool.and_true]; exact ipure_mkE (ipureL_iff.1 h4)
    · simp only [CRF]
      refine ⟨by rw [mkE_len h6 hx1.ones.1]; exact h6, ?_, ?_⟩
      · rw [List.take_left' hgl]; exact mkE_CR h6 hx1
      · rw [List.drop_left' hgl]; exact k6
    · simp [hgl, k7, Nat.succ_mul]; omega
    · intro j v hj
      rcases Nat.lt_or_ge j (P.cellsOf e) with hlt | hge
      · rw [List.getElem?_append_left (by omega)] at hj
        have ho : one v = true := List.all_eq_true.1 hx1.ones.2 v (List.mem_of_getElem? hj)
        refine ⟨ho, ?_⟩
        obtain ⟨c, hc1, hc2⟩ := hx2.get hj
        refine ⟨c, ?_, hc2⟩
        simp only [World.cells?, Nat.zero_le, if_true] at hcs
        obtain ⟨y, hy1, hy2⟩ := mapM_idx hcs (i := j) (x := j) (by simp [hlt])
        rw [hc1] at hy1
        cases hy1
        have : (a.add (i * P.cellsOf e)).add j = ⟨a.block, a.off + i * P.cellsOf e + j, none⟩ := by
          obtain ⟨ab, ao, as⟩ := a
          simp only at hsp
          subst hsp
          unfold Addr.add
          simp only
          split <;> split <;> simp_all
        rw [this] at hy2
        exact hy2
      · rw [List.getElem?_append_right (by omega)] at hj
        obtain ⟨ho, c, hc1, hc2⟩ := k8 _ v hj
        refine ⟨ho, c, ?_, hc2⟩
        rw [← hc1]
        congr 2
        rw [Nat.succ_mul, hgl]
        omega
theorem cell_lt {a : Addr} {c : Value} (h : w.cell? a = some c) : a.block < w.heap.size := by
  rcases Nat.lt_or_ge a.block w.heap.size with hlt | hge
  · exact hlt
  · unfold World.cell? at h
    rw [Array.getElem?_eq_none hge] at h
    simp at h
theorem spot_of {a : Addr} {n : Nat} {cs : List Value} (hn : 0 < n) (h : w.cells? 0 (a.add 0) n = some cs) : a.spot = none ∧ a.block < w.heap.size := by
  simp only [World.cells?, Nat.zero_le, if_true] at h
  obtain ⟨y, hy⟩ := mapM_ex h 0 (by simp [hn])
  have ha : (a.add 0).add 0 = a := rfl
  rw [ha] at hy
  refine ⟨?_, cell_lt hy⟩
  unfold World.cell? at hy
  split at hy
  · cases hs : a.spot with
    | none => rfl
    | some s => rw [hs] at hy; simp at hy
  · simp at hy
def noSl (cs : List Value) : Prop := ∀ c ∈ cs, ∀ a n k, c ≠ .slice (some a) n k
theorem lay_trod : ∀ (d n : Nat) (t : TypeId) (cs : List Value) (x : DataW Hd × List MemPlace), (0 < w.heap.size ∨ noSl cs) → okT P d t = true → DataW.trod enc P w 0 (fun _ => true) held n t cs = some x → LayT P w d t cs
  | 0, n, t, cs, x, hz, hok, h => by simp [okT] at hok
  | d + 1, 0, t, cs, x, hz, hok, h => by simp [DataW.trod] at h
  | d + 1, n + 1, t, cs, x, hz, hok, h => by
    intro ι H hL
    unfold DataW.trod at h
    cases ht : P.underlying t with
    | none => simp [okT, ht] at hok
    | some u =>
    simp only [okT, ht] at hok
    simp only [ht] at h
    cases u with
    | bool =>
      simp only [beq_iff_eq] at hok
      match cs, h with
      | [.bool b], _ => exact ⟨[.bool b], ι, H, hL, .refl _ _, by simp [WT, ht], rfl, .one rfl rfl (by simp [VR]), by simp [hok]⟩
    | int k =>
      simp only [beq_iff_eq] at hok
      match cs, h with
      | [.int k' m], h =>
        simp only at h
        split at h
        · rename_i hc
          obtain ⟨rfl, hw⟩ := hc
          exact ⟨[.int k' m], ι, H, hL, .refl _ _, by simp [WT, ht, hw], rfl, .one rfl rfl (by simp [VR]), by simp [hok]⟩
        · simp at h
    | string =>
      simp only [beq_iff_eq] at hok
      match cs, h with
      | [.string s], h =>
        simp only at h
        split at h
        · rename_i hc
          exact ⟨[.sc (.string s)], ι, H, hL, .refl _ _, by simp [WT, ht, hc], rfl, .one rfl rfl (by simp [VR]), by simp [hok]⟩
        · simp at h
    | slice e =>
      simp only [Bool.and_eq_true, beq_iff_eq, decide_eq_true_eq] at hok
      obtain ⟨⟨hct, hce⟩, hoke⟩ := hok
      match cs, h, hz with
      | [.slice none 0 0], h, _ => exact ⟨[.sc (.slice none 0 0)], ι, H, hL, .refl _ _, by simp [WT, ht], rfl, .one rfl rfl (by simp [VR]), by simp [hct]⟩
      | [.slice (some a) len cap], h, hz =>
        have hpos : 0 < w.heap.size := by
          rcases hz with hz | hz
          · exact hz
          · exact absurd rfl (hz _ (by simp) a len cap)
        simp only at h
        split at h
        · rename_i hc
          obtain ⟨_, hlc, hcm⟩ := hc
          cases hel : (List.range len).mapM (fun i => (w.cells? 0 (a.add (i * P.cellsOf e)) (P.cellsOf e)).bind (DataW.trod enc P w 0 (fun _ => true) held n e)) with
          | none => rw [hel] at h; simp at h
          | some els =>
          rw [hel] at h
          simp only [Option.bind_some, if_true] at h
          cases hsr : (List.range (cap - len)).mapM (fun j => (w.cells? 0 (a.add ((len + j) * P.cellsOf e)) (P.cellsOf e)).bind (DataW.trod enc P w 0 (fun _ => true) held n e)) with
          | none => rw [hsr] at h; simp at h
          | some rest =>
          have hmU : cap < UNK := by unfold maxLen at hcm; unfold UNK; omega
          have helem : ∀ i, i < len → ∃ cs, w.cells? 0 (a.add (i * P.cellsOf e)) (P.cellsOf e) = some cs ∧ LayT P w d e cs := by
            intro i hi
            obtain ⟨y, hy⟩ := mapM_ex hel i (by simp [hi])
            cases hcs : w.cells? 0 (a.add (i * P.cellsOf e)) (P.cellsOf e) with
            | none => rw [hcs] at hy; simp at hy
            | some cs =>
              rw [hcs] at hy
              exact ⟨cs, rfl, lay_trod d n e cs y (.inl hpos) hoke hy⟩
          have hspot : 0 < cap → a.spot = none ∧ a.block < w.heap.size := by
            intro hcp
            by_cases hl0 : 0 < len
            · obtain ⟨cs, hcs, _⟩ := helem 0 hl0
              rw [Nat.zero_mul] at hcs
              exact spot_of hce hcs
            · obtain ⟨y, hy⟩ := mapM_ex hsr 0 (by simp; omega)
              cases hcs : w.cells? 0 (a.add ((len + 0) * P.cellsOf e)) (P.cellsOf e) with
              | none => rw [hcs] at hy; simp at hy
              | some cs =>
                obtain rfl : len = 0 := by omega
                rw [Nat.add_zero, Nat.zero_mul] at hcs
                exact spot_of hce hcs
          by_cases hcp : 0 < cap
          · obtain ⟨hsp, hblk⟩ := hspot hcp
            obtain ⟨ys, gs, ι1, H1, k1, k2, k3, k4, k5, k6, k7, k8⟩ := lay_row (P := P) hsp helem len 0 (by omega) ι H hL
            obtain ⟨ι2, h1, h2, h3⟩ := k1.push (cs := gs) (l := ⟨a.block, a.off, 0⟩) hblk (fun j v hj => by
              obtain ⟨ho, c, hc1, hc2⟩ := k8 j v hj
              refine ⟨ho, c, ?_, hc2⟩
              rw [Nat.zero_mul, Nat.add_zero] at hc1
              exact hc1)
            have hF : (W0 (H1.push (.cells gs true))).F H1.size = some gs := by simp [W0, FH]
            refine ⟨[.lst (P.cellsOf e) false ys], ι2, _, h1, k2.trans h2, ?_, rfl, ⟨[.slice (some ⟨H1.size, 0, none⟩) len cap], ?_, ?_⟩, by simp [hct]⟩
            · simp only [WT, ht]
              exact .inr ⟨ys, rfl, by rw [k3]; omega, k4⟩
            · refine CRL.cons_iff.2 ⟨_, [], rfl, rfl, rfl, ?_, CRL.nil_iff.2 rfl⟩
              have := IR.mk_lst (full := false) (xs := ys) (o := 0) (cap := cap) (n := len) hF k3.symm hce (by rw [k7, k3]; omega) (.inl ⟨hmU, by rw [k3]; exact hlc⟩) (fun e => by cases e) k5 (by simpa using k6.pure h2.F _ _ _ k5)
              simpa only [IR] using this
            · obtain ⟨ab, ao, as⟩ := a
              simp only at hsp
              subst hsp
              simp only [VRL, VR, and_true]
              exact ⟨_, h3, trivial, .inl ⟨hmU, hlc, by simp⟩⟩
          · obtain rfl : cap = 0 := by omega
            obtain rfl : len = 0 := by omega
            obtain ⟨ι2, h1, h2, h3⟩ := hL.push (cs := []) (l := ⟨0, 0, 0⟩) hpos (fun j v hj => by simp at hj)
            have hF : (W0 (H.push (.cells [] true))).F H.size = some [] := by simp [W0, FH]
            refine ⟨[.lst (P.cellsOf e) false []], ι2, _, h1, h2, ?_, rfl, ⟨[.slice (some ⟨H.size, 0, none⟩) 0 0], ?_, ?_⟩, by simp [hct]⟩
            · simp only [WT, ht]
              exact .inr ⟨[], rfl, by simp, by simp⟩
            · refine CRL.cons_iff.2 ⟨_, [], rfl, rfl, rfl, ?_, CRL.nil_iff.2 rfl⟩
              have := IR.mk_lst (full := false) (xs := []) (o := 0) (cap := 0) (n := 0) hF rfl hce (by simp) (.inl ⟨by simp [UNK], by simp⟩) (fun e => by cases e) rfl (by simp [CRF])
              simpa only [IR] using this
            · simp only [VRL, VR, and_true]
              exact ⟨_, h3, trivial, .inr (.inr (.inr ⟨trivial, trivial, a, rfl⟩))⟩
        · simp at h
    | struct fs =>
      simp only [Bool.and_eq_true, List.all_eq_true] at hok
      simp only at h
      split at h
      · rename_i hlen
        cases hel : fs.toList.mapM (fun f => DataW.trod enc P w 0 (fun _ => true) held n f.type ((cs.drop f.offset).take (P.cellsOf f.type))) with
        | none => rw [hel] at h; simp at h
        | some els =>
        obtain ⟨xs, ι1, H1, h1, h2, h3, h4, h5⟩ := lay_fields (P := P) (w := w) (d := d) (cs := cs) fs.toList 0 (by rw [hlen]; exact hok.1) (fun f hf => by
          obtain ⟨y, hy⟩ := mapM_ex hel f hf
          refine lay_trod d n f.type _ y ?_ (hok.2 f hf) hy
          rcases hz with hz | hz
          · exact .inl hz
          · exact .inr fun c hc => hz c (List.mem_of_mem_drop (List.mem_of_mem_take hc))) ι H hL
        rw [List.drop_zero] at h5
        exact ⟨xs, ι1, H1, h1, h2, by simp only [WT, ht]; exact h3, h4, h5, by rw [← h5.len, hlen]⟩
      · simp at h
    | array m e =>
      simp only [Bool.and_eq_true, beq_iff_eq] at hok
      simp only at h
      split at h
      · rename_i hlen
        cases hel : (List.range m).mapM (fun i => DataW.trod enc P w 0 (fun _ => true) held n e ((cs.drop (i * P.cellsOf e)).take (P.cellsOf e))) with
        | none => rw [hel] at h; simp at h
        | some els =>
        obtain ⟨xs, ι1, H1, h1, h2, h3, h4, h5⟩ := lay_array (P := P) (w := w) (d := d) (e := e) (cs := cs) m 0 (by rw [hlen, hok.1]; simp) (fun j _ hj => by
          obtain ⟨y, hy⟩ := mapM_ex hel j (by simp; omega)
          refine lay_trod d n e _ y ?_ hok.2 hy
          rcases hz with hz | hz
          · exact .inl hz
          · exact .inr fun c hc => hz c (List.mem_of_mem_drop (List.mem_of_mem_take hc))) ι H hL
        rw [Nat.zero_mul, List.drop_zero] at h5
        exact ⟨xs, ι1, H1, h1, h2, by simp only [WT, ht]; exact h3, h4, h5, by rw [← h5.len, hlen]⟩
      · simp at h
    | _ => simp at hok
end
end Go.Proofs.Ytohclaopcejjnaa.G
namespace Go.Proofs.Ytohclaopcejjnaa.G
open Go Go.RowKit Go.ChangeShapes
set_option linter.unusedSimpArgs false
set_option linter.unusedVariables false
def argOf (P : Program) (t : TypeId) (cs : List IV) : IV := if isAggT P t then .agg cs else cs.headD (.tup [])
def WTA (P : Program) (D : Nat) : List TypeId → List IV → Prop
  | [], xs => xs = []
  | t :: ts, xs => ∃ cs r, xs = argOf P t cs :: r ∧ WT P D t cs ∧ WTA P D ts r
section
variable {Hd : Type} {enc : TypeId × Value → Hd} {P : Program} {W : World}
theorem okWide_sl {r : Reach} {base : Nat} {u : TypeId} {a : Addr} {n k : Nat} (h : Cell.okWide P W r base u (.slice (some a) n k)) : 0 < W.heap.size := by
  unfold Cell.okWide at h
  split at h
  all_goals first
    | (rename_i heq; cases heq; done)
    | (unfold Cell.ok at h
       split at h
       all_goals first
         | (rename_i heq; cases heq; done)
         | (exact h.elim)
         | skip)
  all_goals try (rename_i heq _; cases heq; done)
  rename_i heq
  cases heq
  obtain ⟨_, _, _, _, row, cells, hs, _⟩ := h
  unfold World.shape? at hs
  rcases Nat.lt_or_ge a.block W.heap.size with hlt | hge
  · omega
  · rw [Array.getElem?_eq_none hge] at hs
    simp at hs
theorem arg_shape {D : Nat} {t : TypeId} {r : Reach} {base : Nat} {v : Value} (hok : okT P D t = true) (h : Value.okWide P W r base t v) :
    ((isAggT P t = true ∧ ∃ a, v = .agg a) ∨ (isAggT P t = false ∧ v.cells.toList = [v])) ∧ (0 < W.heap.size ∨ noSl v.cells.toList) := by
  cases D with
  | zero => simp [okT] at hok
  | succ D =>
  cases ht : P.underlying t with
  | none => simp [okT, ht] at hok
  | some u =>
  unfold Value.okWide at h
  simp only [ht] at h
  have agg : ∀ {cs : Array Value}, Row.okWide P W r base t cs → (0 < W.heap.size ∨ noSl cs.toList) := by
    intro cs hr
    by_cases hz : 0 < W.heap.size
    · exact .inl hz
    · refine .inr fun c hc a n k e => ?_
      subst e
      obtain ⟨ts, _, _, hall⟩ := hr
      obtain ⟨i, hi, hi2⟩ := List.mem_iff_getElem.1 hc
      obtain ⟨u, _, hu⟩ := hall i _ (by rw [← Array.getElem?_toList]; rw [List.getElem?_eq_getElem hi, hi2])
      exact hz (okWide_sl hu)
  have one1 : ∀ {r : Reach} {base : Nat}, Cell.okWide P W r base t v → (0 < W.heap.size ∨ noSl [v]) := by
    intro r base hr
    by_cases hz : 0 < W.heap.size
    · exact .inl hz
    · refine .inr fun c hc a n k e => ?_
      simp at hc
      subst hc e
      exact hz (okWide_sl hr)
  cases u with
  | struct fs =>
    obtain ⟨cs, rfl, _, hr⟩ := h
    exact ⟨.inl ⟨by simp [isAggT, ht], cs, rfl⟩, agg hr⟩
  | array n e =>
    obtain ⟨cs, rfl, _, hr⟩ := h
    exact ⟨.inl ⟨by simp [isAggT, ht], cs, rfl⟩, agg hr⟩
  | bool =>
    have h' := h
    unfold Cell.okWide at h'
    simp only [ht] at h'
    unfold Cell.ok at h'
    simp only [ht] at h'
    cases v <;> simp at h'
    exact ⟨.inr ⟨by simp [isAggT, ht], rfl⟩, one1 h⟩
  | int k =>
    have h' := h
    unfold Cell.okWide at h'
    simp only [ht] at h'
    unfold Cell.ok at h'
    simp only [ht] at h'
    cases v <;> simp at h'
    exact ⟨.inr ⟨by simp [isAggT, ht], rfl⟩, one1 h⟩
  | string =>
    have h' := h
    unfold Cell.okWide at h'
    simp only [ht] at h'
    unfold Cell.ok at h'
    simp only [ht] at h'
    cases v <;> simp at h'
    exact ⟨.inr ⟨by simp [isAggT, ht], rfl⟩, one1 h⟩
  | slice e =>
    have h' := h
    unfold Cell.okWide at h'
    simp only [ht] at h'
    unfold Cell.ok at h'
    simp only [ht] at h'
    cases v <;> simp at h'
    exact ⟨.inr ⟨by simp [isAggT, ht], rfl⟩, one1 h⟩
  | _ => simp [okT, ht] at hok
theorem lay_all {D : Nat} : ∀ (ts : List TypeId) (vs : List Value) (ds : List (DataW Hd)) (p : List MemPlace) {r : Reach} {base : Nat}, DataW.TrodAll enc P W 0 (fun _ => true) true ts vs ds p → (∀ t ∈ ts, okT P D t = true) →
    (∀ (j : Nat) t v, ts[j]? = some t → vs[j]? = some v → Value.okWide P W r base t v) →
    ∀ ι H, Lay W ι H → ∃ xs gs ι' H', Lay W ι' H' ∧ Ext ι H ι' H' ∧ WTA P D ts xs ∧ ipureL xs = true ∧ IRL (W0 H') xs gs ∧ VRL ι' gs vs
  | [], [], [], p, r, base, h, _, _, ι, H, hL => ⟨[], [], ι, H, hL, .refl _ _, rfl, rfl, by simp [IRL], by simp [VRL]⟩
  | t :: ts, v :: vs, d :: ds, p, r, base, h, hok, hval, ι, H, hL => by
    obtain ⟨p1, q1, ⟨fuel, h1⟩, h2, _⟩ := h
    have hv := hval 0 t v rfl rfl
    have hot := hok t (by simp)
    obtain ⟨hsh, hz⟩ := arg_shape hot hv
    obtain ⟨cs, ι1, H1, k1, k2, k3, k4, ⟨gs1, k5, k6⟩, k7⟩ := lay_trod D fuel t _ _ hz hot h1 ι H hL
    obtain ⟨xs, gs, ι2, H2, m1, m2, m3, m4, m5, m6⟩ := lay_all ts vs ds q1 h2 (fun u hu => hok u (by simp [hu])) (fun j u w hu hw => hval (j + 1) u w (by simpa using hu) (by simpa using hw)) ι1 H1 k1
    rcases hsh with ⟨hagg, a, rfl⟩ | ⟨hagg, hc⟩
    · refine ⟨.agg cs :: xs, .agg gs1.toArray :: gs, ι2, H2, m1, k2.trans m2, ⟨cs, xs, by simp [argOf, hagg], k3, m3⟩, by simp [ipureL, ipure, k4, m4], IRL.cons_iff.2 ⟨_, _, rfl, (IR.mk_agg k5).pure m2.F _ _ (by simp [ipure, k4]), m5⟩, ?_⟩
      simp only [VRL, VR]
      exact ⟨⟨a, rfl, VRA_iff.2 (VRL.mono m2.le _ _ k6), k5.ones.2⟩, m6⟩
    · rw [hc] at k6
      have hl := k6.length
      have hl2 := k5.len
      match cs, gs1, hl, hl2, k5, k4, k3, k6 with
      | [x], [g], _, _, k5, k4, k3, k6 =>
        obtain ⟨g', gs', hg, hx1, hx2, hx3, _⟩ := CRL.cons_iff.1 k5
        simp only [List.cons.injEq] at hg
        obtain ⟨rfl, rfl⟩ := hg
        simp only [ipureL, Bool.and_true] at k4
        simp only [VRL, and_true] at k6
        refine ⟨x :: xs, g :: gs, ι2, H2, m1, k2.trans m2, ⟨[x], xs, by simp [argOf, hagg], k3, m3⟩, by simp [ipureL, k4, m4], IRL.cons_iff.2 ⟨_, _, rfl, (hx3.toIR hx1).pure m2.F _ _ k4, m5⟩, ?_⟩
        simp only [VRL]
        exact ⟨k6.mono m2.le, m6⟩
  | [], [], _ :: _, _, _, _, h, _, _, _, _, _ => by simp [DataW.TrodAll] at h
  | [], _ :: _, _, _, _, _, h, _, _, _, _, _ => by simp [DataW.TrodAll] at h
  | _ :: _, [], _, _, _, _, h, _, _, _, _, _ => by simp [DataW.TrodAll] at h
  | _ :: _, _ :: _, [], _, _, _, h, _, _, _, _, _ => by simp [DataW.TrodAll] at h
theorem trodAll_below (hl : laidOutB P = true) {W' : World} (hb : Below W.heap.size W W') : ∀ (ts : List TypeId) (vs : List Value) (ds : List (DataW Hd)) (p : List MemPlace), (∀ t ∈ ts, P.readableRec t = true ∧ t < P.types.size) →
    DataW.TrodAll enc P W 0 (fun _ => true) true ts vs ds p → (∀ x ∈ p, x.block < W.heap.size) → DataW.TrodAll enc P W' 0 (fun b => decide (b < W.heap.size)) true ts vs ds p
  | [], [], [], p, _, h, _ => h
  | t :: ts, v :: vs, d :: ds, p, hr, h, hlt => by
    obtain ⟨p1, q1, h1, h2, rfl⟩ := h
    refine ⟨p1, q1, Below.trod hl (hr t (by simp)).1 (hr t (by simp)).2 h1 hb (fun x hx => hlt x (by simp [hx])), trodAll_below hl hb ts vs ds q1 (fun u hu => hr u (by simp [hu])) h2 (fun x hx => hlt x (by simp [hx])), rfl⟩
  | [], [], _ :: _, _, _, h, _ => by simp [DataW.TrodAll] at h
  | [], _ :: _, _, _, _, h, _ => by simp [DataW.TrodAll] at h
  | _ :: _, [], _, _, _, h, _ => by simp [DataW.TrodAll] at h
  | _ :: _, _ :: _, [], _, _, h, _ => by simp [DataW.TrodAll] at h
theorem frz_bool {J : JH} {k : Nat} {v : IV} {b : Bool} (h : frz J k v = some (.bool b)) : v = .bool b := by
  cases k with
  | zero =>
    simp only [frz] at h
    split at h
    · simpa using h
    · simp at h
  | succ k =>
    simp only [frz] at h
    split at h
    · simpa using h
    · cases v with
      | agg cs => simp only at h; cases hm : cs.mapM (frz J k) <;> rw [hm] at h <;> simp at h
      | tup cs => simp only at h; cases hm : cs.mapM (frz J k) <;> rw [hm] at h <;> simp at h
      | fn f a c => simp only at h; split at h <;> simp at h
      | sl b0 v off n cap sz =>
        simp only at h
        split at h
        · simp at h
        · split at h
          · split at h
            · split at h <;> simp at h
            · simp at h
          · simp at h
      | _ => simp at h
theorem run_law {B : IBook} (hB : IBookOK B (plainBook P)) {f : FuncId} {xs : List IV} (hp : pc B f xs = some (.bool true)) {ι : Inj} {H : Heap} (hL : Lay W ι H) {gs cargs : List Value} (h1 : IRL (W0 H) xs gs) (h2 : VRL ι gs cargs) :
    Calls P f cargs.toArray W fun e w' => e = .returned (.bool true) ∧ Below W.heap.size W w' := by
  unfold pc at hp
  split at hp
  · rename_i v J1 hc
    obtain rfl := frz_bool hp
    obtain ⟨n, hn⟩ := ic_lim hc
    have hHR : HR (W0 H) #[] H := ⟨fun b w β h => by simp [W0] at h, fun b w β cs ro h => by simp [W0] at h, fun b w β es k h => by simp [W0] at h, fun b c w v β h => by simp [W0] at h, fun β cs h => by
      simp only [W0, FH] at h
      split at h
      · rename_i cs' r hr
        simp only [Option.some.injEq] at h
        subst h
        exact ⟨r, hr⟩
      · simp at h⟩
    obtain ⟨W', c, H', k1, k2, k3⟩ := icall_ok hB n f xs #[] _ J1 hn (W0 H) H gs hHR h1
    obtain ⟨rfl, _⟩ := k3.sc
    obtain ⟨g1, g2⟩ := acall_ok (plainBook_ok P) n f gs H _ H' k1 ι W cargs hL.rel h2
    refine g2.mono fun e w' hh => ?_
    obtain ⟨ι', c, rfl, hv, hst⟩ := hh
    simp only [VR] at hv
    subst hv
    refine ⟨rfl, hst.os, hst.tape, hst.output, hst.wsize, fun k hk => hst.keep k hk fun b l hb _ ho => ?_⟩
    obtain ⟨cs, hcs⟩ := hL.ro b (hL.rel.dom b l hb)
    rcases ho with ⟨es, he⟩ | ⟨es, q, he⟩ <;> rw [hcs] at he <;> cases he
  · simp at hp
theorem law_calls {B : IBook} (hB : IBookOK B (plainBook P)) {f : FuncId} {D : Nat} {ts : List TypeId} {vs : List Value} {ds : List (DataW Hd)} {p : List MemPlace} {r : Reach} {base : Nat}
    (hok : ∀ t ∈ ts, okT P D t = true) (hA : DataW.TrodAll enc P W 0 (fun _ => true) true ts vs ds p) (hval : ∀ (j : Nat) t v, ts[j]? = some t → vs[j]? = some v → Value.okWide P W r base t v)
    (hp : ∀ xs, WTA P D ts xs → ipureL xs = true → pc B f xs = some (.bool true)) : Calls P f vs.toArray W fun e w' => e = .returned (.bool true) ∧ Below W.heap.size W w' := by
  obtain ⟨xs, gs, ι, H, m1, _, m3, m4, m5, m6⟩ := lay_all ts vs ds p hA hok hval _ _ (lay_empty W)
  exact run_law hB (hp xs m3 m4) m1 m5 m6
end
#print axioms law_calls
end Go.Proofs.Ytohclaopcejjnaa.G
namespace Go.Proofs.Ytohclaopcejjnaa.G
open Go
set_option linter.unusedVariables false
set_option linter.unusedSimpArgs false
section
variable {P : Program}
theorem wt_int {d : Nat} {t : TypeId} {k : IntKind} (ht : P.underlying t = some (.int k)) {cs : List IV} (h : WT P (d + 1) t cs) : ∃ n, cs = [.int k n] ∧ (Lit.int k n).wf = true := by
  simp only [WT, ht] at h; exact h
theorem wt_slice {d : Nat} {t e : TypeId} (ht : P.underlying t = some (.slice e)) {cs : List IV} (h : WT P (d + 1) t cs) :
    cs = [.sc (.slice none 0 0)] ∨ ∃ ys, cs = [.lst (P.cellsOf e) false ys] ∧ ys.length ≤ maxLen ∧ ∀ y ∈ ys, ∃ cs, y = mkE (P.cellsOf e) cs ∧ cs.length = P.cellsOf e ∧ WT P d e cs := by
  simp only [WT, ht] at h; exact h
theorem wt_struct {d : Nat} {t : TypeId} {fs : Array Field} (ht : P.underlying t = some (.struct fs)) {cs : List IV} (h : WT P (d + 1) t cs) : WTF (WT P d) fs.toList cs := by
  simp only [WT, ht] at h; exact h
theorem choose_list {α : Type} {f : α → IV} {p : α → Prop} : ∀ {ys : List IV}, (∀ y ∈ ys, ∃ a, y = f a ∧ p a) → ∃ l : List α, ys = l.map f ∧ ∀ a ∈ l, p a
  | [], _ => ⟨[], rfl, by simp⟩
  | y :: ys, h => by
    obtain ⟨a, rfl, ha⟩ := h y (by simp)
    obtain ⟨l, rfl, hl⟩ := choose_list (ys := ys) fun z hz => h z (by simp [hz])
    exact ⟨a :: l, rfl, fun b hb => by
      rcases List.mem_cons.1 hb with rfl | hb
      · exact ha
      · exact hl b hb⟩
theorem wt_ints {d : Nat} {t e : TypeId} {k : IntKind} (ht : P.underlying t = some (.slice e)) (he : P.underlying e = some (.int k)) (hc : P.cellsOf e = 1) {cs : List IV} (h : WT P (d + 2) t cs) :
    ∃ zs : List Int, ((cs = [.sc (.slice none 0 0)] ∧ zs = []) ∨ cs = [.lst 1 false (zs.map (IV.int k))]) ∧ zs.length ≤ maxLen ∧ ∀ z ∈ zs, (Lit.int k z).wf = true := by
  rcases wt_slice ht h with rfl | ⟨ys, rfl, h1, h2⟩
  · exact ⟨[], .inl ⟨rfl, rfl⟩, by simp, by simp⟩
  · obtain ⟨zs, rfl, hz⟩ := choose_list (f := IV.int k) (p := fun z => (Lit.int k z).wf = true) (ys := ys) (fun y hy => by
      obtain ⟨cs, rfl, _, hw⟩ := h2 y hy
      obtain ⟨n, rfl, hn⟩ := wt_int he hw
      exact ⟨n, by simp [mkE, hc], hn⟩)
    exact ⟨zs, .inr (by rw [hc]), by simpa using h1, hz⟩
theorem wf_u32 {n : Int} (h : (Lit.int .u32 n).wf = true) : 0 ≤ n ∧ n < 4294967296 := by
  simp [Lit.wf, IntKind.min, IntKind.max, IntKind.signed, IntKind.bits] at h
  omega
theorem wf_u16 {n : Int} (h : (Lit.int .u16 n).wf = true) : 0 ≤ n ∧ n < 65536 := by
  simp [Lit.wf, IntKind.min, IntKind.max, IntKind.signed, IntKind.bits] at h
  omega
theorem wf_u8 {n : Int} (h : (Lit.int .u8 n).wf = true) : 0 ≤ n ∧ n < 256 := by
  simp [Lit.wf, IntKind.min, IntKind.max, IntKind.signed, IntKind.bits] at h
  omega
theorem argOf_one {t : TypeId} (h : isAggT P t = false) (x : IV) : argOf P t [x] = x := by simp [argOf, h]
end
end Go.Proofs.Ytohclaopcejjnaa.G
namespace Go.Proofs.Ytohclaopcejjnaa.G
open Go
set_option linter.unusedSimpArgs false
set_option linter.unusedVariables false
theorem choose_R {α : Type} {R : IV → α → Prop} : ∀ {ys : List IV}, (∀ y ∈ ys, ∃ a, R y a) → ∃ as : List α, ys.length = as.length ∧ ∀ i (h : i < ys.length) (h' : i < as.length), R ys[i] as[i]
  | [], _ => ⟨[], rfl, fun i h => by simp at h⟩
  | y :: ys, h => by
    obtain ⟨a, ha⟩ := h y (by simp)
    obtain ⟨as, h1, h2⟩ := choose_R (ys := ys) fun z hz => h z (by simp [hz])
    refine ⟨a :: as, by simp [h1], fun i hi hi' => ?_⟩
    cases i with
    | zero => exact ha
    | succ i => exact h2 i (by simpa using hi) (by simpa using hi')
theorem dec_list {α : Type} {P : Program} {R : IV → α → Prop} {d : Nat} {t e : TypeId} (ht : P.underlying t = some (.slice e)) (hel : ∀ cs, cs.length = P.cellsOf e → WT P d e cs → ∃ a, R (mkE (P.cellsOf e) cs) a) {cs : List IV} (h : WT P (d + 1) t cs) : ∃ x as, cs = [x] ∧ LsR (P.cellsOf e) R x as ∧ as.length ≤ maxLen := by
  rcases wt_slice ht h with rfl | ⟨ys, rfl, h1, h2⟩
  · exact ⟨_, [], rfl, .nil, by simp⟩
  · obtain ⟨as, h3, h4⟩ := choose_R (R := R) (ys := ys) fun y hy => by
      obtain ⟨cs, rfl, hl, hw⟩ := h2 y hy
      exact hel cs hl hw
    exact ⟨_, as, rfl, ⟨ys, .lst, h3, h4⟩, by omega⟩
def BsM (x : IV) (l : List Int) : Prop := Bs x l ∧ l.length ≤ maxLen ∧ ∀ z ∈ l, (Lit.int .u8 z).wf = true
theorem dec_bytes {P : Program} {d : Nat} {t u : TypeId} (ht : P.underlying t = some (.slice u)) (hu : P.underlying u = some (.int .u8)) (hc : P.cellsOf u = 1) {cs : List IV} (h : WT P (d + 2) t cs) : ∃ x l, cs = [x] ∧ BsM x l := by
  obtain ⟨zs, h1 | h1, h2, h3⟩ := wt_ints ht hu hc h
  · exact ⟨_, zs, h1.1, .inl ⟨rfl, by rw [h1.2]; rfl⟩, h2, h3⟩
  · exact ⟨_, zs, h1, .lst, h2, h3⟩
theorem LsR.imp {α : Type} {sz : Nat} {R S : IV → α → Prop} {x : IV} {as : List α} (h : LsR sz R x as) (hi : ∀ x a, R x a → S x a) : LsR sz S x as := by
  obtain ⟨xs, h1, h2, h3⟩ := h
  exact ⟨xs, h1, h2, fun i h h' => hi _ _ (h3 i h h')⟩
theorem LsR.all {α : Type} {sz : Nat} {R : IV → α → Prop} {x : IV} {as : List α} (h : LsR sz R x as) : ∀ a ∈ as, ∃ e, R e a := fun a ha => by
  obtain ⟨i, hi, rfl⟩ := List.mem_iff_getElem.1 ha
  obtain ⟨e, he, _⟩ := h.at hi
  exact ⟨e, he⟩
theorem dec_frames {P : Program} {d : Nat} {t e u : TypeId} (ht : P.underlying t = some (.slice e)) (he : P.underlying e = some (.slice u)) (hu : P.underlying u = some (.int .u8)) (hce : P.cellsOf e = 1) (hc : P.cellsOf u = 1) {cs : List IV} (h : WT P (d + 3) t cs) : ∃ x ps, cs = [x] ∧ LsR 1 BsM x ps ∧ ps.length ≤ maxLen := by
  obtain ⟨x, as, h1, h2, h3⟩ := dec_list (R := BsM) ht (fun cs hl hw => by
    obtain ⟨x, l, rfl, hx⟩ := dec_bytes he hu hc hw
    exact ⟨l, by rw [hce]; exact hx⟩) h
  rw [hce] at h2
  exact ⟨x, as, h1, h2, h3⟩
theorem wf_fault {h a m : Int} (h1 : (Lit.int .u8 h).wf = true) (h2 : (Lit.int .u16 a).wf = true) (h3 : (Lit.int .u32 m).wf = true) : ∃ f : FaultT, f.cells = [.int .u8 h, .int .u16 a, .int .u32 m] ∧ f.ok := by
  have := wf_u8 h1
  have := wf_u16 h2
  have := wf_u32 h3
  obtain ⟨n, rfl⟩ := Int.eq_ofNat_of_zero_le (show 0 ≤ h by omega)
  obtain ⟨k, rfl⟩ := Int.eq_ofNat_of_zero_le (show 0 ≤ a by omega)
  exact ⟨⟨n, k, m⟩, rfl, by show n < 256; omega, by show k < 65536; omega, by show 0 ≤ m; omega, by show m < 4294967296; omega⟩
theorem dec_fault {P : Program} {d : Nat} {e a b c : TypeId} {fs : Array Field} (he : P.underlying e = some (.struct fs)) (hf : fs.toList.map (·.type) = [a, b, c]) (ha : P.underlying a = some (.int .u8)) (hb : P.underlying b = some (.int .u16)) (hc : P.underlying c = some (.int .u32)) {cs : List IV} (h : WT P (d + 2) e cs) : ∃ f : FaultT, cs = f.cells ∧ f.ok := by
  have hs := wt_struct he h
  generalize fs.toList = l at *
  match l, hf with
  | [x, y, z], hf =>
    simp only [List.map_cons, List.map_nil, List.cons.injEq, and_true] at hf
    obtain ⟨rfl, rfl, rfl⟩ := hf
    obtain ⟨_, _, rfl, h1, _, _, rfl, h2, _, _, rfl, h3, rfl⟩ := hs
    obtain ⟨n, rfl, w1⟩ := wt_int ha h1
    obtain ⟨k, rfl, w2⟩ := wt_int hb h2
    obtain ⟨m, rfl, w3⟩ := wt_int hc h3
    obtain ⟨f, hf, hok⟩ := wf_fault w1 w2 w3
    exact ⟨f, by rw [hf]; rfl, hok⟩
theorem dec_faults {P : Program} {d : Nat} {t e a b c : TypeId} {fs : Array Field} (ht : P.underlying t = some (.slice e)) (he : P.underlying e = some (.struct fs)) (hf : fs.toList.map (·.type) = [a, b, c]) (ha : P.underlying a = some (.int .u8)) (hb : P.underlying b = some (.int .u16)) (hc : P.underlying c = some (.int .u32)) (hce : P.cellsOf e = 3) {cs : List IV} (h : WT P (d + 3) t cs) : ∃ x fs, cs = [x] ∧ LsR 3 FR x fs ∧ fs.length ≤ maxLen := by
  obtain ⟨x, as, h1, h2, h3⟩ := dec_list (R := FR) ht (fun cs hl hw => by
    obtain ⟨f, rfl, hok⟩ := dec_fault he hf ha hb hc hw
    exact ⟨f, by rw [hce]; rfl, hok⟩) h
  rw [hce] at h2
  exact ⟨x, as, h1, h2, h3⟩
theorem dec_two {P : Program} {d : Nat} {t a b : TypeId} {fs : Array Field} (ht : P.underlying t = some (.struct fs)) (hf : fs.toList.map (·.type) = [a, b]) {cs : List IV} (h : WT P (d + 1) t cs) : ∃ x y, cs = x ++ y ∧ WT P d a x ∧ WT P d b y := by
  have hs := wt_struct ht h
  generalize fs.toList = l at *
  match l, hf with
  | [x, y], hf =>
    simp only [List.map_cons, List.map_nil, List.cons.injEq, and_true] at hf
    obtain ⟨rfl, rfl⟩ := hf
    obtain ⟨p, _, rfl, h1, q, _, rfl, h2, rfl⟩ := hs
    exact ⟨p, q, by simp, h1, h2⟩
end Go.Proofs.Ytohclaopcejjnaa.G
namespace Go.Proofs.Ytohclaopcejjnaa.G
open Go
set_option linter.unusedSimpArgs false
set_option linter.unusedVariables false
def reachF (J : JH) (l : List IV) : Option (List Nat) := reach J l
theorem WireAt.reach {J : JH} {b : Nat} {s : IV} {E} (h : WireAt J b s E) : reachF J [.ptr b 0 0] = some (b :: blk s) := by
  obtain ⟨hb, hbs, cs, hg, he⟩ := h
  rcases hg with ⟨rfl, rfl⟩ | ⟨c, v, n, full, rfl, h1, h2, h3, h4⟩
  · have hr : refsB J b = [] := by simp [refsB, hb, irefsL, irefs]
    have key : ∀ k, reachN J (k + 1) [b] = [b] := fun k => by simp [reachN, hr]
    have h40 := key 39
    simp only [reachF, Go.Proofs.Ytohclaopcejjnaa.G.reach, irefsL, irefs, List.append_nil, h40]
    simp [hr, blk, blkOf]
  · have hbc : b ≠ c := fun h => hbs (by simp [blk, blkOf, h])
    have hr : refsB J b = [c] := by simp [refsB, hb, irefsL, irefs]
    have hf : irefsL full = [] := by
      rw [← List.take_append_drop (n * 2) full, irefsL_append, h3, h4, irefsL_pure _ he.pure]; rfl
    have hc : refsB J c = [] := by simp [refsB, h1, hf]
    have hcb : c ≠ b := fun h => hbc h.symm
    have key : ∀ k, reachN J (k + 1 + 1) [b] = [b, c] := fun k => by
      have hd : List.eraseDupsBy (fun x1 x2 : Nat => x1 == x2) [c] = [c] := by simp [List.eraseDupsBy, List.eraseDupsBy.loop]
      have hd0 : List.eraseDupsBy (fun x1 x2 : Nat => x1 == x2) [] = [] := by simp [List.eraseDupsBy, List.eraseDupsBy.loop]
      simp [reachN, hr, hc, hcb, hbc, List.eraseDups, hd, hd0]
    have h40 := key 38
    simp only [reachF, Go.Proofs.Ytohclaopcejjnaa.G.reach, irefsL, irefs, List.append_nil, h40]
    simp [hr, hc, blk, blkOf]
end Go.Proofs.Ytohclaopcejjnaa.G
namespace Go.Proofs.Ytohclaopcejjnaa.G
open Go
set_option linter.unusedSimpArgs false
set_option linter.unusedVariables false
theorem BsA.of : ∀ {X P}, X.length = P.length → (∀ i (h : i < X.length) (h' : i < P.length), Bs X[i] P[i]) → BsA X P
  | [], [], _, _ => trivial
  | x :: X, p :: P, hl, h => ⟨h 0 (by simp) (by simp), BsA.of (by simpa using hl) fun i h1 h2 => h (i + 1) (by simpa using h1) (by simpa using h2)⟩
  | [], _ :: _, hl, _ => by simp at hl
  | _ :: _, [], hl, _ => by simp at hl
theorem BsA.app : ∀ {X P Y Q}, BsA X P → BsA Y Q → BsA (X ++ Y) (P ++ Q)
  | [], [], _, _, _, k => k
  | x :: X, p :: P, _, _, h, k => ⟨h.1, BsA.app h.2 k⟩
  | [], _ :: _, _, _, h, _ => h.elim
  | _ :: _, [], _, _, h, _ => h.elim
theorem BsA.ones : ∀ {X P}, BsA X P → X.flatMap icells = X
  | [], [], _ => rfl
  | x :: X, p :: P, h => by rw [List.flatMap_cons, h.1.icells, BsA.ones h.2]; rfl
  | [], _ :: _, h => h.elim
  | _ :: _, [], h => h.elim
def G0 (J : JH) (x : IV) (cs : List IV) : Prop := Grow J x 1 cs ∨ (x = .lst 1 true [] ∧ cs = [])
theorem G0.app {J : JH} {s y : IV} {cs ds : List IV} (h : G0 J s cs) (hy : Ls 1 y ds) (hi : ds.flatMap icells = ds) (ho : ds.all ione = true) (hf : cs.length + ds.length ≤ 1000000) :
    RP (appF 1 24 s y J) fun s' J' => G0 J' s' (cs ++ ds) ∧ Fr J J' (blk s) ∧ (∀ b ∈ blk s', b ∈ blk s ∨ J.size ≤ b) := by
  rcases h with h | ⟨rfl, rfl⟩
  · exact RP_mono (h.app (by omega) (by rw [hy.cells, hi]) hy.ilen (by omega) ho (fits24 hf)) fun s' J' q => ⟨.inl q.1, q.2⟩
  · unfold appF iappend
    rw [if_pos (by omega), hy.cells, hi, hy.ilen]
    simp only
    by_cases h0 : ds.length = 0
    · have : ds = [] := List.eq_nil_of_length_eq_zero h0
      subst this
      simp only [List.length_nil, if_true, RP_some]
      exact ⟨.inr ⟨rfl, rfl⟩, .refl _ _, fun b hb => .inl hb⟩
    · have hfit : fits (([] : List IV).length + ds.length) 24 = true := fits24 (by simpa using hf)
      simp only [if_neg h0, hfit, ho, Bool.true_and, Bool.and_true, beq_self_eq_true, Bool.and_self, if_true, RP_some]
      refine ⟨.inl (.inr ⟨J.size, 0, ds.length, ds, by simp, by simp, by omega, by rw [Nat.mul_one, List.take_length]; rfl, by rw [Nat.mul_one, List.drop_length]; rfl⟩), .push _ _ _, by simp [blk, blkOf]⟩
theorem G0.frz {J : JH} {s : IV} {cs : List IV} (h : G0 J s cs) (hp : ipureL cs = true) (ho : cs.all ione = true) : ∃ u, (∀ k, frz J (k + 1) s = some u) ∧ Ls 1 u cs := by
  rcases h with h | ⟨rfl, rfl⟩
  · exact h.frzE1 hp ho
  · exact ⟨_, fun k => frz_pure J _ rfl, .lst⟩
theorem G0.blkF {J : JH} {s : IV} {cs : List IV} (h : G0 J s cs) : blkF s = some (blk s) := by
  rcases h with h | ⟨rfl, rfl⟩
  · exact h.blkF
  · rfl
theorem G0.low {J : JH} {s : IV} {cs : List IV} (h : G0 J s cs) : ∀ b ∈ blk s, b < J.size := by
  rcases h with h | ⟨rfl, rfl⟩
  · exact h.low
  · simp [blk, blkOf]
end Go.Proofs.Ytohclaopcejjnaa.G
namespace Go.Proofs.Ytohclaopcejjnaa.G
open Go
set_option linter.unusedSimpArgs false
set_option linter.unusedVariables false
def Wb (l : List Int) : Prop := ∀ z ∈ l, 0 ≤ z ∧ z < 256
theorem x8_0 (a : Int) (h0 : 0 ≤ a) (h1 : a < 256) : x8 a 0 = a := by
  obtain ⟨n, rfl⟩ := Int.eq_ofNat_of_zero_le h0
  unfold x8
  have h2 : (BitVec.ofInt 8 (n : Int)) = BitVec.ofNat 8 n := by simp
  have h3 : (BitVec.ofInt 8 0) = 0#8 := rfl
  rw [h2, h3, BitVec.xor_zero, BitVec.toNat_ofNat, Nat.mod_eq_of_lt (by omega)]
  simp only [IntKind.wrap, IntKind.bits, IntKind.signed]
  simp
  omega
theorem x8_rng (a b : Int) : 0 ≤ x8 a b ∧ x8 a b < 256 := by
  unfold x8
  simp only [IntKind.wrap, IntKind.bits, IntKind.signed]
  simp
  omega
theorem turn1_0 (q : Nat) (m : Int) (l : List Int) (k : Nat) (hl : Wb l) (hb : bitv m k = 0) : turn1 q m l k = l := by
  unfold turn1
  split
  · rename_i h
    have hi : (q + k) / 8 < l.length := by omega
    rw [hb, Int.zero_mul]
    have hg : l.getD ((q + k) / 8) 0 = l[(q + k) / 8] := by simp [hi]
    have hm := hl _ (List.getElem_mem hi)
    rw [hg, x8_0 _ hm.1 hm.2, List.set_getElem_self]
  · rfl
theorem turn1_wb (q : Nat) (m : Int) (l : List Int) (k : Nat) (hl : Wb l) : Wb (turn1 q m l k) := by
  unfold turn1
  split
  · intro z hz
    rcases List.mem_or_eq_of_mem_set hz with h | rfl
    · exact hl z h
    · exact x8_rng _ _
  · exact hl
end Go.Proofs.Ytohclaopcejjnaa.G
namespace Go.Proofs.Ytohclaopcejjnaa.G
open Go
set_option linter.unusedSimpArgs false
set_option linter.unusedVariables false
theorem Bs.ones {x : IV} {l : List Int} (h : Bs x l) (J : JH) : iscells J 1 x = some (l.map (IV.int .u8)) := by rw [Ls.cells h, ints_cells]
theorem Join1_ok {x : IV} {l : List Int} (hx : Bs x l) (hb : l.length ≤ 1000000) (J : JH) : RP (ic BI F_ref01_Join [.lst 1 true [x]] J) fun v J' => Grow J' v 1 (l.map (IV.int .u8)) ∧ Fr J J' [] ∧ ∀ b ∈ blk v, J.size ≤ b := by
  refine RP_run fn_ref01_Join rfl fun K hK => ?_
  have hg0 : Grow J (.sc (.slice none 0 0)) 1 [] := .nil
  have e0 : ((0 : Int) < ((1 : Nat) : Int)) := by omega
  have hw : IntKind.i64.wrap ((0 : Int) + 1) = 1 := rfl
  obtain ⟨v, J1, ha, hq⟩ := RP_of (hg0.app (by' := 1) (by omega) (hx.ones J) hx.len (by simp) ints_ione (fits1 (by simpa using hb)))
  obtain ⟨k1, k2, k3⟩ := hq
  have s2 : iter (dn BI l_ref01_Join_k0) 1 [v, .lst 1 true [x], .int .i64 ((1 : Nat) : Int), .int .i64 1] J1 = some (.goto 0 [v], J1) := by
    refine iter_out ?_ (by decide)
    unfold l_ref01_Join_k0
    simp -implicitDefEqProofs only [dn_o, dn_om, dn_oc, dn_ite, dn_ret, dn_join, dn_goto, iexec, evI_0, evI_succ, evI_int, evI_bool, evI_nilsl, evI_nilp, List.cons_append, List.nil_append, scal2_sc, abin, aun, ilift_some, thenI_some, onIf_bool, onJoin_goto, onJoin_ret, onJoin_ite, thenI_ite, Option.map_some, Option.map_none, decide_eq_true_eq, List.map_cons, List.map_nil, reduceIte, if_true, if_false, Bool.false_eq_true, inew, iload, istore, iwr, ird, icells, ione, one, List.getElem?_toArray, List.getElem?_cons_zero, List.getElem?_cons_succ, List.push_toArray, List.size_toArray, List.length_cons, List.length_nil, List.setIfInBounds_toArray, List.set_cons_zero, List.set_cons_succ, isplice_cons, List.drop_succ_cons, List.drop_zero, List.take_succ_cons, List.take_zero, List.drop_nil, List.take_nil, List.append_nil, List.all_cons, List.all_nil, Bool.and_true, Bool.true_and, Bool.and_self, Nat.zero_add, Nat.add_zero, Nat.reduceAdd, Nat.reduceLeDiff, Nat.reduceMul, Nat.le_refl, true_and, and_true, and_self, List.getElem?_nil, BI_zc, BI_zv, BI_co, zcT, zvT, coT, not_true_eq_false, not_false_eq_true, Bool.not_true, Bool.not_false, stepI', wantsI, ifill, ievs, Nat.reduceEqDiff, itup, Nat.le_add_left, Nat.le_add_right, iaggEq, List.foldl, iminI, iminF, imin2, min2, iisNil, isNil, ilen, Option.isNone_none, Option.isNone_some, Nat.zero_le, decide_true, decide_false, ireps, List.replicate, List.flatten_cons, List.flatten_nil, ichk, itouch, ctouch, ilooks, isame, untouched, Option.isSome_some, Bool.or_true, Bool.true_or, List.contains_nil, Int.reduceLT, Int.reduceLE, blkOf, IntKind.bits, iasNat, asNat, Int.toNat_natCast, Int.natCast_nonneg, List.length_map, endP_ret, endP_ite, Int.reduceToNat, iscells, ibnd, islice, capOf, Option.isSome_none, Bool.false_and, Bool.and_false, Bool.or_false, Bool.false_or, bne_self_eq_false, Nat.not_lt_zero, Nat.mul_one, Nat.one_mul, Nat.zero_mul, Nat.mul_zero, onJoin_out, beq_self_eq_true, Nat.sub_zero, Nat.reduceSub, List.length_set, false_implies, implies_true, forall_const, show ¬ ((1 : Int) < ((1 : Nat) : Int)) by omega]
  have s1 : dn BI l_ref01_Join_k0 [.sc (.slice none 0 0), .lst 1 true [x], .int .i64 ((1 : Nat) : Int), .int .i64 0] J = some (.goto 1 [v, .lst 1 true [x], .int .i64 ((1 : Nat) : Int), .int .i64 1], J1) := by
    have hi := Ls.icells hx
    have hh : WP (dn BI l_ref01_Join_k0 [.sc (.slice none 0 0), .lst 1 true [x], .int .i64 ((1 : Nat) : Int), .int .i64 0] J) fun o J' => o = .goto 1 [v, .lst 1 true [x], .int .i64 ((1 : Nat) : Int), .int .i64 1] ∧ J' = J1 := by
      unfold l_ref01_Join_k0
      simp -implicitDefEqProofs only [dn_ret, dn_goto, iexec, evI_0, evI_succ, evI_int, evI_bool, evI_nilsl, evI_nilp, List.cons_append, List.nil_append, scal2_sc, abin, aun, ilift_some, Option.map_some, Option.map_none, decide_eq_true_eq, List.map_cons, List.map_nil, reduceIte, if_true, if_false, Bool.false_eq_true, inew, iload, istore, iwr, ird, icells, ione, one, List.getElem?_toArray, List.getElem?_cons_zero, List.getElem?_cons_succ, List.push_toArray, List.size_toArray, List.length_cons, List.length_nil, List.setIfInBounds_toArray, List.set_cons_zero, List.set_cons_succ, isplice_cons, List.drop_succ_cons, List.drop_zero, List.take_succ_cons, List.take_zero, List.drop_nil, List.take_nil, List.append_nil, List.all_cons, List.all_nil, Bool.and_true, Bool.true_and, Bool.and_self, Nat.zero_add, Nat.add_zero, Nat.reduceAdd, Nat.reduceLeDiff, Nat.reduceMul, Nat.le_refl, true_and, and_true, and_self, List.getElem?_nil, BI_zc, BI_zv, BI_co, zcT, zvT, coT, not_true_eq_false, not_false_eq_true, Bool.not_true, Bool.not_false, stepI', wantsI, ifill, ievs, Nat.reduceEqDiff, itup, Nat.le_add_left, Nat.le_add_right, iaggEq, List.foldl, iminI, iminF, imin2, min2, iisNil, isNil, ilen, Option.isNone_none, Option.isNone_some, Nat.zero_le, decide_true, decide_false, ireps, List.replicate, List.flatten_cons, List.flatten_nil, ichk, itouch, ctouch, ilooks, isame, untouched, Option.isSome_some, Bool.or_true, Bool.true_or, List.contains_nil, Int.reduceLT, Int.reduceLE, blkOf, IntKind.bits, iasNat, asNat, Int.toNat_natCast, Int.natCast_nonneg, List.length_map, Int.reduceToNat, iscells, ibnd, islice, capOf, Option.isSome_none, Bool.false_and, Bool.and_false, Bool.or_false, Bool.false_or, bne_self_eq_false, Nat.not_lt_zero, Nat.mul_one, Nat.one_mul, Nat.zero_mul, Nat.mul_zero, beq_self_eq_true, Nat.sub_zero, Nat.reduceSub, List.length_set, false_implies, implies_true, forall_const, ↓dnW_oca, Nat.reduceLT, evI_fn, Nat.zero_lt_one, dnW_o, dnW_om, dnW_oc, dnW_ite, dnW_join, thenD_some, thenD_ite, onIfD_bool, onJoinD_out, onJoinD_ret, onJoinD_ite, Int.reduceEq, WP_some, WP_ite, byOut_goto, byOut_ret, ↓iexec_len, ↓iexec_iaddr, ↓iexec_append, ↓iexec_store, storeF_ptr, lenF_nil, lenF_lst, lenF_sl, lenF_str, iaddrF_sl, iaddrF_lst, e0, ↓hi, ha, hw]
    obtain ⟨o, J', h1, rfl, rfl⟩ := WP_of hh
    exact h1
  have s3 := iter_step s1 s2
  unfold l_ref01_Join
  simp -implicitDefEqProofs only [dn_ret, dn_goto, iexec, evI_0, evI_succ, evI_int, evI_bool, evI_nilsl, evI_nilp, List.cons_append, List.nil_append, scal2_sc, abin, aun, ilift_some, Option.map_some, Option.map_none, decide_eq_true_eq, List.map_cons, List.map_nil, reduceIte, if_true, if_false, Bool.false_eq_true, inew, iload, istore, iwr, ird, icells, ione, one, List.getElem?_toArray, List.getElem?_cons_zero, List.getElem?_cons_succ, List.push_toArray, List.size_toArray, List.length_cons, List.length_nil, List.setIfInBounds_toArray, List.set_cons_zero, List.set_cons_succ, isplice_cons, List.drop_succ_cons, List.drop_zero, List.take_succ_cons, List.take_zero, List.drop_nil, List.take_nil, List.append_nil, List.all_cons, List.all_nil, Bool.and_true, Bool.true_and, Bool.and_self, Nat.zero_add, Nat.add_zero, Nat.reduceAdd, Nat.reduceLeDiff, Nat.reduceMul, Nat.le_refl, true_and, and_true, and_self, List.getElem?_nil, BI_zc, BI_zv, BI_co, zcT, zvT, coT, not_true_eq_false, not_false_eq_true, Bool.not_true, Bool.not_false, stepI', wantsI, ifill, ievs, Nat.reduceEqDiff, itup, Nat.le_add_left, Nat.le_add_right, iaggEq, List.foldl, iminI, iminF, imin2, min2, iisNil, isNil, ilen, Option.isNone_none, Option.isNone_some, Nat.zero_le, decide_true, decide_false, ireps, List.replicate, List.flatten_cons, List.flatten_nil, ichk, itouch, ctouch, ilooks, isame, untouched, Option.isSome_some, Bool.or_true, Bool.true_or, List.contains_nil, Int.reduceLT, Int.reduceLE, blkOf, IntKind.bits, iasNat, asNat, Int.toNat_natCast, Int.natCast_nonneg, List.length_map, Int.reduceToNat, iscells, ibnd, islice, capOf, Option.isSome_none, Bool.false_and, Bool.and_false, Bool.or_false, Bool.false_or, bne_self_eq_false, Nat.not_lt_zero, Nat.mul_one, Nat.one_mul, Nat.zero_mul, Nat.mul_zero, beq_self_eq_true, Nat.sub_zero, Nat.reduceSub, List.length_set, false_implies, implies_true, forall_const, ↓dnW_oca, Nat.reduceLT, evI_fn, Nat.zero_lt_one, dnW_o, dnW_om, dnW_oc, dnW_ite, dnW_join, thenD_some, thenD_ite, onIfD_bool, onJoinD_out, onJoinD_ret, onJoinD_ite, Int.reduceEq, WP_some, WP_ite, byOut_goto, byOut_ret, ↓iexec_len, ↓iexec_iaddr, ↓iexec_append, ↓iexec_store, storeF_ptr, lenF_nil, lenF_lst, lenF_sl, lenF_str, iaddrF_sl, iaddrF_lst, dn_loop, s3, l_ref01_Join_k1]
  exact hK _ _ ⟨k1, ⟨k2.1, fun d hd _ => k2.2 d hd (by simp [blk, blkOf])⟩, fun b hb => by
    rcases k3 b hb with h | h
    · simp [blk, blkOf] at h
    · exact h⟩
end Go.Proofs.Ytohclaopcejjnaa.G
namespace Go.Proofs.Ytohclaopcejjnaa.G
open Go
set_option linter.unusedSimpArgs false
set_option linter.unusedVariables false
theorem turnN_wb (q : Nat) (m : Int) (l : List Int) (hl : Wb l) : ∀ k, Wb (turnN q m l k)
  | 0 => hl
  | k + 1 => turn1_wb q m _ k (turnN_wb q m l hl k)
end Go.Proofs.Ytohclaopcejjnaa.G
namespace Go.Proofs.Ytohclaopcejjnaa.G
open Go
set_option linter.unusedSimpArgs false
set_option linter.unusedVariables false
theorem turned_stepG (c v n q k : Nat) (full : List IV) (m : Int) (l : List Int) (hl : l.length = n) (hwb : Wb l) (hb : n ≤ 1000000) (hq : q ≤ 100000000) (hm0 : 0 ≤ m) (hm1 : m < 4294967296) (hk : k ≤ 32) (J : JH) (hJ : J[c]? = some (.cells v full false)) (hf : full.take n = l.map (IV.int .u8)) (hfl : n ≤ full.length) (P : Out IV → JH → Prop)
    (h0 : k = 32 → P (.goto 0 [.sl c v 0 n (UNK + 1) 1]) J)
    (h1 : k < 32 → ∀ J' full', J'[c]? = some (.cells v full' false) → full'.take n = (turn1 q m l k).map (IV.int .u8) → n ≤ full'.length → Fr J J' [c] → P (.goto 1 [.int .i64 (q : Int), .int .u32 m, .sl c v 0 n (UNK + 1) 1, .int .i64 ((k + 1 : Nat) : Int)]) J') :
    WP (dn BI l_ref02_Turned_k0 [.int .i64 (q : Int), .int .u32 m, .sl c v 0 n (UNK + 1) 1, .int .i64 (k : Int)] J) P := by
  by_cases hk2 : k = 32
  · subst hk2
    unfold l_ref02_Turned_k0
    simp -implicitDefEqProofs only [dn_ret, dn_goto, iexec, evI_0, evI_succ, evI_int, evI_bool, evI_nilsl, evI_nilp, List.cons_append, List.nil_append, scal2_sc, abin, aun, ilift_some, Option.map_some, Option.map_none, decide_eq_true_eq, List.map_cons, List.map_nil, reduceIte, if_true, if_false, Bool.false_eq_true, inew, iload, istore, iwr, ird, icells, ione, one, List.getElem?_toArray, List.getElem?_cons_zero, List.getElem?_cons_succ, List.push_toArray, List.size_toArray, List.length_cons, List.length_nil, List.setIfInBounds_toArray, List.set_cons_zero, List.set_cons_succ, isplice_cons, List.drop_succ_cons, List.drop_zero, List.take_succ_cons, List.take_zero, List.drop_nil, List.take_nil, List.append_nil, List.all_cons, List.all_nil, Bool.and_true, Bool.true_and, Bool.and_self, Nat.zero_add, Nat.add_zero, Nat.reduceAdd, Nat.reduceLeDiff, Nat.reduceMul, Nat.le_refl, true_and, and_true, and_self, List.getElem?_nil, BI_zc, BI_zv, BI_co, zcT, zvT, coT, not_true_eq_false, not_false_eq_true, Bool.not_true, Bool.not_false, stepI', wantsI, ifill, ievs, Nat.reduceEqDiff, itup, Nat.le_add_left, Nat.le_add_right, iaggEq, List.foldl, iminI, iminF, imin2, min2, iisNil, isNil, ilen, Option.isNone_none, Option.isNone_some, Nat.zero_le, decide_true, decide_false, ireps, List.replicate, List.flatten_cons, List.flatten_nil, ichk, itouch, ctouch, ilooks, isame, untouched, Option.isSome_some, Bool.or_true, Bool.true_or, List.contains_nil, Int.reduceLT, Int.reduceLE, blkOf, IntKind.bits, iasNat, asNat, Int.toNat_natCast, Int.natCast_nonneg, List.length_map, Int.reduceToNat, iscells, ibnd, islice, capOf, Option.isSome_none, Bool.false_and, Bool.and_false, Bool.or_false, Bool.false_or, bne_self_eq_false, Nat.not_lt_zero, Nat.mul_one, Nat.one_mul, Nat.zero_mul, Nat.mul_zero, beq_self_eq_true, Nat.sub_zero, Nat.reduceSub, List.length_set, false_implies, implies_true, forall_const, ↓dnW_oca, Nat.reduceLT, evI_fn, Nat.zero_lt_one, dnW_o, dnW_om, dnW_oc, dnW_ite, dnW_join, thenD_some, thenD_ite, onIfD_bool, onJoinD_out, onJoinD_ret, onJoinD_ite, Int.reduceEq, WP_some, WP_ite, byOut_goto, byOut_ret, ↓iexec_len, ↓iexec_iaddr, ↓iexec_append, ↓iexec_store, storeF_ptr, lenF_nil, lenF_lst, lenF_sl, lenF_str, iaddrF_sl, iaddrF_lst, show ¬ (((32 : Nat) : Int) < 32) by omega]
    exact h0 rfl
  · have e1 : ((k : Int) < 32) := by omega
    have e5 : IntKind.i64.wrap ((q : Int) + (k : Int)) = ((q + k : Nat) : Int) := by rw [wrap_i64 (by omega) (by omega)]; omega
    have e7 : IntKind.i64.wrap (((q + k : Nat) : Int).tdiv 8) = (((q + k) / 8 : Nat) : Int) := by
      rw [Int.tdiv_eq_ediv_of_nonneg (by omega), wrap_i64 (by omega) (by omega)]; omega
    have e10 : ((k : Int) < 0) = False := by simp
    have e11 : min k 32 = k := by omega
    have e12 : m.fdiv (2 ^ k) = m / 2 ^ k := Int.fdiv_eq_ediv_of_nonneg _ (by exact Int.le_of_lt (Int.pow_pos (by omega)))
    have e13 : (m / 2 ^ k).tmod 2 = bitv m k := by
      rw [Int.tmod_eq_emod_of_nonneg (Int.ediv_nonneg hm0 (Int.le_of_lt (Int.pow_pos (by omega))))]; rfl
    have e18 : IntKind.i64.wrap ((k : Int) + 1) = ((k + 1 : Nat) : Int) := by rw [wrap_i64 (by omega) (by omega)]; omega
    by_cases hlt : q + k < 8 * n
    · have e6 : (((q + k) / 8 : Nat) : Int) < (n : Int) := by omega
      have e9 : (q + k) / 8 < n := by omega
      rcases bitv_01 m k with hbv | hbv
      · have h1' := h1 (by omega) J full hJ (by rw [turn1_0 q m l k hwb hbv]; exact hf) hfl (.refl _ _)
        unfold l_ref02_Turned_k0
        simp -implicitDefEqProofs only [dn_ret, dn_goto, iexec, evI_0, evI_succ, evI_int, evI_bool, evI_nilsl, evI_nilp, List.cons_append, List.nil_append, scal2_sc, abin, aun, ilift_some, Option.map_some, Option.map_none, decide_eq_true_eq, List.map_cons, List.map_nil, reduceIte, if_true, if_false, Bool.false_eq_true, inew, iload, istore, iwr, ird, icells, ione, one, List.getElem?_toArray, List.getElem?_cons_zero, List.getElem?_cons_succ, List.push_toArray, List.size_toArray, List.length_cons, List.length_nil, List.setIfInBounds_toArray, List.set_cons_zero, List.set_cons_succ, isplice_cons, List.drop_succ_cons, List.drop_zero, List.take_succ_cons, List.take_zero, List.drop_nil, List.take_nil, List.append_nil, List.all_cons, List.all_nil, Bool.and_true, Bool.true_and, Bool.and_self, Nat.zero_add, Nat.add_zero, Nat.reduceAdd, Nat.reduceLeDiff, Nat.reduceMul, Nat.le_refl, true_and, and_true, and_self, List.getElem?_nil, BI_zc, BI_zv, BI_co, zcT, zvT, coT, not_true_eq_false, not_false_eq_true, Bool.not_true, Bool.not_false, stepI', wantsI, ifill, ievs, Nat.reduceEqDiff, itup, Nat.le_add_left, Nat.le_add_right, iaggEq, List.foldl, iminI, iminF, imin2, min2, iisNil, isNil, ilen, Option.isNone_none, Option.isNone_some, Nat.zero_le, decide_true, decide_false, ireps, List.replicate, List.flatten_cons, List.flatten_nil, ichk, itouch, ctouch, ilooks, isame, untouched, Option.isSome_some, Bool.or_true, Bool.true_or, List.contains_nil, Int.reduceLT, Int.reduceLE, blkOf, IntKind.bits, iasNat, asNat, Int.toNat_natCast, Int.natCast_nonneg, List.length_map, Int.reduceToNat, iscells, ibnd, islice, capOf, Option.isSome_none, Bool.false_and, Bool.and_false, Bool.or_false, Bool.false_or, bne_self_eq_false, Nat.not_lt_zero, Nat.mul_one, Nat.one_mul, Nat.zero_mul, Nat.mul_zero, beq_self_eq_true, Nat.sub_zero, Nat.reduceSub, List.length_set, false_implies, implies_true, forall_const, ↓dnW_oca, Nat.reduceLT, evI_fn, Nat.zero_lt_one, dnW_o, dnW_om, dnW_oc, dnW_ite, dnW_join, thenD_some, thenD_ite, onIfD_bool, onJoinD_out, onJoinD_ret, onJoinD_ite, Int.reduceEq, WP_some, WP_ite, byOut_goto, byOut_ret, ↓iexec_len, ↓iexec_iaddr, ↓iexec_append, ↓iexec_store, storeF_ptr, lenF_nil, lenF_lst, lenF_sl, lenF_str, iaddrF_sl, iaddrF_lst, e1, e5, e7, e6, e10, e11, e12, e13, hbv, e18, show ((0 : Int) == 1) = false by decide]
        exact h1'
      · have e8 : (((q + k : Nat) : Int).tmod 8) = (((q + k) % 8 : Nat) : Int) := by
          rw [Int.tmod_eq_emod_of_nonneg (by omega)]; omega
        have hkf : (q + k) / 8 < full.length := by omega
        have hat2 : full[(q + k) / 8] = IV.int .u8 l[(q + k) / 8] := by
          have : (full.take n)[(q + k) / 8]'(by rw [List.length_take]; omega) = (l.map (IV.int .u8))[(q + k) / 8]'(by rw [List.length_map]; omega) := by simp only [hf]
          rw [List.getElem_take, List.getElem_map] at this
          exact this
        have e19 : (full.drop ((q + k) / 8)).take 1 = [IV.int .u8 l[(q + k) / 8]] := by
          rw [List.drop_eq_getElem_cons hkf, hat2]; rfl
        have e21 : (q + k) / 8 + 1 ≤ full.length := by omega
        have hlt2 := lt_get hJ
        have h8 : (q + k) % 8 < 8 := Nat.mod_lt _ (by omega)
        have fin : ∀ y : Int, y = x8 l[(q + k) / 8] (2 ^ ((q + k) % 8)) → P (.goto 1 [.int .i64 (q : Int), .int .u32 m, .sl c v 0 n (UNK + 1) 1, .int .i64 ((k + 1 : Nat) : Int)]) (J.setIfInBounds c (.cells v (isplice full ((q + k) / 8) [IV.int .u8 y]) false)) := fun y hy => by
          refine h1 (by omega) _ (isplice full ((q + k) / 8) [IV.int .u8 y]) (set_get _ hlt2) ?_ ?_ (Fr.set _ _ (by simp))
          · rw [isplice_set hkf, List.take_set, hf, ← List.map_set]
            unfold turn1
            rw [hl, if_pos hlt, hbv, Int.one_mul, getD_lt (by omega), ← hy]
          · rw [isplice_set hkf, List.length_set]; exact hfl
        generalize hr0 : (q + k) % 8 = r at *
        unfold l_ref02_Turned_k0
        have hr : r = 0 ∨ r = 1 ∨ r = 2 ∨ r = 3 ∨ r = 4 ∨ r = 5 ∨ r = 6 ∨ r = 7 := by omega
        rcases hr with rfl | rfl | rfl | rfl | rfl | rfl | rfl | rfl <;>
        · simp -implicitDefEqProofs only [dn_ret, dn_goto, iexec, evI_0, evI_succ, evI_int, evI_bool, evI_nilsl, evI_nilp, List.cons_append, List.nil_append, scal2_sc, abin, aun, ilift_some, Option.map_some, Option.map_none, decide_eq_true_eq, List.map_cons, List.map_nil, reduceIte, if_true, if_false, Bool.false_eq_true, inew, iload, istore, iwr, ird, icells, ione, one, List.getElem?_toArray, List.getElem?_cons_zero, List.getElem?_cons_succ, List.push_toArray, List.size_toArray, List.length_cons, List.length_nil, List.setIfInBounds_toArray, List.set_cons_zero, List.set_cons_succ, isplice_cons, List.drop_succ_cons, List.drop_zero, List.take_succ_cons, List.take_zero, List.drop_nil, List.take_nil, List.append_nil, List.all_cons, List.all_nil, Bool.and_true, Bool.true_and, Bool.and_self, Nat.zero_add, Nat.add_zero, Nat.reduceAdd, Nat.reduceLeDiff, Nat.reduceMul, Nat.le_refl, true_and, and_true, and_self, List.getElem?_nil, BI_zc, BI_zv, BI_co, zcT, zvT, coT, not_true_eq_false, not_false_eq_true, Bool.not_true, Bool.not_false, stepI', wantsI, ifill, ievs, Nat.reduceEqDiff, itup, Nat.le_add_left, Nat.le_add_right, iaggEq, List.foldl, iminI, iminF, imin2, min2, iisNil, isNil, ilen, Option.isNone_none, Option.isNone_some, Nat.zero_le, decide_true, decide_false, ireps, List.replicate, List.flatten_cons, List.flatten_nil, ichk, itouch, ctouch, ilooks, isame, untouched, Option.isSome_some, Bool.or_true, Bool.true_or, List.contains_nil, Int.reduceLT, Int.reduceLE, blkOf, IntKind.bits, iasNat, asNat, Int.toNat_natCast, Int.natCast_nonneg, List.length_map, Int.reduceToNat, iscells, ibnd, islice, capOf, Option.isSome_none, Bool.false_and, Bool.and_false, Bool.or_false, Bool.false_or, bne_self_eq_false, Nat.not_lt_zero, Nat.mul_one, Nat.one_mul, Nat.zero_mul, Nat.mul_zero, beq_self_eq_true, Nat.sub_zero, Nat.reduceSub, List.length_set, false_implies, implies_true, forall_const, ↓dnW_oca, Nat.reduceLT, evI_fn, Nat.zero_lt_one, dnW_o, dnW_om, dnW_oc, dnW_ite, dnW_join, thenD_some, thenD_ite, onIfD_bool, onJoinD_out, onJoinD_ret, onJoinD_ite, Int.reduceEq, WP_some, WP_ite, byOut_goto, byOut_ret, ↓iexec_len, ↓iexec_iaddr, ↓iexec_append, ↓iexec_store, storeF_ptr, lenF_nil, lenF_lst, lenF_sl, lenF_str, iaddrF_sl, iaddrF_lst, e1, e5, e7, e6, e8, e9, e10, e11, e12, e13, hbv, e18, show ((1 : Int) == 1) = true by decide, hJ, e19, e21, ipureL, ipure, grp, mkE, List.headD, lt_UNK (show 8 ≤ 1000000 by omega)]
          exact fin _ rfl
    · have e6 : ¬ ((((q + k) / 8 : Nat) : Int) < (n : Int)) := by omega
      have h1' := h1 (by omega) J full hJ (by unfold turn1; rw [hl, if_neg hlt]; exact hf) hfl (.refl _ _)
      unfold l_ref02_Turned_k0
      simp -implicitDefEqProofs only [dn_ret, dn_goto, iexec, evI_0, evI_succ, evI_int, evI_bool, evI_nilsl, evI_nilp, List.cons_append, List.nil_append, scal2_sc, abin, aun, ilift_some, Option.map_some, Option.map_none, decide_eq_true_eq, List.map_cons, List.map_nil, reduceIte, if_true, if_false, Bool.false_eq_true, inew, iload, istore, iwr, ird, icells, ione, one, List.getElem?_toArray, List.getElem?_cons_zero, List.getElem?_cons_succ, List.push_toArray, List.size_toArray, List.length_cons, List.length_nil, List.setIfInBounds_toArray, List.set_cons_zero, List.set_cons_succ, isplice_cons, List.drop_succ_cons, List.drop_zero, List.take_succ_cons, List.take_zero, List.drop_nil, List.take_nil, List.append_nil, List.all_cons, List.all_nil, Bool.and_true, Bool.true_and, Bool.and_self, Nat.zero_add, Nat.add_zero, Nat.reduceAdd, Nat.reduceLeDiff, Nat.reduceMul, Nat.le_refl, true_and, and_true, and_self, List.getElem?_nil, BI_zc, BI_zv, BI_co, zcT, zvT, coT, not_true_eq_false, not_false_eq_true, Bool.not_true, Bool.not_false, stepI', wantsI, ifill, ievs, Nat.reduceEqDiff, itup, Nat.le_add_left, Nat.le_add_right, iaggEq, List.foldl, iminI, iminF, imin2, min2, iisNil, isNil, ilen, Option.isNone_none, Option.isNone_some, Nat.zero_le, decide_true, decide_false, ireps, List.replicate, List.flatten_cons, List.flatten_nil, ichk, itouch, ctouch, ilooks, isame, untouched, Option.isSome_some, Bool.or_true, Bool.true_or, List.contains_nil, Int.reduceLT, Int.reduceLE, blkOf, IntKind.bits, iasNat, asNat, Int.toNat_natCast, Int.natCast_nonneg, List.length_map, Int.reduceToNat, iscells, ibnd, islice, capOf, Option.isSome_none, Bool.false_and, Bool.and_false, Bool.or_false, Bool.false_or, bne_self_eq_false, Nat.not_lt_zero, Nat.mul_one, Nat.one_mul, Nat.zero_mul, Nat.mul_zero, beq_self_eq_true, Nat.sub_zero, Nat.reduceSub, List.length_set, false_implies, implies_true, forall_const, ↓dnW_oca, Nat.reduceLT, evI_fn, Nat.zero_lt_one, dnW_o, dnW_om, dnW_oc, dnW_ite, dnW_join, thenD_some, thenD_ite, onIfD_bool, onJoinD_out, onJoinD_ret, onJoinD_ite, Int.reduceEq, WP_some, WP_ite, byOut_goto, byOut_ret, ↓iexec_len, ↓iexec_iaddr, ↓iexec_append, ↓iexec_store, storeF_ptr, lenF_nil, lenF_lst, lenF_sl, lenF_str, iaddrF_sl, iaddrF_lst, e1, e5, e7, e6, e18]
      exact h1'
end Go.Proofs.Ytohclaopcejjnaa.G
namespace Go.Proofs.Ytohclaopcejjnaa.G
open Go
set_option linter.unusedSimpArgs false
set_option linter.unusedVariables false
set_option maxHeartbeats 1000000
theorem Turned_ok {x : IV} {l : List Int} (hx : Bs x l) (hwb : Wb l) (hb : l.length ≤ 1000000) (hl0 : l ≠ []) (q : Nat) (hq : q ≤ 100000000) (m : Int) (hm0 : 0 ≤ m) (hm1 : m < 4294967296) : ∃ y, pc BI F_ref02_Turned [x, nI q, .int .u32 m] = some y ∧ Bs y (turnN q m l 32) := by
  refine pcW fn_ref02_Turned rfl fun K hK => ?_
  unfold l_ref02_Turned
  simp -implicitDefEqProofs only [go_sem, dnW_ite, reduceIte, Nat.reduceAdd, Nat.reduceLeDiff, Nat.reduceMul, Nat.reduceEqDiff, Int.reduceLT, Int.reduceLE, Int.reduceToNat, Nat.reduceSub, Nat.reduceLT, Int.reduceEq, BitVec.reduceOfInt, BitVec.reduceOfNat, Int.reduceGT, Int.reduceGE, Int.reduceBEq, Int.reduceBNe, Nat.reduceGT, Nat.reduceBEq, Nat.reduceBNe, Int.reduceAdd, Int.reduceSub, Int.reduceNeg, ipureL, ipure, grp, mkE, List.headD, ↓hx.icells, ↓hx.one, ↓hx.pure]
  refine WP_call (Join1_ok hx hb _) fun v J hv => ?_
  obtain ⟨hg, hf, hn⟩ := hv
  have hpos : 0 < l.length := List.length_pos_iff.2 hl0
  rcases hg with ⟨rfl, h0⟩ | ⟨b, ver, n, full, rfl, h1, h2, h3, h4⟩
  · rw [List.map_eq_nil_iff] at h0; exact absurd h0 hl0
  have hnl : n = l.length := by
    have := congrArg List.length h3
    rw [List.length_take, List.length_map] at this
    omega
  subst hnl
  rw [Nat.mul_one] at h2 h3
  simp -implicitDefEqProofs only [go_sem, dnW_ite, reduceIte, Nat.reduceAdd, Nat.reduceLeDiff, Nat.reduceMul, Nat.reduceEqDiff, Int.reduceLT, Int.reduceLE, Int.reduceToNat, Nat.reduceSub, Nat.reduceLT, Int.reduceEq, BitVec.reduceOfInt, BitVec.reduceOfNat, Int.reduceGT, Int.reduceGE, Int.reduceBEq, Int.reduceBNe, Nat.reduceGT, Nat.reduceBEq, Nat.reduceBNe, Int.reduceAdd, Int.reduceSub, Int.reduceNeg, dn_loop]
  refine WP_range (by decide) 32 (fun k vs J => vs = [nI q, .int .u32 m, .sl b ver 0 l.length (UNK + 1) 1, nI k] ∧ ∃ full, J[b]? = some (.cells ver full false) ∧ full.take l.length = (turnN q m l k).map (IV.int .u8) ∧ l.length ≤ full.length) ?_ ⟨rfl, full, h1, h3, h2⟩
  rintro k vs J2 ⟨rfl, full2, k1, k2, k3⟩ hk K1 g1 g2 g3
  refine turned_stepG b ver l.length q k full2 m (turnN q m l k) (turnN_len _ _ _ _) (turnN_wb q m l hwb k) hb hq hm0 hm1 hk J2 k1 k2 k3 K1 (fun e => ?_) (fun hlt J' full' i1 i2 i3 _ => ?_)
  · refine g2 _ _ ?_
    subst e
    unfold l_ref02_Turned_k1
    simp -implicitDefEqProofs only [go_sem, dnW_ite, reduceIte, Nat.reduceAdd, Nat.reduceLeDiff, Nat.reduceMul, Nat.reduceEqDiff, Int.reduceLT, Int.reduceLE, Int.reduceToNat, Nat.reduceSub, Nat.reduceLT, Int.reduceEq, BitVec.reduceOfInt, BitVec.reduceOfNat, Int.reduceGT, Int.reduceGE, Int.reduceBEq, Int.reduceBNe, Nat.reduceGT, Nat.reduceBEq, Nat.reduceBNe, Int.reduceAdd, Int.reduceSub, Int.reduceNeg]
    have hln := turnN_len q m l 32
    obtain ⟨f, hf⟩ := frz_bytes (J := J2) (b := b) (n := l.length) (k := ver) (κ := .u8) (cap := UNK + 1) (xs := turnN q m l 32) (by
      simp only [ird, k1, true_and, Nat.zero_add, List.drop_zero, Nat.mul_one]
      rw [if_pos k3, k2]) hln.symm
    exact hK _ _ _ hf (.inr ⟨f, rfl⟩)
  · exact g1 hlt _ _ ⟨rfl, full', i1, i2, i3⟩
theorem RSpoil_ok {x : IV} {l : List Int} (hx : Bs x l) (hwb : Wb l) (hb : l.length ≤ 1000000) (f : FaultT) (hf : f.ok) : ∃ y, pc BI F_ref18_Spoil [x, f.iv] = some y ∧ Bs y (spoilF l f.at' f.mask) := by
  obtain ⟨o1, o2, o3, o4⟩ := hf
  by_cases hl0 : l = []
  · subst hl0
    refine ⟨.sc (.slice none 0 0), pcE fn_ref18_Spoil rfl fun K hK => ?_, ?_⟩
    · unfold l_ref18_Spoil FaultT.iv
      simp -implicitDefEqProofs only [go_sem, dnW_ite, reduceIte, Nat.reduceAdd, Nat.reduceLeDiff, Nat.reduceMul, Nat.reduceEqDiff, Int.reduceLT, Int.reduceLE, Int.reduceToNat, Nat.reduceSub, Nat.reduceLT, Int.reduceEq, BitVec.reduceOfInt, BitVec.reduceOfNat, Int.reduceGT, Int.reduceGE, Int.reduceBEq, Int.reduceBNe, Nat.reduceGT, Nat.reduceBEq, Nat.reduceBNe, Int.reduceAdd, Int.reduceSub, Int.reduceNeg, Bs.lenF hx, List.length_nil]
      exact hK [_] _ (frzE rfl rfl)
    · have : spoilF [] f.at' f.mask = [] := List.length_eq_zero_iff.1 (by rw [spoilF, turnN_len]; rfl)
      rw [this]; exact .nil
  · have hpos : 0 < l.length := List.length_pos_iff.2 hl0
    have hq : f.at' % (8 * l.length) < 8 * l.length := Nat.mod_lt _ (by omega)
    obtain ⟨y, hy, hyl⟩ := Turned_ok hx hwb hb hl0 (f.at' % (8 * l.length)) (by omega) f.mask o3 o4
    refine ⟨y, pcE fn_ref18_Spoil rfl fun K hK => ?_, hyl⟩
    have e0 : ((l.length : Int) == 0) = false := by rw [beq_eq_false_iff_ne]; omega
    have e1 : IntKind.i64.wrap (f.at' : Int) = (f.at' : Int) := wrap_i64 (by omega) (by omega)
    have e2 : IntKind.i64.wrap (8 * (l.length : Int)) = ((8 * l.length : Nat) : Int) := by rw [wrap_i64 (by omega) (by omega)]; omega
    have e3 : (f.at' : Int).tmod ((8 * l.length : Nat) : Int) = ((f.at' % (8 * l.length) : Nat) : Int) := by rw [Int.tmod_eq_emod_of_nonneg (by omega)]; simp
    have e4 : ¬ (((8 * l.length : Nat) : Int) = 0) := by omega
    unfold l_ref18_Spoil FaultT.iv
    simp -implicitDefEqProofs only [go_sem, dnW_ite, reduceIte, Nat.reduceAdd, Nat.reduceLeDiff, Nat.reduceMul, Nat.reduceEqDiff, Int.reduceLT, Int.reduceLE, Int.reduceToNat, Nat.reduceSub, Nat.reduceLT, Int.reduceEq, BitVec.reduceOfInt, BitVec.reduceOfNat, Int.reduceGT, Int.reduceGE, Int.reduceBEq, Int.reduceBNe, Nat.reduceGT, Nat.reduceBEq, Nat.reduceBNe, Int.reduceAdd, Int.reduceSub, Int.reduceNeg, Bs.lenF hx, e0, e1, e2, e3, e4, dcp hy (by simp [ipureL, ipure, hx.pure])]
    exact hK [_] _ (frzE (by simpa [itup] using hyl.pure) rfl)
end Go.Proofs.Ytohclaopcejjnaa.G
namespace Go.Proofs.Ytohclaopcejjnaa.G
open Go
set_option linter.unusedSimpArgs false
set_option linter.unusedVariables false
set_option maxHeartbeats 1000000
set_option maxRecDepth 20000
def RefAt (J : JH) (b : Nat) (s : IV) (E : List (List Int × Int)) (now : Nat) : Prop := J[b]? = some (.cells 0 [s, nI now] false) ∧ b ∉ blk s ∧ ∃ cs, Grow J s 2 cs ∧ EntR cs E
theorem RefAt.fr {J J' : JH} {b : Nat} {s : IV} {E} {now : Nat} {S : List Nat} (h : RefAt J b s E now) (hf : Fr J J' S) (hb : b ∉ S) (hs : ∀ c ∈ blk s, c ∉ S) : RefAt J' b s E now := by
  obtain ⟨h1, h2, cs, h3, h4⟩ := h
  exact ⟨by rw [hf.2 b (lt_get h1) hb]; exact h1, h2, cs, h3.fr hf hs, h4⟩
def entsF (f : FaultT) (l : List Int) (now : Nat) : List (List Int × Int) := (timesF f.how).map fun n : Nat => (bent f l, ((now + n : Nat) : Int))
theorem rput_store {b : Nat} {s s' : IV} {J J2 : JH} {E' : List (List Int × Int)} {now : Nat} {cs : List IV} (hb : J[b]? = some (.cells 0 [s, nI now] false)) (hbs : b ∉ blk s) (k1 : Grow J2 s' 2 cs) (k2 : Fr J J2 (blk s)) (k3 : ∀ c ∈ blk s', c ∈ blk s ∨ J.size ≤ c) (he : EntR cs E') :
    RefAt (J2.setIfInBounds b (.cells 0 [s', nI now] false)) b s' E' now ∧ Upd b J s (J2.setIfInBounds b (.cells 0 [s', nI now] false)) s' := by
  have hlt := lt_get hb
  have hlt' : b < J2.size := Nat.lt_of_lt_of_le hlt k2.1
  have hn : b ∉ blk s' := fun h => by
    rcases k3 b h with h | h
    · exact hbs h
    · omega
  refine ⟨⟨by simp [hlt'], hn, cs, k1.fr (Fr.set J2 _ (S := [b]) (by simp)) (fun c hc h => ?_), he⟩, Fr.trans (J1 := J2) ⟨k2.1, fun d hd hm => k2.2 d hd (fun h => hm (by simp [h]))⟩ (Fr.set J2 _ (S := [b]) (by simp)) (fun d _ hd => ?_), k3⟩
  · rw [List.mem_singleton] at h; exact hn (h ▸ hc)
  · rw [List.mem_singleton] at hd; simp [hd]
theorem rput_k0 (b i nb : Nat) (s x fa fr : IV) (l : List Int) (f : FaultT) (hok : f.ok) (E : List (List Int × Int)) (now n : Nat) (J : JH) (K : Out IV → JH → Prop) (hW : RefAt J b s E now) (hf : J[nb]? = some (.cells 0 [.int .u8 f.how, .int .u16 f.at', .int .u32 f.mask] false)) (hx : Bs x l) (hwb : Wb l) (hl : l.length ≤ 1000000) (hE : E.length < 90000) (hn : n ≤ 10000) (hi : i < n) (hnow : now ≤ 1000)
    (h1 : ∀ J' s', RefAt J' b s' (E ++ entsF f l now) now → Upd b J s J' s' → K (.goto 0 [.ptr b 0 0, fa, fr, nI n, nI (i + 1)]) J') :
    WP (dn BI l_ref18_Put_k0 [.ptr b 0 0, fa, x, .ptr nb 0 0, fr, nI n, nI i] J) K := by
  obtain ⟨hb, hbs, cs, hg, he⟩ := hW
  have hlen := he.length
  have hw : IntKind.i64.wrap ((i : Int) + 1) = ((i + 1 : Nat) : Int) := by rw [wrap_i64 (by omega) (by omega)]; omega
  have hw1 : IntKind.i64.wrap ((now : Int) + 1) = ((now + 1 : Nat) : Int) := by rw [wrap_i64 (by omega) (by omega)]; omega
  have hw2 : IntKind.i64.wrap ((now : Int) + 2) = ((now + 2 : Nat) : Int) := by rw [wrap_i64 (by omega) (by omega)]; omega
  have hin := inb hb
  have fin : ∀ {J2 : JH} {s' : IV} {ds : List IV}, Grow J2 s' 2 (cs ++ ds) → Fr J J2 (blk s) → (∀ c ∈ blk s', c ∈ blk s ∨ J.size ≤ c) → EntR ds (entsF f l now) → K (.goto 0 [.ptr b 0 0, fa, fr, nI n, nI (i + 1)]) (J2.setIfInBounds b (.cells 0 [s', nI now] false)) := fun k1 k2 k3 hd => by
    obtain ⟨r1, r2⟩ := rput_store hb hbs k1 k2 k3 (he.append hd)
    exact h1 _ _ r1 r2
  have up : ∀ {J2 : JH}, Fr J J2 (blk s) → J2[b]? = some (.cells 0 [s, nI now] false) := fun k2 => by rw [k2.2 b (lt_get hb) hbs]; exact hb
  unfold l_ref18_Put_k0
  by_cases c1 : f.how = 1
  · simp -implicitDefEqProofs only [go_sem, dnW_ite, reduceIte, Nat.reduceAdd, Nat.reduceLeDiff, Nat.reduceMul, Nat.reduceEqDiff, Int.reduceLT, Int.reduceLE, Int.reduceToNat, Nat.reduceSub, Nat.reduceLT, Int.reduceEq, BitVec.reduceOfInt, BitVec.reduceOfNat, Int.reduceGT, Int.reduceGE, Int.reduceBEq, Int.reduceBNe, Nat.reduceGT, Nat.reduceBEq, Nat.reduceBNe, Int.reduceAdd, Int.reduceSub, Int.reduceNeg, hf, show ((f.how : Int) == 1) = true by rw [c1]; rfl, hw]
    refine h1 J s ⟨hb, hbs, cs, hg, ?_⟩ .refl
    rw [entsF, timesF, if_pos c1, List.map_nil, List.append_nil]; exact he
  have d1 : ((f.how : Int) == 1) = false := by rw [beq_eq_false_iff_ne]; omega
  by_cases c2 : f.how = 2
  · have e : entsF f l now = [(l, (now : Int)), (l, (now : Int))] := by simp [entsF, timesF, bent, c2]
    simp -implicitDefEqProofs only [go_sem, dnW_ite, reduceIte, Nat.reduceAdd, Nat.reduceLeDiff, Nat.reduceMul, Nat.reduceEqDiff, Int.reduceLT, Int.reduceLE, Int.reduceToNat, Nat.reduceSub, Nat.reduceLT, Int.reduceEq, BitVec.reduceOfInt, BitVec.reduceOfNat, Int.reduceGT, Int.reduceGE, Int.reduceBEq, Int.reduceBNe, Nat.reduceGT, Nat.reduceBEq, Nat.reduceBNe, Int.reduceAdd, Int.reduceSub, Int.reduceNeg, hf, d1, show ((f.how : Int) == 2) = true by rw [c2]; rfl, hb, hin, ipureL, ipure, grp, mkE, List.headD, ↓hx.icells, ↓hx.one, ↓hx.pure, List.drop_succ_cons, List.take_succ_cons]
    refine WP_bind (hg.app (m := 2) (ds := [x, nI now, x, nI now]) (by omega) rfl rfl rfl (by simp only [List.all_cons, List.all_nil, hx.one]; rfl) (fits32 (by simp; omega))) fun s' J2 hs => ?_
    obtain ⟨k1, k2, k3⟩ := hs
    have hb2 := up k2
    simp -implicitDefEqProofs only [go_sem, dnW_ite, reduceIte, Nat.reduceAdd, Nat.reduceLeDiff, Nat.reduceMul, Nat.reduceEqDiff, Int.reduceLT, Int.reduceLE, Int.reduceToNat, Nat.reduceSub, Nat.reduceLT, Int.reduceEq, BitVec.reduceOfInt, BitVec.reduceOfNat, Int.reduceGT, Int.reduceGE, Int.reduceBEq, Int.reduceBNe, Nat.reduceGT, Nat.reduceBEq, Nat.reduceBNe, Int.reduceAdd, Int.reduceSub, Int.reduceNeg, hb2, inb hb2, ↓k1.icells, ↓k1.one, hw]
    exact fin k1 k2 k3 (by rw [e]; exact ⟨hx, rfl, hx, rfl, trivial⟩)
  have d2 : ((f.how : Int) == 2) = false := by rw [beq_eq_false_iff_ne]; omega
  by_cases c3 : f.how = 3
  · have e : entsF f l now = [(l, ((now + 1 : Nat) : Int))] := by simp [entsF, timesF, bent, c3]
    simp -implicitDefEqProofs only [go_sem, dnW_ite, reduceIte, Nat.reduceAdd, Nat.reduceLeDiff, Nat.reduceMul, Nat.reduceEqDiff, Int.reduceLT, Int.reduceLE, Int.reduceToNat, Nat.reduceSub, Nat.reduceLT, Int.reduceEq, BitVec.reduceOfInt, BitVec.reduceOfNat, Int.reduceGT, Int.reduceGE, Int.reduceBEq, Int.reduceBNe, Nat.reduceGT, Nat.reduceBEq, Nat.reduceBNe, Int.reduceAdd, Int.reduceSub, Int.reduceNeg, hf, d1, d2, show ((f.how : Int) == 3) = true by rw [c3]; rfl, hb, hin, hw1, ipureL, ipure, grp, mkE, List.headD, ↓hx.icells, ↓hx.one, ↓hx.pure, List.drop_succ_cons, List.take_succ_cons]
    refine WP_bind (hg.app (m := 1) (ds := [x, nI (now + 1)]) (by omega) rfl rfl rfl (by simp only [List.all_cons, List.all_nil, hx.one]; rfl) (fits32 (by simp; omega))) fun s' J2 hs => ?_
    obtain ⟨k1, k2, k3⟩ := hs
    have hb2 := up k2
    simp -implicitDefEqProofs only [go_sem, dnW_ite, reduceIte, Nat.reduceAdd, Nat.reduceLeDiff, Nat.reduceMul, Nat.reduceEqDiff, Int.reduceLT, Int.reduceLE, Int.reduceToNat, Nat.reduceSub, Nat.reduceLT, Int.reduceEq, BitVec.reduceOfInt, BitVec.reduceOfNat, Int.reduceGT, Int.reduceGE, Int.reduceBEq, Int.reduceBNe, Nat.reduceGT, Nat.reduceBEq, Nat.reduceBNe, Int.reduceAdd, Int.reduceSub, Int.reduceNeg, hb2, inb hb2, ↓k1.icells, ↓k1.one, hw]
    exact fin k1 k2 k3 (by rw [e]; exact ⟨hx, rfl, trivial⟩)
  have d3 : ((f.how : Int) == 3) = false := by rw [beq_eq_false_iff_ne]; omega
  by_cases c4 : f.how = 4
  · have e : entsF f l now = [(spoilF l f.at' f.mask, (now : Int))] := by simp [entsF, timesF, bent, c4]
    obtain ⟨y, hy, hyl⟩ := RSpoil_ok hx hwb hl f hok
    have hy' : pc BI F_ref18_Spoil [x, .agg [.int .u8 f.how, .int .u16 f.at', .int .u32 f.mask]] = some y := hy
    generalize spoilF l f.at' f.mask = L at *
    simp -implicitDefEqProofs only [go_sem, dnW_ite, reduceIte, Nat.reduceAdd, Nat.reduceLeDiff, Nat.reduceMul, Nat.reduceEqDiff, Int.reduceLT, Int.reduceLE, Int.reduceToNat, Nat.reduceSub, Nat.reduceLT, Int.reduceEq, BitVec.reduceOfInt, BitVec.reduceOfNat, Int.reduceGT, Int.reduceGE, Int.reduceBEq, Int.reduceBNe, Nat.reduceGT, Nat.reduceBEq, Nat.reduceBNe, Int.reduceAdd, Int.reduceSub, Int.reduceNeg, hf, d1, d2, d3, show ((f.how : Int) == 4) = true by rw [c4]; rfl, hb, hin, dcp hy' (by simp [ipureL, ipure, hx.pure]), ipureL, ipure, grp, mkE, List.headD, ↓hyl.icells, ↓hyl.one, ↓hyl.pure, List.drop_succ_cons, List.take_succ_cons]
    refine WP_bind (hg.app (m := 1) (ds := [y, nI now]) (by omega) rfl rfl rfl (by simp only [List.all_cons, List.all_nil, hyl.one]; rfl) (fits32 (by simp; omega))) fun s' J2 hs => ?_
    obtain ⟨k1, k2, k3⟩ := hs
    have hb2 := up k2
    simp -implicitDefEqProofs only [go_sem, dnW_ite, reduceIte, Nat.reduceAdd, Nat.reduceLeDiff, Nat.reduceMul, Nat.reduceEqDiff, Int.reduceLT, Int.reduceLE, Int.reduceToNat, Nat.reduceSub, Nat.reduceLT, Int.reduceEq, BitVec.reduceOfInt, BitVec.reduceOfNat, Int.reduceGT, Int.reduceGE, Int.reduceBEq, Int.reduceBNe, Nat.reduceGT, Nat.reduceBEq, Nat.reduceBNe, Int.reduceAdd, Int.reduceSub, Int.reduceNeg, hb2, inb hb2, ↓k1.icells, ↓k1.one, hw]
    exact fin k1 k2 k3 (by rw [e]; exact ⟨hyl, rfl, trivial⟩)
  have d4 : ((f.how : Int) == 4) = false := by rw [beq_eq_false_iff_ne]; omega
  by_cases c5 : f.how = 5
  · have e : entsF f l now = [(l, ((now + 2 : Nat) : Int))] := by simp [entsF, timesF, bent, c5]
    simp -implicitDefEqProofs only [go_sem, dnW_ite, reduceIte, Nat.reduceAdd, Nat.reduceLeDiff, Nat.reduceMul, Nat.reduceEqDiff, Int.reduceLT, Int.reduceLE, Int.reduceToNat, Nat.reduceSub, Nat.reduceLT, Int.reduceEq, BitVec.reduceOfInt, BitVec.reduceOfNat, Int.reduceGT, Int.reduceGE, Int.reduceBEq, Int.reduceBNe, Nat.reduceGT, Nat.reduceBEq, Nat.reduceBNe, Int.reduceAdd, Int.reduceSub, Int.reduceNeg, hf, d1, d2, d3, d4, show ((f.how : Int) == 5) = true by rw [c5]; rfl, hb, hin, hw2, ipureL, ipure, grp, mkE, List.headD, ↓hx.icells, ↓hx.one, ↓hx.pure, List.drop_succ_cons, List.take_succ_cons]
    refine WP_bind (hg.app (m := 1) (ds := [x, nI (now + 2)]) (by omega) rfl rfl rfl (by simp only [List.all_cons, List.all_nil, hx.one]; rfl) (fits32 (by simp; omega))) fun s' J2 hs => ?_
    obtain ⟨k1, k2, k3⟩ := hs
    have hb2 := up k2
    simp -implicitDefEqProofs only [go_sem, dnW_ite, reduceIte, Nat.reduceAdd, Nat.reduceLeDiff, Nat.reduceMul, Nat.reduceEqDiff, Int.reduceLT, Int.reduceLE, Int.reduceToNat, Nat.reduceSub, Nat.reduceLT, Int.reduceEq, BitVec.reduceOfInt, BitVec.reduceOfNat, Int.reduceGT, Int.reduceGE, Int.reduceBEq, Int.reduceBNe, Nat.reduceGT, Nat.reduceBEq, Nat.reduceBNe, Int.reduceAdd, Int.reduceSub, Int.reduceNeg, hb2, inb hb2, ↓k1.icells, ↓k1.one, hw]
    exact fin k1 k2 k3 (by rw [e]; exact ⟨hx, rfl, trivial⟩)
  have d5 : ((f.how : Int) == 5) = false := by rw [beq_eq_false_iff_ne]; omega
  have e : entsF f l now = [(l, (now : Int))] := by simp [entsF, timesF, bent, c1, c2, c3, c4, c5]
  simp -implicitDefEqProofs only [go_sem, dnW_ite, reduceIte, Nat.reduceAdd, Nat.reduceLeDiff, Nat.reduceMul, Nat.reduceEqDiff, Int.reduceLT, Int.reduceLE, Int.reduceToNat, Nat.reduceSub, Nat.reduceLT, Int.reduceEq, BitVec.reduceOfInt, BitVec.reduceOfNat, Int.reduceGT, Int.reduceGE, Int.reduceBEq, Int.reduceBNe, Nat.reduceGT, Nat.reduceBEq, Nat.reduceBNe, Int.reduceAdd, Int.reduceSub, Int.reduceNeg, hf, d1, d2, d3, d4, d5, hb, hin, ipureL, ipure, grp, mkE, List.headD, ↓hx.icells, ↓hx.one, ↓hx.pure, List.drop_succ_cons, List.take_succ_cons]
  refine WP_bind (hg.app (m := 1) (ds := [x, nI now]) (by omega) rfl rfl rfl (by simp only [List.all_cons, List.all_nil, hx.one]; rfl) (fits32 (by simp; omega))) fun s' J2 hs => ?_
  obtain ⟨k1, k2, k3⟩ := hs
  have hb2 := up k2
  simp -implicitDefEqProofs only [go_sem, dnW_ite, reduceIte, Nat.reduceAdd, Nat.reduceLeDiff, Nat.reduceMul, Nat.reduceEqDiff, Int.reduceLT, Int.reduceLE, Int.reduceToNat, Nat.reduceSub, Nat.reduceLT, Int.reduceEq, BitVec.reduceOfInt, BitVec.reduceOfNat, Int.reduceGT, Int.reduceGE, Int.reduceBEq, Int.reduceBNe, Nat.reduceGT, Nat.reduceBEq, Nat.reduceBNe, Int.reduceAdd, Int.reduceSub, Int.reduceNeg, hb2, inb hb2, ↓k1.icells, ↓k1.one, hw]
  exact fin k1 k2 k3 (by rw [e]; exact ⟨hx, rfl, trivial⟩)
end Go.Proofs.Ytohclaopcejjnaa.G
namespace Go.Proofs.Ytohclaopcejjnaa.G
open Go
set_option linter.unusedSimpArgs false
set_option linter.unusedVariables false
set_option maxHeartbeats 1000000
set_option maxRecDepth 20000
def shE (now : Nat) (e : List Int × Int) : List Int × Int := (e.1, e.2 + now)
theorem entsF_sh (f : FaultT) (l : List Int) (now : Nat) : entsF f l now = ((timesF f.how).map fun n : Nat => (bent f l, (n : Int))).map (shE now) := by
  rw [entsF, List.map_map]
  refine List.map_congr_left fun n _ => ?_
  simp only [Function.comp, shE]
  congr 1; omega
theorem RefAt.push {J : JH} {b : Nat} {s : IV} {E} {now : Nat} (X : IB) (h : RefAt J b s E now) : RefAt (J.push X) b s E now := h.fr (S := []) (.push _ _ _) (by simp) (by simp)
theorem rput_step (b i : Nat) (s fa fr : IV) (ps : List (List Int)) (fs : List FaultT) (E : List (List Int × Int)) (now : Nat) (J : JH) (K : Out IV → JH → Prop) (hW : RefAt J b s E now) (hfr : LsR 1 Bs fr ps) (hfa : LsR 3 FR fa fs) (hl : ∀ p ∈ ps, p.length ≤ 1000000) (hwb : ∀ p ∈ ps, Wb p) (hi : i ≤ ps.length) (hps : ps.length < 10000) (hE : E.length < 90000) (hnow : now ≤ 1000)
    (h0 : i = ps.length → K (.ret []) J)
    (h1 : ∀ (h : i < ps.length) J' s', RefAt J' b s' (E ++ entsF (fs.getD i f0) ps[i] now) now → Upd b J s J' s' → K (.goto 0 [.ptr b 0 0, fa, fr, nI ps.length, nI (i + 1)]) J') :
    WP (dn BI l_ref18_Put_k1 [.ptr b 0 0, fa, fr, nI ps.length, nI i] J) K := by
  by_cases h : i < ps.length
  · obtain ⟨x, hx, hxa⟩ := hfr.at h
    have hin := inb hW.1
    have hj : ∀ (K1 : Out IV → JH → Prop), (∀ J' s', RefAt J' b s' (E ++ entsF (fs.getD i f0) ps[i] now) now → Upd b J s J' s' → K1 (.goto 0 [.ptr b 0 0, fa, fr, nI ps.length, nI (i + 1)]) J') → WP (dn BI l_ref18_Put_k0 [.ptr b 0 0, fa, x, .ptr J.size 0 0, fr, nI ps.length, nI i] (J.push (.cells 0 [.int .u8 (fs.getD i f0).how, .int .u16 (fs.getD i f0).at', .int .u32 (fs.getD i f0).mask] false))) K1 := by
      intro K1 g1
      refine rput_k0 b i J.size s x fa fr ps[i] (fs.getD i f0) ?_ E now ps.length _ K1 (hW.push _) (push_get _ _) hx (hwb _ (List.getElem_mem h)) (hl _ (List.getElem_mem h)) hE (by omega) h hnow (fun J' s' hW' hu => g1 J' s' hW' (Upd.trans (.push _) hu))
      by_cases hif : i < fs.length
      · obtain ⟨e, he, _⟩ := hfa.at hif
        rw [getD_lt hif]
        exact he.2
      · rw [getD_ge (show fs.length ≤ i by omega)]
        exact ⟨by decide, by decide, by decide, by decide⟩
    unfold l_ref18_Put_k1
    by_cases hif : i < fs.length
    · obtain ⟨e, ⟨rfl, _⟩, hea⟩ := hfa.at hif
      rw [getD_lt hif] at hj h1
      unfold FaultT.iv at hea
      simp -implicitDefEqProofs only [go_sem, dnW_ite, reduceIte, Nat.reduceAdd, Nat.reduceLeDiff, Nat.reduceMul, Nat.reduceEqDiff, Int.reduceLT, Int.reduceLE, Int.reduceToNat, Nat.reduceSub, Nat.reduceLT, Int.reduceEq, BitVec.reduceOfInt, BitVec.reduceOfNat, Int.reduceGT, Int.reduceGE, Int.reduceBEq, Int.reduceBNe, Nat.reduceGT, Nat.reduceBEq, Nat.reduceBNe, Int.reduceAdd, Int.reduceSub, Int.reduceNeg, show ((i : Int) < (ps.length : Int)) by omega, hxa, ↓hx.icells, hfa.lenF, show ((i : Int) < (fs.length : Int)) by omega, hea, hin]
      exact hj K (h1 h)
    · rw [getD_ge (show fs.length ≤ i by omega)] at hj h1
      simp -implicitDefEqProofs only [go_sem, dnW_ite, reduceIte, Nat.reduceAdd, Nat.reduceLeDiff, Nat.reduceMul, Nat.reduceEqDiff, Int.reduceLT, Int.reduceLE, Int.reduceToNat, Nat.reduceSub, Nat.reduceLT, Int.reduceEq, BitVec.reduceOfInt, BitVec.reduceOfNat, Int.reduceGT, Int.reduceGE, Int.reduceBEq, Int.reduceBNe, Nat.reduceGT, Nat.reduceBEq, Nat.reduceBNe, Int.reduceAdd, Int.reduceSub, Int.reduceNeg, show ((i : Int) < (ps.length : Int)) by omega, hxa, ↓hx.icells, hfa.lenF, show ¬ ((i : Int) < (fs.length : Int)) by omega]
      exact hj K (h1 h)
  · unfold l_ref18_Put_k1
    simp -implicitDefEqProofs only [go_sem, dnW_ite, reduceIte, Nat.reduceAdd, Nat.reduceLeDiff, Nat.reduceMul, Nat.reduceEqDiff, Int.reduceLT, Int.reduceLE, Int.reduceToNat, Nat.reduceSub, Nat.reduceLT, Int.reduceEq, BitVec.reduceOfInt, BitVec.reduceOfNat, Int.reduceGT, Int.reduceGE, Int.reduceBEq, Int.reduceBNe, Nat.reduceGT, Nat.reduceBEq, Nat.reduceBNe, Int.reduceAdd, Int.reduceSub, Int.reduceNeg, show ¬ ((i : Int) < (ps.length : Int)) by omega]
    exact h0 (by omega)
theorem rPut_ok (b : Nat) (s fa fr : IV) (ps : List (List Int)) (fs : List FaultT) (E : List (List Int × Int)) (now : Nat) (J : JH) (hW : RefAt J b s E now) (hfr : LsR 1 Bs fr ps) (hfa : LsR 3 FR fa fs) (hl : ∀ p ∈ ps, p.length ≤ 1000000) (hwb : ∀ p ∈ ps, Wb p) (hps : ps.length < 10000) (hE : E.length < 60000) (hnow : now ≤ 1000) :
    RP (ic BI F_ref18_Put [.ptr b 0 0, fr, fa] J) fun v J' => ∃ s', RefAt J' b s' (E ++ (putF fs 0 ps).map (shE now)) now ∧ Upd b J s J' s' := by
  refine RP_run fn_ref18_Put rfl fun K hK => ?_
  unfold l_ref18_Put
  simp -implicitDefEqProofs only [go_sem, dnW_ite, reduceIte, Nat.reduceAdd, Nat.reduceLeDiff, Nat.reduceMul, Nat.reduceEqDiff, Int.reduceLT, Int.reduceLE, Int.reduceToNat, Nat.reduceSub, Nat.reduceLT, Int.reduceEq, BitVec.reduceOfInt, BitVec.reduceOfNat, Int.reduceGT, Int.reduceGE, Int.reduceBEq, Int.reduceBNe, Nat.reduceGT, Nat.reduceBEq, Nat.reduceBNe, Int.reduceAdd, Int.reduceSub, Int.reduceNeg, hfr.lenF, dn_loop]
  refine WP_iter (fun m vs J' => ∃ i s' E', i + m = ps.length ∧ vs = [.ptr b 0 0, fa, fr, nI ps.length, nI i] ∧ RefAt J' b s' E' now ∧ E'.length ≤ E.length + 2 * i ∧ E' ++ (putF fs i (ps.drop i)).map (shE now) = E ++ (putF fs 0 ps).map (shE now) ∧ Upd b J s J' s') ?_ ps.length _ _ ⟨0, s, E, by omega, rfl, hW, by omega, by simp, .refl⟩
  rintro m vs J' ⟨i, s', E', hi, rfl, hW', hlen, hE', hu⟩ K1 g1 g2 g3
  refine rput_step b i s' fa fr ps fs E' now J' K1 hW' hfr hfa hl hwb (by omega) hps (by omega) hnow (fun he => ?_) (fun h J2 s2 hW2 hu2 => ?_)
  · refine g3 _ _ (hK _ _ ⟨s', ?_, hu⟩)
    rw [List.drop_of_length_le (by omega), putF, List.map_nil, List.append_nil] at hE'
    rw [← hE']
    exact hW'
  · refine g1 _ (m - 1) _ (by omega) ⟨i + 1, s2, _, by omega, rfl, hW2, ?_, ?_, hu.trans hu2⟩
    · have := timesF_len (fs.getD i f0).how
      simp only [List.length_append, entsF, List.length_map]
      omega
    · rw [← hE', List.drop_eq_getElem_cons h, putF, List.map_append, ← List.append_assoc, entsF_sh]
def waitE (E : List (List Int × Int)) (now : Nat) : List (List Int × Int) := E.filter fun e => decide ((now : Int) ≤ e.2)
theorem EntR.at2 : ∀ {cs E}, EntR cs E → ∀ i (h : i < E.length), ∃ x, Bs x E[i].1 ∧ (cs.drop (i * 2)).take 2 = [x, .int .i64 E[i].2]
  | _ :: _ :: cs, e :: E, h, 0, _ => ⟨_, h.1, by obtain ⟨_, rfl, _⟩ := h; rfl⟩
  | _ :: _ :: cs, e :: E, h, i + 1, hi => by
    obtain ⟨x, h1, h2⟩ := EntR.at2 h.2.2 i (by simpa using hi)
    exact ⟨x, h1, by rw [show (i + 1) * 2 = i * 2 + 2 by omega]; exact h2⟩
  | [], [], _, _, h => absurd h (by simp)
  | [], _ :: _, h, _, _ => h.elim
  | [_], [], h, _, _ => h.elim
  | [_], _ :: _, h, _, _ => h.elim
  | _ :: _ :: _, [], h, _, _ => h.elim
theorem take_in {α : Type} {l cs : List α} {m k n : Nat} (h : l.take m = cs) (hk : k + n ≤ m) : (l.drop k).take n = (cs.drop k).take n := by
  rw [← h, List.drop_take, List.take_take, Nat.min_eq_left (by omega)]
theorem ent_ld {J1 : JH} {E : List (List Int × Int)} {cs full : List IV} (he : EntR cs E) (k2 : E.length * 2 ≤ full.length) (k3 : full.take (E.length * 2) = cs) {i : Nat} (h : i < E.length) : ∃ x, Bs x E[i].1 ∧ (full.drop (i * 2)).take 2 = [x, .int .i64 E[i].2] ∧ i * 2 + 2 ≤ full.length := by
  obtain ⟨x, hx, hat⟩ := he.at2 i h
  exact ⟨x, hx, by rw [take_in k3 (by omega), hat], by omega⟩
theorem rWaiting_ok (b : Nat) (s : IV) (E : List (List Int × Int)) (now : Nat) (J : JH) (hW : RefAt J b s E now) (hE : E.length ≤ 100000) : RP (ic BI F_ref18_Waiting [.ptr b 0 0] J) fun v J' => v = nI (waitE E now).length ∧ Fr J J' [] := by
  refine RP_run fn_ref18_Waiting rfl fun K hK => ?_
  obtain ⟨hb, hbs, cs, hg, he⟩ := hW
  have hlen := he.length
  have hln : ∀ J', lenF false s J' = some (.int .i64 (E.length : Nat), J') := fun J' => hg.lenF hlen (by omega)
  have hin := inb hb
  unfold l_ref18_Waiting
  simp -implicitDefEqProofs only [go_sem, dnW_ite, reduceIte, Nat.reduceAdd, Nat.reduceLeDiff, Nat.reduceMul, Nat.reduceEqDiff, Int.reduceLT, Int.reduceLE, Int.reduceToNat, Nat.reduceSub, Nat.reduceLT, Int.reduceEq, BitVec.reduceOfInt, BitVec.reduceOfNat, Int.reduceGT, Int.reduceGE, Int.reduceBEq, Int.reduceBNe, Nat.reduceGT, Nat.reduceBEq, Nat.reduceBNe, Int.reduceAdd, Int.reduceSub, Int.reduceNeg, hb, hln, dn_loop]
  refine WP_range (by decide) E.length (fun i vs J' => vs = [.ptr b 0 0, nI (waitE (E.take i) now).length, s, nI E.length, nI i] ∧ Fr J J' []) ?_ ⟨rfl, .refl _ _⟩
  rintro i vs J1 ⟨rfl, hf⟩ hi K1 g1 g2 g3
  have hb1 : J1[b]? = some (.cells 0 [s, nI now] false) := by rw [hf.2 b (lt_get hb) (by simp)]; exact hb
  have hg1 := hg.fr0 hf
  unfold l_ref18_Waiting_k0
  by_cases h : i < E.length
  · obtain ⟨x, hx, hat⟩ := he.at2 i h
    have hw1 := wrapS h (show E.length ≤ 9223372036854775807 by omega)
    have hwl : (waitE (E.take (i + 1)) now).length = (waitE (E.take i) now).length + if (now : Int) ≤ E[i].2 then 1 else 0 := by
      rw [List.take_succ_eq_append_getElem h, waitE, waitE, List.filter_append, List.length_append]
      congr 1
      by_cases hc : (now : Int) ≤ E[i].2 <;> simp [hc]
    have hfl : (waitE (E.take i) now).length ≤ 100000 := by
      refine Nat.le_trans (List.length_filter_le _ _) ?_
      rw [List.length_take]; omega
    rcases hg1 with ⟨rfl, h0⟩ | ⟨c, v, n, full, rfl, k1, k2, k3, k4⟩
    · rw [h0] at hlen; simp at hlen; omega
    obtain rfl : n = E.length := by
      have := congrArg List.length k3
      rw [List.length_take] at this
      omega
    obtain ⟨x, hx, hld, hle⟩ := ent_ld (J1 := J1) he k2 k3 h
    have hpush := (Fr.push J1 (.cells 0 [x, .int .i64 E[i].2] false) [])
    have hb2 : (J1.push (.cells 0 [x, .int .i64 E[i].2] false))[b]? = some (.cells 0 [.sl c v 0 E.length (UNK + 2) 2, nI now] false) := by rw [hpush.2 b (lt_get hb1) (by simp)]; exact hb1
    have hw3 : IntKind.i64.wrap (((waitE (E.take i) now).length : Int) + 1) = (((waitE (E.take i) now).length + 1 : Nat) : Int) := by rw [wrap_i64 (by omega) (by omega)]; omega
    have hone : [x, .int .i64 E[i].2].all ione = true := by simp only [List.all_cons, List.all_nil, hx.one]; rfl
    generalize (waitE (E.take i) now).length = w at *
    by_cases hc : (now : Int) ≤ E[i].2
    · rw [if_pos hc] at hwl
      simp -implicitDefEqProofs only [go_sem, dnW_ite, reduceIte, Nat.reduceAdd, Nat.reduceLeDiff, Nat.reduceMul, Nat.reduceEqDiff, Int.reduceLT, Int.reduceLE, Int.reduceToNat, Nat.reduceSub, Nat.reduceLT, Int.reduceEq, BitVec.reduceOfInt, BitVec.reduceOfNat, Int.reduceGT, Int.reduceGE, Int.reduceBEq, Int.reduceBNe, Nat.reduceGT, Nat.reduceBEq, Nat.reduceBNe, Int.reduceAdd, Int.reduceSub, Int.reduceNeg, show ((i : Int) < (E.length : Int)) by omega, h, k1, hb1, hb2, inb hb1, inb k1, hld, hle, ↓hx.one, ↓hx.icells, show (E[i].2 ≥ (now : Int)) from hc, hw1, hw3]
      exact g1 h _ _ ⟨by rw [hwl], hf.trans hpush (by simp)⟩
    · rw [if_neg hc] at hwl
      simp -implicitDefEqProofs only [go_sem, dnW_ite, reduceIte, Nat.reduceAdd, Nat.reduceLeDiff, Nat.reduceMul, Nat.reduceEqDiff, Int.reduceLT, Int.reduceLE, Int.reduceToNat, Nat.reduceSub, Nat.reduceLT, Int.reduceEq, BitVec.reduceOfInt, BitVec.reduceOfNat, Int.reduceGT, Int.reduceGE, Int.reduceBEq, Int.reduceBNe, Nat.reduceGT, Nat.reduceBEq, Nat.reduceBNe, Int.reduceAdd, Int.reduceSub, Int.reduceNeg, show ((i : Int) < (E.length : Int)) by omega, h, k1, hb1, hb2, inb hb1, inb k1, hld, hle, ↓hx.one, ↓hx.icells, show ¬ (E[i].2 ≥ (now : Int)) from hc, hw1]
      exact g1 h _ _ ⟨by rw [hwl]; rfl, hf.trans hpush (by simp)⟩
  · simp -implicitDefEqProofs only [go_sem, dnW_ite, reduceIte, Nat.reduceAdd, Nat.reduceLeDiff, Nat.reduceMul, Nat.reduceEqDiff, Int.reduceLT, Int.reduceLE, Int.reduceToNat, Nat.reduceSub, Nat.reduceLT, Int.reduceEq, BitVec.reduceOfInt, BitVec.reduceOfNat, Int.reduceGT, Int.reduceGE, Int.reduceBEq, Int.reduceBNe, Nat.reduceGT, Nat.reduceBEq, Nat.reduceBNe, Int.reduceAdd, Int.reduceSub, Int.reduceNeg, show ¬ ((i : Int) < (E.length : Int)) by omega]
    refine g2 _ _ ?_
    rw [List.take_of_length_le (by omega)]
    unfold l_ref18_Waiting_k1
    simp -implicitDefEqProofs only [go_sem, dnW_ite, reduceIte, Nat.reduceAdd, Nat.reduceLeDiff, Nat.reduceMul, Nat.reduceEqDiff, Int.reduceLT, Int.reduceLE, Int.reduceToNat, Nat.reduceSub, Nat.reduceLT, Int.reduceEq, BitVec.reduceOfInt, BitVec.reduceOfNat, Int.reduceGT, Int.reduceGE, Int.reduceBEq, Int.reduceBNe, Nat.reduceGT, Nat.reduceBEq, Nat.reduceBNe, Int.reduceAdd, Int.reduceSub, Int.reduceNeg]
    exact hK _ _ ⟨rfl, hf⟩
end Go.Proofs.Ytohclaopcejjnaa.G
namespace Go.Proofs.Ytohclaopcejjnaa.G
open Go
set_option linter.unusedSimpArgs false
set_option linter.unusedVariables false
set_option maxHeartbeats 1000000
set_option maxRecDepth 20000
def dueE (E : List (List Int × Int)) (now : Nat) : List (List Int) := (E.filter fun e => decide (e.2 = (now : Int))).map (·.1)
theorem rTake_ok (b : Nat) (s : IV) (E : List (List Int × Int)) (now : Nat) (J : JH) (hW : RefAt J b s E now) (hE : E.length ≤ 100000) (hnow : now ≤ 1000) : RP (ic BI F_ref18_Take [.ptr b 0 0] J) fun out J' => ∃ xs, RefAt J' b s E (now + 1) ∧ Grow J' out 1 xs ∧ BsA xs (dueE E now) ∧ Fr J J' [b] ∧ ∀ d ∈ blk out, J.size ≤ d := by
  refine RP_run fn_ref18_Take rfl fun K hK => ?_
  obtain ⟨hb, hbs, cs, hg, he⟩ := hW
  have hlen := he.length
  have hln : ∀ J', lenF false s J' = some (.int .i64 (E.length : Nat), J') := fun J' => hg.lenF hlen (by omega)
  have hin := inb hb
  unfold l_ref18_Take
  simp -implicitDefEqProofs only [go_sem, dnW_ite, reduceIte, Nat.reduceAdd, Nat.reduceLeDiff, Nat.reduceMul, Nat.reduceEqDiff, Int.reduceLT, Int.reduceLE, Int.reduceToNat, Nat.reduceSub, Nat.reduceLT, Int.reduceEq, BitVec.reduceOfInt, BitVec.reduceOfNat, Int.reduceGT, Int.reduceGE, Int.reduceBEq, Int.reduceBNe, Nat.reduceGT, Nat.reduceBEq, Nat.reduceBNe, Int.reduceAdd, Int.reduceSub, Int.reduceNeg, hb, hln, dn_loop]
  refine WP_range (by decide) E.length (fun i vs J' => ∃ out xs, vs = [.ptr b 0 0, out, s, nI E.length, nI i] ∧ Grow J' out 1 xs ∧ BsA xs (dueE (E.take i) now) ∧ Fr J J' [] ∧ ∀ d ∈ blk out, J.size ≤ d) ?_ ⟨_, [], rfl, .nil, trivial, .refl _ _, by simp [blk, blkOf]⟩
  rintro i vs J1 ⟨out, xs, rfl, ho, hxs, hf, hbl⟩ hi K1 g1 g2 g3
  have hb1 : J1[b]? = some (.cells 0 [s, nI now] false) := by rw [hf.2 b (lt_get hb) (by simp)]; exact hb
  have hg1 := hg.fr0 hf
  have hj := hf.1
  unfold l_ref18_Take_k0
  by_cases h : i < E.length
  · have hw1 := wrapS h (show E.length ≤ 9223372036854775807 by omega)
    have hdl : (dueE (E.take i) now).length ≤ 100000 := by
      rw [dueE, List.length_map]
      refine Nat.le_trans (List.length_filter_le _ _) ?_
      rw [List.length_take]; omega
    have hdu : dueE (E.take (i + 1)) now = dueE (E.take i) now ++ if E[i].2 = (now : Int) then [E[i].1] else [] := by
      rw [List.take_succ_eq_append_getElem h, dueE, dueE, List.filter_append, List.map_append]
      congr 1
      by_cases hc : E[i].2 = (now : Int) <;> simp [hc]
    rcases hg1 with ⟨rfl, h0⟩ | ⟨c, v, n, full, rfl, k1, k2, k3, k4⟩
    · rw [h0] at hlen; simp at hlen; omega
    obtain rfl : n = E.length := by
      have := congrArg List.length k3
      rw [List.length_take] at this
      omega
    obtain ⟨x, hx, hld, hle⟩ := ent_ld (J1 := J1) he k2 k3 h
    have hpush := (Fr.push J1 (.cells 0 [x, .int .i64 E[i].2] false) [])
    have hb2 : (J1.push (.cells 0 [x, .int .i64 E[i].2] false))[b]? = some (.cells 0 [.sl c v 0 E.length (UNK + 2) 2, nI now] false) := by rw [hpush.2 b (lt_get hb1) (by simp)]; exact hb1
    have hone : [x, .int .i64 E[i].2].all ione = true := by simp only [List.all_cons, List.all_nil, hx.one]; rfl
    have hxl := hxs.len
    have hxi : ∀ J, iscells J 1 (.lst 1 true [x]) = some [x] := fun J => by
      have e : icells x = [x] := Ls.icells hx
      show some ([x].flatMap icells) = some [x]
      rw [List.flatMap_cons, e]; rfl
    by_cases hc : E[i].2 = (now : Int)
    · rw [if_pos hc] at hdu
      have hce : (E[i].2 == (now : Int)) = true := by simp [hc]
      simp -implicitDefEqProofs only [go_sem, dnW_ite, reduceIte, Nat.reduceAdd, Nat.reduceLeDiff, Nat.reduceMul, Nat.reduceEqDiff, Int.reduceLT, Int.reduceLE, Int.reduceToNat, Nat.reduceSub, Nat.reduceLT, Int.reduceEq, BitVec.reduceOfInt, BitVec.reduceOfNat, Int.reduceGT, Int.reduceGE, Int.reduceBEq, Int.reduceBNe, Nat.reduceGT, Nat.reduceBEq, Nat.reduceBNe, Int.reduceAdd, Int.reduceSub, Int.reduceNeg, show ((i : Int) < (E.length : Int)) by omega, h, k1, hb1, hb2, inb hb1, inb k1, hld, hle, ↓hx.one, ↓hx.icells, ↓hx.pure, hce, ipureL, ipure, grp, mkE, List.headD]
      refine WP_bind ((ho.fr0 hpush).app (m := 1) (ds := [x]) (by omega) (hxi _) rfl rfl (by simp only [List.all_cons, List.all_nil, hx.one]; rfl) (fits24 (by simp; omega))) fun out' J2 hs => ?_
      obtain ⟨q1, q2, q3⟩ := hs
      simp -implicitDefEqProofs only [go_sem, dnW_ite, reduceIte, Nat.reduceAdd, Nat.reduceLeDiff, Nat.reduceMul, Nat.reduceEqDiff, Int.reduceLT, Int.reduceLE, Int.reduceToNat, Nat.reduceSub, Nat.reduceLT, Int.reduceEq, BitVec.reduceOfInt, BitVec.reduceOfNat, Int.reduceGT, Int.reduceGE, Int.reduceBEq, Int.reduceBNe, Nat.reduceGT, Nat.reduceBEq, Nat.reduceBNe, Int.reduceAdd, Int.reduceSub, Int.reduceNeg, hw1]
      refine g1 h _ _ ⟨out', xs ++ [x], rfl, q1, by rw [hdu]; exact hxs.snoc hx, ?_, fun d hd => ?_⟩
      · refine ⟨by have := q2.1; simp at this; omega, fun d hd _ => ?_⟩
        rw [q2.2 d (by simp; omega) (fun hm => by have := hbl d hm; omega), hpush.2 d (by omega) (by simp), hf.2 d hd (by simp)]
      · rcases q3 d hd with hd | hd
        · exact hbl d hd
        · simp at hd; omega
    · rw [if_neg hc, List.append_nil] at hdu
      have hce : (E[i].2 == (now : Int)) = false := by simp [hc]
      simp -implicitDefEqProofs only [go_sem, dnW_ite, reduceIte, Nat.reduceAdd, Nat.reduceLeDiff, Nat.reduceMul, Nat.reduceEqDiff, Int.reduceLT, Int.reduceLE, Int.reduceToNat, Nat.reduceSub, Nat.reduceLT, Int.reduceEq, BitVec.reduceOfInt, BitVec.reduceOfNat, Int.reduceGT, Int.reduceGE, Int.reduceBEq, Int.reduceBNe, Nat.reduceGT, Nat.reduceBEq, Nat.reduceBNe, Int.reduceAdd, Int.reduceSub, Int.reduceNeg, show ((i : Int) < (E.length : Int)) by omega, h, k1, hb1, hb2, inb hb1, inb k1, hld, hle, ↓hx.one, ↓hx.icells, ↓hx.pure, hce, hw1]
      refine g1 h _ _ ⟨out, xs, rfl, ho.fr0 hpush, by rw [hdu]; exact hxs, hf.trans hpush (by simp), hbl⟩
  · simp -implicitDefEqProofs only [go_sem, dnW_ite, reduceIte, Nat.reduceAdd, Nat.reduceLeDiff, Nat.reduceMul, Nat.reduceEqDiff, Int.reduceLT, Int.reduceLE, Int.reduceToNat, Nat.reduceSub, Nat.reduceLT, Int.reduceEq, BitVec.reduceOfInt, BitVec.reduceOfNat, Int.reduceGT, Int.reduceGE, Int.reduceBEq, Int.reduceBNe, Nat.reduceGT, Nat.reduceBEq, Nat.reduceBNe, Int.reduceAdd, Int.reduceSub, Int.reduceNeg, show ¬ ((i : Int) < (E.length : Int)) by omega]
    refine g2 _ _ ?_
    rw [List.take_of_length_le (by omega)] at hxs
    have hw2 : IntKind.i64.wrap ((now : Int) + 1) = ((now + 1 : Nat) : Int) := by rw [wrap_i64 (by omega) (by omega)]; omega
    unfold l_ref18_Take_k1
    simp -implicitDefEqProofs only [go_sem, dnW_ite, reduceIte, Nat.reduceAdd, Nat.reduceLeDiff, Nat.reduceMul, Nat.reduceEqDiff, Int.reduceLT, Int.reduceLE, Int.reduceToNat, Nat.reduceSub, Nat.reduceLT, Int.reduceEq, BitVec.reduceOfInt, BitVec.reduceOfNat, Int.reduceGT, Int.reduceGE, Int.reduceBEq, Int.reduceBNe, Nat.reduceGT, Nat.reduceBEq, Nat.reduceBNe, Int.reduceAdd, Int.reduceSub, Int.reduceNeg, hb1, inb hb1, hw2]
    have hlt := lt_get hb
    have hnb : b ∉ blk out := fun hm => by have := hbl b hm; omega
    have fs := Fr.set J1 (b := b) (.cells 0 [s, nI (now + 1)] false) (S := [b]) (by simp)
    refine hK [_] _ ⟨xs, ⟨set_get _ (lt_get hb1), hbs, cs, hg1.fr fs (fun c hc hm => by simp at hm; exact hbs (hm ▸ hc)), he⟩, ho.fr fs (fun c hc hm => by simp at hm; exact hnb (hm ▸ hc)), hxs, (Fr.trans (S := [b]) ⟨hf.1, fun d hd hm => hf.2 d hd (by simp)⟩ fs (fun _ _ h => h)), hbl⟩
end Go.Proofs.Ytohclaopcejjnaa.G
namespace Go.Proofs.Ytohclaopcejjnaa.G
open Go
set_option linter.unusedSimpArgs false
set_option linter.unusedVariables false
set_option maxHeartbeats 1000000
set_option maxRecDepth 20000
def seeE (now : Nat) (X : List (List Int × Int)) : List (List Int × Int) := (X.filter fun e => decide ((now : Int) ≤ e.2)).map fun e => (e.1, e.2 - now)
theorem see_len (now : Nat) (X : List (List Int × Int)) : (seeE now X).length = (waitE X now).length := by simp [seeE, waitE]
theorem see_put (now : Nat) (X F : List (List Int × Int)) (h : ∀ e ∈ F, 0 ≤ e.2) : seeE now (X ++ F.map (shE now)) = seeE now X ++ F := by
  rw [seeE, List.filter_append, List.map_append]
  congr 1
  induction F with
  | nil => rfl
  | cons e F ih =>
    have h0 := h e (by simp)
    rw [List.map_cons, List.filter_cons, if_pos (show decide ((now : Int) ≤ (shE now e).2) = true by rw [decide_eq_true_eq]; show (now : Int) ≤ e.2 + now; omega), List.map_cons, ih (fun e he => h e (by simp [he]))]
    congr 1
    show (e.1, e.2 + now - now) = e
    rw [Int.add_sub_cancel]
theorem see_now (now : Nat) : ∀ (X : List (List Int × Int)), nowE (seeE now X) = dueE X now
  | [] => rfl
  | e :: X => by
    have ih := see_now now X
    unfold nowE seeE dueE at *
    rw [List.filter_cons, List.filter_cons]
    by_cases h : (now : Int) ≤ e.2
    · rw [if_pos (by simpa using h), List.map_cons, List.filter_cons]
      by_cases h2 : e.2 = (now : Int)
      · rw [if_pos (by simp [h2]), if_pos (by simp [h2]), List.map_cons, List.map_cons, ih]
      · rw [if_neg (by simp; omega), if_neg (by simp [h2]), ih]
    · rw [if_neg (by simpa using h), if_neg (by simp; omega), ih]
theorem see_take (now : Nat) : ∀ (X : List (List Int × Int)), takeE (seeE now X) = seeE (now + 1) X
  | [] => rfl
  | e :: X => by
    have ih := see_take now X
    unfold takeE seeE at *
    rw [List.filter_cons, List.filter_cons]
    by_cases h : (now : Int) ≤ e.2
    · rw [if_pos (by simpa using h), List.map_cons, List.map_cons, List.filter_cons]
      by_cases h2 : ((now + 1 : Nat) : Int) ≤ e.2
      · rw [if_pos (by simp; omega), if_pos (by simpa using h2), List.map_cons, ih]
        congr 1
        simp; omega
      · rw [if_neg (by simp; omega), if_neg (by simpa using h2), ih]
    · rw [if_neg (by simpa using h), if_neg (by simp; omega), ih]
theorem WireAt.lo {J : JH} {b : Nat} {s : IV} {E} (h : WireAt J b s E) : ∀ c ∈ blk s, c < J.size := by
  obtain ⟨_, _, cs, hg, _⟩ := h
  exact hg.low
theorem RefAt.lo {J : JH} {b : Nat} {s : IV} {E} {now} (h : RefAt J b s E now) : ∀ c ∈ blk s, c < J.size := by
  obtain ⟨_, _, cs, hg, _⟩ := h
  exact hg.low
structure Both (J : JH) (s : IV) (E : List (List Int × Int)) (s2 : IV) (X : List (List Int × Int)) (now : Nat) : Prop where
  w : WireAt J 0 s E
  r : RefAt J 1 s2 X now
  n1 : 1 ∉ blk s
  n0 : 0 ∉ blk s2
  d : ∀ c ∈ blk s, c ∉ blk s2
theorem Both.fr {J J' : JH} {s E s2 X now} (h : Both J s E s2 X now) (f : Fr J J' []) : Both J' s E s2 X now :=
  ⟨h.w.fr f (by simp) (by simp), h.r.fr f (by simp) (by simp), h.n1, h.n0, h.d⟩
theorem Both.uw {J J' : JH} {s s' E E' s2 X now} (h : Both J s E s2 X now) (w : WireAt J' 0 s' E') (u : Upd 0 J s J' s') : Both J' s' E' s2 X now := by
  have l1 := lt_get h.r.1
  refine ⟨w, h.r.fr u.1 (by simp [h.n1]) (fun c hc hm => ?_), fun hm => ?_, h.n0, fun c hc hm => ?_⟩
  · rcases List.mem_cons.1 hm with rfl | hm
    · exact h.n0 hc
    · exact h.d c hm hc
  · rcases u.2 1 hm with hm | hm
    · exact h.n1 hm
    · omega
  · rcases u.2 c hc with hc | hc
    · exact h.d c hc hm
    · have := h.r.lo c hm; omega
theorem Both.ur {J J' : JH} {s E s2 s2' X X' now now'} (h : Both J s E s2 X now) (r : RefAt J' 1 s2' X' now') (u : Upd 1 J s2 J' s2') : Both J' s E s2' X' now' := by
  have l0 := lt_get h.w.1
  refine ⟨h.w.fr u.1 (by simp [h.n0]) (fun c hc hm => ?_), r, h.n1, fun hm => ?_, fun c hc hm => ?_⟩
  · rcases List.mem_cons.1 hm with rfl | hm
    · exact h.n1 hc
    · exact h.d c hc hm
  · rcases u.2 0 hm with hm | hm
    · exact h.n0 hm
    · omega
  · rcases u.2 c hm with hm | hm
    · exact h.d c hc hm
    · have := h.w.lo c hc; omega
theorem see_small (now : Nat) (X : List (List Int × Int)) (h : ∀ e ∈ X, e.2 ≤ (now : Int) + 900) : ∀ e ∈ seeE now X, 0 ≤ e.2 ∧ e.2 ≤ 1000 := fun e he => by
  obtain ⟨y, hy, rfl⟩ := List.mem_map.1 he
  have h1 := List.mem_filter.1 hy
  have h2 := h y h1.1
  have h3 := h1.2
  simp only [decide_eq_true_eq] at h3
  exact ⟨by show 0 ≤ y.2 - now; omega, by show y.2 - now ≤ 1000; omega⟩
end Go.Proofs.Ytohclaopcejjnaa.G
namespace Go.Proofs.Ytohclaopcejjnaa.G
open Go
set_option linter.unusedSimpArgs false
set_option linter.unusedVariables false
set_option maxHeartbeats 2000000
set_option maxRecDepth 20000
theorem WP_callS {f : FuncId} {args as : List IV} {u : IV} {J : JH} {k : L} {ρ : List IV} {P} (ha : args.mapM (frz J DEP) = some as) (hp : pc BI f as = some u) (hu : iscal u = true) (hk : WP (dn BI k (ρ ++ [u]) J) P) : WP (thenD (doCall (ic BI) .pure f args J) k ρ) P := by
  rw [dcf ha hp, if_pos hu]
  exact hk
structure TurnR (fr fa : IV) (ps : List (List Int)) (fs : List FaultT) : Prop where
  p : LsR 1 Bs fr ps
  f : LsR 3 FR fa fs
  lp : ps.length ≤ 9223372036854775807
  lf : fs.length ≤ 9223372036854775807
  l : ∀ p ∈ ps, p.length ≤ 9223372036854775807
  w : ∀ p ∈ ps, Wb p
theorem putF_rng (fs : List FaultT) (ps : List (List Int)) : ∀ e ∈ putF fs 0 ps, 0 ≤ e.2 ∧ e.2 ≤ 2 := putF_small fs ps 0
theorem putF_lens (fs : List FaultT) : ∀ (ps : List (List Int)) (i : Nat), (∀ p ∈ ps, p.length ≤ 40) → ∀ e ∈ putF fs i ps, e.1.length ≤ 40
  | [], i, h, e, he => by cases he
  | p :: ps, i, h, e, he => by
    rw [putF] at he
    rcases List.mem_append.1 he with he | he
    · obtain ⟨n, _, rfl⟩ := List.mem_map.1 he
      show (bent _ p).length ≤ 40
      rw [bent_len]; exact h p (by simp)
    · exact putF_lens fs ps (i + 1) (fun p hp => h p (by simp [hp])) e he
theorem plays_round (x fr fa : IV) (ps : List (List Int)) (fs : List FaultT) (hT : TurnR fr fa ps fs) (n i : Nat) (hi : i < n) (hi20 : i < 20) (hn : n ≤ 9223372036854775807) (J : JH) (hxa : ∃ w, (∀ J, iaddrF 2 x (nI i) J = some (w, J)) ∧ w = .rptr (.agg [fr, fa]) 0) (s s2 : IV) (X : List (List Int × Int)) (hB : Both J s (seeE i X) s2 X i) (hX : X.length ≤ 16 * i) (hXb : ∀ e ∈ X, e.2 ≤ (i : Int) + 2 ∧ e.1.length ≤ 40) (K : Out IV → JH → Prop)
    (hK : ∀ J' s' s2' X', Both J' s' (seeE (i + 1) X') s2' X' (i + 1) → X'.length ≤ 16 * (i + 1) → (∀ e ∈ X', e.2 ≤ ((i + 1 : Nat) : Int) + 2 ∧ e.1.length ≤ 40) → K (.goto 1 [.ptr 0 0 0, .ptr 1 0 0, x, nI n, nI (i + 1)]) J') :
    WP (dn BI l_law18_WirePlays_k0 [.ptr 0 0 0, .ptr 1 0 0, x, nI n, nI i] J) K := by
  obtain ⟨w, hat, rfl⟩ := hxa
  obtain ⟨fr', fa', la, hfew, hr1, hr2, hr3⟩ := few_ok fr fa ps fs hT.p hT.f hT.l hT.lp hT.lf
  have hP : ∀ p ∈ (ps.take 8).map (fun x => x.take 40), p.length ≤ 40 := fun p hp => by
    obtain ⟨q, _, rfl⟩ := List.mem_map.1 hp
    rw [List.length_take]; omega
  have hPw : ∀ p ∈ (ps.take 8).map (fun x => x.take 40), Wb p := fun p hp => by
    obtain ⟨q, hq, rfl⟩ := List.mem_map.1 hp
    exact fun z hz => hT.w q (List.mem_of_mem_take hq) z (List.mem_of_mem_take hz)
  have hPl : ((ps.take 8).map (fun x => x.take 40)).length ≤ 8 := by simp; omega
  generalize (ps.take 8).map (fun x => x.take 40) = P at *
  generalize fs.take 8 = F at *
  have o1 := hT.p.one
  have o2 := hT.f.one
  have o3 := hr1.one
  have o4 := hr2.one
  have p1 := hT.p.pure
  have p2 := hT.f.pure
  have hw1 := wrapS hi hn
  have f1 := Fr.push J (.cells 0 [fr, fa] false) []
  have B1 := hB.fr f1
  have f2 := Fr.push (J.push (.cells 0 [fr, fa] false)) (.cells 0 [fr', fa'] false) []
  have B2 := B1.fr f2
  have hd := push_get (J.push (.cells 0 [fr, fa] false)) (.cells 0 [fr', fa'] false)
  have hdl : ∀ c ∈ 0 :: blk s, c ≠ (J.push (.cells 0 [fr, fa] false)).size := fun c hc e => by
    rcases List.mem_cons.1 hc with rfl | hc
    · have := lt_get B1.w.1; omega
    · have := B1.w.lo c hc; omega
  unfold l_law18_WirePlays_k0
  simp -implicitDefEqProofs only [go_sem, dnW_ite, reduceIte, Nat.reduceAdd, Nat.reduceLeDiff, Nat.reduceMul, Nat.reduceEqDiff, Int.reduceLT, Int.reduceLE, Int.reduceToNat, Nat.reduceSub, Nat.reduceLT, Int.reduceEq, BitVec.reduceOfInt, BitVec.reduceOfNat, Int.reduceGT, Int.reduceGE, Int.reduceBEq, Int.reduceBNe, Nat.reduceGT, Nat.reduceBEq, Nat.reduceBNe, Int.reduceAdd, Int.reduceSub, Int.reduceNeg, show ((i : Int) < (n : Int)) by omega, hat, show ¬ ((i : Int) ≥ 20) by omega, ↓o1, ↓o2, ↓o3, ↓o4, dcp hfew (by simp [ipureL, ipure, p1, p2])]
  have hps := push_set (J.push (.cells 0 [fr, fa] false)) (.cells 0 [.sc (.slice none 0 0), .sc (.slice none 0 0)] false) (.cells 0 [fr', fa'] false)
  rw [Array.size_push] at hps hd hdl
  rw [hps]
  generalize (J.push (.cells 0 [fr, fa] false)).push (.cells 0 [fr', fa'] false) = J3 at *
  generalize J.size + 1 = dB at *
  have hpl := putF_len F P 0
  have hpr := putF_rng F P
  have hpz := putF_lens F P 0 hP
  have hsl : (seeE i X).length ≤ X.length := by rw [see_len]; exact List.length_filter_le _ _
  refine WP_call (Put_ok 0 s fa' fr' P F (seeE i X) J3 B2.w hr1 hr2 (fun p hp => by have := hP p hp; omega) (by omega) (by omega)) fun v J4 hv => ?_
  obtain ⟨s1, w1, u1⟩ := hv
  have B3 := B2.uw w1 u1
  have hd4 : J4[dB]? = some (.cells 0 [fr', fa'] false) := by rw [u1.1.2 dB (lt_get hd) (fun hm => hdl _ hm rfl)]; exact hd
  simp -implicitDefEqProofs only [go_sem, dnW_ite, reduceIte, Nat.reduceAdd, Nat.reduceLeDiff, Nat.reduceMul, Nat.reduceEqDiff, Int.reduceLT, Int.reduceLE, Int.reduceToNat, Nat.reduceSub, Nat.reduceLT, Int.reduceEq, BitVec.reduceOfInt, BitVec.reduceOfNat, Int.reduceGT, Int.reduceGE, Int.reduceBEq, Int.reduceBNe, Nat.reduceGT, Nat.reduceBEq, Nat.reduceBNe, Int.reduceAdd, Int.reduceSub, Int.reduceNeg, hd4]
  refine WP_call (rPut_ok 1 s2 la fr' P F X i J4 B3.r hr1 hr3 (fun p hp => by have := hP p hp; omega) hPw (by omega) (by omega) (by omega)) fun v J5 hv => ?_
  obtain ⟨s3, r1, u2⟩ := hv
  have B4 := B3.ur r1 u2
  rw [← see_put i X _ (fun e he => (hpr e he).1)] at B4
  have hXl : (X ++ (putF F 0 P).map (shE i)).length ≤ 16 * (i + 1) := by rw [List.length_append, List.length_map]; omega
  have hXb' : ∀ e ∈ X ++ (putF F 0 P).map (shE i), e.2 ≤ (i : Int) + 2 ∧ e.1.length ≤ 40 := fun e he => by
    rcases List.mem_append.1 he with he | he
    · exact hXb e he
    · obtain ⟨y, hy, rfl⟩ := List.mem_map.1 he
      have := hpr y hy
      exact ⟨by show y.2 + i ≤ _; omega, hpz y hy⟩
  generalize X ++ (putF F 0 P).map (shE i) = X2 at *
  have hwt : ∀ (s : IV) (E : List (List Int × Int)) (J : JH), WireAt J 0 s E → RP (ic BI F_wire_Wire_Waiting [.ptr 0 0 0] J) fun v J' => v = nI E.length ∧ J' = J := fun s E J h => by rw [Waiting_ok 0 s E J h]; exact ⟨rfl, rfl⟩
  have hwl : ∀ now, (waitE X2 now).length ≤ X2.length := fun now => List.length_filter_le _ _
  simp -implicitDefEqProofs only [go_sem, dnW_ite, reduceIte, Nat.reduceAdd, Nat.reduceLeDiff, Nat.reduceMul, Nat.reduceEqDiff, Int.reduceLT, Int.reduceLE, Int.reduceToNat, Nat.reduceSub, Nat.reduceLT, Int.reduceEq, BitVec.reduceOfInt, BitVec.reduceOfNat, Int.reduceGT, Int.reduceGE, Int.reduceBEq, Int.reduceBNe, Nat.reduceGT, Nat.reduceBEq, Nat.reduceBNe, Int.reduceAdd, Int.reduceSub, Int.reduceNeg]
  refine WP_call (hwt _ _ _ B4.w) fun v J6 hv => ?_
  obtain ⟨rfl, rfl⟩ := hv
  simp -implicitDefEqProofs only [go_sem, dnW_ite, reduceIte, Nat.reduceAdd, Nat.reduceLeDiff, Nat.reduceMul, Nat.reduceEqDiff, Int.reduceLT, Int.reduceLE, Int.reduceToNat, Nat.reduceSub, Nat.reduceLT, Int.reduceEq, BitVec.reduceOfInt, BitVec.reduceOfNat, Int.reduceGT, Int.reduceGE, Int.reduceBEq, Int.reduceBNe, Nat.reduceGT, Nat.reduceBEq, Nat.reduceBNe, Int.reduceAdd, Int.reduceSub, Int.reduceNeg]
  refine WP_call (rWaiting_ok 1 s3 X2 i J6 B4.r (by omega)) fun v J7 hv => ?_
  obtain ⟨rfl, f7⟩ := hv
  have B5 := B4.fr f7
  rw [see_len]
  simp -implicitDefEqProofs only [go_sem, dnW_ite, reduceIte, Nat.reduceAdd, Nat.reduceLeDiff, Nat.reduceMul, Nat.reduceEqDiff, Int.reduceLT, Int.reduceLE, Int.reduceToNat, Nat.reduceSub, Nat.reduceLT, Int.reduceEq, BitVec.reduceOfInt, BitVec.reduceOfNat, Int.reduceGT, Int.reduceGE, Int.reduceBEq, Int.reduceBNe, Nat.reduceGT, Nat.reduceBEq, Nat.reduceBNe, Int.reduceAdd, Int.reduceSub, Int.reduceNeg, bne_self_eq_false]
  refine WP_call (Take_ok 0 s1 _ J7 B5.w (see_small i X2 (fun e he => by have := (hXb' e he).1; omega)) (by rw [see_len]; have := hwl i; omega)) fun out J8 hv => ?_
  obtain ⟨s4, xs, w4, g4, b4, u4, _, n4⟩ := hv
  have B6 := B5.uw w4 u4
  rw [see_take] at B6
  simp -implicitDefEqProofs only [go_sem, dnW_ite, reduceIte, Nat.reduceAdd, Nat.reduceLeDiff, Nat.reduceMul, Nat.reduceEqDiff, Int.reduceLT, Int.reduceLE, Int.reduceToNat, Nat.reduceSub, Nat.reduceLT, Int.reduceEq, BitVec.reduceOfInt, BitVec.reduceOfNat, Int.reduceGT, Int.reduceGE, Int.reduceBEq, Int.reduceBNe, Nat.reduceGT, Nat.reduceBEq, Nat.reduceBNe, Int.reduceAdd, Int.reduceSub, Int.reduceNeg]
  refine WP_call (rTake_ok 1 s3 X2 i J8 B6.r (by omega) (by omega)) fun out2 J9 hv => ?_
  obtain ⟨ys, r9, g9, b9, f9, n9⟩ := hv
  have l1 := lt_get B5.r.1
  have g4' : Grow J9 out 1 xs := g4.fr f9 (fun c hc hm => by simp at hm; have := n4 c hc; omega)
  have B7 : Both J9 s4 (seeE (i + 1) X2) s3 X2 (i + 1) := B6.ur r9 ⟨⟨f9.1, fun d hd hm => f9.2 d hd (fun h => hm (by simp at h; simp [h]))⟩, fun c hc => .inl hc⟩
  obtain ⟨u, hu, hul⟩ := g4'.frzE1 b4.pure b4.one
  obtain ⟨u2', hu2, hul2⟩ := g9.frzE1 b9.pure b9.one
  have hS := bSameL_ok (b4.lsr hul) (b9.lsr hul2) (by
    rw [see_now, dueE, List.length_map]
    have := List.length_filter_le (fun e : List Int × Int => decide (e.2 = (i : Int))) X2
    omega) (fun a ha => by
    rw [see_now] at ha
    obtain ⟨e, he, rfl⟩ := List.mem_map.1 ha
    have := (hXb' e (List.mem_filter.1 he).1).2
    omega)
  rw [see_now, decide_eq_true rfl] at hS
  have hm : [out, out2].mapM (frz J9 DEP) = some [u, u2'] := by
    simp only [List.mapM_cons, List.mapM_nil, show frz J9 DEP out = some u from hu 11, show frz J9 DEP out2 = some u2' from hu2 11]; rfl
  simp -implicitDefEqProofs only [go_sem, dnW_ite, reduceIte, Nat.reduceAdd, Nat.reduceLeDiff, Nat.reduceMul, Nat.reduceEqDiff, Int.reduceLT, Int.reduceLE, Int.reduceToNat, Nat.reduceSub, Nat.reduceLT, Int.reduceEq, BitVec.reduceOfInt, BitVec.reduceOfNat, Int.reduceGT, Int.reduceGE, Int.reduceBEq, Int.reduceBNe, Nat.reduceGT, Nat.reduceBEq, Nat.reduceBNe, Int.reduceAdd, Int.reduceSub, Int.reduceNeg]
  refine WP_callS hm hS rfl ?_
  simp -implicitDefEqProofs only [go_sem, dnW_ite, reduceIte, Nat.reduceAdd, Nat.reduceLeDiff, Nat.reduceMul, Nat.reduceEqDiff, Int.reduceLT, Int.reduceLE, Int.reduceToNat, Nat.reduceSub, Nat.reduceLT, Int.reduceEq, BitVec.reduceOfInt, BitVec.reduceOfNat, Int.reduceGT, Int.reduceGE, Int.reduceBEq, Int.reduceBNe, Nat.reduceGT, Nat.reduceBEq, Nat.reduceBNe, Int.reduceAdd, Int.reduceSub, Int.reduceNeg]
  refine WP_call (hwt _ _ _ B7.w) fun v J10 hv => ?_
  obtain ⟨rfl, rfl⟩ := hv
  simp -implicitDefEqProofs only [go_sem, dnW_ite, reduceIte, Nat.reduceAdd, Nat.reduceLeDiff, Nat.reduceMul, Nat.reduceEqDiff, Int.reduceLT, Int.reduceLE, Int.reduceToNat, Nat.reduceSub, Nat.reduceLT, Int.reduceEq, BitVec.reduceOfInt, BitVec.reduceOfNat, Int.reduceGT, Int.reduceGE, Int.reduceBEq, Int.reduceBNe, Nat.reduceGT, Nat.reduceBEq, Nat.reduceBNe, Int.reduceAdd, Int.reduceSub, Int.reduceNeg]
  refine WP_call (rWaiting_ok 1 s3 X2 (i + 1) J10 B7.r (by omega)) fun v J11 hv => ?_
  obtain ⟨rfl, f11⟩ := hv
  rw [see_len]
  simp -implicitDefEqProofs only [go_sem, dnW_ite, reduceIte, Nat.reduceAdd, Nat.reduceLeDiff, Nat.reduceMul, Nat.reduceEqDiff, Int.reduceLT, Int.reduceLE, Int.reduceToNat, Nat.reduceSub, Nat.reduceLT, Int.reduceEq, BitVec.reduceOfInt, BitVec.reduceOfNat, Int.reduceGT, Int.reduceGE, Int.reduceBEq, Int.reduceBNe, Nat.reduceGT, Nat.reduceBEq, Nat.reduceBNe, Int.reduceAdd, Int.reduceSub, Int.reduceNeg, bne_self_eq_false, hw1]
  exact hK _ _ _ _ (B7.fr f11) hXl (fun e he => ⟨by have := (hXb' e he).1; omega, (hXb' e he).2⟩)
end Go.Proofs.Ytohclaopcejjnaa.G
namespace Go.Proofs.Ytohclaopcejjnaa.G
open Go
set_option linter.unusedSimpArgs false
set_option linter.unusedVariables false
set_option maxHeartbeats 2000000
set_option maxRecDepth 20000
def TR (e : IV) (t : List (List Int) × List FaultT) : Prop := ∃ fr fa, e = .agg [fr, fa] ∧ TurnR fr fa t.1 t.2
theorem WPlays_ok {x : IV} {ts : List (List (List Int) × List FaultT)} (hx : LsR 2 TR x ts) (hn : ts.length ≤ 9223372036854775807) : pc BI F_law18_WirePlays [x] = some (.bool true) := by
  refine pcE fn_law18_WirePlays rfl fun K hK => ?_
  unfold l_law18_WirePlays
  simp -implicitDefEqProofs only [go_sem, dnW_ite, reduceIte, Nat.reduceAdd, Nat.reduceLeDiff, Nat.reduceMul, Nat.reduceEqDiff, Int.reduceLT, Int.reduceLE, Int.reduceToNat, Nat.reduceSub, Nat.reduceLT, Int.reduceEq, BitVec.reduceOfInt, BitVec.reduceOfNat, Int.reduceGT, Int.reduceGE, Int.reduceBEq, Int.reduceBNe, Nat.reduceGT, Nat.reduceBEq, Nat.reduceBNe, Int.reduceAdd, Int.reduceSub, Int.reduceNeg, dcp awake18 rfl, hx.lenF, dn_loop]
  have B0 : Both #[IB.cells 0 [.sc (.slice none 0 0)] false, IB.cells 0 [.sc (.slice none 0 0), nI 0] false] (.sc (.slice none 0 0)) (seeE 0 []) (.sc (.slice none 0 0)) [] 0 :=
    ⟨⟨rfl, by simp [blk, blkOf], [], .nil, trivial⟩, ⟨rfl, by simp [blk, blkOf], [], .nil, trivial⟩, by simp [blk, blkOf], by simp [blk, blkOf], by simp [blk, blkOf]⟩
  refine WP_range (by decide) (min ts.length 20) (fun i vs J => vs = [.ptr 0 0 0, .ptr 1 0 0, x, nI ts.length, nI i] ∧ ∃ s s2 X, Both J s (seeE i X) s2 X i ∧ X.length ≤ 16 * i ∧ ∀ e ∈ X, e.2 ≤ (i : Int) + 2 ∧ e.1.length ≤ 40) ?_ ⟨rfl, _, _, [], B0, by simp, by simp⟩
  rintro i vs J ⟨rfl, s, s2, X, hB, hX, hXb⟩ hi K1 g1 g2 g3
  have fin : ∀ J, K1 (.goto 0 []) J := fun J => g2 _ _ (by
    unfold l_law18_WirePlays_k1
    simp -implicitDefEqProofs only [go_sem, dnW_ite, reduceIte, Nat.reduceAdd, Nat.reduceLeDiff, Nat.reduceMul, Nat.reduceEqDiff, Int.reduceLT, Int.reduceLE, Int.reduceToNat, Nat.reduceSub, Nat.reduceLT, Int.reduceEq, BitVec.reduceOfInt, BitVec.reduceOfNat, Int.reduceGT, Int.reduceGE, Int.reduceBEq, Int.reduceBNe, Nat.reduceGT, Nat.reduceBEq, Nat.reduceBNe, Int.reduceAdd, Int.reduceSub, Int.reduceNeg]
    exact hK _ _ (frzE rfl rfl))
  by_cases h : i < ts.length
  · obtain ⟨e, ⟨fr, fa, rfl, hT⟩, hat⟩ := hx.at h
    by_cases h20 : i < 20
    · exact plays_round x fr fa _ _ hT ts.length i h h20 hn J ⟨_, hat, rfl⟩ s s2 X hB hX hXb K1 fun J' s' s2' X' hB' hX' hXb' => g1 (by omega) _ _ ⟨rfl, s', s2', X', hB', hX', hXb'⟩
    · have o1 := hT.p.one
      have o2 := hT.f.one
      unfold l_law18_WirePlays_k0
      simp -implicitDefEqProofs only [go_sem, dnW_ite, reduceIte, Nat.reduceAdd, Nat.reduceLeDiff, Nat.reduceMul, Nat.reduceEqDiff, Int.reduceLT, Int.reduceLE, Int.reduceToNat, Nat.reduceSub, Nat.reduceLT, Int.reduceEq, BitVec.reduceOfInt, BitVec.reduceOfNat, Int.reduceGT, Int.reduceGE, Int.reduceBEq, Int.reduceBNe, Nat.reduceGT, Nat.reduceBEq, Nat.reduceBNe, Int.reduceAdd, Int.reduceSub, Int.reduceNeg, show ((i : Int) < (ts.length : Int)) by omega, hat, ↓o1, ↓o2, show ((i : Int) ≥ 20) by omega]
      exact fin _
  · unfold l_law18_WirePlays_k0
    simp -implicitDefEqProofs only [go_sem, dnW_ite, reduceIte, Nat.reduceAdd, Nat.reduceLeDiff, Nat.reduceMul, Nat.reduceEqDiff, Int.reduceLT, Int.reduceLE, Int.reduceToNat, Nat.reduceSub, Nat.reduceLT, Int.reduceEq, BitVec.reduceOfInt, BitVec.reduceOfNat, Int.reduceGT, Int.reduceGE, Int.reduceBEq, Int.reduceBNe, Nat.reduceGT, Nat.reduceBEq, Nat.reduceBNe, Int.reduceAdd, Int.reduceSub, Int.reduceNeg, show ¬ ((i : Int) < (ts.length : Int)) by omega]
    exact fin _
theorem dec_turns {P : Program} {d : Nat} {t e a b u v w y z q : TypeId} {fs gs : Array Field} (ht : P.underlying t = some (.slice e)) (he : P.underlying e = some (.struct fs)) (hf : fs.toList.map (·.type) = [a, b]) (hce : P.cellsOf e = 2)
    (ha : P.underlying a = some (.slice u)) (hu : P.underlying u = some (.slice v)) (hv : P.underlying v = some (.int .u8)) (hcu : P.cellsOf u = 1) (hcv : P.cellsOf v = 1)
    (hb : P.underlying b = some (.slice w)) (hw : P.underlying w = some (.struct gs)) (hg : gs.toList.map (·.type) = [y, z, q]) (hy : P.underlying y = some (.int .u8)) (hz : P.underlying z = some (.int .u16)) (hq : P.underlying q = some (.int .u32)) (hcw : P.cellsOf w = 3)
    {cs : List IV} (h : WT P (d + 5) t cs) : ∃ x ts, cs = [x] ∧ LsR 2 TR x ts ∧ ts.length ≤ maxLen := by
  obtain ⟨x, ts, rfl, hx, hl⟩ := dec_list (R := TR) ht (fun cs hl hw' => by
    obtain ⟨m, n, rfl, hm, hn⟩ := dec_two he hf hw'
    obtain ⟨fr, ps, rfl, k1, k2⟩ := dec_frames ha hu hv hcu hcv hm
    obtain ⟨fa, fl, rfl, k3, k4⟩ := dec_faults hb hw hg hy hz hq hcw hn
    refine ⟨(ps, fl), fr, fa, by rw [hce]; rfl, k1.imp fun _ _ h => h.1, k3, Nat.le_trans k2 (by decide), Nat.le_trans k4 (by decide), fun p hp => ?_, fun p hp => ?_⟩
    · obtain ⟨_, h⟩ := k1.all p hp; exact Nat.le_trans h.2.1 (by decide)
    · obtain ⟨_, h⟩ := k1.all p hp
      exact fun z hz => wf_u8 (h.2.2 z hz)) h
  rw [hce] at hx
  exact ⟨x, ts, rfl, hx, hl⟩
end Go.Proofs.Ytohclaopcejjnaa.G
