/- Steps of the plain heap and the machine's memory side by side: a new block, cells that are written, an append in place. -/
import Derived.Test.YtohclaopcejjnaaG3
namespace Go.Proofs.Ytohclaopcejjnaa.G
open Go

/-! ### memory, cells set one by one -/
theorem setCells_block (g : Nat) : ∀ (vs : List Value) (o : Nat) (w : World) (C : Array Value) (t : TypeId) (fr : Nat × Nat), w.heap[g]? = some (.cells C t fr) →
    ∃ C', (w.setCells g o vs).heap[g]? = some (.cells C' t fr) ∧ C'.size = C.size
  | [], _, _, C, _, _, h => ⟨C, h, rfl⟩
  | v :: r, o, w, C, t, fr, h => by
    have h1 : (w.setCell ⟨g, o, none⟩ v).heap[g]? = some (.cells (C.setIfInBounds o v) t fr) := by
      simp [World.setCell, Array.getElem?_modify, h]
    obtain ⟨C', h2, h3⟩ := setCells_block g r (o + 1) (w.setCell ⟨g, o, none⟩ v) _ t fr h1
    exact ⟨C', h2, by rw [h3]; simp⟩
theorem setCells_other (g : Nat) : ∀ (vs : List Value) (o : Nat) (w : World) (k : Nat), k ≠ g → (w.setCells g o vs).heap[k]? = w.heap[k]?
  | [], _, _, _, _ => rfl
  | v :: r, o, w, k, h => by
    rw [World.setCells, setCells_other g r (o + 1) _ k h]
    simp only [World.setCell, Array.getElem?_modify]
    rw [if_neg (by omega)]
theorem setCells_meta (g : Nat) : ∀ (vs : List Value) (o : Nat) (w : World), (w.setCells g o vs).heap.size = w.heap.size ∧ (w.setCells g o vs).os = w.os ∧ (w.setCells g o vs).tape = w.tape ∧ (w.setCells g o vs).output = w.output
  | [], _, _ => ⟨rfl, rfl, rfl, rfl⟩
  | v :: r, o, w => by
    obtain ⟨a, b, c, d⟩ := setCells_meta g r (o + 1) (w.setCell ⟨g, o, none⟩ v)
    exact ⟨by rw [World.setCells, a]; simp [World.setCell], b, c, d⟩
theorem cell_other {w w' : World} {a : Addr} (h : w'.heap[a.block]? = w.heap[a.block]?) : w'.cell? a = w.cell? a := by simp [World.cell?, h]

section
variable {ι : Inj} {H : Heap} {w : World}

theorem Rel.lt (h : Rel ι H w) {b : Nat} {l : Loc} (hb : ι b = some l) : b < H.size := h.dom b l hb

/-- Beside a block of one's own nothing else alive lies in the same memory. -/
theorem Rel.alone (h : Rel ι H w) {b c : Nat} {l m : Loc} (hb : ι b = some l) (ho : own H b) (hc : ι c = some m) (hne : c ≠ b) (hd : H[c]? ≠ some .dead) : m.blk ≠ l.blk :=
  fun e => hd (h.inj b c l m hb hc e.symm (Ne.symm hne) ho)

theorem ER.mono {ι ι' : Inj} (hl : Le ι ι') : ∀ {a : List Ent} {b : List MapEntry}, ER ι a b → ER ι' a b
  | [], [], _ => by simp [ER]
  | [], _ :: _, h => by simp [ER] at h
  | _ :: _, [], h => by simp [ER] at h
  | a :: x, b :: y, h => by
    simp only [ER] at h ⊢
    exact ⟨h.1, h.2.1, h.2.2.1.mono hl, h.2.2.2.1, ER.mono hl h.2.2.2.2⟩

/-! ### a new block -/
def ext (ι : Inj) (b : Nat) (l : Loc) : Inj := fun c => if c = b then some l else ι c

theorem ext_le (h : Rel ι H w) (l : Loc) : Le ι (ext ι H.size l) := by
  intro b m hb
  have := h.dom b m hb
  simp only [ext]
  rw [if_neg (by omega)]
  exact hb

theorem Stp.fresh (h : Rel ι H w) (l : Loc) (o : Blk) (O : Obj) (hl : l.blk = w.heap.size)
    (hcells : ∀ cs ro, o = .cells cs ro → ro = false ∧ l.δ = 0 ∧ ∃ C t, O = .cells C t (0, 0) ∧ C.size = l.tot ∧ cs.length ≤ C.size ∧ ∀ (i : Nat) v, cs[i]? = some v → one v = true ∧ ∃ c, C[i]? = some c ∧ VR (ext ι H.size l) v c)
    (hmap : ∀ es k, o = .map es k → ∃ es', O = .map es' k ∧ ER (ext ι H.size l) es es'.toList) :
    Stp ι H w (ext ι H.size l) (H.push o) (w.alloc O) := by
  have hle := ext_le h l
  have hsz : (w.alloc O).heap.size = w.heap.size + 1 := by show (w.heap.push O).size = _; simp
  have hnew : (w.alloc O).heap[w.heap.size]? = some O := heap_alloc_new w O
  have hold : ∀ k, k < w.heap.size → (w.alloc O).heap[k]? = w.heap[k]? := fun k hk => heap_alloc_old w O k hk
  have hcase : ∀ b m, ext ι H.size l b = some m → (b = H.size ∧ m = l) ∨ (b ≠ H.size ∧ ι b = some m ∧ b < H.size ∧ m.blk < w.heap.size) := by
    intro b m hb
    simp only [ext] at hb
    split at hb
    · rename_i e; exact .inl ⟨e, by simpa using hb.symm⟩
    · rename_i e; exact .inr ⟨e, hb, h.dom b m hb, h.bound b m hb⟩
  have hpo : ∀ b, b < H.size → (H.push o)[b]? = H[b]? := fun b hb => by rw [Array.getElem?_push, if_neg (by omega)]
  have hpn : (H.push o)[H.size]? = some o := by simp
  refine ⟨⟨?_, ?_, ?_, ?_, ?_, ?_⟩, hle, ?_, by simp, by omega, ?_, ?_, ?_, rfl, rfl, rfl⟩
  · intro b m hb
    rcases hcase b m hb with ⟨rfl, rfl⟩ | ⟨_, _, hlt, _⟩ <;> simp; omega
  · intro b m hb
    rcases hcase b m hb with ⟨rfl, rfl⟩ | ⟨_, _, _, hlt⟩ <;> omega
  · intro b m cs ro hb hH
    rcases hcase b m hb with ⟨rfl, rfl⟩ | ⟨_, hb', hlt, hblt⟩
    · rw [hpn] at hH
      obtain ⟨_, h2, C, t, rfl, _, _, h4⟩ := hcells cs ro (by simpa using hH)
      intro i v hv
      obtain ⟨h5, c, h6, h7⟩ := h4 i v hv
      exact ⟨h5, c, by rw [hl, h2, Nat.zero_add, cell_of_row _ _ _ _ _ _ hnew]; exact h6, h7⟩
    · rw [hpo b hlt] at hH
      have h2 := h.cells b m cs ro hb' hH
      intro i v hv
      obtain ⟨h3, c, h4, h5⟩ := h2 i v hv
      exact ⟨h3, c, by rw [cell_other (hold _ hblt)]; exact h4, h5.mono hle⟩
  · intro b m cs hb hH
    rcases hcase b m hb with ⟨rfl, rfl⟩ | ⟨_, hb', hlt, hblt⟩
    · rw [hpn] at hH
      obtain ⟨_, h2, C, t, rfl, h3, h4, _⟩ := hcells cs false (by simpa using hH)
      exact ⟨C, t, (0, 0), by rw [hl]; exact hnew, h3, by omega, fun i _ => by simp⟩
    · rw [hpo b hlt] at hH
      obtain ⟨C, t, fr, h1, h2⟩ := h.rw b m cs hb' hH
      exact ⟨C, t, fr, by rw [hold _ hblt]; exact h1, h2⟩
  · intro b m es k hb hH
    rcases hcase b m hb with ⟨rfl, rfl⟩ | ⟨_, hb', hlt, hblt⟩
    · rw [hpn] at hH
      obtain ⟨es', rfl, h2⟩ := hmap es k (by simpa using hH)
      exact ⟨es', by rw [hl]; exact hnew, h2⟩
    · rw [hpo b hlt] at hH
      obtain ⟨es', h1, h2⟩ := h.maps b m es k hb' hH
      exact ⟨es', by rw [hold _ hblt]; exact h1, h2.mono hle⟩
  · intro b c m n hb hc he hne ho
    rcases hcase b m hb with ⟨rfl, rfl⟩ | ⟨hb0, hb', hblt, hbb⟩ <;> rcases hcase c n hc with ⟨rfl, rfl⟩ | ⟨hc0, hc', hclt, hcb⟩
    · exact absurd rfl hne
    · omega
    · omega
    · have ho' : own H b := by
        unfold own at ho ⊢
        rwa [hpo b hblt] at ho
      rw [hpo c hclt]
      exact h.inj b c m n hb' hc' he hne ho'
  · intro b hb
    simp only [ext]
    rw [if_neg (by omega)]
  · intro b hb _
    exact hpo b hb
  · intro k hk _
    exact hold k hk
  · intro b m hb ho
    rcases hcase b m hb with ⟨rfl, rfl⟩ | ⟨_, hb', hlt, _⟩
    · exact .inl (by omega)
    · refine .inr ⟨b, m, hb', ?_, rfl⟩
      unfold own at ho ⊢
      rwa [hpo b hlt] at ho

theorem Stp.allocCells (h : Rel ι H w) (cs : List Value) (C : Array Value) (t : TypeId) (h1 : cs.all one = true) (hl : cs.length ≤ C.size)
    (hC : ∀ (i : Nat) v, cs[i]? = some v → ∃ c, C[i]? = some c ∧ VR ι v c) :
    Stp ι H w (ext ι H.size ⟨w.heap.size, 0, C.size⟩) (H.push (.cells cs false)) (w.alloc (.cells C t)) := by
  refine Stp.fresh h _ _ _ rfl ?_ (by simp)
  intro cs' ro he
  simp only [Blk.cells.injEq] at he
  obtain ⟨rfl, rfl⟩ := he
  refine ⟨rfl, rfl, C, t, rfl, rfl, hl, fun i v hv => ⟨?_, ?_⟩⟩
  · exact List.all_eq_true.1 h1 v (List.mem_of_getElem? hv)
  · obtain ⟨c, h2, h3⟩ := hC i v hv
    exact ⟨c, h2, h3.mono (ext_le h _)⟩

theorem ext_new (b : Nat) (l : Loc) : ext ι b l b = some l := by simp [ext]

/-! ### cells are written -/
theorem splice_length (cs : List Value) (off : Nat) (vs : List Value) (h : off + vs.length ≤ cs.length) : (splice cs off vs).length = cs.length := by
  simp [splice]; omega
theorem splice_get (cs : List Value) (off : Nat) (vs : List Value) (h : off + vs.length ≤ cs.length) (i : Nat) :
    (splice cs off vs)[i]? = if i < off then cs[i]? else if i < off + vs.length then vs[i - off]? else cs[i]? := by
  simp only [splice, List.append_assoc]
  rw [List.getElem?_append]
  have h1 : (cs.take off).length = off := by simp; omega
  rw [h1]
  split
  · rw [List.getElem?_take, if_pos (by assumption)]
  · rw [List.getElem?_append]
    split
    · rw [if_pos (by omega)]
    · rw [if_neg (by omega), List.getElem?_drop]
      congr 1
      omega

theorem own_set {b c : Nat} {cs cs' : List Value} (hb : H[b]? = some (.cells cs false)) (ho : own (H.setIfInBounds b (.cells cs' false)) c) : own H c := by
  have hlt : b < H.size := (Array.getElem?_eq_some_iff.1 hb).1
  by_cases hbc : c = b
  · subst hbc; exact .inl ⟨cs, hb⟩
  · unfold own at ho ⊢
    rwa [Array.getElem?_setIfInBounds_ne (Ne.symm hbc)] at ho

theorem Stp.write (h : Rel ι H w) {b : Nat} {l : Loc} {cs : List Value} (hb : ι b = some l) (hH : H[b]? = some (.cells cs false)) (off : Nat) (vs us : List Value)
    (hfit : off + vs.length ≤ cs.length) (h1 : vs.all one = true) (hr : VRL ι vs us) :
    Stp ι H w ι (H.setIfInBounds b (.cells (splice cs off vs) false)) (w.setCells l.blk (l.δ + off) us) := by
  have hlt : b < H.size := h.dom b l hb
  have hlen := hr.length
  obtain ⟨C, t, fr, hC, hCs, hCl, hfr⟩ := h.rw b l cs hb hH
  obtain ⟨C', hC', hCs'⟩ := setCells_block l.blk us (l.δ + off) w C t fr hC
  obtain ⟨m1, m2, m3, m4⟩ := setCells_meta l.blk us (l.δ + off) w
  have hown : own H b := .inl ⟨cs, hH⟩
  have hoth : ∀ k, k ≠ l.blk → (w.setCells l.blk (l.δ + off) us).heap[k]? = w.heap[k]? := fun k hk => setCells_other _ _ _ _ _ hk
  have hset : ∀ c, c ≠ b → (H.setIfInBounds b (.cells (splice cs off vs) false))[c]? = H[c]? := fun c hc => Array.getElem?_setIfInBounds_ne (Ne.symm hc)
  have hself : (H.setIfInBounds b (.cells (splice cs off vs) false))[b]? = some (.cells (splice cs off vs) false) := by simp [hlt]
  refine ⟨⟨?_, ?_, ?_, ?_, ?_, ?_⟩, .refl ι, fun _ _ => rfl, by simp, by omega, ?_, ?_, ?_, m2, m3, m4⟩
  · intro c m hc; simpa using h.dom c m hc
  · intro c m hc; rw [m1]; exact h.bound c m hc
  · intro c m cs2 ro hc hH2
    by_cases hcb : c = b
    · subst hcb
      rw [hself] at hH2
      simp only [Option.some.injEq, Blk.cells.injEq] at hH2
      obtain ⟨rfl, rfl⟩ := hH2
      rw [hb] at hc
      cases hc
      have g2 := h.cells c l cs false hb hH
      intro i v hv
      rw [splice_get cs off vs hfit] at hv
      have hcells : ∀ j, j < us.length → (w.cell? ⟨l.blk, l.δ + off + j, none⟩).isSome = true := fun j hj => by
        simp [World.cell?, hC]; omega
      split at hv
      · rename_i hi
        obtain ⟨g3, u, g4, g5⟩ := g2 i v hv
        exact ⟨g3, u, by rw [World.cell?_setCells_out l.blk us (l.δ + off) w _ (fun _ _ => .inl (by simp; omega))]; exact g4, g5⟩
      · split at hv
        · rename_i hi1 hi2
          obtain ⟨u, hu, hvu⟩ := hr.get hv
          refine ⟨List.all_eq_true.1 h1 v (List.mem_of_getElem? hv), u, ?_, hvu⟩
          have := World.cell?_setCells_in l.blk us (l.δ + off) w hcells (i - off) (by omega)
          rw [show l.δ + i = l.δ + off + (i - off) by omega, this]
          rw [← hu]
          simp [show i - off < us.length by omega]
        · rename_i hi1 hi2
          obtain ⟨g3, u, g4, g5⟩ := g2 i v hv
          exact ⟨g3, u, by rw [World.cell?_setCells_out l.blk us (l.δ + off) w _ (fun _ _ => .inr (by simp; omega))]; exact g4, g5⟩
    · rw [hset c hcb] at hH2
      have hne : m.blk ≠ l.blk := h.alone hb hown hc hcb (by rw [hH2]; simp)
      have g2 := h.cells c m cs2 ro hc hH2
      exact fun i v hv => let ⟨g3, u, g4, g5⟩ := g2 i v hv; ⟨g3, u, by rw [cell_other (hoth _ hne)]; exact g4, g5⟩
  · intro c m cs2 hc hH2
    by_cases hcb : c = b
    · subst hcb
      rw [hself] at hH2
      simp only [Option.some.injEq, Blk.cells.injEq, and_true] at hH2
      subst hH2
      rw [hb] at hc
      cases hc
      exact ⟨C', t, fr, hC', by omega, by rw [splice_length cs off vs hfit]; exact hCl, fun i hi => hfr i (by omega)⟩
    · rw [hset c hcb] at hH2
      have hne : m.blk ≠ l.blk := h.alone hb hown hc hcb (by rw [hH2]; simp)
      obtain ⟨D, t2, fr2, g1, g2⟩ := h.rw c m cs2 hc hH2
      exact ⟨D, t2, fr2, by rw [hoth _ hne]; exact g1, g2⟩
  · intro c m es k hc hH2
    by_cases hcb : c = b
    · subst hcb; rw [hself] at hH2; simp at hH2
    · rw [hset c hcb] at hH2
      have hne : m.blk ≠ l.blk := h.alone hb hown hc hcb (by rw [hH2]; simp)
      obtain ⟨es', g1, g2⟩ := h.maps c m es k hc hH2
      exact ⟨es', by rw [hoth _ hne]; exact g1, g2⟩
  · intro c d m n hc hd he hne ho
    have hdd := h.inj c d m n hc hd he hne (own_set hH ho)
    by_cases hdb : d = b
    · subst hdb; rw [hH] at hdd; simp at hdd
    · rw [hset d hdb]; exact hdd
  · intro c hc hn
    exact hset c (fun e => by subst e; rw [hb] at hn; cases hn)
  · intro k hk hno
    exact hoth k (fun e => hno b l hb e.symm hown)
  · intro c m hc ho
    exact .inr ⟨c, m, hc, own_set hH ho, rfl⟩

/-! ### an append in place: the block is another one from now on -/
theorem Stp.graft (h : Rel ι H w) {b : Nat} {l : Loc} {cs : List Value} (hb : ι b = some l) (hH : H[b]? = some (.cells cs false)) (off k : Nat) (vs us : List Value)
    (hfit : off + k ≤ cs.length) (hroom : l.δ + off + k + vs.length ≤ l.tot) (h1 : vs.all one = true) (hr : VRL ι vs us) :
    Stp ι H w (ext ι H.size ⟨l.blk, l.δ + off, l.tot⟩) ((H.setIfInBounds b .dead).push (.cells ((cs.drop off).take k ++ vs) false)) (w.setCells l.blk (l.δ + off + k) us) := by
  have hlt : b < H.size := h.dom b l hb
  have hlen := hr.length
  obtain ⟨C, t, fr, hC, hCs, hCl, hfr⟩ := h.rw b l cs hb hH
  obtain ⟨C', hC', hCs'⟩ := setCells_block l.blk us (l.δ + off + k) w C t fr hC
  obtain ⟨m1, m2, m3, m4⟩ := setCells_meta l.blk us (l.δ + off + k) w
  have hown : own H b := .inl ⟨cs, hH⟩
  have hle := ext_le h ⟨l.blk, l.δ + off, l.tot⟩
  have hoth : ∀ j, j ≠ l.blk → (w.setCells l.blk (l.δ + off + k) us).heap[j]? = w.heap[j]? := fun j hj => setCells_other _ _ _ _ _ hj
  have hcase : ∀ c m, ext ι H.size ⟨l.blk, l.δ + off, l.tot⟩ c = some m → (c = H.size ∧ m = ⟨l.blk, l.δ + off, l.tot⟩) ∨ (c ≠ H.size ∧ ι c = some m ∧ c < H.size) := by
    intro c m hc
    simp only [ext] at hc
    split at hc
    · rename_i e; exact .inl ⟨e, by simpa using hc.symm⟩
    · rename_i e; exact .inr ⟨e, hc, h.dom c m hc⟩
  have hsz : (H.setIfInBounds b .dead).size = H.size := by simp
  have hnew : ((H.setIfInBounds b .dead).push (.cells ((cs.drop off).take k ++ vs) false))[H.size]? = some (.cells ((cs.drop off).take k ++ vs) false) := by
    rw [Array.getElem?_push, hsz, if_pos rfl]
  have hold : ∀ c, c < H.size → c ≠ b → ((H.setIfInBounds b .dead).push (.cells ((cs.drop off).take k ++ vs) false))[c]? = H[c]? := fun c hc hcb => by
    rw [Array.getElem?_push, hsz, if_neg (by omega), Array.getElem?_setIfInBounds_ne (Ne.symm hcb)]
  have hdead : ((H.setIfInBounds b .dead).push (.cells ((cs.drop off).take k ++ vs) false))[b]? = some .dead := by
    rw [Array.getElem?_push, hsz, if_neg (by omega)]
    simp [hlt]
  have hcl : (cs.drop off).take k = ((cs.drop off).take k) := rfl
  have hkl : ((cs.drop off).take k).length = k := by simp; omega
  have g2 := h.cells b l cs false hb hH
  have hcells : ∀ j, j < us.length → (w.cell? ⟨l.blk, l.δ + off + k + j, none⟩).isSome = true := fun j hj => by
    simp [World.cell?, hC]; omega
  refine ⟨⟨?_, ?_, ?_, ?_, ?_, ?_⟩, hle, ?_, by simp, by omega, ?_, ?_, ?_, m2, m3, m4⟩
  · intro c m hc
    rcases hcase c m hc with ⟨rfl, _⟩ | ⟨_, _, hc2⟩ <;> simp; omega
  · intro c m hc
    rw [m1]
    rcases hcase c m hc with ⟨_, rfl⟩ | ⟨_, hc1, _⟩
    · exact h.bound b l hb
    · exact h.bound c m hc1
  · intro c m cs2 ro hc hH2
    rcases hcase c m hc with ⟨rfl, rfl⟩ | ⟨_, hc1, hc2⟩
    · rw [hnew] at hH2
      simp only [Option.some.injEq, Blk.cells.injEq] at hH2
      obtain ⟨rfl, rfl⟩ := hH2
      intro i v hv
      rw [List.getElem?_append, hkl] at hv
      split at hv
      · rename_i hi
        rw [List.getElem?_take, if_pos hi, List.getElem?_drop] at hv
        obtain ⟨g3, u, g4, g5⟩ := g2 (off + i) v hv
        refine ⟨g3, u, ?_, g5.mono hle⟩
        rw [World.cell?_setCells_out l.blk us (l.δ + off + k) w _ (fun _ _ => .inl (by simp; omega))]
        rw [show l.δ + off + i = l.δ + (off + i) by omega]
        exact g4
      · rename_i hi
        obtain ⟨u, hu, hvu⟩ := hr.get hv
        have hil : i - k < us.length := by
          have := (List.getElem?_eq_some_iff.1 hu).1
          exact this
        refine ⟨List.all_eq_true.1 h1 v (List.mem_of_getElem? hv), u, ?_, hvu.mono hle⟩
        have := World.cell?_setCells_in l.blk us (l.δ + off + k) w hcells (i - k) hil
        simp only
        rw [show l.δ + off + i = l.δ + off + k + (i - k) by omega, this, ← hu]
        simp [hil]
    · by_cases hcb : c = b
      · subst hcb; rw [hdead] at hH2; simp at hH2
      · rw [hold c hc2 hcb] at hH2
        have hne : m.blk ≠ l.blk := h.alone hb hown hc1 hcb (by rw [hH2]; simp)
        have g2 := h.cells c m cs2 ro hc1 hH2
        exact fun i v hv => let ⟨g3, u, g4, g5⟩ := g2 i v hv; ⟨g3, u, by rw [cell_other (hoth _ hne)]; exact g4, g5.mono hle⟩
  · intro c m cs2 hc hH2
    rcases hcase c m hc with ⟨rfl, rfl⟩ | ⟨_, hc1, hc2⟩
    · rw [hnew] at hH2
      simp only [Option.some.injEq, Blk.cells.injEq, and_true] at hH2
      subst hH2
      exact ⟨C', t, fr, hC', by simp only; omega, by rw [List.length_append, hkl]; simp only; omega, fun i hi => hfr i (by omega)⟩
    · by_cases hcb : c = b
      · subst hcb; rw [hdead] at hH2; simp at hH2
      · rw [hold c hc2 hcb] at hH2
        have hne : m.blk ≠ l.blk := h.alone hb hown hc1 hcb (by rw [hH2]; simp)
        obtain ⟨D, t2, fr2, g1, g2⟩ := h.rw c m cs2 hc1 hH2
        exact ⟨D, t2, fr2, by rw [hoth _ hne]; exact g1, g2⟩
  · intro c m es j hc hH2
    rcases hcase c m hc with ⟨rfl, rfl⟩ | ⟨_, hc1, hc2⟩
    · rw [hnew] at hH2; simp at hH2
    · by_cases hcb : c = b
      · subst hcb; rw [hdead] at hH2; simp at hH2
      · rw [hold c hc2 hcb] at hH2
        have hne : m.blk ≠ l.blk := h.alone hb hown hc1 hcb (by rw [hH2]; simp)
        obtain ⟨es', g1, g2⟩ := h.maps c m es j hc1 hH2
        exact ⟨es', by rw [hoth _ hne]; exact g1, g2.mono hle⟩
  · intro c d m n hc hd he hne ho
    rcases hcase c m hc with ⟨rfl, rfl⟩ | ⟨hc0, hc1, hc2⟩ <;> rcases hcase d n hd with ⟨rfl, rfl⟩ | ⟨hd0, hd1, hd2⟩
    · exact absurd rfl hne
    · by_cases hdb : d = b
      · subst hdb; exact hdead
      · rw [hold d hd2 hdb]
        exact h.inj b d l n hb hd1 he (Ne.symm hdb) hown
    · -- c lives in the same memory as the new block: it is dead
      exfalso
      by_cases hcb : c = b
      · subst hcb
        unfold own at ho
        rw [hdead] at ho
        simp at ho
      · unfold own at ho
        rw [hold c hc2 hcb] at ho
        have := h.inj b c l m hb hc1 he.symm (Ne.symm hcb) hown
        rw [this] at ho
        simp at ho
    · by_cases hcb : c = b
      · subst hcb
        unfold own at ho
        rw [hdead] at ho
        simp at ho
      · have ho' : own H c := by
          unfold own at ho ⊢
          rwa [hold c hc2 hcb] at ho
        have hdd := h.inj c d m n hc1 hd1 he hne ho'
        by_cases hdb : d = b
        · subst hdb; exact hdead
        · rw [hold d hd2 hdb]; exact hdd
  · intro c hc
    simp only [ext]
    rw [if_neg (by omega)]
  · intro c hc hn
    exact hold c hc (fun e => by subst e; rw [hb] at hn; cases hn)
  · intro j hj hno
    exact hoth j (fun e => hno b l hb e.symm hown)
  · intro c m hc ho
    rcases hcase c m hc with ⟨rfl, rfl⟩ | ⟨hc0, hc1, hc2⟩
    · exact .inr ⟨b, l, hb, hown, rfl⟩
    · by_cases hcb : c = b
      · subst hcb
        unfold own at ho
        rw [hdead] at ho
        simp at ho
      · refine .inr ⟨c, m, hc1, ?_, rfl⟩
        unfold own at ho ⊢
        rwa [hold c hc2 hcb] at ho

/-! ### a map is written -/
theorem Stp.mapWrite (h : Rel ι H w) {b : Nat} {l : Loc} {es : List Ent} {k : Nat} (hb : ι b = some l) (hH : H[b]? = some (.map es k)) (fs : List Ent) (fs' : Array MapEntry) (k2 : Nat) (hr : ER ι fs fs'.toList) :
    Stp ι H w ι (H.setIfInBounds b (.map fs k2)) { w with heap := w.heap.setIfInBounds l.blk (.map fs' k2) } := by
  have hlt : b < H.size := h.dom b l hb
  have hown : own H b := .inr ⟨es, k, hH⟩
  have hbl := h.bound b l hb
  have hoth : ∀ j, j ≠ l.blk → ({ w with heap := w.heap.setIfInBounds l.blk (.map fs' k2) } : World).heap[j]? = w.heap[j]? := fun j hj => Array.getElem?_setIfInBounds_ne (Ne.symm hj)
  have hset : ∀ c, c ≠ b → (H.setIfInBounds b (.map fs k2))[c]? = H[c]? := fun c hc => Array.getElem?_setIfInBounds_ne (Ne.symm hc)
  have hself : (H.setIfInBounds b (.map fs k2))[b]? = some (.map fs k2) := by simp [hlt]
  have hos : ∀ c, own (H.setIfInBounds b (.map fs k2)) c → own H c := fun c ho => by
    by_cases hbc : c = b
    · subst hbc; exact hown
    · unfold own at ho ⊢; rwa [hset c hbc] at ho
  refine ⟨⟨?_, ?_, ?_, ?_, ?_, ?_⟩, .refl ι, fun _ _ => rfl, by simp, by simp, ?_, ?_, ?_, rfl, rfl, rfl⟩
  · intro c m hc; simpa using h.dom c m hc
  · intro c m hc; simpa using h.bound c m hc
  · intro c m cs2 ro hc hH2
    by_cases hcb : c = b
    · subst hcb; rw [hself] at hH2; simp at hH2
    · rw [hset c hcb] at hH2
      have hne : m.blk ≠ l.blk := h.alone hb hown hc hcb (by rw [hH2]; simp)
      have g2 := h.cells c m cs2 ro hc hH2
      exact fun i v hv => let ⟨g3, u, g4, g5⟩ := g2 i v hv; ⟨g3, u, by rw [cell_other (hoth _ hne)]; exact g4, g5⟩
  · intro c m cs2 hc hH2
    by_cases hcb : c = b
    · subst hcb; rw [hself] at hH2; simp at hH2
    · rw [hset c hcb] at hH2
      have hne : m.blk ≠ l.blk := h.alone hb hown hc hcb (by rw [hH2]; simp)
      obtain ⟨D, t2, fr2, g1, g2⟩ := h.rw c m cs2 hc hH2
      exact ⟨D, t2, fr2, by rw [hoth _ hne]; exact g1, g2⟩
  · intro c m es2 k3 hc hH2
    by_cases hcb : c = b
    · subst hcb
      rw [hself] at hH2
      simp only [Option.some.injEq, Blk.map.injEq] at hH2
      obtain ⟨rfl, rfl⟩ := hH2
      rw [hb] at hc
      cases hc
      exact ⟨fs', by simp [hbl], hr⟩
    · rw [hset c hcb] at hH2
      have hne : m.blk ≠ l.blk := h.alone hb hown hc hcb (by rw [hH2]; simp)
      obtain ⟨es', g1, g2⟩ := h.maps c m es2 k3 hc hH2
      exact ⟨es', by rw [hoth _ hne]; exact g1, g2⟩
  · intro c d m n hc hd he hne ho
    have hdd := h.inj c d m n hc hd he hne (hos c ho)
    by_cases hdb : d = b
    · subst hdb; rw [hH] at hdd; simp at hdd
    · rw [hset d hdb]; exact hdd
  · intro c hc hn
    exact hset c (fun e => by subst e; rw [hb] at hn; cases hn)
  · intro j hj hno
    exact hoth j (fun e => hno b l hb e.symm hown)
  · intro c m hc ho
    exact .inr ⟨c, m, hc, hos c ho, rfl⟩

end
end Go.Proofs.Ytohclaopcejjnaa.G
