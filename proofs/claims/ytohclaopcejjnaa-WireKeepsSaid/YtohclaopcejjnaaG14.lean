/- New memory that is made later than its turn: the machine's side. -/
import Derived.Test.YtohclaopcejjnaaG13
namespace Go.Proofs.Ytohclaopcejjnaa.G
open Go

section
variable {P : Program} {ι : Inj} {H : Heap} {w : World}

/-- The machine makes the new memory, whenever it does. -/
theorem fresh_run {nt : Nat} {e : Env} {a : Act} (hE : EnvR ι nt e a) {o : Oper} {so : SOp} (hc : compileOp P o.op = some so) (ha : isA so = true) {cs : List Value} {mk : Nat → Value} (hf : freshOf P e so = some (cs, mk)) (w : World) :
    ∃ us t c, (execOp a.eval o).run P w = .ok (.value c) (w.alloc (.cells us t)) ∧ cs.all one = true ∧ VRL ι cs us.toList ∧ ∀ ι' id, ι' id = some ⟨w.heap.size, 0, us.size⟩ → VR ι' (mk id) c := by
  obtain ⟨dst, op, type, pos, after, guard⟩ := o
  simp only at hc
  unfold compileOp at hc
  split at hc
  · simp at hc
  rename_i hok
  simp only [Bool.not_eq_true, Bool.not_eq_false'] at hok
  have ptr : ∀ (ι' : Inj) (id n : Nat), ι' id = some ⟨w.heap.size, 0, n⟩ → VR ι' (.pointer (some ⟨id, 0, none⟩)) (.pointer (some ⟨w.heap.size, 0, none⟩)) := fun ι' id n h => by
    simp only [VR]
    exact ⟨_, h, trivial, rfl⟩
  cases op <;> simp only [Op.operands] at hok hc
  case alloc t =>
    split at hc
    · rename_i hz
      simp at hc; subst hc
      obtain ⟨i, z, d, hi, hzz, _, hpos, hzs, hzp, hcz, hby⟩ := sized_spec hz
      simp only [freshOf] at hf
      split at hf
      · rename_i h1
        simp only [Option.some.injEq, Prod.mk.injEq] at hf
        obtain ⟨rfl, rfl⟩ := hf
        refine ⟨z.cells, t, .pointer (some ⟨w.heap.size, 0, none⟩), ?_, h1, ?_, fun ι' id h => ptr ι' id _ h⟩
        · simp only [execOp, Instr.alloc, Sem.run_bind, run_zeroValue hi hzz, Result.andThen_ok, run_newVar, Sem.run_pure]
        · rw [zc_of hi hzz]; exact VRL_plain hzp
      · simp at hf
    · simp at hc
  case box t x =>
    split at hc
    · rename_i hz
      simp at hc hok; subst hc
      have hv := hE.ev hok
      simp only [freshOf] at hf
      split at hf
      · rename_i h1
        simp only [Option.some.injEq, Prod.mk.injEq] at hf
        obtain ⟨rfl, rfl⟩ := hf
        refine ⟨(a.eval x).cells, t, .pointer (some ⟨w.heap.size, 0, none⟩), ?_, h1, hv.cellsL h1, fun ι' id h => ptr ι' id _ h⟩
        simp only [execOp, Instr.box, Sem.run_bind, run_newVar, Result.andThen_ok, Sem.run_pure]
      · simp at hf
    · simp at hc
  case buildSlice t n parts =>
    have hok' : (parts.toList.all fun p => okOpd p.2) = true := by
      simp only [List.all_eq_true] at hok ⊢
      intro p hp
      have hm : p.2 ∈ (parts.toList.map (·.2)).toArray := by simp only [List.mem_toArray, List.mem_map]; exact ⟨p, hp, rfl⟩
      exact Array.all_eq_true_iff_forall_mem.1 hok p.2 hm
    split at hc
    · rename_i el ht
      split at hc
      · rename_i hcond
        simp only [Bool.and_eq_true, decide_eq_true_eq] at hcond
        simp at hc; subst hc
        simp only [freshOf] at hf
        split at hf
        · rename_i cs2 hcs
          split at hf
          · rename_i hone
            simp only [Option.some.injEq, Prod.mk.injEq] at hf
            obtain ⟨rfl, rfl⟩ := hf
            obtain ⟨cs', g2, hun, hr⟩ := run_bslice (P := P) (w := w) hE hcond.1 hcond.2 ht (partsOK_map _ hok') hcs
            refine ⟨cs'.toArray, el, .slice (some ⟨w.heap.size, 0, none⟩) n n, ?_, hone, by simpa using g2, fun ι' id h => ?_⟩
            · simp only [execOp, Sem.run_bind, hr, Result.andThen_ok, Sem.run_pure]
            · simp only [VR]
              exact ⟨_, h, trivial, .inl ⟨hun, Nat.le_refl _, rfl⟩⟩
          · simp at hf
        · simp at hf
      · simp at hc
    · simp at hc
  case makeSlice t l c =>
    split at hc
    · rename_i el ht
      split at hc
      · rename_i hz
        simp at hc hok; subst hc
        simp only [freshOf] at hf
        split at hf
        · rename_i n m hn hm
          split at hf
          · rename_i hcond
            simp only [Option.some.injEq, Prod.mk.injEq] at hf
            obtain ⟨rfl, rfl⟩ := hf
            obtain ⟨hun, hv, h1, hr⟩ := run_mkslice (P := P) (w := w) hz ht (hE.ev hok.1) (hE.ev hok.2) hn hm hcond.1 hcond.2.1
            refine ⟨(reps m (zc P el)).toArray, el, .slice (some ⟨w.heap.size, 0, none⟩) n m, ?_, h1, by simpa using hv, fun ι' id h => ?_⟩
            · simp only [execOp, Sem.run_bind, hr, Result.andThen_ok, Sem.run_pure]
            · simp only [VR]
              exact ⟨_, h, trivial, .inl ⟨hun, hcond.1, rfl⟩⟩
          · simp at hf
        · simp at hf
      · simp at hc
    · simp at hc
  all_goals (first
    | (simp at hc; done)
    | (simp at hc; subst hc; simp [isA] at ha; done)
    | skip)
  all_goals ((repeat' split at hc) <;> first | (simp at hc; done) | (simp at hc; subst hc; simp [isA] at ha; done) | skip)
  all_goals (simp only [Option.bind_eq_bind, Option.bind_eq_some_iff] at hc; obtain ⟨ps, hps, hc⟩ := hc; simp at hc; subst hc; simp [isA] at ha)

/-- A block that the plain heap has already, and the machine makes now. -/
theorem Stp.late {ι0 : Inj} {H0 : Heap} {w0 : World} (h : Stp ι0 H0 w0 ι H w) {id : Nat} {cs : List Value} {us : Array Value} (t : TypeId) (h0 : H0.size ≤ id) (hid : H[id]? = some (.cells cs false)) (hun : ι id = none) (hv : VRL ι cs us.toList) (h1 : cs.all one = true) :
    Stp ι0 H0 w0 (ext ι id ⟨w.heap.size, 0, us.size⟩) H (w.alloc (.cells us t)) := by
  have hr := h.rel
  have hle : Le ι (ext ι id ⟨w.heap.size, 0, us.size⟩) := by
    intro b m hb
    simp only [ext]
    split
    · rename_i e; subst e; rw [hun] at hb; cases hb
    · exact hb
  have hsz : (w.alloc (.cells us t)).heap.size = w.heap.size + 1 := by show (w.heap.push _).size = _; simp
  have hnew : (w.alloc (.cells us t)).heap[w.heap.size]? = some (.cells us t) := heap_alloc_new w _
  have hold : ∀ k, k < w.heap.size → (w.alloc (.cells us t)).heap[k]? = w.heap[k]? := fun k hk => heap_alloc_old w _ k hk
  have hidlt : id < H.size := (Array.getElem?_eq_some_iff.1 hid).1
  have hcase : ∀ b m, ext ι id ⟨w.heap.size, 0, us.size⟩ b = some m → (b = id ∧ m = ⟨w.heap.size, 0, us.size⟩) ∨ (b ≠ id ∧ ι b = some m ∧ m.blk < w.heap.size) := by
    intro b m hb
    simp only [ext] at hb
    split at hb
    · rename_i e; exact .inl ⟨e, by simpa using hb.symm⟩
    · rename_i e; exact .inr ⟨e, hb, hr.bound b m hb⟩
  have hlen := hv.length
  simp only [Array.length_toList] at hlen
  refine ⟨⟨?_, ?_, ?_, ?_, ?_, ?_⟩, h.le.trans hle, ?_, h.size, by have := h.wsize; omega, ?_, ?_, ?_, h.os, h.tape, h.output⟩
  · intro b m hb
    rcases hcase b m hb with ⟨rfl, _⟩ | ⟨_, hb', _⟩
    · exact hidlt
    · exact hr.dom b m hb'
  · intro b m hb
    rcases hcase b m hb with ⟨_, rfl⟩ | ⟨_, _, hlt⟩
    · simp only; omega
    · omega
  · intro b m cs2 ro hb hH
    rcases hcase b m hb with ⟨rfl, rfl⟩ | ⟨_, hb', hlt⟩
    · rw [hid] at hH
      simp only [Option.some.injEq, Blk.cells.injEq] at hH
      obtain ⟨rfl, rfl⟩ := hH
      intro i v hi
      obtain ⟨u, hu, huv⟩ := hv.get hi
      refine ⟨List.all_eq_true.1 h1 v (List.mem_of_getElem? hi), u, ?_, huv.mono hle⟩
      simp only [Nat.zero_add]
      rw [cell_of_row _ _ _ _ _ _ hnew]
      simpa using hu
    · intro i v hi
      obtain ⟨g1, u, g2, g3⟩ := hr.cells b m cs2 ro hb' hH i v hi
      exact ⟨g1, u, by rw [cell_other (hold _ hlt)]; exact g2, g3.mono hle⟩
  · intro b m cs2 hb hH
    rcases hcase b m hb with ⟨rfl, rfl⟩ | ⟨_, hb', hlt⟩
    · rw [hid] at hH
      simp only [Option.some.injEq, Blk.cells.injEq, and_true] at hH
      subst hH
      exact ⟨us, t, (0, 0), hnew, rfl, by simp; omega, fun i _ => by simp⟩
    · obtain ⟨C, tt, fr, g1, g2⟩ := hr.rw b m cs2 hb' hH
      exact ⟨C, tt, fr, by rw [hold _ hlt]; exact g1, g2⟩
  · intro b m es k hb hH
    rcases hcase b m hb with ⟨rfl, rfl⟩ | ⟨_, hb', hlt⟩
    · rw [hid] at hH; simp at hH
    · obtain ⟨es', g1, g2⟩ := hr.maps b m es k hb' hH
      exact ⟨es', by rw [hold _ hlt]; exact g1, g2.mono hle⟩
  · intro b c m n hb hc he hne ho
    rcases hcase b m hb with ⟨rfl, rfl⟩ | ⟨_, hb', hblt⟩ <;> rcases hcase c n hc with ⟨rfl, rfl⟩ | ⟨_, hc', hclt⟩
    · exact absurd rfl hne
    · simp only at he; omega
    · simp only at he; omega
    · exact hr.inj b c m n hb' hc' he hne ho
  · intro b hb
    simp only [ext]
    rw [if_neg (by omega)]
    exact h.old b hb
  · intro b hb hn
    exact h.unm b hb hn
  · intro k hk hno
    rw [hold k (by have := h.wsize; omega)]
    exact h.keep k hk hno
  · intro b m hb ho
    rcases hcase b m hb with ⟨rfl, rfl⟩ | ⟨_, hb', hlt⟩
    · exact .inl (by have := h.wsize; simpa using this)
    · exact h.mine b m hb' ho

/-- A block that nobody reaches yet. -/
theorem Stp.ahead {ι0 : Inj} {H0 : Heap} {w0 : World} (h : Stp ι0 H0 w0 ι H w) (o : Blk) : Stp ι0 H0 w0 ι (H.push o) w := by
  have hr := h.rel
  have hlt : ∀ b l, ι b = some l → b < H.size := hr.dom
  have hpo : ∀ b, b < H.size → (H.push o)[b]? = H[b]? := fun b hb => by rw [Array.getElem?_push, if_neg (by omega)]
  have hos : ∀ b l, ι b = some l → own (H.push o) b → own H b := fun b l hb ho => by
    unfold own at ho ⊢
    rwa [hpo b (hlt b l hb)] at ho
  refine ⟨⟨?_, hr.bound, ?_, ?_, ?_, ?_⟩, h.le, h.old, by have := h.size; simp; omega, h.wsize, ?_, h.keep, ?_, h.os, h.tape, h.output⟩
  · intro b l hb; have := hlt b l hb; simp; omega
  · intro b l cs ro hb hH; rw [hpo b (hlt b l hb)] at hH; exact hr.cells b l cs ro hb hH
  · intro b l cs hb hH; rw [hpo b (hlt b l hb)] at hH; exact hr.rw b l cs hb hH
  · intro b l es k hb hH; rw [hpo b (hlt b l hb)] at hH; exact hr.maps b l es k hb hH
  · intro b c l m hb hc he hne ho
    rw [hpo c (hlt c m hc)]
    exact hr.inj b c l m hb hc he hne (hos b l hb ho)
  · intro b hb hn
    rw [hpo b (Nat.lt_of_lt_of_le hb h.size)]
    exact h.unm b hb hn
  · intro b l hb ho
    exact h.mine b l hb (hos b l hb ho)

end
end Go.Proofs.Ytohclaopcejjnaa.G
