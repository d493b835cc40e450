/- Parts laid together, new slices, copies, calls of min and max: the plain reading's operations are the machine's; and all operations in one. -/
import Derived.Test.YtohclaopcejjnaaG8
namespace Go.Proofs.Ytohclaopcejjnaa.G
open Go

section
variable {P : Program} {ι : Inj} {H : Heap} {w : World}

/-! ### parts laid together -/
theorem foldl_set (off : Nat) : ∀ (us : List Value) (k : Nat) (A : List Value), off + k + us.length ≤ A.length →
    (us.zipIdx k).foldl (fun (cs : Array Value) (p : Value × Nat) => cs.setIfInBounds (off + p.2) p.1) A.toArray = (A.take (off + k) ++ us ++ A.drop (off + k + us.length)).toArray
  | [], k, A, _ => by simp
  | u :: us, k, A, h => by
    simp only [List.zipIdx_cons, List.foldl_cons, List.length_cons] at h ⊢
    have e : A.toArray.setIfInBounds (off + k) u = (A.set (off + k) u).toArray := by simp
    rw [e, foldl_set off us (k + 1) (A.set (off + k) u) (by simp; omega)]
    have := list_seg_step A (off + k) u us (by omega)
    rw [show off + (k + 1) = off + k + 1 by omega]
    rw [this]

theorem VRL.splice {a b vs us : List Value} (h : VRL ι a b) (k : VRL ι vs us) (off : Nat) : VRL ι (G.splice a off vs) (G.splice b off us) := by
  unfold G.splice
  rw [← k.length]
  exact ((h.take off).append k).append (h.drop _)

/-- The places of a struct's fields. -/
def placesOf (P : Program) (fs : Array Field) (i : Nat) : Option (Nat × Nat) := (fs[i]?).map fun (f : Field) => (f.offset, P.cellsOf f.type)

/-- The places of the parts, told twice. -/
def PartsOK (place : Nat → Option (Nat × Nat)) : List (Nat × Operand) → List (Nat × Nat × Operand) → Prop
  | [], [] => True
  | (i, x) :: l, (o, s, y) :: m => x = y ∧ okOpd x = true ∧ place i = some (o, s) ∧ PartsOK place l m
  | _, _ => False

theorem fill_rel {nt : Nat} {e : Env} {a : Act} (hE : EnvR ι nt e a) (place : Nat → Option (Nat × Nat)) : ∀ (l : List (Nat × Operand)) (m : List (Nat × Nat × Operand)), PartsOK place l m →
    ∀ (cells cs cells' : List Value), VRL ι cells cells' → fillL cells (evs e m) = some cs → ∃ cs', Instr.fill place cells'.toArray (l.map fun p => (p.1, a.eval p.2)) = some cs'.toArray ∧ VRL ι cs cs'
  | [], [], _, cells, cs, cells', hc, hf => by
    simp [evs, fillL] at hf
    subst hf
    exact ⟨cells', by simp [Instr.fill], hc⟩
  | [], _ :: _, h, _, _, _, _, _ => by simp [PartsOK] at h
  | _ :: _, [], h, _, _, _, _, _ => by simp [PartsOK] at h
  | (i, x) :: l, (o, s, y) :: m, h, cells, cs, cells', hc, hf => by
    simp only [PartsOK] at h
    obtain ⟨rfl, hx, hp, hrest⟩ := h
    simp only [evs, List.map_cons, fillL] at hf
    split at hf
    · rename_i hcond
      obtain ⟨h1, h2, h3⟩ := hcond
      have hv := hE.ev hx
      have hr := hv.cellsL h3
      have hlen := hr.length
      have hl2 := hc.length
      obtain ⟨cs', g1, g2⟩ := fill_rel hE place l m hrest _ cs _ (hc.splice hr o) hf
      refine ⟨cs', ?_, g2⟩
      simp only [List.map_cons, Instr.fill, hp]
      have hsz : (a.eval x).cells.size = s := by rw [← h1, hlen]; simp
      rw [if_neg (by simp [hsz]; omega)]
      have hfold := foldl_set o (a.eval x).cells.toList 0 cells' (by rw [← hlen, h1]; omega)
      simp only [Nat.add_zero] at hfold
      rw [← Array.foldl_toList, Array.toList_zipIdx, hfold]
      exact g1
    · simp at hf

theorem run_mapM_list {α β : Type} (g : α → Sem β) (f : α → β) : ∀ (l : List α) (w : World), (∀ x ∈ l, ∀ w, (g x).run P w = .ok (f x) w) → (l.mapM g).run P w = .ok (l.map f) w
  | [], w, _ => by simp
  | x :: l, w, h => by
    simp only [List.mapM_cons, Sem.run_bind, h x (by simp) w, Result.andThen_ok, run_mapM_list g f l w (fun y hy => h y (by simp [hy])), Sem.run_pure, List.map_cons]

theorem sim_build (h : Rel ι H w) {nt : Nat} {e : Env} {a : Act} (hE : EnvR ι nt e a) {t : TypeId} (hz : sized P t = true) {parts : Array (Nat × Operand)} {ps : List (Nat × Nat × Operand)} {fs : Array Field} (ht : P.underlying t = some (.struct fs))
    (hfs : (fs.toList.all fun f => (P.info? f.type).isSome) = true) (hps : PartsOK (placesOf P fs) parts.toList ps) {cs : List Value} (hf : fillL (zc P t) (evs e ps) = some cs) (hone : cs.all one = true) :
    Sim P ι H w (Instr.build t (parts.map fun p => (p.1, a.eval p.2))) (.agg cs.toArray) H := by
  obtain ⟨i, z, d, hi, hzz, _, hpos, hzs, hzp, hc, _⟩ := sized_spec hz
  rw [zc_of hi hzz] at hf
  obtain ⟨cs', g1, g2⟩ := fill_rel hE _ parts.toList ps hps z.cells.toList cs z.cells.toList (VRL_plain hzp) hf
  refine Sim.same h (c := .agg cs'.toArray) ?_ (VR_agg_of g2 hone)
  have hpl : (fs.mapM (m := Sem) fun (f : Field) => do pure (f.offset, ← sizeOf f.type)).run P w = .ok (fs.map fun (f : Field) => (f.offset, P.cellsOf f.type)) w := by
    rw [Array.mapM_eq_mapM_toList, Sem.run_map]
    rw [run_mapM_list _ (fun f : Field => (f.offset, P.cellsOf f.type)) fs.toList w (fun f hf w => by
      have := List.all_eq_true.1 hfs f hf
      obtain ⟨j, hj⟩ := Option.isSome_iff_exists.1 this
      simp [run_sizeOf hj, cellsOf_info hj])]
    simp only [Result.andThen_ok]
    congr 1
    apply Array.ext'
    simp
  simp only [Instr.build, Sem.run_bind, run_zeroValue hi hzz, Result.andThen_ok, run_underlying ht, hpl]
  have hpl2 : (fun i => (fs.map fun (f : Field) => (f.offset, P.cellsOf f.type))[i]?) = placesOf P fs := by
    funext i
    simp [placesOf]
  rw [hpl2]
  simp only [Array.toArray_toList] at g1
  have hpt : (parts.map fun p => (p.1, a.eval p.2)).toList = parts.toList.map fun p => (p.1, a.eval p.2) := by simp
  rw [hpt, g1]
  rfl

theorem sim_buildA (h : Rel ι H w) {nt : Nat} {e : Env} {a : Act} (hE : EnvR ι nt e a) {t el : TypeId} {n : Nat} (hz : sized P t = true) (hze : sized P el = true) {parts : Array (Nat × Operand)} {ps : List (Nat × Nat × Operand)} (ht : P.underlying t = some (.array n el))
    (hps : PartsOK (fun i => some (i * P.cellsOf el, P.cellsOf el)) parts.toList ps) {cs : List Value} (hf : fillL (zc P t) (evs e ps) = some cs) (hone : cs.all one = true) :
    Sim P ι H w (Instr.build t (parts.map fun p => (p.1, a.eval p.2))) (.agg cs.toArray) H := by
  obtain ⟨i, z, d, hi, hzz, _, hpos, hzs, hzp, hc, _⟩ := sized_spec hz
  obtain ⟨j, _, _, hj, _, _, _, _, _, hcj, _⟩ := sized_spec hze
  rw [zc_of hi hzz] at hf
  obtain ⟨cs', g1, g2⟩ := fill_rel hE _ parts.toList ps hps z.cells.toList cs z.cells.toList (VRL_plain hzp) hf
  refine Sim.same h (c := .agg cs'.toArray) ?_ (VR_agg_of g2 hone)
  simp only [Instr.build, Sem.run_bind, run_zeroValue hi hzz, Result.andThen_ok, run_underlying ht, run_sizeOf hj]
  simp only [Array.toArray_toList, hcj] at g1
  have hpt : (parts.map fun p => (p.1, a.eval p.2)).toList = parts.toList.map fun p => (p.1, a.eval p.2) := by simp
  rw [hpt, g1]
  rfl

/-! ### cells of nought, again and again -/
theorem reps_succ (n : Nat) (z : List Value) : reps (n + 1) z = z ++ reps n z := by simp [reps, List.replicate_succ]
theorem reps_length (n : Nat) (z : List Value) : (reps n z).length = n * z.length := by
  induction n with
  | zero => simp [reps]
  | succ n ih => rw [reps_succ, List.length_append, ih, Nat.add_mul]; omega
theorem reps_all (n : Nat) (z : List Value) (p : Value → Bool) (h : z.all p = true) : (reps n z).all p = true := by
  induction n with
  | zero => simp [reps]
  | succ n ih => rw [reps_succ, List.all_append, h, ih]; rfl
theorem zeros_reps (z : Array Value) : ∀ n, ((Array.range (n * z.size)).map fun i => z[i % z.size]!).toList = reps n z.toList := by
  intro n
  apply List.ext_getElem?
  intro i
  have key : ∀ n i, (reps n z.toList)[i]? = if i < n * z.size then some (z[i % z.size]!) else none := by
    intro n
    induction n with
    | zero => intro i; simp [reps]
    | succ n ih =>
      intro i
      rw [reps_succ, List.getElem?_append]
      simp only [Array.length_toList]
      split
      · rename_i hi
        rw [if_pos (by rw [Nat.add_mul]; omega), Nat.mod_eq_of_lt hi]
        simp [hi]
      · rename_i hi
        rw [ih, Nat.add_mul, Nat.one_mul]
        have : (i - z.size) % z.size = i % z.size := by
          conv => rhs; rw [show i = (i - z.size) + z.size by omega, Nat.add_mod_right]
        rw [this]
        by_cases hc : i - z.size < n * z.size
        · rw [if_pos hc, if_pos (by omega)]
        · rw [if_neg hc, if_neg (by omega)]
  rw [key]
  simp only [Array.toList_map, Array.toList_range, List.getElem?_map]
  by_cases hi : i < n * z.size
  · simp [hi]
  · simp [hi]

theorem run_bslice {nt : Nat} {e : Env} {a : Act} (hE : EnvR ι nt e a) {t el : TypeId} {n : Nat} (hz : sized P el = true) (hn : n * P.cellsOf el ≤ 65536) {parts : Array (Nat × Operand)} {ps : List (Nat × Nat × Operand)} (ht : P.underlying t = some (.slice el))
    (hps : PartsOK (fun i => some (i * P.cellsOf el, P.cellsOf el)) parts.toList ps) {cs : List Value} (hf : fillL (reps n (zc P el)) (evs e ps) = some cs) :
    ∃ cs', VRL ι cs cs' ∧ n < UNK ∧ (Instr.buildSlice t n (parts.map fun p => (p.1, a.eval p.2))).run P w = .ok (.slice (some ⟨w.heap.size, 0, none⟩) n n) (w.alloc (.cells cs'.toArray el)) := by
  obtain ⟨i, z, d, hi, hzz, _, hpos, hzs, hzp, hc, _⟩ := sized_spec hz
  rw [zc_of hi hzz] at hf
  rw [hc] at hn hps
  obtain ⟨cs', g1, g2⟩ := fill_rel hE _ parts.toList ps hps _ cs _ (VRL_plain (reps_all n _ _ hzp)) hf
  have hzr := zeros_reps z.cells n
  have hpt : (parts.map fun p => (p.1, a.eval p.2)).toList = parts.toList.map fun p => (p.1, a.eval p.2) := by simp
  have hun : n < UNK := by
    have : n ≤ n * i.size := Nat.le_mul_of_pos_right _ hpos
    simp [UNK]; omega
  refine ⟨cs', g2, hun, ?_⟩
  simp only [Instr.buildSlice, Sem.run_bind, run_underlying ht, Result.andThen_ok, run_sizeOf hi]
  rw [if_neg (by simp; omega)]
  rw [Sem.run_ite]
  split
  · rename_i h0
    have hn0 : n = 0 := by
      rcases Nat.mul_eq_zero.1 h0 with h | h
      · exact h
      · omega
    subst hn0
    have hinit : ((Array.range (0 * i.size)).map fun j => (#[] : Array Value)[j % (#[] : Array Value).size]!) = (reps 0 z.cells.toList).toArray := by simp [reps]
    simp only [Sem.run_bind, Sem.run_pure, Result.andThen_ok]
    rw [hinit, hpt, g1]
    rfl
  · have hinit : ((Array.range (n * i.size)).map fun j => z.cells[j % z.cells.size]!) = (reps n z.cells.toList).toArray := by
      rw [hzs] at hzr
      apply Array.ext'
      rw [hzs, hzr]
    simp only [Sem.run_bind, run_zeroValue hi hzz, Sem.run_pure, Result.andThen_ok]
    rw [hinit, hpt, g1]
    rfl

theorem sim_bslice (h : Rel ι H w) {nt : Nat} {e : Env} {a : Act} (hE : EnvR ι nt e a) {t el : TypeId} {n : Nat} (hz : sized P el = true) (hn : n * P.cellsOf el ≤ 65536) {parts : Array (Nat × Operand)} {ps : List (Nat × Nat × Operand)} (ht : P.underlying t = some (.slice el))
    (hps : PartsOK (fun i => some (i * P.cellsOf el, P.cellsOf el)) parts.toList ps) {cs : List Value} (hf : fillL (reps n (zc P el)) (evs e ps) = some cs) (hone : cs.all one = true) :
    Sim P ι H w (Instr.buildSlice t n (parts.map fun p => (p.1, a.eval p.2))) (.slice (some ⟨H.size, 0, none⟩) n n) (H.push (.cells cs false)) := by
  obtain ⟨cs', g2, hun, hr⟩ := run_bslice (P := P) (w := w) hE hz hn ht hps hf
  have hst := Stp.allocCells h cs cs'.toArray el hone (by simp [g2.length]) (fun i v hv => by
      obtain ⟨c, h2, h3⟩ := g2.get hv
      exact ⟨c, by simpa using h2, h3⟩)
  refine ⟨_, .slice (some ⟨w.heap.size, 0, none⟩) n n, _, hr, ?_, hst⟩
  simp only [VR]
  exact ⟨_, ext_new _ _, trivial, .inl ⟨hun, Nat.le_refl _, rfl⟩⟩

end
end Go.Proofs.Ytohclaopcejjnaa.G
