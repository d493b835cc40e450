/- Each operation of the plain reading is what the machine does: values, loads, stores, slices, appends, new memory. -/
import Derived.Test.YtohclaopcejjnaaG4
namespace Go.Proofs.Ytohclaopcejjnaa.G
open Go

section
variable {P : Program} {ι : Inj} {H : Heap} {w : World}

/-- The machine's operation comes to a value like this one, in a heap like that one. -/
def Sim (P : Program) (ι : Inj) (H : Heap) (w : World) (s : Sem Value) (v : Value) (H' : Heap) : Prop :=
  ∃ ι' c w', s.run P w = .ok c w' ∧ VR ι' v c ∧ Stp ι H w ι' H' w'

theorem Sim.same (h : Rel ι H w) {s : Sem Value} {v c : Value} (hr : s.run P w = .ok c w) (hv : VR ι v c) : Sim P ι H w s v H :=
  ⟨ι, c, w, hr, hv, .refl h⟩

/-! ### the types' table -/
theorem sized_spec {t : TypeId} (h : sized P t = true) : ∃ i z d, P.info? t = some i ∧ i.zero = some z ∧ P.underlying t = some d ∧ 0 < i.size ∧ z.cells.size = i.size ∧ z.cells.toList.all plainV = true ∧ P.cellsOf t = i.size ∧ P.bytesOf t = i.bytes := by
  unfold sized at h
  cases hd : P.underlying t with
  | none => simp [hd] at h
  | some d =>
    cases hinfo : P.info? t with
    | none => simp [hinfo] at h
    | some i =>
      cases hz : i.zero with
      | none => simp [hinfo, hz] at h
      | some z =>
        simp only [hd, hinfo, hz, Option.isSome_some, Option.any_some, Bool.true_and, Bool.and_eq_true, decide_eq_true_eq, beq_iff_eq] at h
        exact ⟨i, z, d, rfl, hz, rfl, h.1, h.2.1, h.2.2, by simp [Program.cellsOf, hinfo], by simp [Program.bytesOf, hinfo]⟩

theorem run_sizeOf {t : TypeId} {i : TypeInfo} (h : P.info? t = some i) (w : World) : (sizeOf t).run P w = .ok i.size w := by simp [sizeOf, typeInfo, h]
theorem run_typeInfo {t : TypeId} {i : TypeInfo} (h : P.info? t = some i) (w : World) : (typeInfo t).run P w = .ok i w := by simp [typeInfo, h]
theorem run_zeroValue {t : TypeId} {i : TypeInfo} {z : Value} (h : P.info? t = some i) (hz : i.zero = some z) (w : World) : (zeroValue t).run P w = .ok z w := by simp [zeroValue, typeInfo, h, hz]
theorem run_isAgg {t : TypeId} {d : TypeDesc} (h : P.underlying t = some d) (w : World) : (isAgg t).run P w = .ok (isAggT P t) w := by
  unfold isAgg isAggT
  rw [Sem.run_bind, run_underlying h w, h]
  cases d <;> simp

theorem zc_of {t : TypeId} {i : TypeInfo} {z : Value} (h : P.info? t = some i) (hz : i.zero = some z) : zc P t = z.cells.toList := by simp [zc, h, hz]

/-! ### constants and places -/
theorem VR_plainV {v : Value} (h : plainV v = true) : VR ι v v := by
  cases v with
  | pointer a => cases a <;> simp_all [plainV, VR]
  | map a => cases a <;> simp_all [plainV, VR]
  | slice a n k =>
    cases a with
    | some a => simp [plainV] at h
    | none =>
      cases n <;> cases k <;> simp_all [plainV, VR]
  | _ => simp_all [plainV, VR]

theorem VRL_plain {l : List Value} (h : l.all plainV = true) : VRL ι l l := by
  induction l with
  | nil => simp [VRL]
  | cons a l ih =>
    simp at h
    simp only [VRL]
    exact ⟨VR_plainV h.1, ih (by simpa using h.2)⟩
theorem plain_one {v : Value} (h : plainV v = true) : one v = true := by cases v <;> simp_all [plainV, one]
theorem VR_const {v : Value} (h : constOk v = true) : VR ι v v := by
  cases v with
  | agg a =>
    simp only [constOk] at h
    simp only [VR]
    refine ⟨a, rfl, VRA_iff.2 (VRL_plain h), ?_⟩
    rw [List.all_eq_true] at h ⊢
    exact fun x hx => plain_one (h x hx)
  | _ => exact VR_plainV (by simpa [constOk] using h)

theorem plains_one {l : List Value} (h : l.all plainV = true) : l.all one = true := by
  rw [List.all_eq_true] at h ⊢
  exact fun x hx => plain_one (h x hx)

/-- How the places stand to each other. -/
structure EnvR (ι : Inj) (nt : Nat) (e : Env) (a : Act) : Prop where
  get : ∀ t, VR ι (get e t) (a.tmps.getD t undef)
  size : a.tmps.size = nt
  defers : a.defers = []

theorem EnvR.mono {ι ι' : Inj} {nt : Nat} {e : Env} {a : Act} (h : EnvR ι nt e a) (hl : Le ι ι') : EnvR ι' nt e a := ⟨fun t => (h.get t).mono hl, h.size, h.defers⟩

theorem EnvR.ev {nt : Nat} {e : Env} {a : Act} (h : EnvR ι nt e a) {x : Operand} (hx : okOpd x = true) : VR ι (G.ev e x) (a.eval x) := by
  cases x with
  | tmp t => exact h.get t
  | const v => exact VR_const (v := v) hx
  | global g => simp [okOpd] at hx
  | func f =>
    simp only [G.ev, Act.eval, VR]
    exact ⟨#[], #[], rfl, VRA_iff.2 (by simp [VRL]), VRA_iff.2 (by simp [VRL])⟩

theorem EnvR.put {nt : Nat} {e : Env} {a : Act} (h : EnvR ι nt e a) (d : Option Nat) (hd : d.all (· < nt) = true) {v c : Value} (hv : VR ι v c) : EnvR ι nt (G.put e d v) (a.put d c) := by
  cases d with
  | none => exact h
  | some d =>
    have hd' : d < a.tmps.size := by rw [h.size]; simpa using hd
    refine ⟨fun t => ?_, by simp [Act.put, h.size], h.defers⟩
    simp only [G.put, G.get, Act.put]
    split
    · rename_i e; subst e; simpa [hd'] using hv
    · rename_i hne
      have := h.get t
      simp only [Array.getD_eq_getD_getElem?] at this ⊢
      rwa [Array.getElem?_setIfInBounds_ne (Ne.symm hne)]

theorem EnvR.evs {nt : Nat} {e : Env} {a : Act} (h : EnvR ι nt e a) : ∀ {l : List Operand}, l.all okOpd = true → VRL ι (l.map (G.ev e)) (l.map a.eval)
  | [], _ => by simp [VRL]
  | x :: l, hl => by
    simp at hl
    simp only [List.map_cons, VRL]
    exact ⟨h.ev hl.1, EnvR.evs h (by simpa using hl.2)⟩

/-! ### reading memory -/
theorem build_list {Q : Nat → Value → Prop} : ∀ n, (∀ j, j < n → ∃ u, Q j u) → ∃ us : List Value, us.length = n ∧ ∀ (j : Nat) u, us[j]? = some u → Q j u
  | 0, _ => ⟨[], rfl, by simp⟩
  | n + 1, h => by
    obtain ⟨us, h1, h2⟩ := build_list (Q := Q) n (fun j hj => h j (by omega))
    obtain ⟨u, hu⟩ := h n (by omega)
    refine ⟨us ++ [u], by simp [h1], fun j v hv => ?_⟩
    rw [List.getElem?_append] at hv
    split at hv
    · exact h2 j v hv
    · rename_i hj
      have : j = n := by
        have := (List.getElem?_eq_some_iff.1 hv).1
        simp at this
        omega
      subst this
      simp [h1] at hv
      subst hv
      exact hu

theorem rd_spec {b off n : Nat} {vs : List Value} (h : rd H b off n = some vs) : ∃ cs ro, H[b]? = some (.cells cs ro) ∧ off + n ≤ cs.length ∧ vs = (cs.drop off).take n := by
  unfold rd at h
  split at h
  · rename_i cs ro hH
    split at h
    · exact ⟨cs, ro, hH, by assumption, by simpa using h.symm⟩
    · simp at h
  · simp at h

/-- What a range reads as is in memory. -/
theorem rd_rel (h : Rel ι H w) {b off n : Nat} {vs : List Value} {l : Loc} (hb : ι b = some l) (hr : rd H b off n = some vs) :
    ∃ us, VRL ι vs us ∧ us.length = n ∧ vs.length = n ∧ vs.all one = true ∧ ∀ (j : Nat) u, us[j]? = some u → w.cell? ⟨l.blk, l.δ + off + j, none⟩ = some u := by
  obtain ⟨cs, ro, hH, hlen, rfl⟩ := rd_spec hr
  have hc := h.cells b l cs ro hb hH
  have hl : ((cs.drop off).take n).length = n := by simp; omega
  have hget : ∀ j, j < n → ∃ v, cs[off + j]? = some v ∧ ((cs.drop off).take n)[j]? = some v := fun j hj => by
    refine ⟨cs[off + j], List.getElem?_eq_getElem (by omega), ?_⟩
    rw [List.getElem?_take, if_pos hj, List.getElem?_drop]
    exact List.getElem?_eq_getElem (by omega)
  obtain ⟨us, h1, h2⟩ := build_list (Q := fun j u => w.cell? ⟨l.blk, l.δ + off + j, none⟩ = some u ∧ ∀ v, ((cs.drop off).take n)[j]? = some v → VR ι v u) n (fun j hj => by
    obtain ⟨v, hv, hv2⟩ := hget j hj
    obtain ⟨_, u, hu, hr⟩ := hc (off + j) v hv
    refine ⟨u, by rw [show l.δ + off + j = l.δ + (off + j) by omega]; exact hu, fun v' hv' => ?_⟩
    rw [hv2] at hv'
    cases hv'
    exact hr)
  refine ⟨us, .of_get (by rw [hl, h1]) fun i v u hv hu => (h2 i u hu).2 v hv, h1, hl, ?_, fun j u hu => (h2 j u hu).1⟩
  rw [List.all_eq_true]
  intro v hv
  obtain ⟨j, hj, rfl⟩ := List.mem_iff_getElem.1 hv
  obtain ⟨v, hv1, hv2⟩ := hget j (by omega)
  have : ((cs.drop off).take n)[j]? = some ((cs.drop off).take n)[j] := List.getElem?_eq_getElem hj
  rw [hv2] at this
  cases this
  exact (hc (off + j) _ hv1).1

theorem VR_agg_of {vs us : List Value} (h : VRL ι vs us) (h1 : vs.all one = true) : VR ι (.agg vs.toArray) (.agg us.toArray) := by
  simp only [VR]
  exact ⟨_, rfl, by simpa [VRA_iff] using h, by simpa using h1⟩

theorem sim_load (h : Rel ι H w) {t : TypeId} (hs : sized P t = true) {p cp v : Value} {H' : Heap} (hp : VR ι p cp) (he : aload (isAggT P t) (P.cellsOf t) p H = some (v, H')) : Sim P ι H w (Instr.loadAt t cp) v H' := by
  obtain ⟨i, z, d, hi, hz, hd, _, _, _, hc, _⟩ := sized_spec hs
  unfold aload at he
  split at he
  · rename_i b off
    simp only [VR] at hp
    obtain ⟨l, hb, _, rfl⟩ := hp
    split at he
    · rename_i vs hr
      obtain ⟨us, h1, h2, h3, h4, h5⟩ := rd_rel h hb hr
      have hl := run_loadCells_list (P := P) w ⟨l.blk, l.δ + off, none⟩ us (fun j u hu => by rw [Addr.add_lit]; exact h5 j u hu)
      rw [h2] at hl
      by_cases hag : isAggT P t = true
      · simp only [hag, if_true, Option.some.injEq, Prod.mk.injEq] at he hl
        obtain ⟨rfl, rfl⟩ := he
        refine Sim.same h (c := .agg us.toArray) ?_ (VR_agg_of h1 h4)
        simp only [Instr.loadAt, Instr.sureAddr, loadVar, Sem.run_bind, Sem.run_pure, Result.andThen_ok, run_isAgg hd, hag, if_true, run_sizeOf hi]
        rw [← hc, hl]
        rfl
      · have hag' : isAggT P t = false := by simpa using hag
        simp only [hag', Bool.false_eq_true, if_false] at he h2 h3
        match vs, us, he, h1, h2, h3 with
        | [v'], [u], he, h1, h2, h3 =>
          simp at he
          obtain ⟨rfl, rfl⟩ := he
          simp only [VRL] at h1
          refine Sim.same h (c := u) ?_ h1.1
          have h6 := h5 0 u rfl
          simp only [Instr.loadAt, Instr.sureAddr, loadVar, Sem.run_bind, Sem.run_pure, Result.andThen_ok, run_isAgg hd, hag', Bool.false_eq_true, if_false, run_load]
          simp only [Nat.add_zero] at h6
          rw [h6]
    · simp at he
  · simp at he

/-! ### writing memory -/
theorem wr_spec {b off : Nat} {vs : List Value} {H' : Heap} (h : wr H b off vs = some H') : ∃ cs, H[b]? = some (.cells cs false) ∧ off + vs.length ≤ cs.length ∧ vs.all one = true ∧ H' = H.setIfInBounds b (.cells (splice cs off vs) false) := by
  unfold wr at h
  split at h
  · rename_i cs hH
    split at h
    · rename_i hc
      simp at hc
      exact ⟨cs, hH, hc.1, by simpa using hc.2, by simpa using h.symm⟩
    · simp at h
  · simp at h

theorem run_wr (h : Rel ι H w) {b off : Nat} {vs us : List Value} {H' : Heap} {l : Loc} (hb : ι b = some l) (hw : wr H b off vs = some H') (hr : VRL ι vs us) :
    (storeCells ⟨l.blk, l.δ + off, none⟩ us).run P w = .ok () (w.setCells l.blk (l.δ + off) us) ∧ Stp ι H w ι H' (w.setCells l.blk (l.δ + off) us) := by
  obtain ⟨cs, hH, hfit, h1, rfl⟩ := wr_spec hw
  obtain ⟨C, t, fr, hC, hCs, hCl, hfr⟩ := h.rw b l cs hb hH
  have hlen := hr.length
  refine ⟨?_, Stp.write h hb hH off vs us hfit h1 hr⟩
  have := run_storeCells_cells (P := P) l.blk (l.δ + off) us 0 w (fun j hj => by simp [World.cell?, hC]; omega)
    (fun j hj => by
      have := hfr (l.δ + off + j) (by omega)
      simp only [World.frozen?, hC, Nat.add_zero]
      rw [Bool.eq_false_iff]
      simpa using this) (hr.ones h1)
  simpa using this

theorem sim_store (h : Rel ι H w) {t : TypeId} (hs : sized P t = true) {p cp v cv r : Value} {H' : Heap} (hp : VR ι p cp) (hv : VR ι v cv) (he : astore (P.cellsOf t) p v H = some (r, H')) :
    r = undef ∧ ∃ w', (Instr.storeAt t cp cv).run P w = .ok () w' ∧ Stp ι H w ι H' w' := by
  obtain ⟨i, z, d, hi, hz, hd, _, _, _, hc, _⟩ := sized_spec hs
  unfold astore at he
  split at he
  · rename_i b off
    simp only [VR] at hp
    obtain ⟨l, hb, _, rfl⟩ := hp
    split at he
    · rename_i hlen
      split at he
      · rename_i H2 hw
        simp at he
        obtain ⟨rfl, rfl⟩ := he
        obtain ⟨_, _, _, h1, _⟩ := wr_spec hw
        have hr := hv.cellsL h1
        obtain ⟨g1, g2⟩ := run_wr (P := P) h hb hw hr
        refine ⟨rfl, _, ?_, g2⟩
        have hsz : cv.cells.size = i.size := by rw [← hc, ← hlen, hr.length]; simp
        simp only [Instr.storeAt, Instr.sureAddr, storeVar, Sem.run_bind, Sem.run_pure, Result.andThen_ok, run_sizeOf hi, hsz, ne_eq, not_true_eq_false, if_false]
        exact g1
      · simp at he
    · simp at he
  · simp at he

/-! ### new memory -/
theorem run_newVar (t : TypeId) (v : Value) (w : World) : (newVar t v).run P w = .ok ⟨w.heap.size, 0, none⟩ (w.alloc (.cells v.cells t)) := by
  rfl

theorem VR_ptr_new (ι : Inj) (H : Heap) (l : Loc) (hl : l.δ = 0) : VR (ext ι H.size l) (.pointer (some ⟨H.size, 0, none⟩)) (.pointer (some ⟨l.blk, 0, none⟩)) := by
  simp only [VR]
  exact ⟨l, ext_new _ _, trivial, by simp [hl]⟩

theorem sim_new_cells (h : Rel ι H w) {cs us : List Value} {r : Value} {H' : Heap} (t : TypeId) (hr : VRL ι cs us) (he : anew cs H = some (r, H')) (s : Sem Value)
    (hs : s.run P w = .ok (.pointer (some ⟨w.heap.size, 0, none⟩)) (w.alloc (.cells us.toArray t))) : Sim P ι H w s r H' := by
  unfold anew at he
  split at he
  · rename_i h1
    simp at he
    obtain ⟨rfl, rfl⟩ := he
    refine ⟨_, _, _, hs, VR_ptr_new ι H ⟨w.heap.size, 0, us.toArray.size⟩ rfl, ?_⟩
    exact Stp.allocCells h cs us.toArray t h1 (by simp [hr.length]) (fun i v hv => by
      obtain ⟨c, h2, h3⟩ := hr.get hv
      exact ⟨c, by simpa using h2, h3⟩)
  · simp at he

end
end Go.Proofs.Ytohclaopcejjnaa.G
